/-
  ENGINE, part 11: append, copy, clear.
-/
import Derived.Test.YtoommmeapdkopaaE10
namespace Go.Eng

section
variable {P : Program} {φ : Phi} {H : Heap} {A : Nat → Prop} {w : World}
variable {t u e : TypeId} {d : TypeDesc} {i : TypeInfo} {z : Value}

theorem row_new (w : World) (e : TypeId) {n k q : Nat} {z : Value} (arr : Array Value) (ha : arr.size = n * k) (hzs : z.cells.size = k) (hq : n ≤ q) : RowHas (w.alloc (.cells (arr ++ Builtin.zeroCells z.cells (q - n)) e)) w.heap.size (q * k) := by
  refine ⟨e, (arr ++ Builtin.zeroCells z.cells (q - n)).size, ?_, ?_⟩
  · unfold World.shape?; rw [heap_alloc_self]
  · rw [Array.size_append, size_zeroCells, ha, hzs, ← Nat.add_mul]
    exact Nat.mul_le_mul_right k (by omega)

theorem append_quiet (g : Good φ H A w) {H0 H1 : Heap} {s x v : V} {u1 u2 : Value} {wr : Bool} (ht : P.underlying t = some (.slice e)) (hu : P.underlying u = some d) (hd : okSrc d = true) (hi : P.info? e = some i) (hz : i.zero = some z) (hzs : z.cells.size = i.size)
    (hb : i.bytes ≠ 0) (ty : TypeId) (hs : VR φ H A w s u1) (hx : VR φ H A w x u2) (h : appV i.size i.bytes wr H0 s x = some (v, H1)) (hq : wr = false ∨ ∀ id off m cap k', s ≠ .sl id off m cap k')
    (hsub : Sub H0 H) (hsub1 : Sub H1 H) (hfree : ∀ j, H0.length ≤ j → j < H1.length → φ j = none) :
    Lays P φ H A w H0.length H1.length (Builtin.append_ #[t, u] ty #[u1, u2]) v := by
  simp only [appV, Option.bind_eq_some_iff] at h
  obtain ⟨⟨xs, n⟩, hc, h⟩ := h
  obtain ⟨us, hl, hcl, hlen, hfirst, _⟩ := slice_sound (P := P) g hsub hx hc
  have hlu := hcl.length
  split at h
  · rename_i hn
    simp only at hn
    subst hn
    split at h
    case isFalse => cases h
    rename_i hsl
    cases h
    obtain ⟨a, m, c, rfl, hmc, _, _⟩ := hs.slice' hsl
    refine ⟨_, w, φ, run_append_same ht hu hd hi ty hlen (by simpa using hfirst 0 (Nat.le_refl _) w rfl) hmc, hs, .refl g, fun _ h => absurd rfl h⟩
  · rename_i hn
    simp only at hn
    have hus : us.take (n * i.size) = us := List.take_of_length_le (by omega)
    have hnew := hfirst n (Nat.le_refl _) w.drew rfl
    rw [hus] at hnew
    have key : ∀ (base : Option Addr), u1 = .slice base 0 0 → n * i.bytes ≤ room → v = .sl H0.length 0 n n i.size → H1 = H0 ++ [.cells xs] →
        (Builtin.firstCells i.size 0 (.slice base 0 0)).run P w.drew = .ok #[] w.drew → Lays P φ H A w H0.length H1.length (Builtin.append_ #[t, u] ty #[u1, u2]) v := by
      intro base hu1 hroom hv hH1 hold
      subst hu1 hv hH1
      have hrun := run_append_new ht hu hd hi hz ty (sCap := 0) (sLen := 0) hlen hnew hold (by omega) hb (by simpa using hroom)
      have hbk : H[H0.length]? = some (.cells xs) := hsub1 _ _ (by simp)
      have hf := hfree _ (Nat.le_refl _) (by simp)
      have hled := (Led.drew g).trans (lays_row (t := e) (rest := (Builtin.zeroCells z.cells (grownCap w (0 + n) 0 e - (0 + n))).toList) (Led.drew g).good hf hbk (hcl.mono fun v u h => (Led.drew g).vr g h))
      refine ⟨_, _, upd φ H0.length w.heap.size, hrun, ?_, ?_, upd_free (Nat.le_refl _) (by simp)⟩
      · have hrow := row_new w.drew e (#[] ++ us.toArray) (by simp; omega) hzs (grownCap_ge w (0 + n) 0 e)
        rw [Nat.zero_add] at hrow ⊢
        exact .sl (upd_self ..) (by have := grownCap_ge w n 0 e; omega) (grownCap_ge w n 0 e) (.inr (by rw [Nat.zero_add]; exact hrow))
      · have earr : (#[] ++ us.toArray ++ Builtin.zeroCells z.cells (grownCap w (0 + n) 0 e - (0 + n))) = (us ++ (Builtin.zeroCells z.cells (grownCap w (0 + n) 0 e - (0 + n))).toList).toArray := by
          apply Array.ext'; simp
        rw [earr]
        exact hled
    cases s <;> simp only at h <;> try (cases h; done)
    · split at h
      · rename_i hroom
        cases h
        obtain rfl := hs.nils'
        exact key none rfl hroom rfl rfl (by simp [Builtin.firstCells])
      · cases h
    · split at h
      · rename_i hroom
        cases h
        obtain ⟨a, rfl⟩ := hs.z0'
        exact key (some a) rfl hroom rfl rfl (run_firstCells_some w.drew i.size 0 a 0 0 [] (by simp) (by simp))
      · cases h
    · split at h
      · rename_i hkw
        rcases hq with hq | hq
        · rw [hq] at hkw; simp at hkw
        · exact absurd rfl (hq _ _ _ _ _)
      · cases h

theorem append_write (g : Good φ H A w) {H1 : Heap} {id off m cap k' : Nat} {x v : V} {u1 u2 : Value} (ht : P.underlying t = some (.slice e)) (hu : P.underlying u = some d) (hd : okSrc d = true) (hi : P.info? e = some i) (hz : i.zero = some z) (hzs : z.cells.size = i.size)
    (hb : i.bytes ≠ 0) (ty : TypeId) (hs : VR φ H A w (.sl id off m cap k') u1) (hx : VR φ H A w x u2) (h : appV i.size i.bytes true H (.sl id off m cap k') x = some (v, H1)) :
    Turns P φ H A w H1 (Builtin.append_ #[t, u] ty #[u1, u2]) v := by
  simp only [appV, Option.bind_eq_some_iff] at h
  obtain ⟨⟨xs, n⟩, hc, h⟩ := h
  obtain ⟨us, hl, hcl, hlen, hfirst, _⟩ := slice_sound (P := P) g (Sub.refl _) hx hc
  have hlu := hcl.length
  split at h
  · rename_i hn
    simp only at hn
    subst hn
    split at h
    case isFalse => cases h
    rename_i hsl
    cases h
    obtain ⟨a, m, c, rfl, hmc, _, _⟩ := hs.slice' hsl
    exact ⟨_, w, φ, run_append_same ht hu hd hi ty hlen (by simpa using hfirst 0 (Nat.le_refl _) w rfl) hmc, hs, .refl g⟩
  · rename_i hn
    simp only at hn h
    have hus : us.take (n * i.size) = us := List.take_of_length_le (by omega)
    split at h
    case isFalse => cases h
    rename_i hk
    obtain ⟨rfl, _⟩ := hk
    cases hbk : H[id]? with
    | none => rw [hbk] at h; cases h
    | some b =>
      rw [hbk] at h
      cases b <;> simp only at h <;> try (cases h; done)
      rename_i cs0
      have hsl : ∃ r c, u1 = .slice (some ⟨r, off, none⟩) m c ∧ φ id = some r ∧ m ≤ c ∧ cap ≤ c ∧ (c = cap ∨ RowHas w r (off + c * i.size)) := by
        cases hs with
        | rr hh => cases hh
        | sdead a c hd => rw [hbk] at hd; cases hd
        | sl hr hn hc hx => exact ⟨_, _, rfl, hr, hn, hc, hx⟩
      obtain ⟨r, c, rfl, hr, hmc, hcc, hrow⟩ := hsl
      split at h
      · rename_i hcap
        split at h
        case isFalse => cases h
        rename_i hle
        cases h
        have hfit : off + m * i.size + xs.length ≤ cs0.length := by rw [hl]; have := Nat.add_mul m n i.size; omega
        obtain ⟨w', q1, q2⟩ := put_cells (P := P) (o := off + m * i.size) g hr hbk hcl hfit
        refine ⟨_, w', φ, run_append_here ht hu hd hi ty hlen (by have := hfirst n (Nat.le_refl _) w rfl; rwa [hus] at this) (show m + n ≤ c by omega) (w' := w') ?_, .sl hr (by omega) hcc (hrow.imp (fun h => h) (q2.ext.shape _ _)), q2⟩
        rw [addr_add rfl]
        exact q1 _ 0 rfl
      · rename_i hcap
        split at h
        case isFalse => cases h
        rename_i hh
        obtain ⟨rfl, hmk, hroom⟩ := hh
        cases h
        obtain ⟨us0, rest, elem, hhp, hc0⟩ := (g.block hr hbk).row
        have hl0 := hc0.length
        have hcn : CL φ H A w (cs0.take (m * i.size) ++ xs) (us0.take (m * i.size) ++ us) := (hc0.take _).append hcl
        by_cases hroom' : m + n ≤ c
        ·
          have hfit : 0 + m * i.size + us.length ≤ (us0 ++ rest).toArray.size := by
            rcases hrow with hrow | ⟨t', n', h1, h2⟩
            · omega
            · unfold World.shape? at h1
              rw [hhp] at h1
              cases h1
              have h3 : (m + n) * i.size ≤ c * i.size := Nat.mul_le_mul_right _ hroom'
              have h4 := Nat.add_mul m n i.size
              omega
          have hst := run_storeCells_at P r 0 elem us (m * i.size) (us0 ++ rest).toArray w hhp (by omega) hcl.all
          rw [Nat.zero_add] at hst
          have hled := Led.move (b := .cells (cs0.take (m * i.size) ++ xs)) g hr (w' := w.setRow r ((us0 ++ rest).toArray.toList.take (m * i.size) ++ us ++ (us0 ++ rest).toArray.toList.drop (m * i.size + us.length)).toArray) (by simp)
            (fun k hk => setRow_other w r k _ hk)
            (fun x hx => by
              unfold World.shape? at hx ⊢
              rw [hhp] at hx
              rw [setRow_heap w r _ _ elem _ hhp]
              cases hx
              simp only [Option.some.injEq, Prod.mk.injEq, true_and, List.size_toArray, List.length_append, List.length_take, List.length_drop] at hfit ⊢
              omega)
            (fun hv => BR.of_row (rest := (us0 ++ rest).drop (m * i.size + us.length)) (by rw [setRow_heap w r _ _ elem _ hhp, List.toList_toArray, List.take_append_of_le_length (by omega)]) (hcn.mono hv))
            (fun o' ho' c t f he => by rw [setRow_heap w r _ _ elem _ hhp] at ho'; cases ho'; cases he; rfl)
          refine ⟨_, _, _, run_append_here ht hu hd hi ty hlen (by have := hfirst n (Nat.le_refl _) w rfl; rwa [hus] at this) hroom' (w' := _) ?_, ?_, hled⟩
          · rw [addr_add rfl, Nat.zero_add]
            have := run_storeCells_at P r (m * i.size) elem us 0 (us0 ++ rest).toArray w hhp (by omega) hcl.all
            exact this
          · refine .sl (upd_self ..) hroom' hroom' (.inr ?_)
            rcases hrow with hrow | hrow
            · omega
            · exact hled.ext.shape _ _ hrow
        · have hold : ∀ j v, (us0.take (m * i.size))[j]? = some v → w.cell? ((⟨r, 0, none⟩ : Addr).add j) = some v := fun j v hj => by
            rw [addr_add rfl, cell_row hhp]
            obtain ⟨hj1, hj2⟩ := List.getElem?_eq_some_iff.1 hj
            simp only [List.length_take] at hj1
            simp only [List.getElem_take] at hj2
            simp only [List.getElem?_toArray]
            rw [Nat.zero_add, List.getElem?_append_left (by omega), List.getElem?_eq_getElem (by omega), hj2]
          have hrun := run_append_new ht hu hd hi hz ty (base := some ⟨r, 0, none⟩) (sCap := c) (sLen := m) hlen (by have := hfirst n (Nat.le_refl _) w.drew rfl; rwa [hus] at this)
            (run_firstCells_some w.drew i.size m ⟨r, 0, none⟩ m c (us0.take (m * i.size)) (by simp only [List.length_take]; omega) hold) (by omega) hb hroom
          have hk := Led.kill g hr
          have hg := Led.grow hk.good [.cells (cs0.take (m * i.size) ++ xs)]
          have hdr := Led.drew hg.good
          have l3 := (hk.trans hg).trans hdr
          have hn0 : kil φ id H.length = none := by
            have := g.lt hr
            rw [kil_other (by omega)]
            cases hx : φ H.length with
            | none => rfl
            | some q => exact absurd (g.lt hx) (Nat.lt_irrefl _)
          have hbn : (H.set id B.dead ++ [.cells (cs0.take (m * i.size) ++ xs)])[H.length]? = some (.cells (cs0.take (m * i.size) ++ xs)) := by
            rw [List.getElem?_append_right (by simp)]; simp
          have hled := l3.trans (lays_row (t := e) (rest := (Builtin.zeroCells z.cells (grownCap w (m + n) c e - (m + n))).toList) l3.good hn0 hbn (hcn.mono fun v u h => l3.vr g h))
          have hrow := row_new w.drew e ((us0.take (m * i.size)).toArray ++ us.toArray) (n := m + n) (k := i.size) (by simp; have := Nat.add_mul m n i.size; omega) hzs (grownCap_ge w (m + n) c e)
          refine ⟨_, _, upd (kil φ id) H.length w.heap.size, hrun, .sl (upd_self ..) (grownCap_ge ..) (grownCap_ge ..) (.inr (by rw [Nat.zero_add]; exact hrow)), ?_⟩
          have earr : ((us0.take (m * i.size)).toArray ++ us.toArray ++ Builtin.zeroCells z.cells (grownCap w (m + n) c e - (m + n))) = (us0.take (m * i.size) ++ us ++ (Builtin.zeroCells z.cells (grownCap w (m + n) c e - (m + n))).toList).toArray := by
            apply Array.ext'; simp
          rw [earr]
          exact hled
end
end Go.Eng
