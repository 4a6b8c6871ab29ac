/-
  ENGINE, part 15: a call's result, in its caller's memory.
-/
import Derived.Test.YtoommmeapdkopaaE14
namespace Go.Eng

section
variable {P : Program} {φ : Phi} {H Hb : Heap} {A : Nat → Prop} {w : World}

def noPhi : Phi := fun _ => none
theorem no_ran (b : Nat) : ¬ ran noPhi b := fun ⟨_, h⟩ => by cases h

theorem Led.base (g : Good φ Hb A w) {A0 : Nat → Prop} {φ1 : Phi} {A1 : Nat → Prop} {w1 : World} (e1 : Ext noPhi A0 w φ1 A1 w1) {A' : Nat → Prop} (h1 : ∀ b, A b → A' b) (h2 : ∀ b, A' b → A b ∨ (w.heap.size ≤ b ∧ b < w1.heap.size)) : Led φ Hb A w φ Hb A' w1 := by
  have e : Ext φ A w φ A' w1 := ⟨e1.size, fun b hb _ => e1.old b hb (no_ran b), h1, fun b hb => (h2 b hb).elim .inl (fun h => .inr (.inl h.1)), fun b hb => .inl hb, e1.shape, e1.calm⟩
  have k : Keeps φ Hb φ Hb := .refl ..
  refine ⟨⟨g.inj, fun i r hi => ?_, fun b hb => ?_⟩, e, k⟩
  · obtain ⟨q1, q2, b, q3, q4⟩ := g.dom i r hi
    refine ⟨Nat.lt_of_lt_of_le q1 e1.size, fun ha => ?_, b, q3, q4.mono (fun v u h => h.ext g e k) (e1.old r q1 (no_ran r))⟩
    rcases h2 r ha with h | h
    · exact q2 h
    · omega
  · rcases h2 b hb with h | h
    · exact Nat.lt_of_lt_of_le (g.fresh b h) e1.size
    · exact h.2

theorem Led.adopt {A' : Nat → Prop} {w1 : World} (l : Led φ Hb A w φ Hb A' w1) {nid r1 : Nat} {b : B} (hn : φ nid = none) (hb : Hb[nid]? = some b) (h1 : w.heap.size ≤ r1) (h2 : r1 < w1.heap.size) (h3 : ¬ A' r1) (h4 : ¬ ran φ r1)
    (hbr : (∀ v u, VR φ Hb A' w1 v u → VR (upd φ nid r1) Hb A' w1 v u) → BR (upd φ nid r1) Hb A' w1 b r1) : Led φ Hb A w (upd φ nid r1) Hb A' w1 := by
  have g := l.good
  have hne : ∀ i r, φ i = some r → i ≠ nid := fun i r hi he => by rw [he, hn] at hi; cases hi
  have k : Keeps φ Hb (upd φ nid r1) Hb := ⟨fun i r hi => .inl (by rw [upd_other (hne i r hi)]; exact hi), fun _ h => h⟩
  have hv : ∀ v u, VR φ Hb A' w1 v u → VR (upd φ nid r1) Hb A' w1 v u := fun v u h => h.mono (fun _ _ h => h) (fun _ _ h => h) k
  have e := l.ext
  refine ⟨⟨fun i j r hi hj => ?_, fun i r hi => ?_, g.fresh⟩, ⟨e.size, e.old, e.amono, e.anew, fun b ⟨i, hi⟩ => ?_, e.shape, e.calm⟩, l.keeps.trans k⟩
  · by_cases hi' : i = nid
    · by_cases hj' : j = nid
      · rw [hi', hj']
      · rw [hi', upd_self] at hi; cases hi
        rw [upd_other hj'] at hj
        exact absurd ⟨j, hj⟩ h4
    · rw [upd_other hi'] at hi
      by_cases hj' : j = nid
      · rw [hj', upd_self] at hj; cases hj
        exact absurd ⟨i, hi⟩ h4
      · rw [upd_other hj'] at hj; exact g.inj i j r hi hj
  · by_cases hi' : i = nid
    · subst hi'
      rw [upd_self] at hi; cases hi
      exact ⟨h2, h3, b, hb, hbr hv⟩
    · rw [upd_other hi'] at hi
      obtain ⟨q1, q2, b', q3, q4⟩ := g.dom i r hi
      exact ⟨q1, q2, b', q3, q4.mono hv rfl⟩
  · by_cases he : i = nid
    · rw [he, upd_self] at hi; cases hi; exact .inr h1
    · rw [upd_other he] at hi; exact .inl ⟨i, hi⟩

def shown (A : Nat → Prop) (n : Nat) (A1 : Nat → Prop) (φx : Phi) : Nat → Prop := fun b => A b ∨ (n ≤ b ∧ (A1 b ∨ ran φx b))

theorem handV_app {mode : Nat} {H1 H H' : Heap} {v v' : V} (h : handV mode H1 v H = some (v', H')) : H' = H ∨ ∃ b, H' = H ++ [b] := by
  unfold handV at h
  split at h
  · simp only [Option.map_eq_some_iff, Prod.mk.injEq] at h; obtain ⟨_, _, _, rfl⟩ := h; exact .inl rfl
  · split at h
    · split at h
      · split at h
        · simp only [Option.map_eq_some_iff, Prod.mk.injEq] at h; obtain ⟨_, _, _, rfl⟩ := h; exact .inr ⟨_, rfl⟩
        · cases h
      · cases h
    · split at h
      · simp only [Option.map_eq_some_iff, Prod.mk.injEq] at h; obtain ⟨_, _, _, rfl⟩ := h; exact .inr ⟨_, rfl⟩
      · cases h
    · simp only [Option.map_eq_some_iff, Prod.mk.injEq] at h; obtain ⟨_, _, _, rfl⟩ := h; exact .inl rfl

theorem hand_sound (g : Good φ Hb A w) {A0 : Nat → Prop} {φ1 : Phi} {A1 : Nat → Prop} {w1 : World} {H1 H' : Heap} {mode : Nat} {v v' : V} {u : Value} (e1 : Ext noPhi A0 w φ1 A1 w1) (g1 : Good φ1 H1 A1 w1) (hv : VR φ1 H1 A1 w1 v u)
    (h : handV mode H1 v H = some (v', H')) (hcase : (A0 = A) ∨ (scalarV v' = true ∨ scalarRow H'[H.length]? = true)) (hsub : Sub H' Hb) (hfree : ∀ j, H.length ≤ j → j < H'.length → φ j = none) :
    ∃ φ' A', VR φ' Hb A' w1 v' u ∧ Led φ Hb A w φ' Hb A' w1 ∧ ∀ i, φ' i ≠ φ i → H.length ≤ i ∧ i < H'.length := by
  have hfr1 : ∀ b, ran φ1 b → w.heap.size ≤ b := fun b hb => (e1.rnew b hb).elim (fun h => absurd h (no_ran b)) id

  have hclose : ∀ (φx : Phi) (Hx : Heap) (v v' : V) (u : Value) (d : Nat), Good φx Hx A1 w1 → (∀ b, ran φx b → ran φ1 b) → VR φx Hx A1 w1 v u → closeV Hx d v = some v' → (A0 = A ∨ scalarV v' = true) → RR (shown A w.heap.size A1 φx) w1 v' u := by
    intro φx Hx v v' u d gx hx hv hc hcs
    have hr := closeV_sound gx d v v' u hv hc
    rcases hcs with rfl | hs
    · refine hr.mono (fun b hb => ?_) (fun _ _ => rfl)
      rcases hb with hb | hb
      · rcases e1.anew b hb with h | h | h
        · exact .inl h
        · exact .inr ⟨h, .inl hb⟩
        · exact absurd h (no_ran b)
      · exact .inr ⟨hfr1 b (hx b hb), .inr hb⟩
    · exact scalar_rr hr hs
  have hbase : ∀ (φx : Phi), (∀ b, ran φx b → ran φ1 b) → Led φ Hb A w φ Hb (shown A w.heap.size A1 φx) w1 := by
    intro φx hx
    refine Led.base g e1 (fun b hb => .inl hb) (fun b hb => hb.elim .inl (fun h => .inr ⟨h.1, h.2.elim (g1.fresh b) (fun h => ?_)⟩))
    obtain ⟨i, hi⟩ := hx b h
    exact (g1.dom i b hi).1
  have hscal : ∀ {l : List V}, scalarRow (H ++ [B.cells l])[H.length]? = true → scalarVs l = true := by
    intro l hl
    rw [List.getElem?_append_right (Nat.le_refl _), Nat.sub_self] at hl
    exact hl
  have plain : (closeV H1 closeDepth v = some v' ∧ H' = H) → ∃ φ' A', VR φ' Hb A' w1 v' u ∧ Led φ Hb A w φ' Hb A' w1 ∧ ∀ i, φ' i ≠ φ i → H.length ≤ i ∧ i < H'.length := by
    rintro ⟨hc, rfl⟩
    refine ⟨φ, shown A w.heap.size A1 φ1, .rr (hclose φ1 H1 v v' u _ g1 (fun _ h => h) hv hc ?_), hbase φ1 (fun _ h => h), fun _ h => absurd rfl h⟩
    rcases hcase with h | h | h
    · exact .inl h
    · exact .inr h
    · simp [scalarRow] at h
  unfold handV at h
  split at h
  · simp only [Option.map_eq_some_iff, Prod.mk.injEq] at h
    obtain ⟨x, hx, rfl, rfl⟩ := h
    exact plain ⟨hx, rfl⟩
  · split at h
    · rename_i id off n cap k
      cases hb : H1[id]? with
      | none => rw [hb] at h; cases h
      | some b =>
        rw [hb] at h
        cases b <;> simp only at h <;> try (cases h; done)
        rename_i cs
        split at h
        case isFalse => cases h
        rename_i hh
        obtain ⟨rfl, hnk, hck⟩ := hh
        simp only [Option.map_eq_some_iff, Prod.mk.injEq] at h
        obtain ⟨l, hl, rfl, rfl⟩ := h
        cases hv with
        | rr hh => cases hh
        | sdead a c hd => rw [hb] at hd; cases hd
        | sl hr hn hc hx =>
          rename_i r c
          have lk := Led.kill g1 hr
          obtain ⟨us, rest, elem, hh, hcl⟩ := (g1.block hr hb).row
          have hkr : ∀ b, ran (kil φ1 id) b → ran φ1 b := fun b ⟨i, hi⟩ => by
            by_cases he : i = id
            · rw [he, kil_self] at hi; cases hi
            · rw [kil_other he] at hi; exact ⟨i, hi⟩
          have hcl' := hcl.mono (fun v u h => lk.vr g1 h)
          have e := mapO_length hl
          have hlu := hcl.length
          have hel : l.length = n * k := by rw [e, List.length_take]; omega
          have hb2 := hbase (kil φ1 id) hkr
          have hbn : Hb[H.length]? = some (.cells l) := hsub _ _ (by simp)
          have hnew : CL φ Hb (shown A w.heap.size A1 (kil φ1 id)) w1 l (us.take (n * k)) := CL.of_index (by simp only [List.length_take]; omega) (fun i hi => by
            have hg := mapO_get hl i hi (by rw [List.length_take]; omega)
            rw [List.getElem_take] at hg
            have hi2 := hcl'.index i (by omega)
            have e3 : (us.take (n * k)).getD i undef = us.getD i undef := by
              have : i < n * k := by omega
              simp [List.getD, this]
            rw [e3]
            refine ⟨.rr (hclose _ _ _ _ _ _ lk.good hkr hi2.1 hg ?_), hi2.2⟩
            rcases hcase with h | h | h
            · exact .inl h
            · simp [scalarV] at h
            · exact .inr (scalar_list (hscal h) i hi))
          have hrs : w.heap.size ≤ r := hfr1 r ⟨id, hr⟩
          have hled := Led.adopt (b := .cells l) hb2 (hfree _ (Nat.le_refl _) (by simp)) hbn hrs (g1.dom id r hr).1
            (fun ha => by
              rcases ha with ha | ⟨_, ha | ⟨i, hi⟩⟩
              · have := g.fresh r ha; omega
              · exact (g1.dom id r hr).2.1 ha
              · by_cases he : i = id
                · rw [he, kil_self] at hi; cases hi
                · rw [kil_other he] at hi; exact he (g1.inj i id r hi hr))
            (fun ⟨i, hi⟩ => by have := (g.dom i r hi).1; omega)
            (fun hm => BR.of_row (us := us.take (n * k)) (rest := us.drop (n * k) ++ rest) (elem := elem) (by rw [← List.append_assoc, List.take_append_drop]; exact hh) (hnew.mono hm))
          refine ⟨_, _, .sl (upd_self ..) hn hn ?_, hled, upd_free (Nat.le_refl _) (by simp)⟩
          rcases hx with hx | hx
          · refine .inr ⟨elem, (us ++ rest).length, ?_, ?_⟩
            · unfold World.shape?; rw [hh]; simp
            · subst hx; simp; omega
          · exact .inr hx
    · rename_i id
      cases hb : H1[id]? with
      | none => rw [hb] at h; cases h
      | some b =>
        rw [hb] at h
        cases b <;> simp only at h <;> try (cases h; done)
        rename_i es
        simp only [Option.map_eq_some_iff, Prod.mk.injEq] at h
        obtain ⟨l, hl, rfl, rfl⟩ := h
        obtain ⟨r, rfl, hr⟩ := map_block hv hb
        have lk := Led.kill g1 hr
        obtain ⟨ents, clock, hh, hle, hev⟩ := g1.block hr hb
        have hkr : ∀ b, ran (kil φ1 id) b → ran φ1 b := fun b ⟨i, hi⟩ => by
          by_cases he : i = id
          · rw [he, kil_self] at hi; cases hi
          · rw [kil_other he] at hi; exact ⟨i, hi⟩
        have e := mapO_length hl
        have hb2 := hbase (kil φ1 id) hkr
        have hbn : Hb[H.length]? = some (.map l) := hsub _ _ (by simp)
        have hA0 : A0 = A := by
          rcases hcase with h | h | h
          · exact h
          · simp [scalarV] at h
          · rw [List.getElem?_append_right (Nat.le_refl _), Nat.sub_self] at h; simp [scalarRow] at h
        have hrs : w.heap.size ≤ r := hfr1 r ⟨id, hr⟩
        have hled := Led.adopt (b := .map l) hb2 (hfree _ (Nat.le_refl _) (by simp)) hbn hrs (g1.dom id r hr).1
          (fun ha => by
            rcases ha with ha | ⟨_, ha | ⟨i, hi⟩⟩
            · have := g.fresh r ha; omega
            · exact (g1.dom id r hr).2.1 ha
            · by_cases he : i = id
              · rw [he, kil_self] at hi; cases hi
              · rw [kil_other he] at hi; exact he (g1.inj i id r hi hr))
          (fun ⟨i, hi⟩ => by have := (g.dom i r hi).1; omega)
          (fun hm => ⟨ents, clock, hh, by omega, fun i hi => by
            have hg := mapO_get hl i hi (by omega)
            simp only [Option.bind_eq_some_iff, Option.map_eq_some_iff] at hg
            obtain ⟨a, ha, b, hb', hab⟩ := hg
            rw [← hab]
            have hi2 := hev i (by omega)
            exact ⟨hm _ _ (.rr (hclose _ _ _ _ _ _ lk.good hkr (lk.vr g1 hi2.1) ha (.inl hA0))), hm _ _ (.rr (hclose _ _ _ _ _ _ lk.good hkr (lk.vr g1 hi2.2) hb' (.inl hA0)))⟩⟩)
        exact ⟨_, _, .map (upd_self ..), hled, upd_free (Nat.le_refl _) (by simp)⟩
    · simp only [Option.map_eq_some_iff, Prod.mk.injEq] at h
      obtain ⟨x, hx, rfl, rfl⟩ := h
      exact plain ⟨hx, rfl⟩
end
end Go.Eng
