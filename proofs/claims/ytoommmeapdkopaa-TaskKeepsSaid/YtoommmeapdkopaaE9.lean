/-
  ENGINE, part 9: operations that read memory, or lay new blocks.
-/
import Derived.Test.YtoommmeapdkopaaE8
import Derived.Laws.MakeOwn
namespace Go.Eng

section
variable {P : Program} {φ : Phi} {H : Heap} {A : Nat → Prop} {w : World}

theorem BR.mono {φ' H' A' w'} {b : B} {r r' : Nat} (h : BR φ H A w b r) (hv : ∀ v u, VR φ H A w v u → VR φ' H' A' w' v u) (hh : w'.heap[r']? = w.heap[r]?) : BR φ' H' A' w' b r' := by
  cases b with
  | cells cs => obtain ⟨arr, e, h1, h2, h3⟩ := h; exact ⟨arr, e, hh.trans h1, h2, fun i hi => ⟨hv _ _ (h3 i hi).1, (h3 i hi).2⟩⟩
  | map es => obtain ⟨ents, c, h1, h2, h3⟩ := h; exact ⟨ents, c, hh.trans h1, h2, fun i hi => ⟨hv _ _ (h3 i hi).1, hv _ _ (h3 i hi).2⟩⟩
  | siter s p => obtain ⟨s', h1, h2⟩ := h; exact ⟨s', hh.trans h1, h2⟩
  | dead => exact h

def upd (φ : Phi) (id r : Nat) : Phi := fun i => if i = id then some r else φ i
theorem upd_self (φ : Phi) (id r : Nat) : upd φ id r id = some r := by simp [upd]
theorem upd_other {φ : Phi} {id r i : Nat} (h : i ≠ id) : upd φ id r i = φ i := by simp [upd, h]

theorem shape_lt {w : World} {r : Nat} {x : TypeId × Nat} (h : w.shape? r = some x) : r < w.heap.size := by
  unfold World.shape? at h
  cases hr : w.heap[r]? with
  | none => rw [hr] at h; cases h
  | some o => exact (Array.getElem?_eq_some_iff.1 hr).1
theorem shape_congr {w w' : World} {r : Nat} (h : w'.heap[r]? = w.heap[r]?) : w'.shape? r = w.shape? r := by unfold World.shape?; rw [h]
theorem RowHas.same {w w' : World} {r s : Nat} (h : RowHas w r s) (hh : ∀ b, b < w.heap.size → w'.heap[b]? = w.heap[b]?) : RowHas w' r s := by
  obtain ⟨t, n, h1, h2⟩ := h
  exact ⟨t, n, (shape_congr (hh r (shape_lt h1))).trans h1, h2⟩

structure Led (φ : Phi) (H : Heap) (A : Nat → Prop) (w : World) (φ' : Phi) (H' : Heap) (A' : Nat → Prop) (w' : World) : Prop where
  good : Good φ' H' A' w'
  ext : Ext φ A w φ' A' w'
  keeps : Keeps φ H φ' H'

theorem Led.refl (g : Good φ H A w) : Led φ H A w φ H A w := ⟨g, .refl .., .refl ..⟩
theorem Led.trans {φ' H' A' w' φ'' H'' A'' w''} (h : Led φ H A w φ' H' A' w') (h' : Led φ' H' A' w' φ'' H'' A'' w'') : Led φ H A w φ'' H'' A'' w'' := ⟨h'.good, h.ext.trans h'.ext, h.keeps.trans h'.keeps⟩
theorem Led.vr {φ' H' A' w'} (l : Led φ H A w φ' H' A' w') (g : Good φ H A w) {v : V} {u : Value} (h : VR φ H A w v u) : VR φ' H' A' w' v u := h.ext g l.ext l.keeps

theorem Led.same (g : Good φ H A w) {w' : World} (hs : w.heap.size ≤ w'.heap.size) (hh : ∀ b, b < w.heap.size → w'.heap[b]? = w.heap[b]?) (hc : Calm w w') : Led φ H A w φ H A w' := by
  have e : Ext φ A w φ A w' := ⟨hs, fun b hb _ => hh b hb, fun _ h => h, fun _ h => .inl h, fun _ h => .inl h, fun r s h => RowHas.same h hh, hc⟩
  have k : Keeps φ H φ H := .refl ..
  refine ⟨⟨g.inj, fun i r hi => ?_, fun b hb => Nat.lt_of_lt_of_le (g.fresh b hb) hs⟩, e, k⟩
  obtain ⟨h1, h2, b, h3, h4⟩ := g.dom i r hi
  exact ⟨by omega, h2, b, h3, h4.mono (fun v u h => h.ext g e k) (hh r h1)⟩
theorem Led.drew (g : Good φ H A w) : Led φ H A w φ H A w.drew := .same g (Nat.le_refl _) (fun _ _ => rfl) ⟨rfl, ⟨rfl, rfl⟩, fun _ => rfl⟩
theorem heap_alloc_lt (w : World) (o : Obj) {b : Nat} (h : b < w.heap.size) : (w.alloc o).heap[b]? = w.heap[b]? := by
  show (w.heap.push o)[b]? = _
  rw [Array.getElem?_push, if_neg (Nat.ne_of_lt h)]
theorem heap_alloc_self (w : World) (o : Obj) : (w.alloc o).heap[w.heap.size]? = some o := by
  show (w.heap.push o)[w.heap.size]? = _
  rw [Array.getElem?_push, if_pos rfl]
theorem Led.plain (g : Good φ H A w) (o : Obj) (hp : Plain o := by first | (intro c t f h; cases h; rfl) | (intro c t f h; cases h)) : Led φ H A w φ H A (w.alloc o) := .same g (by simp) (fun _ h => heap_alloc_lt w o h) (.alloc w hp)

theorem Led.new (g : Good φ H A w) {id : Nat} {b : B} {o : Obj} (hn : φ id = none) (hb : H[id]? = some b)
    (hbr : ∀ φ' w', (∀ v u, VR φ H A w v u → VR φ' H A w' v u) → w'.heap[w.heap.size]? = some o → BR φ' H A w' b w.heap.size) (hp : Plain o := by first | (intro c t f h; cases h; rfl) | (intro c t f h; cases h)) :
    Led φ H A w (upd φ id w.heap.size) H A (w.alloc o) := by
  have hne : ∀ i r, φ i = some r → i ≠ id := fun i r hi he => by rw [he, hn] at hi; cases hi
  have e : Ext φ A w (upd φ id w.heap.size) A (w.alloc o) :=
    ⟨by simp, fun b hb _ => heap_alloc_lt w o hb, fun _ h => h, fun _ h => .inl h, fun b ⟨i, hi⟩ => by
      by_cases he : i = id
      · rw [he, upd_self] at hi; cases hi; exact .inr (Nat.le_refl _)
      · rw [upd_other he] at hi; exact .inl ⟨i, hi⟩, fun r s h => RowHas.same h (fun b hb => heap_alloc_lt w o hb), .alloc w hp⟩
  have k : Keeps φ H (upd φ id w.heap.size) H := ⟨fun i r hi => .inl (by rw [upd_other (hne i r hi)]; exact hi), fun _ h => h⟩
  have hv : ∀ v u, VR φ H A w v u → VR (upd φ id w.heap.size) H A (w.alloc o) v u := fun v u h => h.ext g e k
  refine ⟨⟨fun i j r hi hj => ?_, fun i r hi => ?_, fun b hb => by have := g.fresh b hb; simp; omega⟩, e, k⟩
  · by_cases hi' : i = id
    · by_cases hj' : j = id
      · rw [hi', hj']
      · rw [hi', upd_self] at hi; cases hi
        rw [upd_other hj'] at hj
        have := (g.dom j _ hj).1; omega
    · rw [upd_other hi'] at hi
      by_cases hj' : j = id
      · rw [hj', upd_self] at hj; cases hj
        have := (g.dom i _ hi).1; omega
      · rw [upd_other hj'] at hj; exact g.inj i j r hi hj
  · by_cases hi' : i = id
    · subst hi'
      rw [upd_self] at hi; cases hi
      exact ⟨by simp, fun ha => by have := g.fresh _ ha; omega, b, hb, hbr _ _ hv (heap_alloc_self w o)⟩
    · rw [upd_other hi'] at hi
      obtain ⟨h1, h2, b', h3, h4⟩ := g.dom i r hi
      exact ⟨by simp; omega, h2, b', h3, h4.mono hv (heap_alloc_lt w o h1)⟩

theorem row_br {cs : List V} {us : List Value} {t : TypeId} {rest : List Value} (hc : CL φ H A w cs us) (φ' : Phi) (w' : World) (hv : ∀ v u, VR φ H A w v u → VR φ' H A w' v u)
    (hh : w'.heap[w.heap.size]? = some (.cells (us ++ rest).toArray t (0, 0))) : BR φ' H A w' (.cells cs) w.heap.size := BR.of_row hh (hc.mono hv)

def Lays (P : Program) (φ : Phi) (H : Heap) (A : Nat → Prop) (w : World) (lo hi : Nat) (s : Sem Value) (v : V) : Prop :=
  ∃ u w' φ', s.run P w = .ok u w' ∧ VR φ' H A w' v u ∧ Led φ H A w φ' H A w' ∧ ∀ i, φ' i ≠ φ i → lo ≤ i ∧ i < hi

theorem Gives.lays (g : Good φ H A w) {s : Sem Value} {v : V} (h : Gives P φ H A w s v) (lo hi : Nat) : Lays P φ H A w lo hi s v :=
  let ⟨u, h1, h2⟩ := h; ⟨u, w, φ, h1, h2, .refl g, fun _ h => absurd rfl h⟩

theorem upd_free {id r lo hi : Nat} (h1 : lo ≤ id) (h2 : id < hi) : ∀ i, upd φ id r i ≠ φ i → lo ≤ i ∧ i < hi := fun i hi => by
  by_cases he : i = id
  · subst he; exact ⟨h1, h2⟩
  · exact absurd (upd_other he) hi

theorem lays_row (g : Good φ H A w) {id : Nat} {cs : List V} {us rest : List Value} {t : TypeId} (hn : φ id = none) (hb : H[id]? = some (.cells cs)) (hc : CL φ H A w cs us) :
    Led φ H A w (upd φ id w.heap.size) H A (w.alloc (.cells (us ++ rest).toArray t)) := .new g hn hb (fun φ' w' hv hh => row_br hc φ' w' hv hh)

theorem run_zero {t : TypeId} {i : TypeInfo} {u : Value} (hi : P.info? t = some i) (hz : i.zero = some u) (w : World) : (zeroValue t).run P w = .ok u w := by
  simp [zeroValue, typeInfo, hi, hz]

theorem lays_alloc (g : Good φ H A w) {t : TypeId} {z : V} {id : Nat} {old : Value} (hz : zeroV P t = some z) (hn : φ id = none) (hb : H[id]? = some (.cells (cellsV z))) :
    Lays P φ H A w id (id + 1) (Instr.alloc t true old) (.ptr id 0) := by
  obtain ⟨i, u, hi, hiz, hv, hnt⟩ := zeroV_sound hz φ H A w
  have hl := lays_row (t := t) (rest := []) g hn hb (hv.cells hnt)
  rw [List.append_nil, Array.toArray_toList] at hl
  refine ⟨_, _, _, ?_, .ptr (upd_self ..), hl, upd_free (Nat.le_refl _) (Nat.lt_succ_self _)⟩
  simp [Instr.alloc, run_zero hi hiz, newVar, newRow]

theorem lays_box (g : Good φ H A w) {t : TypeId} {x : V} {u : Value} {id : Nat} (hx : VR φ H A w x u) (hnt : notTup x = true) (hn : φ id = none) (hb : H[id]? = some (.cells (cellsV x))) :
    Lays P φ H A w id (id + 1) (Instr.box t u) (.ptr id 0) := by
  have hl := lays_row (t := t) (rest := []) g hn hb (hx.cells hnt)
  rw [List.append_nil, Array.toArray_toList] at hl
  refine ⟨_, _, _, ?_, .ptr (upd_self ..), hl, upd_free (Nat.le_refl _) (Nat.lt_succ_self _)⟩
  simp [Instr.box, newVar, newRow]

theorem range_rep {α : Type} [Inhabited α] (l : List α) (hl : l ≠ []) : ∀ n, (List.range (n * l.length)).map (fun i => l[i % l.length]!) = (List.replicate n l).flatten
  | 0 => by simp
  | n + 1 => by
    have h0 : 0 < l.length := List.length_pos_iff.2 hl
    rw [Nat.add_mul, Nat.one_mul, Nat.add_comm, List.range_add, List.map_append, List.replicate_succ, List.flatten_cons, ← range_rep l hl n, List.map_map]
    congr 1
    · apply List.ext_getElem
      · simp
      · intro i h1 h2
        simp only [List.getElem_map, List.getElem_range]
        rw [Nat.mod_eq_of_lt h2, getElem!_pos l i h2]
    · apply List.map_congr_left
      intro i _
      simp

theorem made_toList (z : Array Value) (k n : Nat) (hk : z.size = k) (h0 : k ≠ 0) : (madeCells z (n * k)).toList = (List.replicate n z.toList).flatten := by
  subst hk
  have hne : z.toList ≠ [] := fun h => h0 (by simpa using congrArg List.length h)
  rw [← range_rep z.toList hne n, madeCells, Array.toList_map, Array.toList_range, Array.length_toList]
  apply List.map_congr_left
  intro i _
  by_cases h : i % z.size < z.size
  · rw [getElem!_pos z _ h, getElem!_pos z.toList _ (by simpa using h)]; rfl
  · exact absurd (Nat.mod_lt _ (by omega)) h

theorem lays_mks (g : Good φ H A w) {t e : TypeId} {i : TypeInfo} {z : V} {l c v : V} {u1 u2 : Value} {H0 H1 : Heap} (ht : P.underlying t = some (.slice e)) (hi : P.info? e = some i) (hz : zeroV P e = some z) (hs : i.size ≠ 0) (hby : i.bytes ≠ 0) (hcz : (cellsV z).length = i.size)
    (h1 : VR φ H A w l u1) (h2 : VR φ H A w c u2) (h : mksV i.size i.bytes (cellsV z) H0 l c = some (v, H1)) (hfree : ∀ j, H0.length ≤ j → j < H1.length → φ j = none) (hsub : Sub H1 H) :
    Lays P φ H A w H0.length H1.length (Instr.makeSlice t u1 u2) v := by
  cases l <;> cases c <;> simp only [mksV] at h <;> try (cases h; done)
  rename_i kl l kc c
  obtain rfl := h1.int'
  obtain rfl := h2.int'
  split at h
  case isFalse => cases h
  rename_i hh
  obtain ⟨hl0, hlc, hroom⟩ := hh
  obtain ⟨i', uz, hi', hiz, hvz, hnt⟩ := zeroV_sound hz φ H A w
  rw [hi] at hi'; cases hi'
  unfold room at hroom
  have hcl := hvz.cells hnt
  have hrun := run_make (P := P) w t e i uz ht hi hiz kl kc l c hl0 hlc (by rw [Int.mul_comm]; omega) (by
    have := Int.mul_le_mul_of_nonneg_left (show (1 : Int) ≤ i.bytes by omega) (show 0 ≤ c by omega)
    omega)
  split at h
  · rename_i hc0
    subst hc0
    obtain rfl : l = 0 := by omega
    simp only [Option.some.injEq, Prod.mk.injEq] at h
    obtain ⟨rfl, rfl⟩ := h
    exact ⟨_, _, φ, hrun, .rr (.z0 _), .plain g _, fun _ h => absurd rfl h⟩
  · rename_i hc0
    simp only [Option.some.injEq, Prod.mk.injEq] at h
    obtain ⟨rfl, rfl⟩ := h
    have hb : H[H0.length]? = some (.cells (rep c.toNat (cellsV z))) := hsub _ _ (by simp)
    have hsz : uz.cells.size = i.size := by have := hcl.length; simpa [hcz] using this
    have hl := lays_row (t := e) (rest := []) g (hfree _ (Nat.le_refl _) (by simp)) hb (hcl.rep c.toNat)
    rw [List.append_nil, ← made_toList _ _ _ hsz hs, Array.toArray_toList] at hl
    exact ⟨_, _, _, hrun, .sl (upd_self ..) (by omega) (Nat.le_refl _) (.inl rfl), hl, upd_free (Nat.le_refl _) (by simp)⟩

theorem load_one {t : TypeId} {k : Nat} {cs : List V} {us : List Value} {v : V} {a : Addr} (hk : sizeT P t = some k) (hb : okT P t k = true) (hc : CL φ H A w cs us) (hl : cs.length = k) (hr : ∀ j v, us[j]? = some v → w.cell? (a.add j) = some v)
    (h : packV (aggT P t) cs = some v) : Gives P φ H A w (loadVar t a) v := by
  have hlu := hc.length
  unfold okT at hb
  unfold packV at h
  cases ha : aggT P t with
  | true =>
    rw [ha] at h
    cases h
    refine ⟨.agg us.toArray, ?_, hc.agg⟩
    have := run_loadCells_list (P := P) w a us hr
    rw [hlu, hl] at this
    simp [loadVar, run_isAgg_true ha, run_sizeT hk, this]
  | false =>
    rw [ha] at h hb
    simp only [Bool.false_or, Bool.and_eq_true, beq_iff_eq, Option.isSome_iff_exists] at hb
    obtain ⟨rfl, d, hd⟩ := hb
    simp only [Bool.false_eq_true, if_false] at h
    split at h
    · rename_i x
      cases h
      cases us with
      | nil => simp at hlu
      | cons u us =>
        have h0 := hr 0 u rfl
        rw [Addr.add_zero'] at h0
        refine ⟨u, ?_, hc.1.1⟩
        simp only [loadVar, Sem.run_bind, run_isAgg_false hd ha, Result.andThen_ok, Bool.false_eq_true, if_false, run_load, h0]
    · cases h

theorem gives_load {t : TypeId} {k : Nat} {p v : V} {u : Value} {H0 : Heap} (g : Good φ H A w) (hs : Sub H0 H) (hk : sizeT P t = some k) (hb : okT P t k = true) (hp : VR φ H A w p u) (h : (rd H0 p k).bind (packV (aggT P t)) = some v) :
    Gives P φ H A w (Instr.loadAt t u) v := by
  simp only [Option.bind_eq_some_iff] at h
  obtain ⟨cs, h1, h2⟩ := h
  obtain ⟨a, us, rfl, hl, hc, hr⟩ := rd_sound g hs hp h1
  obtain ⟨z, q1, q2⟩ := load_one hk hb hc hl hr h2
  exact ⟨z, by simpa [Instr.loadAt, Instr.sureAddr] using q1, q2⟩

theorem slice_sound {H0 : Heap} {x : V} {u : Value} {k n : Nat} {xs : List V} (g : Good φ H A w) (hs : Sub H0 H) (hx : VR φ H A w x u) (h : sliceCells H0 x k = some (xs, n)) :
    ∃ us, xs.length = n * k ∧ CL φ H A w xs us ∧ (Builtin.lenOf u).run P w = .ok n w ∧ (∀ m, m ≤ n → ∀ w', w'.heap = w.heap → (Builtin.firstCells k m u).run P w' = .ok (us.take (m * k)).toArray w') ∧
      (isSlice x = true → (∃ a c, u = .slice a n c ∧ n ≤ c)) := by
  have hcell : ∀ (a : Addr) (c : Nat) (us : List Value), us.length = n * k → (∀ j v, us[j]? = some v → w.cell? (a.add j) = some v) → ∀ m, m ≤ n → ∀ w', w'.heap = w.heap → (Builtin.firstCells k m (.slice (some a) n c)).run P w' = .ok (us.take (m * k)).toArray w' := by
    intro a c us hl hr m hm w' hw
    have hmk : m * k ≤ n * k := Nat.mul_le_mul_right k hm
    refine run_firstCells_some w' k m a n c (us.take (m * k)) (by rw [List.length_take]; omega) (fun j v hj => ?_)
    have : w'.cell? (a.add j) = w.cell? (a.add j) := cell?_congr (by rw [hw])
    rw [this]
    refine hr j v ?_
    rw [List.getElem?_take] at hj
    split at hj
    · exact hj
    · cases hj
  cases x <;> simp only [sliceCells] at h <;> try (cases h; done)
  · split at h
    case isFalse => cases h
    rename_i s hk
    subst hk
    cases h
    obtain ⟨b, rfl, rfl⟩ := hx.str'
    have hl : b.data.toList.length = b.size := by rw [Array.length_toList]; rfl
    refine ⟨b.data.toList.map fun c => .int .u8 c.toNat, by simp, CL.of_index (by simp) (fun i hi => ?_), by simp [Builtin.lenOf, hl], fun m hm w' hw => ?_, by simp [isSlice]⟩
    · simp only [List.length_map] at hi
      rw [List.getElem_map]
      have e : (b.data.toList.map fun c => Value.int .u8 c.toNat).getD i undef = .int .u8 (b.data.toList[i]).toNat := by
        simp only [List.getD, List.getElem?_map, List.getElem?_eq_getElem hi, Option.map_some, Option.getD_some]
      rw [e]
      exact ⟨.rr (.int _ _), rfl⟩
    · simp only [Builtin.firstCells, Sem.run_pure, Nat.mul_one]
      congr 1
      apply Array.ext'
      simp [ByteArray.data_extract, List.extract_eq_take_drop]
  · cases h
    obtain rfl := hx.nils'
    exact ⟨[], by simp, trivial, rfl, fun m hm w' _ => by simp [Builtin.firstCells], fun _ => ⟨_, _, rfl, Nat.le_refl _⟩⟩
  · cases h
    obtain ⟨a, rfl⟩ := hx.z0'
    exact ⟨[], by simp, trivial, rfl, hcell a 0 [] (by simp) (by simp), fun _ => ⟨_, _, rfl, Nat.le_refl _⟩⟩
  · cases h
    obtain ⟨a, c, rfl⟩ := hx.e0'
    exact ⟨[], by simp, trivial, rfl, hcell a c [] (by simp) (by simp), fun _ => ⟨_, _, rfl, by omega⟩⟩
  · rename_i cs m
    split at h
    case isFalse => cases h
    rename_i hle
    cases h
    cases hx with
    | rr hh =>
      cases hh with
      | ro ys hA hsp hn hc o1 hr =>
        rename_i a c
        obtain ⟨q1, q2⟩ := cells_ro (φ := φ) (H := H) hsp hc o1 hr _ hle
        exact ⟨_, by rw [List.length_take]; omega, q1, rfl, hcell a c _ (by simp) q2, fun _ => ⟨_, _, rfl, hn⟩⟩
  · rename_i id off m cap k'
    cases hb : H0[id]? with
    | none => rw [hb] at h; cases h
    | some b =>
      rw [hb] at h
      cases b <;> simp only at h <;> try (cases h; done)
      rename_i cs0
      split at h
      case isFalse => cases h
      rename_i hle
      cases h
      have hb' := hs id _ hb
      cases hx with
      | rr hh => cases hh
      | sdead a c hd => rw [hb'] at hd; cases hd
      | sl hr hn hc' hx' =>
        rename_i r c
        obtain ⟨us, rest, elem, hh, hc⟩ := (g.block hr hb').row
        have hlc := hc.length
        refine ⟨(us.drop off).take (n * k), by simp only [List.length_take, List.length_drop]; omega, (hc.drop off).take _, rfl, hcell _ c _ (by simp only [List.length_take, List.length_drop]; omega) (fun j v hj => ?_), fun _ => ⟨_, _, rfl, hn⟩⟩
        rw [addr_add rfl, cell_row hh]
        obtain ⟨hj1, hj2⟩ := List.getElem?_eq_some_iff.1 hj
        simp only [List.length_take, List.length_drop] at hj1
        simp only [List.getElem_take, List.getElem_drop] at hj2
        simp only [List.getElem?_toArray]
        rw [List.getElem?_append_left (by omega), List.getElem?_eq_getElem (by omega), hj2]
end
end Go.Eng
