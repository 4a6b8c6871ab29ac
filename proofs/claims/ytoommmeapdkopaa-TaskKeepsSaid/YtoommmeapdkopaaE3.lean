/-
  ENGINE, part 3: rows of cells: read and written.
-/
import Derived.Test.YtoommmeapdkopaaE2
namespace Go.Eng

def Sub (H Hb : Heap) : Prop := ∀ (i : Nat) (b : B), H[i]? = some b → Hb[i]? = some b
theorem Sub.refl (H : Heap) : Sub H H := fun _ _ h => h
theorem Sub.app (H N : Heap) : Sub H (H ++ N) := fun i b h => by
  rw [List.getElem?_append_left (by exact (List.getElem?_eq_some_iff.1 h).1)]; exact h
theorem Sub.trans {H H' H'' : Heap} (h : Sub H H') (h' : Sub H' H'') : Sub H H'' := fun i b hb => h' i b (h i b hb)

def CL (φ : Phi) (H : Heap) (A : Nat → Prop) (w : World) : List V → List Value → Prop
  | [], [] => True
  | v :: vs, u :: us => (VR φ H A w v u ∧ u.oneCell' = true) ∧ CL φ H A w vs us
  | _, _ => False

section
variable {φ : Phi} {H : Heap} {A : Nat → Prop} {w : World}
theorem CL.length : ∀ {cs : List V} {us : List Value}, CL φ H A w cs us → us.length = cs.length
  | [], [], _ => rfl
  | _ :: _, _ :: _, h => by simp [CL.length h.2]
  | [], _ :: _, h => h.elim
  | _ :: _, [], h => h.elim
theorem CL.of_index : ∀ {cs : List V} {us : List Value}, us.length = cs.length → (∀ i (h : i < cs.length), VR φ H A w cs[i] (us.getD i undef) ∧ (us.getD i undef).oneCell' = true) → CL φ H A w cs us
  | [], [], _, _ => trivial
  | v :: vs, u :: us, hl, h => ⟨h 0 (Nat.succ_pos _), CL.of_index (by simpa using hl) (fun i hi => h (i + 1) (Nat.succ_lt_succ hi))⟩
  | [], _ :: _, hl, _ => by simp at hl
  | _ :: _, [], hl, _ => by simp at hl
theorem CL.index : ∀ {cs : List V} {us : List Value}, CL φ H A w cs us → ∀ i (h : i < cs.length), VR φ H A w cs[i] (us.getD i undef) ∧ (us.getD i undef).oneCell' = true
  | [], [], _, i, h => by simp at h
  | v :: vs, u :: us, h, 0, _ => h.1
  | v :: vs, u :: us, h, i + 1, hi => CL.index h.2 i (Nat.lt_of_succ_lt_succ hi)
  | [], _ :: _, h, _, _ => h.elim
  | _ :: _, [], h, _, _ => h.elim
theorem CL.append {cs : List V} {us : List Value} {cs' : List V} {us' : List Value} (h : CL φ H A w cs us) (h' : CL φ H A w cs' us') : CL φ H A w (cs ++ cs') (us ++ us') := by
  induction cs generalizing us with
  | nil => cases us with | nil => exact h' | cons => exact h.elim
  | cons v vs ih => cases us with | nil => exact h.elim | cons u us => exact ⟨h.1, ih h.2⟩
theorem CL.take {cs : List V} {us : List Value} (h : CL φ H A w cs us) (n : Nat) : CL φ H A w (cs.take n) (us.take n) := by
  induction n generalizing cs us with
  | zero => simp [CL]
  | succ n ih => cases cs with
    | nil => cases us with | nil => trivial | cons => exact h.elim
    | cons v vs => cases us with | nil => exact h.elim | cons u us => exact ⟨h.1, ih h.2⟩
theorem CL.drop {cs : List V} {us : List Value} (h : CL φ H A w cs us) (n : Nat) : CL φ H A w (cs.drop n) (us.drop n) := by
  induction n generalizing cs us with
  | zero => simpa using h
  | succ n ih => cases cs with
    | nil => cases us with | nil => trivial | cons => exact h.elim
    | cons v vs => cases us with | nil => exact h.elim | cons u us => exact ih h.2
theorem CL.mono {φ' H' A' w'} {cs : List V} {us : List Value} (h : CL φ H A w cs us) (hv : ∀ v u, VR φ H A w v u → VR φ' H' A' w' v u) : CL φ' H' A' w' cs us := by
  induction cs generalizing us with
  | nil => cases us with | nil => trivial | cons => exact h.elim
  | cons v vs ih => cases us with | nil => exact h.elim | cons u us => exact ⟨⟨hv _ _ h.1.1, h.1.2⟩, ih h.2⟩
theorem CL.all {cs : List V} {us : List Value} (h : CL φ H A w cs us) : ∀ u ∈ us, u.oneCell' = true := by
  induction cs generalizing us with
  | nil => cases us with | nil => simp | cons => exact h.elim
  | cons v vs ih => cases us with
    | nil => exact h.elim
    | cons u us =>
      intro x hx
      rcases List.mem_cons.1 hx with rfl | hx
      · exact h.1.2
      · exact ih h.2 x hx
theorem CL.rep {zs : List V} {us : List Value} (h : CL φ H A w zs us) (n : Nat) : CL φ H A w (rep n zs) (List.replicate n us).flatten := by
  induction n with
  | zero => simp [Eng.rep, CL]
  | succ n ih => rw [Eng.rep, List.replicate_succ, List.replicate_succ, List.flatten_cons, List.flatten_cons]; exact h.append ih

theorem addr_add {a : Addr} (h : a.spot = none) (j : Nat) : a.add j = ⟨a.block, a.off + j, none⟩ := by
  cases a; simp only at h; subst h; simp only [Addr.add]; split
  · subst_vars; rfl
  · rfl

theorem CL.of_cells {cs : List V} {vs : Array Value} (hl : vs.size = cs.length) (h1 : ∀ i, i < cs.length → (vs.getD i undef).oneCell' = true) (hr : ∀ i (h : i < cs.length), VR φ H A w cs[i] (vs.getD i undef)) : CL φ H A w cs vs.toList :=
  CL.of_index (by simpa using hl) (fun i h => by
    have e : vs.toList.getD i undef = vs.getD i undef := by
      have hi : i < vs.size := by omega
      simp [List.getD, Array.getD, hi]
    rw [e]; exact ⟨hr i h, h1 i h⟩)

theorem CL.cells_of {cs : List V} {us : List Value} (h : CL φ H A w cs us) : us.toArray.size = cs.length ∧ (∀ i, i < cs.length → (us.toArray.getD i undef).oneCell' = true) ∧ ∀ i (h : i < cs.length), VR φ H A w cs[i] (us.toArray.getD i undef) := by
  have hl := h.length
  have e : ∀ i, i < cs.length → us.toArray.getD i undef = us.getD i undef := fun i hi => by
    have : i < us.length := by omega
    simp [List.getD, Array.getD, this]
  exact ⟨by simpa using hl, fun i hi => by rw [e i hi]; exact (h.index i hi).2, fun i hi => by rw [e i hi]; exact (h.index i hi).1⟩

theorem CL.agg {cs : List V} {us : List Value} (h : CL φ H A w cs us) : VR φ H A w (.agg cs) (.agg us.toArray) :=
  let ⟨a, b, c⟩ := h.cells_of; .agg a b c

theorem VR.cells {v : V} {u : Value} (h : VR φ H A w v u) (hv : notTup v = true) : CL φ H A w (cellsV v) u.cells.toList := by
  by_cases ho : oneC v = true
  · have hu := h.one ho
    have e1 : cellsV v = [v] := by cases v <;> first | rfl | (simp [oneC] at ho; done)
    have e2 : u.cells.toList = [u] := by cases u <;> first | rfl | (simp [Value.oneCell'] at hu; done)
    rw [e1, e2]; exact ⟨⟨h, hu⟩, trivial⟩
  · cases v <;> first | (simp [oneC] at ho; done) | (simp [notTup] at hv; done) | skip
    obtain ⟨vs, rfl, hl, h1, hr⟩ := h.agg'
    exact CL.of_cells hl h1 hr

theorem Good.block (g : Good φ H A w) {id r : Nat} {b : B} (h : φ id = some r) (hb : H[id]? = some b) : BR φ H A w b r := by
  obtain ⟨_, _, b', hb', hr⟩ := g.dom id r h
  rw [hb] at hb'; cases hb'; exact hr

theorem BR.row {cs : List V} {r : Nat} (h : BR φ H A w (.cells cs) r) : ∃ (us rest : List Value) (elem : TypeId), w.heap[r]? = some (.cells (us ++ rest).toArray elem (0, 0)) ∧ CL φ H A w cs us := by
  obtain ⟨arr, elem, hh, hl, hr⟩ := h
  refine ⟨arr.toList.take cs.length, arr.toList.drop cs.length, elem, by simpa using hh, CL.of_index (by simp; omega) (fun i hi => ?_)⟩
  have e : (arr.toList.take cs.length).getD i undef = arr.getD i undef := by
    have : i < arr.size := by omega
    simp [List.getD, Array.getD, this, hi]
  rw [e]; exact hr i hi

theorem BR.of_row {cs : List V} {r : Nat} {us rest : List Value} {elem : TypeId} (hh : w.heap[r]? = some (.cells (us ++ rest).toArray elem (0, 0))) (h : CL φ H A w cs us) : BR φ H A w (.cells cs) r := by
  have hl := h.length
  refine ⟨_, elem, hh, by simp; omega, fun i hi => ?_⟩
  have e : (us ++ rest).toArray.getD i undef = us.getD i undef := by
    have h1 : i < us.length := by omega
    have h2 : i < (us ++ rest).length := by simp; omega
    simp only [Array.getD, List.size_toArray, h2, dif_pos, List.getD, List.getElem?_eq_getElem h1, Option.getD_some]
    simp [List.getElem_append_left h1]
  rw [e]; exact h.index i hi

theorem cell_row {r : Nat} {arr : Array Value} {elem : TypeId} {fr : Nat × Nat} (h : w.heap[r]? = some (.cells arr elem fr)) (o : Nat) : w.cell? ⟨r, o, none⟩ = arr[o]? := by
  simp [World.cell?, h]

theorem rd_sound {H0 : Heap} {p : V} {u : Value} {k : Nat} {cs : List V} (g : Good φ H A w) (hs : Sub H0 H) (hp : VR φ H A w p u) (h : rd H0 p k = some cs) :
    ∃ a us, u = .pointer (some a) ∧ cs.length = k ∧ CL φ H A w cs us ∧ ∀ j v, us[j]? = some v → w.cell? (a.add j) = some v := by
  cases p <;> simp only [rd] at h <;> try (cases h; done)
  case ptr id off =>
    cases hb : H0[id]? with
    | none => rw [hb] at h; cases h
    | some b =>
      rw [hb] at h
      cases b <;> simp only at h <;> try (cases h; done)
      rename_i cs0
      split at h
      · rename_i hlt
        cases h
        have hb' := hs id _ hb
        cases hp with
        | rr h => cases h
        | pdead a hd => rw [hb'] at hd; cases hd
        | ptr hr =>
          rename_i r
          obtain ⟨us, rest, elem, hh, hc⟩ := (g.block hr hb').row
          refine ⟨_, (us.drop off).take k, rfl, by simp; omega, (hc.drop off).take k, fun j v hj => ?_⟩
          have hl := hc.length
          rw [addr_add rfl, cell_row hh]
          obtain ⟨hj1, hj2⟩ := List.getElem?_eq_some_iff.1 hj
          simp only [List.length_take, List.length_drop] at hj1
          simp only [List.getElem_take, List.getElem_drop] at hj2
          simp only [List.getElem?_toArray]
          rw [List.getElem?_append_left (by omega), List.getElem?_eq_getElem (by omega), hj2]
      · cases h
  case rptr cs0 =>
    split at h
    · rename_i hlt
      cases h
      cases hp with
      | rr h =>
        cases h with
        | rptr ys hA hsp hc h1 hr =>
          rename_i a
          refine ⟨a, (List.range k).map ys, rfl, by simp; omega, CL.of_index (by simp; omega) (fun i hi => ?_), fun j v hj => ?_⟩
          · simp only [List.length_take] at hi
            have e : ((List.range k).map ys).getD i undef = ys i := by
              have : i < k := by omega
              simp [List.getD, this]
            rw [e]
            simp only [List.getElem_take]
            exact ⟨.rr (hr i (by omega)), h1 i (by omega)⟩
          · obtain ⟨hj1, hj2⟩ := List.getElem?_eq_some_iff.1 hj
            simp only [List.length_map, List.length_range] at hj1
            simp only [List.getElem_map, List.getElem_range] at hj2
            rw [addr_add hsp, hc j (by omega), hj2]
    · cases h

theorem cells_ro {cs0 : List V} {a : Addr} {ys : Nat → Value} (hsp : a.spot = none)
    (hc : ∀ i, i < cs0.length → w.cell? ⟨a.block, a.off + i, none⟩ = some (ys i)) (h1 : ∀ i, i < cs0.length → (ys i).oneCell' = true) (hr : ∀ i (h : i < cs0.length), RR A w cs0[i] (ys i)) (k : Nat) (hk : k ≤ cs0.length) :
    CL φ H A w (cs0.take k) ((List.range k).map ys) ∧ ∀ j v, ((List.range k).map ys)[j]? = some v → w.cell? (a.add j) = some v := by
  refine ⟨CL.of_index (by simp; omega) (fun i hi => ?_), fun j v hj => ?_⟩
  · simp only [List.length_take] at hi
    have e : ((List.range k).map ys).getD i undef = ys i := by
      have : i < k := by omega
      simp [List.getD, this]
    rw [e]
    simp only [List.getElem_take]
    exact ⟨.rr (hr i (by omega)), h1 i (by omega)⟩
  · obtain ⟨hj1, hj2⟩ := List.getElem?_eq_some_iff.1 hj
    simp only [List.length_map, List.length_range] at hj1
    simp only [List.getElem_map, List.getElem_range] at hj2
    rw [addr_add hsp, hc j (by omega), hj2]

end
end Go.Eng
