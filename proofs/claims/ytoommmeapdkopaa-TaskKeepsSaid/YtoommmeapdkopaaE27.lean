/-
  ENGINE, part 27: rows of numbers and strings, element by element; numbers.
-/
import Derived.Test.YtoommmeapdkopaaE26
namespace Go.Eng

section
variable {k : Nat} {v : V} {H : Heap}
theorem Arr.int1 {κ : IntKind} {l : List Int} (h : Arr 1 (Ty.R (.int κ)) v l) {i : Nat} (hi : i < l.length) : ∃ rest, iadrV 1 v (.int .i64 i) = some (.rptr (.int κ l[i] :: rest)) := by
  obtain ⟨c, r, ⟨rfl, _⟩, _, e⟩ := h.iadr hi
  exact ⟨r, e⟩
theorem Arr.str1 {l : List (List UInt8)} (h : Arr 1 (Ty.R .str) v l) {i : Nat} (hi : i < l.length) : ∃ rest, iadrV 1 v (.int .i64 i) = some (.rptr (.str l[i] :: rest)) := by
  obtain ⟨c, r, ⟨rfl, _⟩, _, e⟩ := h.iadr hi
  exact ⟨r, e⟩
theorem Arr.all {α : Type} {R : α → List V → Prop} {l : List α} (h : Arr k R v l) {P : α → Prop} (hP : ∀ x c, R x c → P x) : ∀ x ∈ l, P x := by
  obtain ⟨css, h1, h2, _, _⟩ := h
  intro x hx
  obtain ⟨i, hi, rfl⟩ := List.mem_iff_getElem.1 hx
  exact hP _ _ (h2 i hi (by omega))
end
@[simp] theorem ldV_s2 {H : Heap} {a b : V} {r : List V} : ldV H (.rptr (a :: b :: r)) 2 true = some (.agg [a, b]) := by simp [ldV, rd, packV]
@[simp] theorem ldV_s3 {H : Heap} {a b c : V} {r : List V} : ldV H (.rptr (a :: b :: c :: r)) 3 true = some (.agg [a, b, c]) := by simp [ldV, rd, packV]
@[simp] theorem ldV_s4 {H : Heap} {a b c d : V} {r : List V} : ldV H (.rptr (a :: b :: c :: d :: r)) 4 true = some (.agg [a, b, c, d]) := by simp [ldV, rd, packV]
@[simp] theorem bxrV_agg {cs : List V} (h : closedVs cs = true) : bxrV (.agg cs) = some (.rptr cs) := by simp [bxrV, notTup, cellsV, h]
@[simp] theorem closedVs_nil : closedVs [] = true := nrfl
@[simp] theorem closedVs_cons {v : V} {r : List V} : closedVs (v :: r) = (closedV v && closedVs r) := nrfl
@[simp] theorem closedV_str {s : List UInt8} : closedV (.str s) = true := nrfl
@[simp] theorem closedV_int {κ : IntKind} {n : Int} : closedV (.int κ n) = true := nrfl
@[simp] theorem closedV_bool {b : Bool} : closedV (.bool b) = true := nrfl
@[simp] theorem closedV_agg {cs : List V} : closedV (.agg cs) = closedVs cs := nrfl
@[simp] theorem closedV_fn {f : FuncId} {cs : List V} : closedV (.fn f cs) = closedVs cs := nrfl
@[simp] theorem closedV_rptr {cs : List V} : closedV (.rptr cs) = true := nrfl
@[simp] theorem closedV_ro {cs : List V} {n : Nat} : closedV (.ro cs n) = true := nrfl
@[simp] theorem closedV_nils : closedV .nils = true := nrfl

section
variable {H : Heap} {zs cs ds : List V} {k : Nat}
theorem ldV_prev (hc : cs.length = k) {d : B} : ldV ((H ++ [.cells cs]) ++ [d]) (.ptr H.length 0) k true = some (.agg cs) := by
  rw [List.append_assoc, List.singleton_append]; exact ldV_new hc
theorem ldV_last (hc : cs.length = k) : ldV (H ++ [.cells cs]) (.ptr H.length 0) k true = some (.agg cs) := ldV_new hc
theorem ldV_last1 {off : Nat} {x : V} (hc : cs[off]? = some x) : ldV (H ++ [.cells cs]) (.ptr H.length off) 1 false = some x := ldV_new1 hc
end
@[simp] theorem ldrV_s2 {a b : V} {r : List V} : ldrV (.rptr (a :: b :: r)) 2 true = some (.agg [a, b]) := by simp [ldrV, rdr, packV]
@[simp] theorem ldrV_s4 {a b c d : V} {r : List V} : ldrV (.rptr (a :: b :: c :: d :: r)) 4 true = some (.agg [a, b, c, d]) := by simp [ldrV, rdr, packV]

theorem tk {α : Type} {l : List α} {i : Nat} (h : i < l.length) : l.take (i + 1) = l.take i ++ [l[i]] := (List.take_append_getElem h).symm
theorem mem_take_succ {α : Type} {l : List α} {i : Nat} (h : i < l.length) {x : α} : x ∈ l.take (i + 1) ↔ x ∈ l.take i ∨ x = l[i] := by
  rw [tk h]
  simp only [List.mem_append, List.mem_singleton]
theorem any_take_succ {α : Type} {l : List α} {i : Nat} (h : i < l.length) {p : α → Bool} : (l.take (i + 1)).any p = ((l.take i).any p || p l[i]) := by
  rw [tk h]
  simp only [List.any_append, List.any_cons, List.any_nil, Bool.or_false]
theorem all_take_succ {α : Type} {l : List α} {i : Nat} (h : i < l.length) {p : α → Bool} : (l.take (i + 1)).all p = ((l.take i).all p && p l[i]) := by
  rw [tk h]
  simp only [List.all_append, List.all_cons, List.all_nil, Bool.and_true]
theorem agree_succ {α : Type} {l1 l2 : List α} {i : Nat} (h1 : i < l1.length) (h2 : i < l2.length) : l1.take (i + 1) = l2.take (i + 1) ↔ l1.take i = l2.take i ∧ l1[i] = l2[i] := by
  rw [tk h1, tk h2]
  constructor
  · intro h
    have := List.append_inj h (by simp; omega)
    exact ⟨this.1, by simpa using this.2⟩
  · rintro ⟨h, h'⟩
    rw [h, h']
theorem agree_all {α : Type} {l1 l2 : List α} {i : Nat} (h : ¬ i < l1.length) (hl : l1.length = l2.length) (he : l1.take i = l2.take i) : l1 = l2 := by
  rwa [List.take_of_length_le (by omega), List.take_of_length_le (by omega)] at he
theorem take_all {α : Type} {l : List α} {i : Nat} (h : ¬ i < l.length) : l.take i = l := List.take_of_length_le (by omega)
end Go.Eng
