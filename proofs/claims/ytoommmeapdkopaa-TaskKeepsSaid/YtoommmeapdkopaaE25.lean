/-
  ENGINE, part 25: laws of the interpreter's heap, for the proofs over the residual propositions.
-/
import Derived.Test.YtoommmeapdkopaaE24
namespace Go.Eng

theorem ovl_whole {cs xs : List V} (h : xs.length = cs.length) : ovl cs 0 xs = xs := by
  unfold ovl
  split
  · rename_i x
    match cs, h with
    | [c], _ => rfl
  · simp [h]

theorem stV_new {H : Heap} {zs c : List V} {k : Nat} (hz : zs.length = k) (hc : c.length = k) : stV (H ++ [.cells zs]) k (.ptr H.length 0) (.agg c) = some (H ++ [.cells c]) := by
  simp only [stV, cellsV, hc, notTup, and_self, if_true, wrt]
  rw [List.getElem?_append_right (Nat.le_refl _)]
  simp only [Nat.sub_self, List.getElem?_cons_zero, Nat.zero_add, hz, Nat.le_refl, if_true]
  rw [List.set_append_right _ _ (Nat.le_refl _), ovl_whole (by omega)]
  simp
theorem ldV_new {H : Heap} {c : List V} {rest : Heap} {k : Nat} (hc : c.length = k) : ldV (H ++ .cells c :: rest) (.ptr H.length 0) k true = some (.agg c) := by
  simp only [ldV, rd]
  rw [List.getElem?_append_right (Nat.le_refl _)]
  simp [packV, ← hc]
theorem ldV_new1 {H : Heap} {c : List V} {rest : Heap} {off : Nat} {x : V} (hc : c[off]? = some x) : ldV (H ++ .cells c :: rest) (.ptr H.length off) 1 false = some x := by
  simp only [ldV, rd]
  rw [List.getElem?_append_right (Nat.le_refl _)]
  obtain ⟨h1, h2⟩ := List.getElem?_eq_some_iff.1 hc
  simp only [Nat.sub_self, List.getElem?_cons_zero]
  rw [if_pos (show off + 1 ≤ c.length from h1), List.drop_eq_getElem_cons h1]
  simp [packV, h2]
@[simp] theorem fadrV_ptr {id o off : Nat} : fadrV off (.ptr id o) = some (.ptr id (o + off)) := nrfl
end Go.Eng
