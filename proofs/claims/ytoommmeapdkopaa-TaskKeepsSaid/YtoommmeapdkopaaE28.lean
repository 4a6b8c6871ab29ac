/-
  ENGINE, part 28: blocks that one owns; first errors; parts of rows.
-/
import Derived.Test.YtoommmeapdkopaaE27
namespace Go.Eng

section
variable {H : Heap} {id off : Nat} {cs : List V} {x : V}
theorem ldV_own (h : H[id]? = some (.cells cs)) (hc : cs[off]? = some x) : ldV H (.ptr id off) 1 false = some x := by
  obtain ⟨h1, h2⟩ := List.getElem?_eq_some_iff.1 hc
  simp only [ldV, rd, h]
  rw [if_pos (show off + 1 ≤ cs.length from h1), List.drop_eq_getElem_cons h1]
  simp [packV, h2]
theorem ldV_own_all {k : Nat} (h : H[id]? = some (.cells cs)) (hc : cs.length = k) : ldV H (.ptr id 0) k true = some (.agg cs) := by
  simp [ldV, rd, h, ← hc, packV]
theorem stV_own (h : H[id]? = some (.cells cs)) (ho : off < cs.length) (hx : oneC x = true) : stV H 1 (.ptr id off) x = some (H.set id (.cells (cs.set off x))) := by
  have e : cellsV x = [x] := by cases x <;> first | rfl | (simp [oneC] at hx; done)
  have n : notTup x = true := by cases x <;> first | rfl | (simp [oneC] at hx; done)
  simp only [stV, e, n, wrt, h, List.length_singleton, and_self, if_true]
  rw [if_pos (show off + 1 ≤ cs.length from ho)]
  rfl
theorem closeV_fn {d : Nat} {f : FuncId} : closeV H (d + 1) (.fn f cs) = (mapO (closeV H d) cs).map (.fn f) := rfl
theorem closeV_agg {d : Nat} : closeV H (d + 1) (.agg cs) = (mapO (closeV H d) cs).map .agg := rfl
theorem closeV_tup {d : Nat} : closeV H (d + 1) (.tup cs) = (mapO (closeV H d) cs).map .tup := rfl
theorem closeV_ptr {d : Nat} (h : H[id]? = some (.cells cs)) : closeV H (d + 1) (.ptr id off) = (mapO (closeV H d) (cs.drop off)).map .rptr := by simp only [closeV, h]
theorem closeV_sl {d n cap k : Nat} (h : H[id]? = some (.cells cs)) (hn : off + n * k ≤ cs.length) : closeV H (d + 1) (.sl id off n cap k) = (mapO (closeV H d) ((cs.drop off).take (n * k))).map fun l => .ro l n := by simp only [closeV, h, hn, if_true]
theorem close_ptr {f : FuncId} {cs' : List V} (h : H[id]? = some (.cells cs)) (hc : mapO (closeV H 10) (cs.drop off) = some cs') : closeV H closeDepth (.fn f [.ptr id off]) = some (.fn f [.rptr cs']) := by
  rw [show closeDepth = 11 + 1 from rfl, closeV_fn, mapO, closeV_ptr (d := 10) h, hc]
  rfl
theorem Arr.close {α : Type} {k d : Nat} {R : α → List V → Prop} {v : V} {l : List α} (h : Arr k R v l) : closeV H (d + 1) v = some v := by
  obtain ⟨_, _, _, _, _, _, rfl | ⟨_, rfl | rfl | rfl⟩⟩ := h <;> rfl
@[simp] theorem closeV_int {d : Nat} {κ : IntKind} {n : Int} : closeV H (d + 1) (.int κ n) = some (.int κ n) := nrfl
@[simp] theorem closeV_str {d : Nat} {s : List UInt8} : closeV H (d + 1) (.str s) = some (.str s) := nrfl
@[simp] theorem closeV_bool {d : Nat} {b : Bool} : closeV H (d + 1) (.bool b) = some (.bool b) := nrfl
end

theorem flatten_take {k : Nat} : ∀ (css : List (List V)) (i : Nat), (∀ c ∈ css, c.length = k) → css.flatten.take (i * k) = (css.take i).flatten
  | [], i, _ => by simp
  | c :: css, 0, _ => by simp
  | c :: css, i + 1, hc => by
    have h1 := hc c (by simp)
    rw [Nat.succ_mul, Nat.add_comm, List.flatten_cons, List.take_append, h1, List.take_of_length_le (by omega), Nat.add_sub_cancel_left, flatten_take css i (fun c hc' => hc c (by simp [hc']))]
    simp
theorem flatten_drop {k : Nat} : ∀ (css : List (List V)) (i : Nat), (∀ c ∈ css, c.length = k) → css.flatten.drop (i * k) = (css.drop i).flatten
  | [], i, _ => by simp
  | c :: css, 0, _ => by simp
  | c :: css, i + 1, hc => by
    have h1 := hc c (by simp)
    rw [Nat.succ_mul, Nat.add_comm, ← List.drop_drop, List.flatten_cons, ← h1, List.drop_left, h1]
    simpa using flatten_drop css i (fun c hc' => hc c (by simp [hc']))
theorem flatten_len {k : Nat} : ∀ (css : List (List V)), (∀ c ∈ css, c.length = k) → css.flatten.length = css.length * k
  | [], _ => by simp
  | c :: css, hc => by rw [List.flatten_cons, List.length_append, hc c (by simp), flatten_len css (fun c hc' => hc c (by simp [hc'])), List.length_cons, Nat.succ_mul]; omega

theorem Arr.slc_to {α : Type} {k : Nat} {R : α → List V → Prop} {v : V} {l : List α} (h : Arr k R v l) {i : Nat} (hi : i < l.length) : ∃ v', slcV k v none (some (.int .i64 i)) none = some v' ∧ Arr k R v' (l.take i) := by
  obtain ⟨css, h1, h2, h3, h4, h5, h6⟩ := h
  have hc : ∀ c ∈ css.take i, c.length = k := fun c hc => h3 c (List.mem_of_mem_take hc)
  have hR : ∀ j (h : j < (l.take i).length) (h' : j < (css.take i).length), R (l.take i)[j] (css.take i)[j] := fun j hj hj' => by
    simp only [List.getElem_take]; exact h2 j (by simp at hj; omega) (by simp at hj'; omega)
  have hi' : i ≤ l.length := by omega
  rcases h6 with rfl | ⟨h0, h6⟩
  · by_cases hz : i = 0
    · subst hz
      refine ⟨.e0, by simp [slcV, bnds, bnd], [], by simp, fun j hj => by simp at hj, by simp, by simp, by simp, .inr ⟨by simp, by simp⟩⟩
    · refine ⟨.ro (css.take i).flatten i, ?_, css.take i, by simp; omega, hR, hc, by simp; omega, ?_, .inl ?_⟩
      · have hz' : ¬ (i = 0) := hz
        simp [slcV, bnds, bnd, hi', hz', flatten_take css i h3]
      · rw [flatten_len _ hc, List.length_take, List.length_take, h1]
      · simp; omega
  · omega

def firstErr (f : Nat → Int) : Nat → Int
  | 0 => 0
  | m + 1 => if firstErr f m ≠ 0 then firstErr f m else f m
theorem firstErr_stop {f : Nat → Int} {i : Nat} (h0 : firstErr f i = 0) (h1 : f i ≠ 0) : ∀ m, i < m → firstErr f m = f i
  | m + 1, hm => by
    by_cases he : i = m
    · subst he; simp [firstErr, h0]
    · have := firstErr_stop h0 h1 m (by omega)
      simp [firstErr, this, h1]
theorem firstErr_next {f : Nat → Int} {i : Nat} (h0 : firstErr f i = 0) (h1 : f i = 0) : firstErr f (i + 1) = 0 := by simp [firstErr, h0, h1]
theorem firstErr_zero {f : Nat → Int} : ∀ {m : Nat}, firstErr f m = 0 ↔ ∀ i, i < m → f i = 0
  | 0 => by simp [firstErr]
  | m + 1 => by
    have := firstErr_zero (f := f) (m := m)
    simp only [firstErr]
    split
    · rename_i h
      constructor
      · intro h'; exact absurd h' h
      · intro h'; exact absurd (this.2 fun i hi => h' i (by omega)) h
    · rename_i h
      have h : firstErr f m = 0 := by simpa using h
      constructor
      · intro h' i hi
        by_cases e : i = m
        · subst e; exact h'
        · exact this.1 h i (by omega)
      · intro h'; exact h' m (by omega)

@[simp] theorem binV_sgeq {a b : List UInt8} : binV .geq (.str a) (.str b) = some (.bool (!Op.bytesLess a b)) := nrfl

theorem less_or_eq : ∀ (a b : List UInt8), (Op.bytesLess a b || decide (a = b)) = !Op.bytesLess b a
  | [], [] => by simp [Op.bytesLess]
  | [], b :: bs => by simp [Op.bytesLess]
  | a :: as, [] => by simp [Op.bytesLess]
  | a :: as, b :: bs => by
    have ih := less_or_eq as bs
    simp only [Op.bytesLess]
    by_cases h1 : a < b
    · have : ¬ b < a := fun h => absurd (UInt8.lt_trans h h1) (UInt8.lt_irrefl _)
      have ne : b ≠ a := fun h => by subst h; exact UInt8.lt_irrefl _ h1
      simp [h1, this, ne]
    · by_cases h2 : b < a
      · have ne : a ≠ b := fun h => by subst h; exact UInt8.lt_irrefl _ h2
        simp [h1, h2, ne]
      · have e : a = b := by
          have h1' : ¬ a.toNat < b.toNat := h1
          have h2' : ¬ b.toNat < a.toNat := h2
          exact UInt8.toNat_inj.1 (by omega)
        subst e
        simpa [h1] using ih
theorem binV_sleq {a b : List UInt8} : binV .leq (.str a) (.str b) = some (.bool (!Op.bytesLess b a)) := by
  simp only [binV, beq_eq_decide, less_or_eq]
end Go.Eng
