/-
  ENGINE, part 30: a new row handed over; choosing the least that is ready.
-/
import Derived.Test.YtoommmeapdkopaaE29
namespace Go.Eng

theorem hq2_gr {k n : Nat} {F H H1 : Heap} {v : V} {cs : List V} {K : V → Heap → Prop} (h : Gr k F H1 v cs n) (hc : ∀ H : Heap, mapO (closeV H closeDepth) cs = some cs) (hK : ∀ v' H', Gr k H H' v' cs n → K v' H') : hq 2 H K v H1 := by
  obtain ⟨h1, h2, h3, ⟨rfl, rfl⟩ | ⟨id, i1, rfl, i3⟩⟩ := h
  · simp only [Nat.zero_mul, List.length_eq_zero_iff] at h1
    subst h1
    exact hK _ _ Gr.nil
  · unfold hq handV
    rw [if_neg (by decide)]
    simp only [i3, h1, Nat.le_refl, and_self, if_true]
    have e : cs.take (n * k) = cs := List.take_of_length_le (by omega)
    rw [e, hc]
    refine hK _ _ ⟨h1, by simp, fun j hj => ?_, .inr ⟨H.length, Nat.le_refl _, rfl, by simp⟩⟩
    rw [List.getElem?_append_left hj]
theorem Cl.mode2 {G : Prog} {f : FuncId} {F : IFun} (hg : G.get f = some F) (hm : F.mode = 2) {args : List V} (hc : closedVs args = true) {H : Heap} {k : V → Heap → Prop} (h : runW G F args [] (hq 2 H k)) : Cl G f args H k := by
  refine Cl.closed hg (by omega) hc ?_
  rw [hm]
  exact h

section
variable {G : Prog} {b : IC} {Q : Cont} {ts : List V} {H : Heap} {id : Nat}
@[simp] theorem loopQ_n : loopQ G b Q .n ts H = Lp G b ts H Q := nrfl
@[simp] theorem loopQ_e : loopQ G b Q (.e id) ts H = Q (.e id) ts H := nrfl
@[simp] theorem loopQ_r : loopQ G b Q .r ts H = Q .r ts H := nrfl
end

theorem nodup_len : ∀ (n : Nat) (D : List Nat), D.Nodup → (∀ d ∈ D, d < n) → D.length ≤ n
  | 0, D, _, h => by
    cases D with
    | nil => simp
    | cons d D => exact absurd (h d (by simp)) (by omega)
  | n + 1, D, hd, h => by
    have h1 := nodup_len n (D.erase n) (hd.erase n) (fun d hm => by
      have := h d (List.mem_of_mem_erase hm)
      have ne : d ≠ n := fun e => by subst e; exact (List.Nodup.not_mem_erase hd) hm
      omega)
    have h2 := List.length_erase_le (a := n) (l := D)
    have h3 : D.length ≤ (D.erase n).length + 1 := by
      by_cases hm : n ∈ D
      · have := List.length_erase_of_mem hm; omega
      · rw [List.erase_of_not_mem hm]; omega
    omega

def greedy (n : Nat) (rd : List Nat → Nat → Bool) : Nat → List Nat → List Nat
  | 0, D => D
  | f + 1, D => match (List.range n).find? (rd D) with
    | none => D
    | some i => greedy n rd f (D ++ [i])

theorem find_range_none {n : Nat} {p : Nat → Bool} (h : ∀ j, j < n → p j = false) : (List.range n).find? p = none := by
  rw [List.find?_eq_none]
  intro j hj
  rw [h j (by simpa using hj)]; decide
theorem find_range_some {n i : Nat} {p : Nat → Bool} (hi : i < n) (hp : p i = true) (h : ∀ j, j < i → p j = false) : (List.range n).find? p = some i := by
  induction n with
  | zero => omega
  | succ n ih =>
    rw [List.range_succ, List.find?_append]
    by_cases e : i < n
    · rw [ih e]; rfl
    · have : i = n := by omega
      subst this
      rw [find_range_none h]
      simp [hp]
def flags (n : Nat) (D : List Nat) : List Bool := (List.range n).map fun i => decide (i ∈ D)
@[simp] theorem flags_len {n : Nat} {D : List Nat} : (flags n D).length = n := by simp [flags]
theorem flags_get {n : Nat} {D : List Nat} {i : Nat} (h : i < n) : (flags n D)[i]? = some (decide (i ∈ D)) := by simp [flags, h]
theorem flags_set {n : Nat} {D : List Nat} {i : Nat} : (flags n D).set i true = flags n (D ++ [i]) := by
  apply List.ext_getElem?
  intro j
  by_cases hj : j < n
  · rw [List.getElem?_set, flags_get (D := D) hj, flags_get (D := D ++ [i]) hj]
    by_cases e : i = j
    · subst e
      rw [if_pos rfl, if_pos (by simpa using hj)]
      simp
    · have : j ≠ i := fun h => e h.symm
      rw [if_neg e]
      simp [this]
  · rw [List.getElem?_eq_none (by simp; omega), List.getElem?_eq_none (by simp; omega)]
theorem flags_nil {n : Nat} : flags n [] = List.replicate n false := by
  apply List.ext_getElem?
  intro j
  by_cases hj : j < n
  · rw [flags_get hj, List.getElem?_replicate, if_pos hj]; simp
  · rw [List.getElem?_eq_none (by simp; omega), List.getElem?_eq_none (by simp; omega)]
theorem rep_one {n : Nat} {z : V} : rep n [z] = List.replicate n z := by
  induction n with
  | zero => rfl
  | succ n ih => simp only [rep, List.replicate_succ, List.flatten_cons] at ih ⊢; rw [ih]; rfl
end Go.Eng
