/- What functions of the program return, proved over the interpreter. Each theorem says its conditions. -/
import Derived.Test.YtoommmeapdkopaaZDecA
namespace Go.Proofs.Ytoommmeapdkopaa.E
open Go Go.Eng
abbrev tI : Ty := .int .i64

/-- has -/
theorem c22 {x : V} {l : List Int} {H : Heap} (hx : Sh H 1 tI.R x l) {n : Int} {k : V → Heap → Prop} (h : k (.bool (decide (n ∈ l))) H) : Cl G 22 [x, .int .i64 n] H k := by
  obtain ⟨v, hv, hx⟩ := hx
  refine Cl.any (F := i22) rfl rfl (args' := [v, .int .i64 n]) (by simp [mapO, hv]) ?_
  rw [w22]
  refine ub22_0 l.length (fun i a b c _ => a = v ∧ b = .int .i64 n ∧ c = .int .i64 i ∧ n ∉ l.take i) ?_ 0 (Nat.zero_le _) ⟨rfl, rfl, rfl, by simp⟩
  rintro i hi _ _ _ _ ⟨rfl, rfl, rfl, hn⟩
  intros
  rw [wb22_0]
  have hle := hx.le
  simp only [hx.lens, bd_some, binV_lss, ifB_bool, decide_eq_true_eq, Int.ofNat_lt]
  split
  · rename_i hlt
    obtain ⟨r, e⟩ := hx.int1 hlt
    simp only [e, bd_some, ldV_one, binV_eql, ifB_bool, decide_eq_true_eq]
    split
    · rename_i heq
      simpa [show n ∈ l from heq ▸ List.getElem_mem _] using h
    · rename_i hne
      simp only [binV_add, bd_some, wrap_succ (show i + 1 ≤ 9223372036854775807 by unfold top at hle; omega), upQ_n, Sb22_0_eq, true_and]
      exact ⟨i + 1, by omega, by omega, by simp [mem_take_succ hlt, hn, Ne.symm hne]⟩
  · rename_i hge
    rw [take_all hge] at hn
    simpa [hn, wr22_1] using h

/-- slices.Equal of numbers -/
theorem c33 {x y : V} {l1 l2 : List Int} {H : Heap} (hx : Sh H 1 tI.R x l1) (hy : Sh H 1 tI.R y l2) {k : V → Heap → Prop} (h : k (.bool (decide (l1 = l2))) H) : Cl G 33 [x, y] H k := by
  obtain ⟨v, hv, hx⟩ := hx
  obtain ⟨w, hw, hy⟩ := hy
  refine Cl.any (F := i33) rfl rfl (args' := [v, w]) (by simp [mapO, hv, hw]) ?_
  rw [w33]
  have hle := hx.le
  simp only [hx.lens, hy.lens, bd_some, binV_neq, ifB_bool, Bool.not_eq_true', decide_eq_false_iff_not, Int.ofNat_inj, ite_not]
  split
  case isFalse hne => simpa [show l1 ≠ l2 from fun e => hne (by rw [e])] using h
  case isTrue hln =>
  refine ub33_0 l1.length (fun i a b c d _ => a = v ∧ b = w ∧ c = .int .i64 l1.length ∧ d = .int .i64 i ∧ l1.take i = l2.take i) ?_ 0 (Nat.zero_le _) ⟨rfl, rfl, rfl, rfl, by simp⟩
  rintro i hi _ _ _ _ _ ⟨rfl, rfl, rfl, rfl, he⟩
  intros
  rw [wb33_0]
  simp only [bd_some, binV_lss, ifB_bool, decide_eq_true_eq, Int.ofNat_lt]
  split
  · rename_i hlt
    obtain ⟨r, e⟩ := hx.int1 hlt
    obtain ⟨r', e'⟩ := hy.int1 (show i < l2.length by omega)
    simp only [e, e', bd_some, ldV_one, binV_neq, ifB_bool, Bool.not_eq_true', decide_eq_false_iff_not, ite_not]
    split
    · rename_i heq
      simp only [binV_add, bd_some, wrap_succ (show i + 1 ≤ 9223372036854775807 by unfold top at hle; omega), upQ_n, Sb33_0_eq, true_and]
      exact ⟨i + 1, by omega, by omega, rfl, (agree_succ hlt (by omega)).2 ⟨he, heq⟩⟩
    · rename_i hne
      simpa [show l1 ≠ l2 from fun e => hne (by subst e; rfl)] using h
  · rename_i hge
    simpa [agree_all hge hln he, wr33_1] using h

/-- slices.Equal of strings -/
theorem c36 {x y : V} {l1 l2 : List (List UInt8)} {H : Heap} (hx : Sh H 1 (Ty.R .str) x l1) (hy : Sh H 1 (Ty.R .str) y l2) {k : V → Heap → Prop} (h : k (.bool (decide (l1 = l2))) H) : Cl G 36 [x, y] H k := by
  obtain ⟨v, hv, hx⟩ := hx
  obtain ⟨w, hw, hy⟩ := hy
  refine Cl.any (F := i36) rfl rfl (args' := [v, w]) (by simp [mapO, hv, hw]) ?_
  rw [w36]
  have hle := hx.le
  simp only [hx.lens, hy.lens, bd_some, binV_neq, ifB_bool, Bool.not_eq_true', decide_eq_false_iff_not, Int.ofNat_inj, ite_not]
  split
  case isFalse hne => simpa [show l1 ≠ l2 from fun e => hne (by rw [e])] using h
  case isTrue hln =>
  refine ub36_0 l1.length (fun i a b c d _ => a = v ∧ b = w ∧ c = .int .i64 l1.length ∧ d = .int .i64 i ∧ l1.take i = l2.take i) ?_ 0 (Nat.zero_le _) ⟨rfl, rfl, rfl, rfl, by simp⟩
  rintro i hi _ _ _ _ _ ⟨rfl, rfl, rfl, rfl, he⟩
  intros
  rw [wb36_0]
  simp only [bd_some, binV_lss, ifB_bool, decide_eq_true_eq, Int.ofNat_lt]
  split
  · rename_i hlt
    obtain ⟨r, e⟩ := hx.str1 hlt
    obtain ⟨r', e'⟩ := hy.str1 (show i < l2.length by omega)
    simp only [e, e', bd_some, ldV_one, binV_sneq, ifB_bool, Bool.not_eq_true', decide_eq_false_iff_not, ite_not]
    split
    · rename_i heq
      simp only [binV_add, bd_some, wrap_succ (show i + 1 ≤ 9223372036854775807 by unfold top at hle; omega), upQ_n, Sb36_0_eq, true_and]
      exact ⟨i + 1, by omega, by omega, rfl, (agree_succ hlt (by omega)).2 ⟨he, heq⟩⟩
    · rename_i hne
      simpa [show l1 ≠ l2 from fun e => hne (by subst e; rfl)] using h
  · rename_i hge
    simpa [agree_all hge hln he, wr36_1] using h

/-- same -/
theorem c19 {x y : V} {l1 l2 : List Int} {H : Heap} (hx : Sh H 1 tI.R x l1) (hy : Sh H 1 tI.R y l2) {k : V → Heap → Prop} (h : k (.bool (decide (l1 = l2))) H) : Cl G 19 [x, y] H k := by
  obtain ⟨v, hv, hx⟩ := hx
  obtain ⟨w, hw, hy⟩ := hy
  refine Cl.any (F := i19) rfl rfl (args' := [v, w]) (by simp [mapO, hv, hw]) ?_
  rw [w19]
  have hle := hx.le
  simp only [hx.lens, hy.lens, bd_some, binV_neq, ifB_bool, Bool.not_eq_true', decide_eq_false_iff_not, Int.ofNat_inj, ite_not]
  split
  case isFalse hne => simpa [show l1 ≠ l2 from fun e => hne (by rw [e])] using h
  case isTrue hln =>
  refine ub19_0 l1.length (fun i a b d _ => a = v ∧ b = w ∧ d = .int .i64 i ∧ l1.take i = l2.take i) ?_ 0 (Nat.zero_le _) ⟨rfl, rfl, rfl, by simp⟩
  rintro i hi _ _ _ _ ⟨rfl, rfl, rfl, he⟩
  intros
  rw [wb19_0]
  simp only [hx.lens, bd_some, binV_lss, ifB_bool, decide_eq_true_eq, Int.ofNat_lt]
  split
  · rename_i hlt
    obtain ⟨r, e⟩ := hx.int1 hlt
    obtain ⟨r', e'⟩ := hy.int1 (show i < l2.length by omega)
    simp only [e, e', bd_some, ldV_one, binV_neq, ifB_bool, Bool.not_eq_true', decide_eq_false_iff_not, ite_not]
    split
    · rename_i heq
      simp only [binV_add, bd_some, wrap_succ (show i + 1 ≤ 9223372036854775807 by unfold top at hle; omega), upQ_n, Sb19_0_eq, true_and]
      exact ⟨i + 1, by omega, by omega, rfl, (agree_succ hlt (by omega)).2 ⟨he, heq⟩⟩
    · rename_i hne
      simpa [show l1 ≠ l2 from fun e => hne (by subst e; rfl)] using h
  · rename_i hge
    simpa [agree_all hge hln he, wr19_1] using h
end Go.Proofs.Ytoommmeapdkopaa.E
