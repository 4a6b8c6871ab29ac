/- What functions of the program return, proved over the interpreter. Each theorem says its conditions. -/
import Derived.Test.YtoommmeapdkopaaZSB
import Derived.Test.YtoommmeapdkopaaZDecL3
import Derived.Test.YtoommmeapdkopaaZSKnown
namespace Go.Proofs.Ytoommmeapdkopaa.E
open Go Go.Eng

/-- what 'Few' asks -/
def fewTask (t : tTask.D) : Bool := decide (t.2.2.2.length ≤ 10) && decide (t.1.length ≤ 50) && decide (t.2.2.1.length ≤ 50)
def fewStation (s : tStation.D) : Bool := decide (s.2.length ≤ 5) && decide (s.1.length ≤ 50) && s.2.all fun t => decide (t.length ≤ 50)
def few (x : tShop.D) : Bool := decide (x.1.length ≤ 8) && decide (x.2.length ≤ 4) && x.1.all fewTask && x.2.all fewStation

theorem c11 {x : tShop.D} {v : V} (hx : tShop.V x v) {H : Heap} {k : V → Heap → Prop} (h : k (.bool (few x)) H) : Cl G 11 [v] H k := by
  obtain ⟨a, b, rfl, h1, h2⟩ := shop_v hx
  refine Cl.mode1 (F := i11) rfl rfl (by simp [h1.closed, h2.closed]) ?_
  rw [w11]
  have hle := h1.le
  have hle2 := h2.le
  by_cases n1 : x.1.length ≤ 8
  case neg =>
    have : 8 < (x.1.length : Int) := by omega
    simpa [h1.closed, h2.closed, h1.lens, h2.lens, few, n1, this] using h
  by_cases n2 : x.2.length ≤ 4
  case neg =>
    have q2 : 4 < (x.2.length : Int) := by omega
    have q1 : ¬ (8 < (x.1.length : Int)) := by omega
    simpa [h1.closed, h2.closed, h1.lens, h2.lens, few, n1, n2, q1, q2] using h
  have m1 : ¬ ((x.1.length : Int) > 8) := by omega
  have m2 : ¬ ((x.2.length : Int) > 4) := by omega
  simp only [bxrV_agg, closedVs_cons, closedVs_nil, h1.closed, h2.closed, Bool.and_self, bd_some, fadrV_rptr, List.drop_zero, List.drop_succ_cons, ldV_one, h1.lens, h2.lens, binV_gtr, m1, m2, decide_false, gdV_bool, beq_self_eq_true, wpg_true, pickV_bool, Bool.false_eq_true, if_false, ifB_bool]
  refine ub11_0 x.1.length (fun i p d _ => p = .rptr [a, b] ∧ d = .int .i64 i ∧ (x.1.take i).all fewTask = true) ?_ 0 (Nat.zero_le _) (by simp)
  rintro i hi _ _ H1 ⟨rfl, rfl, he⟩
  intros
  rw [wb11_0]
  simp only [h1.lens, bd_some, fadrV_rptr, List.drop_zero, ldV_one, binV_lss, ifB_bool, decide_eq_true_eq, Int.ofNat_lt]
  split
  · rename_i hlt
    obtain ⟨w, r, e, q⟩ := task_at h1 hlt
    have out : fewTask x.1[i] = false → few x = false := fun hf => by
      have : x.1.all fewTask = false := by rw [List.all_eq_false]; exact ⟨_, List.getElem_mem hlt, by rw [hf]; exact Bool.false_ne_true⟩
      simp [few, this]
    by_cases f1 : 10 < (x.1[i].2.2.2.length : Int)
    · simpa [e, q.lens, f1, out (by simp only [fewTask, Bool.and_eq_false_iff, decide_eq_false_iff_not]; omega)] using h
    by_cases f2 : 50 < (x.1[i].1.length : Int)
    · simpa [e, q.lens, f1, f2, out (by simp only [fewTask, Bool.and_eq_false_iff, decide_eq_false_iff_not]; omega)] using h
    by_cases f3 : 50 < (x.1[i].2.2.1.length : Int)
    · simpa [e, q.lens, f1, f2, f3, out (by simp only [fewTask, Bool.and_eq_false_iff, decide_eq_false_iff_not]; omega)] using h
    simp [e, q.lens, f1, f2, f3, wrap_succ (show i + 1 ≤ 9223372036854775807 by omega), -List.all_eq_true]
    exact ⟨i + 1, by omega, by omega, by simp, by rw [all_take_succ hlt, he, Bool.true_and]; simp only [fewTask, Bool.and_eq_true, decide_eq_true_eq]; omega⟩
  · rename_i hge
    rw [take_all hge] at he
    simp only [upQ_e, blockQ_e, if_true, seqQ_n, wr11_1]
    refine ub11_2 x.2.length (fun i p d _ => p = .rptr [a, b] ∧ d = .int .i64 i ∧ (x.2.take i).all fewStation = true) ?_ 0 (Nat.zero_le _) (by simp)
    rintro i hi _ _ H1 ⟨rfl, rfl, he2⟩
    intros
    rw [wb11_2]
    simp only [h2.lens, bd_some, fadrV_rptr, List.drop_succ_cons, List.drop_zero, ldV_one, binV_lss, ifB_bool, decide_eq_true_eq, Int.ofNat_lt]
    split
    · rename_i hlt
      obtain ⟨w, r, e, q⟩ := station_at h2 hlt
      have out : fewStation x.2[i] = false → few x = false := fun hf => by
        have : x.2.all fewStation = false := by rw [List.all_eq_false]; exact ⟨_, List.getElem_mem hlt, by rw [hf]; exact Bool.false_ne_true⟩
        simp [few, this]
      by_cases f1 : 5 < (x.2[i].2.length : Int)
      · simpa [e, q.lens, f1, out (by simp only [fewStation, Bool.and_eq_false_iff, decide_eq_false_iff_not]; omega)] using h
      by_cases f2 : 50 < (x.2[i].1.length : Int)
      · simpa [e, q.lens, f1, f2, out (by simp only [fewStation, Bool.and_eq_false_iff, decide_eq_false_iff_not]; omega)] using h
      simp [e, q.lens, f1, f2, -List.all_eq_true]
      refine ub11_3 x.2[i].2.length (fun j p d d' _ => p = .rptr [a, b] ∧ d = .int .i64 i ∧ d' = .int .i64 j ∧ (x.2[i].2.take j).all (fun t => decide (t.length ≤ 50)) = true) ?_ 0 (Nat.zero_le _) (by simp)
      rintro j hj _ _ _ H1 ⟨rfl, rfl, rfl, he3⟩
      intros
      rw [wb11_3]
      simp only [h2.lens, bd_some, fadrV_rptr, List.drop_succ_cons, List.drop_zero, ldV_one, e, q.lens, binV_lss, ifB_bool, decide_eq_true_eq, Int.ofNat_lt]
      split
      · rename_i hlt2
        obtain ⟨s, e2⟩ := q.str1 hlt2
        by_cases f3 : 50 < (x.2[i].2[j].length : Int)
        · have : (x.2[i].2.all fun t => decide (t.length ≤ 50)) = false := by rw [List.all_eq_false]; exact ⟨_, List.getElem_mem hlt2, by simp; omega⟩
          simpa [e2, f3, out (by simp [fewStation, this])] using h
        simp [e2, f3, wrap_succ (show j + 1 ≤ 9223372036854775807 by omega), -List.all_eq_true]
        exact ⟨j + 1, by omega, by omega, by simp, by rw [all_take_succ hlt2, he3, Bool.true_and, decide_eq_true_eq]; omega⟩
      · rename_i hge2
        rw [take_all hge2] at he3
        simp [wr11_4, wrap_succ (show i + 1 ≤ 9223372036854775807 by omega), -List.all_eq_true]
        exact ⟨i + 1, by omega, by omega, by simp, by rw [all_take_succ hlt, he2, Bool.true_and]; simp only [fewStation, he3, Bool.and_true, Bool.and_eq_true, decide_eq_true_eq]; omega⟩
    · rename_i hge2
      rw [take_all hge2] at he2
      simpa [wr11_5, few, n1, n2, he, he2, -List.all_eq_true] using h

/-- the law -/
theorem taskEqual_true {x y : tShop.D} {v w : V} (hx : tShop.V x v) (hy : tShop.V y w) : Cl G 3 [v, w] [] fun r _ => r = .bool true := by
  obtain ⟨a, b, rfl, h1, h2⟩ := shop_v hx
  obtain ⟨a', b', rfl, h1', h2'⟩ := shop_v hy
  refine Cl.mode1 (F := i3) rfl rfl (by simp [h1.closed, h2.closed, h1'.closed, h2'.closed]) ?_
  rw [w3]
  simp [h1.closed, h2.closed, h1'.closed, h2'.closed]
  refine cknown ?_
  simp
  refine c11 hx ?_
  cases few x
  · simp
    exact cknown (by simp)
  simp
  refine c11 hy ?_
  cases few y
  · simp
    exact cknown (by simp)
  simp
  refine c12 hx hy ?_
  try simp
  refine c13 hx hy ?_
  try simp
  refine c12 hy hx ?_
  try simp
  refine c13 hx hy ?_
  by_cases e : x = y
  · simp [e]
  · simp [e, Ne.symm e]
end Go.Proofs.Ytoommmeapdkopaa.E
