/- What functions of the program return, proved over the interpreter. Each theorem says its conditions. -/
import Derived.Test.YtoommmeapdkopaaZSA
namespace Go.Proofs.Ytoommmeapdkopaa.E
open Go Go.Eng
abbrev tTask : Ty := .pair .str (.pair (.int .i64) (.pair .str (.sl (.int .i64))))
abbrev tStation : Ty := .pair .str (.sl .str)
abbrev tShop : Ty := .pair (.sl tTask) (.sl tStation)

theorem task_at {v : V} {l : List tTask.D} (h : Arr 4 tTask.R v l) {i : Nat} (hi : i < l.length) : ∃ w rest, iadrV 4 v (.int .i64 i) = some (.rptr (.str l[i].1 :: .int .i64 l[i].2.1 :: .str l[i].2.2.1 :: w :: rest)) ∧ Arr 1 tI.R w l[i].2.2.2 := by
  obtain ⟨c, r, ⟨_, _, rfl, ⟨rfl, _⟩, _, _, rfl, ⟨rfl, _⟩, _, _, rfl, ⟨rfl, _⟩, w, rfl, q⟩, _, e⟩ := h.iadr hi
  exact ⟨w, r, e, q⟩
theorem station_at {v : V} {l : List tStation.D} (h : Arr 2 tStation.R v l) {i : Nat} (hi : i < l.length) : ∃ w rest, iadrV 2 v (.int .i64 i) = some (.rptr (.str l[i].1 :: w :: rest)) ∧ Arr 1 (Ty.R .str) w l[i].2 := by
  obtain ⟨c, r, ⟨_, _, rfl, ⟨rfl, _⟩, w, rfl, q⟩, _, e⟩ := h.iadr hi
  exact ⟨w, r, e, q⟩
theorem shop_v {x : tShop.D} {v : V} (h : tShop.V x v) : ∃ a b, v = .agg [a, b] ∧ Arr 4 tTask.R a x.1 ∧ Arr 2 tStation.R b x.2 := by
  obtain ⟨_, rfl, _, _, rfl, ⟨a, rfl, q⟩, b, rfl, p⟩ := h
  exact ⟨a, b, rfl, q, p⟩
theorem shop_closed {x : tShop.D} {v : V} (h : tShop.V x v) : closedV v = true := by
  obtain ⟨a, b, rfl, h1, h2⟩ := shop_v h
  simp [h1.closed, h2.closed]

theorem stV_fill {H : Heap} {zs c : List V} {k : Nat} (hz : zs.length = k) (hc : c.length = k) : stV (H ++ [.cells zs]) k (.ptr H.length 0) (.agg c) = some (H ++ [.cells c]) := stV_new hz hc

/-- task.Equal's comparison of two tasks -/
theorem c32 {x y : tTask.D} {w w' : V} (hx : Arr 1 tI.R w x.2.2.2) (hy : Arr 1 tI.R w' y.2.2.2) {H : Heap} {k : V → Heap → Prop} (h : k (.bool (decide (x = y))) H) :
    Cl G 32 [.agg [.str x.1, .int .i64 x.2.1, .str x.2.2.1, w], .agg [.str y.1, .int .i64 y.2.1, .str y.2.2.1, w']] H k := by
  refine Cl.mode1 (F := i32) rfl rfl (by simp [hx.closed, hy.closed]) ?_
  rw [w32]
  have e : (x = y) ↔ x.1 = y.1 ∧ x.2.1 = y.2.1 ∧ x.2.2.1 = y.2.2.1 ∧ x.2.2.2 = y.2.2.2 := by simp [Prod.ext_iff]
  simp only [e] at h
  by_cases h1 : x.1 = y.1
  case neg => simpa [hx.closed, hy.closed, h1] using h
  by_cases h2 : x.2.1 = y.2.1
  case neg => simpa [hx.closed, hy.closed, h1, h2] using h
  by_cases h3 : x.2.2.1 = y.2.2.1
  case neg => simpa [hx.closed, hy.closed, h1, h2, h3] using h
  simp [hx.closed, hy.closed, h1, h2, h3]
  refine c33 (hx.sh _) (hy.sh _) ?_
  simpa [h1, h2, h3] using h

theorem c35 {x y : tStation.D} {w w' : V} (hx : Arr 1 (Ty.R .str) w x.2) (hy : Arr 1 (Ty.R .str) w' y.2) {H : Heap} {k : V → Heap → Prop} (h : k (.bool (decide (x = y))) H) :
    Cl G 35 [.agg [.str x.1, w], .agg [.str y.1, w']] H k := by
  refine Cl.mode1 (F := i35) rfl rfl (by simp [hx.closed, hy.closed]) ?_
  rw [w35]
  have e : (x = y) ↔ x.1 = y.1 ∧ x.2 = y.2 := by simp [Prod.ext_iff]
  simp only [e] at h
  by_cases h1 : x.1 = y.1
  case neg => simpa [hx.closed, hy.closed, h1] using h
  simp [hx.closed, hy.closed, h1]
  refine c36 (hx.sh _) (hy.sh _) ?_
  simpa [h1] using h

theorem c31 {x y : V} {l1 l2 : List tTask.D} (hx : Arr 4 tTask.R x l1) (hy : Arr 4 tTask.R y l2) {H : Heap} {k : V → Heap → Prop} (h : k (.bool (decide (l1 = l2))) H) : Cl G 31 [x, y, .fn 32 []] H k := by
  refine Cl.mode1 (F := i31) rfl rfl (by simp [hx.closed, hy.closed]) ?_
  rw [w31]
  have hle := hx.le
  simp only [hx.lens, hy.lens, bd_some, binV_neq, ifB_bool, Bool.not_eq_true', decide_eq_false_iff_not, Int.ofNat_inj, ite_not]
  split
  case isFalse hne => simpa [show l1 ≠ l2 from fun e => hne (by rw [e])] using h
  case isTrue hln =>
  refine ub31_0 l1.length (fun i a b c d e _ => a = y ∧ b = .fn 32 [] ∧ c = x ∧ d = .int .i64 l1.length ∧ e = .int .i64 i ∧ l1.take i = l2.take i) ?_ 0 (Nat.zero_le _) (by simp)
  rintro i hi _ _ _ _ _ H1 ⟨rfl, rfl, rfl, rfl, rfl, he⟩
  intros
  rw [wb31_0]
  simp only [bd_some, binV_lss, ifB_bool, decide_eq_true_eq, Int.ofNat_lt]
  split
  · rename_i hlt
    obtain ⟨w, r, e, q⟩ := task_at hx hlt
    obtain ⟨w', r', e', q'⟩ := task_at hy (show i < l2.length by omega)
    simp only [e, e', bd_some, ldV_s4, newB, true_and]
    rw [stV_new (by rfl) (by rfl)]
    simp only [bd_some, ldV_s4]
    rw [stV_new (by rfl) (by rfl)]
    simp only [bd_some]
    rw [ldV_prev (by rfl)]
    simp only [bd_some]
    rw [ldV_last (by rfl)]
    simp only [bd_some, callV_fn, Bool.true_or, true_and, List.append_nil]
    refine c32 q q' ?_
    simp only [unV_not, bd_some, ifB_bool, Bool.not_eq_true', decide_eq_false_iff_not, ite_not]
    split
    · rename_i heq
      simp only [binV_add, bd_some, wrap_succ (show i + 1 ≤ 9223372036854775807 by unfold top at hle; omega), upQ_n, Sb31_0_eq, true_and]
      exact ⟨i + 1, by omega, by omega, rfl, (agree_succ hlt (by omega)).2 ⟨he, heq⟩⟩
    · rename_i hne
      simpa [show l1 ≠ l2 from fun e => hne (by subst e; rfl)] using h
  · rename_i hge
    simpa [agree_all hge hln he, wr31_1] using h

theorem c34 {x y : V} {l1 l2 : List tStation.D} (hx : Arr 2 tStation.R x l1) (hy : Arr 2 tStation.R y l2) {H : Heap} {k : V → Heap → Prop} (h : k (.bool (decide (l1 = l2))) H) : Cl G 34 [x, y, .fn 35 []] H k := by
  refine Cl.mode1 (F := i34) rfl rfl (by simp [hx.closed, hy.closed]) ?_
  rw [w34]
  have hle := hx.le
  simp only [hx.lens, hy.lens, bd_some, binV_neq, ifB_bool, Bool.not_eq_true', decide_eq_false_iff_not, Int.ofNat_inj, ite_not]
  split
  case isFalse hne => simpa [show l1 ≠ l2 from fun e => hne (by rw [e])] using h
  case isTrue hln =>
  refine ub34_0 l1.length (fun i a b c d e _ => a = y ∧ b = .fn 35 [] ∧ c = x ∧ d = .int .i64 l1.length ∧ e = .int .i64 i ∧ l1.take i = l2.take i) ?_ 0 (Nat.zero_le _) (by simp)
  rintro i hi _ _ _ _ _ H1 ⟨rfl, rfl, rfl, rfl, rfl, he⟩
  intros
  rw [wb34_0]
  simp only [bd_some, binV_lss, ifB_bool, decide_eq_true_eq, Int.ofNat_lt]
  split
  · rename_i hlt
    obtain ⟨w, r, e, q⟩ := station_at hx hlt
    obtain ⟨w', r', e', q'⟩ := station_at hy (show i < l2.length by omega)
    simp only [e, e', bd_some, ldV_s2, newB, true_and]
    rw [stV_new (by rfl) (by rfl)]
    simp only [bd_some, ldV_s2]
    rw [stV_new (by rfl) (by rfl)]
    simp only [bd_some]
    rw [ldV_prev (by rfl)]
    simp only [bd_some]
    rw [ldV_last (by rfl)]
    simp only [bd_some, callV_fn, Bool.true_or, true_and, List.append_nil]
    refine c35 q q' ?_
    simp only [unV_not, bd_some, ifB_bool, Bool.not_eq_true', decide_eq_false_iff_not, ite_not]
    split
    · rename_i heq
      simp only [binV_add, bd_some, wrap_succ (show i + 1 ≤ 9223372036854775807 by unfold top at hle; omega), upQ_n, Sb34_0_eq, true_and]
      exact ⟨i + 1, by omega, by omega, rfl, (agree_succ hlt (by omega)).2 ⟨he, heq⟩⟩
    · rename_i hne
      simpa [show l1 ≠ l2 from fun e => hne (by subst e; rfl)] using h
  · rename_i hge
    simpa [agree_all hge hln he, wr34_1] using h

/-- task.Equal -/
theorem c12 {x y : tShop.D} {v w : V} (hx : tShop.V x v) (hy : tShop.V y w) {H : Heap} {k : V → Heap → Prop} (h : k (.bool (decide (x = y))) H) : Cl G 12 [v, w] H k := by
  obtain ⟨a, b, rfl, h1, h2⟩ := shop_v hx
  obtain ⟨a', b', rfl, h1', h2'⟩ := shop_v hy
  refine Cl.mode1 (F := i12) rfl rfl (by simp [h1.closed, h2.closed, h1'.closed, h2'.closed]) ?_
  rw [w12]
  have e : (x = y) ↔ x.1 = y.1 ∧ x.2 = y.2 := by simp [Prod.ext_iff]
  simp only [e] at h
  simp [h1.closed, h2.closed, h1'.closed, h2'.closed]
  refine c31 h1 h1' ?_
  by_cases e1 : x.1 = y.1
  case neg => simpa [e1] using h
  simp [e1]
  refine c34 h2 h2' ?_
  simpa [e1] using h

/-- sameTasks -/
theorem c37 {x y : V} {l1 l2 : List tTask.D} (hx : Arr 4 tTask.R x l1) (hy : Arr 4 tTask.R y l2) {H : Heap} {k : V → Heap → Prop} (h : k (.bool (decide (l1 = l2))) H) : Cl G 37 [x, y] H k := by
  refine Cl.mode1 (F := i37) rfl rfl (by simp [hx.closed, hy.closed]) ?_
  rw [w37]
  have hle := hx.le
  simp only [hx.lens, hy.lens, bd_some, binV_neq, ifB_bool, Bool.not_eq_true', decide_eq_false_iff_not, Int.ofNat_inj, ite_not]
  split
  case isFalse hne => simpa [show l1 ≠ l2 from fun e => hne (by rw [e])] using h
  case isTrue hln =>
  refine ub37_0 l1.length (fun i a b d _ => a = x ∧ b = y ∧ d = .int .i64 i ∧ l1.take i = l2.take i) ?_ 0 (Nat.zero_le _) (by simp)
  rintro i hi _ _ _ H1 ⟨rfl, rfl, rfl, he⟩
  intros
  rw [wb37_0]
  simp only [hx.lens, bd_some, binV_lss, ifB_bool, decide_eq_true_eq, Int.ofNat_lt]
  split
  · rename_i hlt
    obtain ⟨w, r, e, q⟩ := task_at hx hlt
    obtain ⟨w', r', e', q'⟩ := task_at hy (show i < l2.length by omega)
    have ee : (l1[i] = l2[i]) ↔ l1[i].1 = l2[i].1 ∧ l1[i].2.1 = l2[i].2.1 ∧ l1[i].2.2.1 = l2[i].2.2.1 ∧ l1[i].2.2.2 = l2[i].2.2.2 := by simp [Prod.ext_iff]
    have out : l1[i] ≠ l2[i] → l1 ≠ l2 := fun hne e => hne (by subst e; rfl)
    simp only [e, e', bd_some, fadrV_rptr, List.drop_zero, ldV_one, binV_sneq, gdV_bool]
    by_cases h1 : l1[i].1 = l2[i].1
    case neg => simpa [h1, out (fun e => h1 (ee.1 e).1)] using h
    by_cases h2 : l1[i].2.1 = l2[i].2.1
    case neg => simpa [h1, h2, e, e', out (fun e => h2 (ee.1 e).2.1)] using h
    by_cases h3 : l1[i].2.2.1 = l2[i].2.2.1
    case neg => simpa [h1, h2, h3, e, e', out (fun e => h3 (ee.1 e).2.2.1)] using h
    simp [h1, h2, h3, e, e', -Option.bind_eq_bind]
    refine c19 (q.sh _) (q'.sh _) ?_
    by_cases h4 : l1[i].2.2.2 = l2[i].2.2.2
    case neg => simpa [h4, out (fun e => h4 (ee.1 e).2.2.2)] using h
    simp [h4, wrap_succ (show i + 1 ≤ 9223372036854775807 by unfold top at hle; omega)]
    exact ⟨i + 1, by omega, by omega, by simp, (agree_succ hlt (by omega)).2 ⟨he, ee.2 ⟨h1, h2, h3, h4⟩⟩⟩
  · rename_i hge
    simpa [agree_all hge hln he, wr37_1] using h

/-- sameShop -/
theorem c13 {x y : tShop.D} {v w : V} (hx : tShop.V x v) (hy : tShop.V y w) {H : Heap} {k : V → Heap → Prop} (h : k (.bool (decide (x = y))) H) : Cl G 13 [v, w] H k := by
  obtain ⟨a, b, rfl, h1, h2⟩ := shop_v hx
  obtain ⟨a', b', rfl, h1', h2'⟩ := shop_v hy
  refine Cl.mode1 (F := i13) rfl rfl (by simp [h1.closed, h2.closed, h1'.closed, h2'.closed]) ?_
  rw [w13]
  have e : (x = y) ↔ x.1 = y.1 ∧ x.2 = y.2 := by simp [Prod.ext_iff]
  simp only [e] at h
  simp [h1.closed, h2.closed, h1'.closed, h2'.closed]
  refine c37 h1 h1' ?_
  by_cases e1 : x.1 = y.1
  case neg => simpa [e1] using h
  simp only [e1, true_and] at h
  have hle := h2.le
  by_cases hln : x.2.length = y.2.length
  case neg =>
   have hln' : ¬ ((x.2.length : Int) = (y.2.length : Int)) := by omega
   simpa [e1, hln', h2.lens, h2'.lens, show x.2 ≠ y.2 from fun e => hln (by rw [e])] using h
  simp [e1, hln, h2.lens, h2'.lens]
  refine ub13_0 x.2.length (fun i p q d _ => p = .rptr [a, b] ∧ q = .rptr [a', b'] ∧ d = .int .i64 i ∧ x.2.take i = y.2.take i) ?_ 0 (Nat.zero_le _) (by simp)
  rintro i hi _ _ _ H1 ⟨rfl, rfl, rfl, he⟩
  intros
  rw [wb13_0]
  simp only [h2.lens, bd_some, fadrV_rptr, List.drop_succ_cons, List.drop_zero, ldV_one, ldrV_one, binV_lss, ifB_bool, decide_eq_true_eq, Int.ofNat_lt]
  split
  · rename_i hlt
    obtain ⟨u, r, e, q⟩ := station_at h2 hlt
    obtain ⟨u', r', e', q'⟩ := station_at h2' (show i < y.2.length by omega)
    have ee : (x.2[i] = y.2[i]) ↔ x.2[i].1 = y.2[i].1 ∧ x.2[i].2 = y.2[i].2 := by simp [Prod.ext_iff]
    have out : x.2[i] ≠ y.2[i] → x.2 ≠ y.2 := fun hne e => hne (by simp [e])
    simp only [e, e', bd_some, ldV_s2, ldrV_s2, newB, true_and, List.length_append, List.length_singleton]
    rw [stV_prev (by rfl) (by rfl)]
    simp only [bd_some]
    rw [stV_last (by rfl) (by rfl)]
    simp only [bd_some, fadrV_ptr, Nat.zero_add]
    rw [ldV_prev1 (x := .str x.2[i].1) (by rfl)]
    simp only [bd_some]
    rw [ldV_lastf (x := .str y.2[i].1) (by rfl)]
    simp only [bd_some, binV_sneq, gdV_bool]
    by_cases n1 : x.2[i].1 = y.2[i].1
    case neg => simpa [n1, out (fun e => n1 (ee.1 e).1)] using h
    simp only [n1, decide_true, Bool.not_true, beq_self_eq_true, wpg_true, bd_some]
    rw [ldV_prev1 (x := u) (by rfl)]
    simp only [bd_some, q.lens]
    rw [ldV_lastf (x := u') (by rfl)]
    simp only [bd_some, q'.lens, binV_neq, pickV_bool, ifB_bool, Int.ofNat_inj, Bool.false_eq_true, if_false]
    by_cases hl2 : x.2[i].2.length = y.2[i].2.length
    case neg => simpa [hl2, out (fun e => hl2 (by rw [(ee.1 e).2]))] using h
    simp only [hl2, decide_true, Bool.not_true, Bool.false_eq_true, if_false]
    have hq := q.le
    generalize hH2 : H1 ++ [B.cells [V.str y.2[i].1, u]] ++ [B.cells [V.str y.2[i].1, u']] = H2
    have l1 : ldV H2 (.ptr H1.length 1) 1 false = some u := by rw [← hH2]; exact ldV_prev1 (by rfl)
    have l2 : ldV H2 (.ptr (H1.length + 1) 1) 1 false = some u' := by rw [← hH2]; exact ldV_lastf (by rfl)
    refine ub13_1 x.2[i].2.length (fun j p q d p' q' e H => p = .rptr [a, b] ∧ q = .rptr [a', b'] ∧ d = .int .i64 i ∧ p' = .ptr H1.length 0 ∧ q' = .ptr (H1.length + 1) 0 ∧ e = .int .i64 j ∧ H = H2 ∧ x.2[i].2.take j = y.2[i].2.take j) ?_ 0 (Nat.zero_le _) (by simp)
    rintro j hj _ _ _ _ _ _ _ ⟨rfl, rfl, rfl, rfl, rfl, rfl, rfl, he2⟩
    intros
    rw [wb13_1]
    simp only [fadrV_ptr, Nat.zero_add, bd_some, l1, l2, q.lens, binV_lss, ifB_bool, decide_eq_true_eq, Int.ofNat_lt]
    split
    · rename_i hlt2
      obtain ⟨s, e2⟩ := q.str1 hlt2
      obtain ⟨s', e2'⟩ := q'.str1 (show j < y.2[i].2.length by omega)
      simp only [e2, e2', bd_some, ldV_one, binV_sneq, ifB_bool, Bool.not_eq_true', decide_eq_false_iff_not, ite_not]
      split
      · rename_i heq
        simp only [binV_add, bd_some, wrap_succ (show j + 1 ≤ 9223372036854775807 by unfold top at hq; omega), upQ_n, Sb13_1_eq, true_and]
        exact ⟨j + 1, by omega, by omega, rfl, (agree_succ hlt2 (by omega)).2 ⟨he2, heq⟩⟩
      · rename_i hne
        simpa [out (fun e => hne (by simp [(ee.1 e).2]))] using h
    · rename_i hge2
      simp [wr13_2, wrap_succ (show i + 1 ≤ 9223372036854775807 by unfold top at hle; omega)]
      exact ⟨i + 1, by omega, by omega, by simp, (agree_succ hlt (by omega)).2 ⟨he, ee.2 ⟨n1, agree_all hge2 hl2 he2⟩⟩⟩
  · rename_i hge
    simpa [agree_all hge hln he, wr13_3] using h
end Go.Proofs.Ytoommmeapdkopaa.E
