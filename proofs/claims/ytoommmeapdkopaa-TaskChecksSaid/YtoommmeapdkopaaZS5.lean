/- What functions of the program return, proved over the interpreter. Each theorem says its conditions. -/
import Derived.Test.YtoommmeapdkopaaZS4
import Derived.Test.YtoommmeapdkopaaZD3
namespace Go.Proofs.Ytoommmeapdkopaa.E
open Go Go.Eng

section
variable {x : tShop.D} {v : V} {e : Int} {H : Heap} {k : V → Heap → Prop}
theorem err_Able (hx : tShop.V x v) (he : shopErr x (decide ((orderL x.1).length < x.1.length)) = e) (h0 : e ≠ 0) {i : Int} (h : k (.tup [.nils, .int .i64 e]) H) : Cl G 27 [v, .int .i64 i] H k := by
  obtain ⟨a, b, rfl, h1, h2⟩ := shop_v hx
  refine Cl.mode1 (F := i27) rfl rfl (by simp [h1.closed, h2.closed]) ?_
  rw [w27]
  simp only [bxrV_agg, closedVs_cons, closedVs_nil, h1.closed, h2.closed, Bool.and_self, bd_some, ldV_s2, Bool.true_or, true_and]
  refine c29 hx ?_
  rw [he]
  simp only [binV_neq, h0, decide_false, Bool.not_false, bd_some, ifB_bool, if_true]
  exact hq_some (v' := .tup [.nils, .int .i64 e]) rfl h
theorem err_Order (hx : tShop.V x v) (he : shopErr x (decide ((orderL x.1).length < x.1.length)) = e) (h0 : e ≠ 0) (h : k (.tup [.nils, .int .i64 e]) H) : Cl G 25 [v] H k := by
  obtain ⟨a, b, rfl, h1, h2⟩ := shop_v hx
  refine Cl.mode1 (F := i25) rfl rfl (by simp [h1.closed, h2.closed]) ?_
  rw [w25]
  simp only [bxrV_agg, closedVs_cons, closedVs_nil, h1.closed, h2.closed, Bool.and_self, bd_some, ldV_s2, Bool.true_or, true_and]
  refine c29 hx ?_
  rw [he]
  simp only [binV_neq, h0, decide_false, Bool.not_false, bd_some, ifB_bool, if_true]
  exact hq_some (v' := .tup [.nils, .int .i64 e]) rfl h
theorem err_Before (hx : tShop.V x v) (he : shopErr x (decide ((orderL x.1).length < x.1.length)) = e) (h0 : e ≠ 0) (h : k (.tup [.nils, .int .i64 e]) H) : Cl G 26 [v] H k := by
  obtain ⟨a, b, rfl, h1, h2⟩ := shop_v hx
  refine Cl.mode1 (F := i26) rfl rfl (by simp [h1.closed, h2.closed]) ?_
  rw [w26]
  simp only [bxrV_agg, closedVs_cons, closedVs_nil, h1.closed, h2.closed, Bool.and_self, bd_some, ldV_s2, Bool.true_or, true_and]
  refine c29 hx ?_
  rw [he]
  simp only [binV_neq, h0, decide_false, Bool.not_false, bd_some, ifB_bool, if_true]
  exact hq_some (v' := .tup [.nils, .int .i64 e]) rfl h
theorem err_Tails (hx : tShop.V x v) (he : shopErr x (decide ((orderL x.1).length < x.1.length)) = e) (h0 : e ≠ 0) (h : k (.tup [.nils, .int .i64 e]) H) : Cl G 15 [v] H k := by
  obtain ⟨a, b, rfl, h1, h2⟩ := shop_v hx
  refine Cl.mode1 (F := i15) rfl rfl (by simp [h1.closed, h2.closed]) ?_
  rw [w15]
  simp only [bxrV_agg, closedVs_cons, closedVs_nil, h1.closed, h2.closed, Bool.and_self, bd_some, ldV_s2, Bool.true_or, true_and]
  refine c29 hx ?_
  rw [he]
  simp only [binV_neq, h0, decide_false, Bool.not_false, bd_some, ifB_bool, if_true]
  exact hq_some (v' := .tup [.nils, .int .i64 e]) rfl h
theorem err_Reduce (hx : tShop.V x v) (he : shopErr x (decide ((orderL x.1).length < x.1.length)) = e) (h0 : e ≠ 0) (h : k (.tup [.agg [.nils, .nils], .int .i64 e]) H) : Cl G 17 [v] H k := by
  obtain ⟨a, b, rfl, h1, h2⟩ := shop_v hx
  refine Cl.mode1 (F := i17) rfl rfl (by simp [h1.closed, h2.closed]) ?_
  rw [w17]
  simp only [bxrV_agg, closedVs_cons, closedVs_nil, h1.closed, h2.closed, Bool.and_self, bd_some, newB, List.length_nil, List.nil_append, ldV_s2, Bool.true_or, true_and]
  refine c29 hx ?_
  rw [he]
  have e1 : bldV [V.nils, .nils] [] = some (.agg [.nils, .nils]) := rfl
  have e2 : stV [B.cells [.nils, .nils]] 2 (.ptr 0 0) (.agg [.nils, .nils]) = some [B.cells [.nils, .nils]] := rfl
  simp only [binV_neq, h0, decide_false, Bool.not_false, bd_some, ifB_bool, if_true, e1, e2, true_and]
  show hq 1 H k (.tup [.agg [.nils, .nils], .int .i64 e]) [B.cells [.nils, .nils]]
  exact hq_some (v' := .tup [.agg [.nils, .nils], .int .i64 e]) rfl h
theorem err_Critical (hx : tShop.V x v) (he : shopErr x (decide ((orderL x.1).length < x.1.length)) = e) (h0 : e ≠ 0) (h : k (.tup [.int .i64 0, .nils, .int .i64 e]) H) : Cl G 16 [v] H k := by
  obtain ⟨a, b, rfl, h1, h2⟩ := shop_v hx
  refine Cl.mode1 (F := i16) rfl rfl (by simp [h1.closed, h2.closed]) ?_
  rw [w16]
  simp only [bxrV_agg, closedVs_cons, closedVs_nil, h1.closed, h2.closed, Bool.and_self, bd_some, newB, List.length_nil, List.nil_append, ldV_s2, Bool.true_or, true_and]
  refine c29 hx ?_
  rw [he]
  have e2 : stV [B.cells [.nils]] 1 (.ptr 0 0) .nils = some [B.cells [.nils]] := rfl
  simp only [binV_neq, h0, decide_false, Bool.not_false, bd_some, ifB_bool, if_true, e2, true_and]
  show hq 1 H k (.tup [.int .i64 0, .nils, .int .i64 e]) [B.cells [.nils]]
  exact hq_some (v' := .tup [.int .i64 0, .nils, .int .i64 e]) rfl h
theorem err_Load (hx : tShop.V x v) (he : shopErr x (decide ((orderL x.1).length < x.1.length)) = e) (h0 : e ≠ 0) {y : V} {l : List Int} (hy : Sh H 1 tI.R y l) (h : k (.tup [.int .i64 0, .int .i64 e]) H) : Cl G 23 [v, y] H k := by
  obtain ⟨y', hy1, hy2⟩ := hy
  obtain ⟨a, b, rfl, h1, h2⟩ := shop_v hx
  have hcl : closeV H closeDepth (.agg [a, b]) = some (.agg [a, b]) := by
    rw [show closeDepth = 11 + 1 from rfl, closeV_agg]
    simp only [mapO, h1.close, h2.close, Option.bind_some, Option.map_some]
  refine Cl.any (F := i23) rfl rfl (args' := [.agg [a, b], y']) (by simp [mapO, hcl, hy1]) ?_
  rw [w23]
  simp only [bxrV_agg, closedVs_cons, closedVs_nil, h1.closed, h2.closed, Bool.and_self, bd_some, bxrV_arr hy2, ldV_s2, Bool.true_or, true_and]
  refine c29 hx ?_
  rw [he]
  simp only [binV_neq, h0, decide_false, Bool.not_false, bd_some, ifB_bool, if_true]
  exact hq_some (v' := .tup [.int .i64 0, .int .i64 e]) rfl ⟨.inl rfl, h⟩
end

/-- a shop of 25 empty tasks -/
def bigT : Heap := [.cells (rep 25 [.str [], .int .i64 0, .str [], .nils])]
theorem bigT_mk : mksV 4 64 [.str [], .int .i64 0, .str [], .nils] [] (.int .i64 25) (.int .i64 25) = some (.sl 0 0 25 25 4, bigT) := by kernel_rfl
theorem bigT_check {k : V → Heap → Prop} (h : k (.int .i64 6) bigT) : Cl G 29 [.agg [.sl 0 0 25 25 4, .nils]] bigT k := by
  refine Cl.any (F := i29) rfl rfl (args' := [.agg [.ro (rep 25 [.str [], .int .i64 0, .str [], .nils]) 25, .nils]]) (by kernel_rfl) ?_
  rw [w29]
  have c : closedV (.ro (rep 25 [.str [], .int .i64 0, .str [], .nils]) 25) = true := by kernel_rfl
  have l : lensV (.ro (rep 25 [.str [], .int .i64 0, .str [], .nils]) 25) = some (.int .i64 25) := rfl
  generalize V.ro (rep 25 [.str [], .int .i64 0, .str [], .nils]) 25 = r at c l
  simp [c, l]
  exact h
/-- a shop of 9 empty stations -/
def bigS (H : Heap) : Heap := H ++ [.cells (rep 9 [.str [], .nils])]
theorem bigS_mk : mksV 2 40 [.str [], .nils] bigT (.int .i64 9) (.int .i64 9) = some (.sl 1 0 9 9 2, bigS bigT) := by kernel_rfl
theorem bigS_check {k : V → Heap → Prop} (h : k (.int .i64 6) (bigS bigT)) : Cl G 29 [.agg [.nils, .sl 1 0 9 9 2]] (bigS bigT) k := by
  refine Cl.any (F := i29) rfl rfl (args' := [.agg [.nils, .ro (rep 9 [.str [], .nils]) 9]]) (by kernel_rfl) ?_
  rw [w29]
  have c : closedV (.ro (rep 9 [.str [], .nils]) 9) = true := by kernel_rfl
  have l : lensV (.ro (rep 9 [.str [], .nils]) 9) = some (.int .i64 9) := rfl
  have l0 : lensV .nils = some (.int .i64 0) := rfl
  generalize V.ro (rep 9 [.str [], .nils]) 9 = r at c l
  simp [c, l, l0]
  exact h
theorem nil_shop : tShop.V ([], []) (.agg [.nils, .nils]) :=
  ⟨[.nils, .nils], rfl, [.nils], [.nils], rfl, ⟨.nils, rfl, [], rfl, fun _ h => absurd h (by simp), by simp, by simp, rfl, .inr ⟨rfl, .inl rfl⟩⟩, ⟨.nils, rfl, [], rfl, fun _ h => absurd h (by simp), by simp, by simp, rfl, .inr ⟨rfl, .inl rfl⟩⟩⟩

theorem one_sh {H : Heap} : Sh (H ++ [B.cells [.int .i64 0]]) 1 tI.R (.sl H.length 0 1 1 1) [0] := by
  refine ⟨.ro [.int .i64 0] 1, ?_, [[.int .i64 0]], rfl, ?_, by simp, by unfold top; simp, rfl, .inl rfl⟩
  · rw [show closeDepth = 11 + 1 from rfl, closeV_sl (cs := [.int .i64 0]) (by simp) (by simp)]
    rfl
  · intro i hi hi'
    have : i = 0 := by simpa using hi
    subst this
    exact ⟨rfl, show IntKind.i64.min ≤ 0 by decide, show (0 : Int) ≤ IntKind.i64.max by decide⟩

/-- the law -/
theorem taskChecks_true {x : tShop.D} {v : V} {i : Int} (hx : tShop.V x v) : Cl G 9 [v, .int .i64 i] [] fun r _ => r = .bool true := by
  obtain ⟨a, b, rfl, h1, h2⟩ := shop_v hx
  refine Cl.mode1 (F := i9) rfl rfl (by simp [h1.closed, h2.closed]) ?_
  rw [w9]
  simp only [bxrV_agg, closedVs_cons, closedVs_nil, h1.closed, h2.closed, Bool.and_self, bd_some, Bool.true_or, true_and]
  refine cknown ?_
  simp only [unV_not, Bool.not_true, bd_some, gdV_bool, beq_self_eq_true, wpg_true, ldV_s2, Bool.true_or, true_and]
  refine c11 hx ?_
  cases hfew : few x
  · simp
    exact cknown (by simp)
  obtain ⟨f1, f2, f3, f4⟩ := few_all hfew
  simp only [unV_not, Bool.not_true, bd_some, pickV_bool, Bool.false_eq_true, if_false, ifB_bool, ldV_s2, Bool.true_or, true_and]
  refine c14 hx f1 (few_aft hfew) ?_
  refine c29 hx ?_
  generalize he : shopErr x (decide ((orderL x.1).length < x.1.length)) = e
  simp only [binV_neq, decide_true, Bool.not_true, bd_some, gdV_bool, beq_self_eq_true, wpg_true, bigT_mk, bd2_some]
  have b1 : bldV [V.nils, .nils] [(0, 1, .sl 0 0 25 25 4)] = some (.agg [.sl 0 0 25 25 4, .nils]) := rfl
  have b2 : bldV [V.nils, .nils] [(1, 1, .sl 1 0 9 9 2)] = some (.agg [.nils, .sl 1 0 9 9 2]) := rfl
  have b3 : bldV [V.nils, .nils] [] = some (.agg [.nils, .nils]) := rfl
  simp only [b1, bd_some, Bool.true_or, true_and]
  refine bigT_check ?_
  simp only [binV_neq, decide_true, Bool.not_true, bd_some, pickV_bool, Bool.false_eq_true, if_false, gdV_bool, beq_self_eq_true, wpg_true, bigS_mk, bd2_some, b2, Bool.true_or, true_and]
  refine bigS_check ?_
  simp only [binV_neq, decide_true, Bool.not_true, bd_some, pickV_bool, Bool.false_eq_true, if_false, gdV_bool, beq_self_eq_true, wpg_true, ldV_s2, Bool.true_or, true_and]
  refine c12 hx hx ?_
  simp only [unV_not, decide_true, Bool.not_true, bd_some, pickV_bool, Bool.false_eq_true, if_false, ifB_bool, binV_eql]
  by_cases h0 : e = 0
  · simp [h0]
  simp only [h0, decide_false, Bool.false_eq_true, if_false, ldV_s2, bd_some, Bool.true_or, true_and]
  refine err_Able hx he h0 ?_
  simp only [extV, List.getElem?_cons_zero, List.getElem?_cons_succ, bd_some, ldV_s2, Bool.true_or, true_and]
  refine err_Order hx he h0 ?_
  simp only [extV, List.getElem?_cons_zero, List.getElem?_cons_succ, bd_some, ldV_s2, Bool.true_or, true_and]
  refine err_Before hx he h0 ?_
  simp only [extV, List.getElem?_cons_zero, List.getElem?_cons_succ, bd_some, ldV_s2, Bool.true_or, true_and]
  refine err_Reduce hx he h0 ?_
  simp only [extV, List.getElem?_cons_zero, List.getElem?_cons_succ, bd_some, newB, true_and]
  rw [stV_new (by rfl) (by rfl)]
  simp only [bd_some, cellsV, frz_new (show closedVs [V.nils, .nils] = true from rfl), bd2_some, ldV_s2, Bool.true_or, true_and]
  refine err_Tails hx he h0 ?_
  simp only [extV, List.getElem?_cons_zero, List.getElem?_cons_succ, bd_some, ldV_s2, Bool.true_or, true_and]
  refine err_Critical hx he h0 ?_
  simp only [extV, List.getElem?_cons_zero, List.getElem?_cons_succ, bd_some, ldV_s2, bslV_one (show oneC (.int .i64 0) = true from rfl), bd2_some, Bool.true_or, true_and]
  refine err_Load hx he h0 one_sh ?_
  have l0 : lensV .nils = some (.int .i64 0) := rfl
  have w0 : IntKind.i64.wrap (0 + 0) = 0 := by decide
  simp only [extV, List.getElem?_cons_zero, List.getElem?_cons_succ, bd_some, binV_eql, decide_true, gdV_bool, beq_self_eq_true, wpg_true, pickV_bool, if_true, l0, binV_add, w0, ldrV_s2, b3, Bool.true_or, true_and]
  refine c13 nil_shop nil_shop ?_
  simp
end Go.Proofs.Ytoommmeapdkopaa.E
