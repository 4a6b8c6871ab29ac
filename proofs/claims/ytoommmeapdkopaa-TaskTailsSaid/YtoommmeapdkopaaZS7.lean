/- What functions of the program return, proved over the interpreter. Each theorem says its conditions. -/
import Derived.Test.YtoommmeapdkopaaZS6
import Derived.Test.YtoommmeapdkopaaZD2
namespace Go.Proofs.Ytoommmeapdkopaa.E
open Go Go.Eng

set_option maxRecDepth 100000 in
theorem taskTails_true {x : tShop.D} {v : V} (hx : tShop.V x v) : Cl G 4 [v] [] fun r _ => r = .bool true := by
  obtain ⟨a, b, rfl, h1, h2⟩ := shop_v hx
  refine Cl.mode1 (F := i4) rfl rfl (by simp [h1.closed, h2.closed]) ?_
  rw [w4]
  simp only [bxrV_agg, closedVs_cons, closedVs_nil, h1.closed, h2.closed, Bool.and_self, bd_some, Bool.true_or, true_and]
  refine cknown ?_
  simp only [unV_not, Bool.not_true, bd_some, gdV_bool, beq_self_eq_true, wpg_true, ldV_s2, Bool.true_or, true_and]
  refine c11 hx ?_
  cases hfew : few x
  · simp
    exact cknown (by simp)
  obtain ⟨f1, f2, f3, f4⟩ := few_all hfew
  simp only [unV_not, Bool.not_true, bd_some, pickV_bool, Bool.false_eq_true, if_false, gdV_bool, beq_self_eq_true, wpg_true, ldV_s2, Bool.true_or, true_and]
  refine c14 hx f1 (few_aft hfew) ?_
  by_cases hc : shopErr x (decide ((orderL x.1).length < x.1.length)) = 0
  case neg =>
    simp [hc]
    exact cknown (by simp)
  obtain ⟨z1, z2, z3, z4⟩ := shopErr_zero hc
  have vl := vld_of hc
  simp only [hc, binV_neq, decide_true, Bool.not_true, bd_some, pickV_bool, Bool.false_eq_true, if_false, ifB_bool, ldV_s2, Bool.true_or, true_and]
  refine ok_Tails hx hc fun tr f hf hfb htr => ?_
  simp only [extV, List.getElem?_cons_zero, List.getElem?_cons_succ, bd_some, ldV_s2, Bool.true_or, true_and]
  refine ok_Critical hx hc fun pr f' n' hf' hmx hn0 hn1 hpr => ?_
  simp only [extV, List.getElem?_cons_zero, List.getElem?_cons_succ, bd_some, ldV_s2, Bool.true_or, true_and]
  refine ok_Reduce hx hc fun rr hrr => ?_
  obtain ⟨ra, rb, rfl, r1, r2⟩ := shop_v hrr
  have hfr := frz_new (H := []) (cs := [ra, rb]) (by simp [r1.closed, r2.closed])
  have hst := stV_fill (H := []) (zs := [.nils, .nils]) (c := [ra, rb]) (k := 2) rfl rfl
  simp only [List.length_nil, List.nil_append] at hfr hst
  simp only [extV, List.getElem?_cons_zero, List.getElem?_cons_succ, bd_some, newB, List.length_nil, List.nil_append, hst, hfr, bd2_some, ldV_s2, Bool.true_or, true_and]
  refine c18 hx hc hf' fun lr n'' hmx2 hlr => ?_
  have hn : n'' = n' := isMx_eq (fun _ _ => rfl) hmx2 hmx
  subst hn
  have hl : lensV tr = some (.int .i64 x.1.length) := by have := htr.lens; simpa using this
  have hl2 : lensV ra = some (.int .i64 x.1.length) := by rw [r1.lens]; exact congrArg (fun n : Nat => some (V.int .i64 n)) redT_len
  simp only [extV, List.getElem?_cons_zero, List.getElem?_cons_succ, bd_some, binV_neq, decide_true, Bool.not_true, gdV_bool, beq_self_eq_true, wpg_true, pickV_bool, Bool.false_eq_true, if_false, hl, fadrV_rptr, List.drop_zero, ldV_one, h1.lens, Bool.true_or, true_and]
  refine c19 (hpr.sh _) (hlr.sh _) ?_
  have hb : bldV [.nils, .nils] [(1, 1, b)] = some (.agg [.nils, b]) := by
    have o1 := h2.one
    have e : cellsV b = [b] := by cases b <;> first | rfl | (simp [oneC] at o1; done)
    have n : notTup b = true := by cases b <;> first | rfl | (simp [oneC] at o1; done)
    simp [bldV, fillV, e, n, ovl]
  have hst2 := stV_fill (H := [.dead]) (zs := [.nils, .nils]) (c := [.nils, b]) (k := 2) rfl rfl
  simp only [List.length_cons, List.length_nil, Nat.zero_add] at hst2
  simp only [decide_true, unV_not, Bool.not_true, bd_some, gdV_bool, beq_self_eq_true, wpg_true, fadrV_rptr, List.drop_zero, List.drop_succ_cons, ldrV_one, ldV_one, hl2, h1.lens, binV_neq, pickV_bool, Bool.false_eq_true, if_false, ifB_bool, hb, newB, List.length_cons, List.length_nil, Nat.zero_add, hst2, true_and]
  refine ub4_0 x.1.length (fun m c1 c3 c8 c12 c13 H => c1 = .rptr [a, b] ∧ tr = c3 ∧ c8 = .rptr [ra, rb] ∧ c12 = .ptr 1 0 ∧ c13 = .int .i64 m ∧ ∃ tv css, Gr 4 [.dead, .cells [tv, b]] H tv css.flatten m ∧ css.length = m ∧ ∀ i (h : i < (redT x.1).length) (h' : i < css.length), tTask.R (redT x.1)[i] css[i] ∧ css[i].length = 4) ?_ 0 (Nat.zero_le _) ⟨rfl, rfl, rfl, rfl, rfl, .nils, [], Gr.nil, rfl, fun i h h' => by simp at h'⟩
  rintro m hm _ _ _ _ _ H2 ⟨rfl, rfl, rfl, rfl, rfl, tv, css, hg, hcl, hcs⟩
  intros
  rw [wb4_0]
  simp only [fadrV_rptr, List.drop_zero, ldV_one, h1.lens, bd_some, binV_lss, ifB_bool, decide_eq_true_eq, Int.ofNat_lt]
  split
  · rename_i hlt
    obtain ⟨w, r, e, q⟩ := task_at h1 hlt
    simp only [e, bd_some, ldV_t4, newB]
    rw [stV_fill (k := 4) rfl rfl]
    simp only [bd_some, ldV_s2, true_and, Bool.true_or]
    refine c20 hx hc hlt fun rw' hrw => ?_
    have g1 : (H2 ++ [B.cells [V.str x.1[m].1, .int .i64 x.1[m].2.1, .str x.1[m].2.2.1, w]])[H2.length]? = some (.cells [V.str x.1[m].1, .int .i64 x.1[m].2.1, .str x.1[m].2.2.1, w]) := by simp
    have s1 := stV_own (off := 3) (x := rw') g1 (by simp) hrw.one
    have s2 : (H2 ++ [B.cells [V.str x.1[m].1, .int .i64 x.1[m].2.1, .str x.1[m].2.2.1, w]]).set H2.length (.cells ([V.str x.1[m].1, .int .i64 x.1[m].2.1, .str x.1[m].2.2.1, w].set 3 rw')) = H2 ++ [B.cells [V.str x.1[m].1, .int .i64 x.1[m].2.1, .str x.1[m].2.2.1, rw']] := by simp
    rw [s2] at s1
    have hga := hg.alloc [B.cells [V.str x.1[m].1, .int .i64 x.1[m].2.1, .str x.1[m].2.2.1, rw']]
    have g2 : (H2 ++ [B.cells [V.str x.1[m].1, .int .i64 x.1[m].2.1, .str x.1[m].2.2.1, rw']])[H2.length]? = some (.cells [V.str x.1[m].1, .int .i64 x.1[m].2.1, .str x.1[m].2.2.1, rw']) := by simp
    have l1 : ldV (H2 ++ [B.cells [V.str x.1[m].1, .int .i64 x.1[m].2.1, .str x.1[m].2.2.1, rw']]) (.ptr 1 0) 1 false = some tv := ldV_own (hga.get (j := 1) rfl) rfl
    have l2 := ldV_own_all (k := 4) g2 rfl
    obtain ⟨tv', H', p1, p2⟩ := hga.push (xs := [V.str x.1[m].1, .int .i64 x.1[m].2.1, .str x.1[m].2.2.1, rw']) rfl (by omega) (bytes := 64) (by unfold room; omega)
    have o1 : oneC tv' = true := by rcases p2.2.2.2 with ⟨_, rfl⟩ | ⟨_, _, rfl, _⟩ <;> rfl
    have s3 := stV_own (off := 0) (x := tv') (p2.get (j := 1) rfl) (by simp) o1
    have p3 := p2.set (j := 1) (by simp) (.cells [tv', b])
    have hbs := bslV_k (k := 4) (H := H2 ++ [B.cells [V.str x.1[m].1, .int .i64 x.1[m].2.1, .str x.1[m].2.2.1, rw']]) (zs := [.str [], .int .i64 0, .str [], .nils]) (c := [V.str x.1[m].1, .int .i64 x.1[m].2.1, .str x.1[m].2.2.1, rw']) rfl rfl (by omega)
    obtain ⟨r5, e5⟩ := htr.int1 (i := m) (by simpa using hlt)
    have g5 : (tab x.1.length f)[m]'(by simpa using hlt) = f m := by simp [tab]
    rw [g5] at e5
    simp only [fadrV_ptr, Nat.zero_add, bd_some, s1, l1, l2, hbs, bd2_some, p1, s3, List.set_cons_zero, e5, ldV_one, ldV_s2, pur21, Bool.or_true, true_and]
    refine c21 hx hc hf m hlt _ _ ?_
    simp only [binV_neq, decide_true, Bool.not_true, bd_some, ifB_bool, Bool.false_eq_true, if_false, binV_add, wi (show (m : Int) + 1 = ((m + 1 : Nat) : Int) by omega) (by omega), upQ_n, Sb4_0_eq, true_and]
    refine ⟨m + 1, by omega, by omega, rfl, tv', css ++ [[V.str x.1[m].1, .int .i64 x.1[m].2.1, .str x.1[m].2.2.1, rw']], ?_, by simp [hcl], fun i h h' => ?_⟩
    · rw [List.flatten_append]
      simpa using p3
    · by_cases ei : i < css.length
      · rw [List.getElem_append_left ei]; exact hcs i h ei
      · have : i = css.length := by simp at h'; omega
        subst this
        rw [List.getElem_append_right (Nat.le_refl _)]
        simp only [Nat.sub_self, List.getElem_cons_zero]
        refine ⟨?_, rfl⟩
        have hget : (redT x.1)[css.length] = (x.1[m].1, x.1[m].2.1, x.1[m].2.2.1, redL x.1 m) := by
          have := redT_get hlt
          have h2 : css.length = m := hcl
          simp only [h2]
          rw [List.getElem?_eq_getElem (by rw [redT_len]; exact hlt)] at this
          exact Option.some.inj this
        rw [hget]
        have tp := task_top h1 _ (List.getElem_mem hlt)
        have hd := dur_rng z3 hlt
        have hdm := i64_mm (x := dur x.1 m) (by omega) (by omega)
        rw [dur_of hlt] at hdm
        exact task_mk (t := (x.1[m].1, x.1[m].2.1, x.1[m].2.2.1, redL x.1 m)) tp.1 hdm tp.2 hrw
  · rename_i hlt
    have em : m = x.1.length := by omega
    subst em
    have l0 : ldV H2 (.ptr 1 0) 2 true = some (.agg [tv, b]) := ldV_own_all (hg.get (j := 1) rfl) rfl
    have lr2 : ldrV (.rptr [ra, rb]) 2 true = some (.agg [ra, rb]) := by simp [ldrV, rdr, packV]
    simp only [upQ_e, blockQ_e, if_true, seqQ_n, wr4_1, lr2, l0, bd_some, Bool.true_or, true_and]
    have c4 : ∀ c ∈ css, c.length = 4 := fun c hc => by
      obtain ⟨i, hi, rfl⟩ := List.mem_iff_getElem.1 hc
      exact (hcs i (by rw [redT_len]; omega) hi).2
    have hself : mapO (closeV H2 10) css.flatten = some css.flatten := by
      refine mapO_self fun y hy => ?_
      obtain ⟨c, hc, hyc⟩ := List.mem_flatten.1 hy
      obtain ⟨i, hi, rfl⟩ := List.mem_iff_getElem.1 hc
      obtain ⟨⟨_, _, ec, ⟨rfl, _⟩, _, _, rfl, ⟨rfl, _⟩, _, _, rfl, ⟨rfl, _⟩, w, rfl, q⟩, _⟩ := hcs i (by rw [redT_len]; omega) hi
      rw [ec] at hyc
      simp only [List.cons_append, List.nil_append, List.mem_cons, List.not_mem_nil, or_false] at hyc
      rcases hyc with rfl | rfl | rfl | rfl
      · rfl
      · rfl
      · rfl
      · exact q.close
    obtain ⟨tv2, t1, t2⟩ := hg.close (d := 10) hself
    have tarr : Arr 4 tTask.R tv2 (redT x.1) := by
      refine ⟨css, by rw [redT_len]; exact hcl, fun i h h' => (hcs i h h').1, c4, by rw [redT_len]; unfold top; omega, by rw [flatten_len css c4, hcl, redT_len], ?_⟩
      rcases t2 with rfl | ⟨z, rfl⟩
      · left; rw [redT_len]
      · right; rw [redT_len]; exact ⟨z, .inl rfl⟩
    have cl : closeV H2 closeDepth (.agg [tv, b]) = some (.agg [tv2, b]) := by
      rw [show closeDepth = 11 + 1 from rfl, closeV_agg]
      simp only [mapO, show (11 : Nat) = 10 + 1 from rfl, t1, h2.close, Option.bind_some, Option.map_some]
    have cr : closeV H2 closeDepth (.agg [ra, rb]) = some (.agg [ra, rb]) := by
      rw [show closeDepth = 11 + 1 from rfl, closeV_agg]
      simp only [mapO, show (11 : Nat) = 10 + 1 from rfl, r1.close, r2.close, Option.bind_some, Option.map_some]
    refine Cl.lend (F := i13) rfl rfl (args' := [.agg [ra, rb], .agg [tv2, b]]) (by simp [mapO, cl, cr]) (by simp [r1.closed, r2.closed, tarr.closed, h2.closed]) ?_
    refine c13 hrr (shop_mk (x := (redT x.1, x.2)) tarr h2) ?_
    simp [scalarV]
end Go.Proofs.Ytoommmeapdkopaa.E
