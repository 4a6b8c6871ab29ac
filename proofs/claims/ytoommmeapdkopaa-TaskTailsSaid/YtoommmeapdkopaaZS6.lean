/- What functions of the program return, proved over the interpreter. Each theorem says its conditions. -/
import Derived.Test.YtoommmeapdkopaaZS5
import Derived.Test.YtoommmeapdkopaaE36
namespace Go.Proofs.Ytoommmeapdkopaa.E
open Go Go.Eng

def isMx (T : List tTask.D) (f : Nat → Int) (m : Int) : Prop := (∀ i, i < T.length → f i ≤ m) ∧ ((T.length = 0 ∧ m = 0) ∨ ∃ i, i < T.length ∧ f i = m)
theorem isMx_eq {T : List tTask.D} {f g : Nat → Int} (hfg : ∀ i, i < T.length → f i = g i) {m m' : Int} (h : isMx T f m) (h' : isMx T g m') : m = m' := by
  obtain ⟨a1, a2⟩ := h
  obtain ⟨b1, b2⟩ := h'
  rcases a2 with ⟨z, rfl⟩ | ⟨i, hi, rfl⟩
  · rcases b2 with ⟨_, rfl⟩ | ⟨j, hj, rfl⟩
    · rfl
    · omega
  · rcases b2 with ⟨z, rfl⟩ | ⟨j, hj, rfl⟩
    · omega
    · have := a1 j hj
      have := b1 i hi
      rw [← hfg i hi] at this
      rw [hfg j hj] at *
      omega
theorem nxC_congr {T : List tTask.D} {f g : Nat → Int} (hfg : ∀ i, i < T.length → f i = g i) (left : Int) (last : Option Nat) : nxC T f left last = nxC T g left last := by
  simp only [nxC]
  have : ∀ (n : Nat), n ≤ T.length → ∀ p q : Nat → Bool, (∀ i, i < T.length → p i = q i) → (List.range n).find? p = (List.range n).find? q := by
    intro n hn p q hpq
    induction n with
    | zero => rfl
    | succ n ih =>
      rw [List.range_succ, List.find?_append, List.find?_append, ih (by omega)]
      simp [hpq n (by omega)]
  exact this _ (Nat.le_refl _) _ _ fun i hi => by rw [hfg i hi]
theorem chainL_congr {T : List tTask.D} {f g : Nat → Int} (hfg : ∀ i, i < T.length → f i = g i) : ∀ (d : Nat) (left : Int) (last : Option Nat), chainL T f d left last = chainL T g d left last
  | 0, _, _ => rfl
  | d + 1, left, last => by
    simp only [chainL, nxC_congr hfg, chainL_congr hfg d]
theorem chainL_lt {T : List tTask.D} {f : Nat → Int} : ∀ (d : Nat) (left : Int) (last : Option Nat), ∀ c ∈ chainL T f d left last, c < T.length
  | 0, _, _, c, hc => by simp [chainL] at hc
  | d + 1, left, last, c, hc => by
    simp only [chainL] at hc
    split at hc
    · simp at hc
    · split at hc
      · simp at hc
      · rename_i i hi
        rcases List.mem_cons.1 hc with rfl | hc
        · exact (nxC_spec hi).1
        · exact chainL_lt d _ _ c hc
theorem chainL_len {T : List tTask.D} {f : Nat → Int} : ∀ (d : Nat) (left : Int) (last : Option Nat), (chainL T f d left last).length ≤ d
  | 0, _, _ => by simp [chainL]
  | d + 1, left, last => by
    simp only [chainL]
    split
    · simp
    · split
      · simp
      · have := chainL_len (T := T) (f := f) d
        simp only [List.length_cons]
        have := this (left - dur T ‹Nat›) (some ‹Nat›)
        omega

theorem ok_Critical {x : tShop.D} {v : V} (hx : tShop.V x v) (he : shopErr x (decide ((orderL x.1).length < x.1.length)) = 0) {H : Heap} {k : V → Heap → Prop}
    (h : ∀ r f m, isTail x.1 f → isMx x.1 f m → 0 ≤ m → m ≤ 24 * 1048576 → Arr 1 tI.R r (ofN (chainL x.1 f m.toNat m none)) → k (.tup [.int .i64 m, r, .int .i64 0]) H) : Cl G 16 [v] H k := by
  obtain ⟨a, b, rfl, g1, g2⟩ := shop_v hx
  obtain ⟨z1, z2, z3, z4⟩ := shopErr_zero he
  have vl := vld_of he
  refine Cl.mode1 (F := i16) rfl rfl (by simp [g1.closed, g2.closed]) ?_
  rw [w16]
  have hres : i16.res = [.t 2, .cell 3 1 false, .t 4] := rfl
  have len0 : ([] : Heap).length = 0 := rfl
  simp only [bxrV_agg, closedVs_cons, closedVs_nil, g1.closed, g2.closed, Bool.and_self, bd_some, newB, len0, List.nil_append, ldV_s2, Bool.true_or, true_and]
  refine c29 hx ?_
  rw [he]
  simp only [binV_neq, decide_true, Bool.not_true, bd_some, ifB_bool, Bool.false_eq_true, if_false, fadrV_rptr, List.drop_zero, ldV_one, g1.lens, binV_eql]
  by_cases h0 : x.1.length = 0
  · have e0 : ((x.1.length : Nat) : Int) = 0 := by omega
    have st : stV [.cells [.nils]] 1 (.ptr 0 0) .nils = some [.cells [.nils]] := rfl
    have ld : rd [.cells [.nils]] (.ptr 0 0) 1 = some [.nils] := rfl
    simp only [e0, decide_true, if_true, st, bd_some, hres, resultV, mapO, result1, List.getD_cons_zero, List.getD_cons_succ, ld, Option.bind_some, packV, Option.map_some, true_and]
    refine hq_some (v' := .tup [.int .i64 0, .nils, .int .i64 0]) rfl (h .nils (fun _ => 0) 0 (fun i hi => by omega) ⟨fun i hi => by omega, .inl ⟨h0, rfl⟩⟩ (by omega) (by omega) ?_)
    exact ints_arr (by simp [ofN, chainL, top]) (by simp [ofN, chainL]) (.inr ⟨by simp [ofN, chainL], .inl rfl⟩)
  have e0 : ¬ ((x.1.length : Nat) : Int) = 0 := by omega
  simp only [e0, decide_false, Bool.false_eq_true, if_false, ldV_s2, bd_some, Bool.true_or, true_and]
  refine c42 hx he fun lv f hf hb hl => ?_
  have st1 : stV ([.cells [.nils]] ++ [.cells [.nils]]) 1 (.ptr 1 0) lv = some [.cells [.nils], .cells [lv]] := by
    have := stV_own (H := [.cells [.nils]] ++ [.cells [.nils]]) (id := 1) (off := 0) (cs := [.nils]) (x := lv) rfl (by simp) hl.one
    simpa using this
  have ld1 : ldV [.cells [.nils], .cells [lv]] (.ptr 1 0) 1 false = some lv := ldV_own rfl rfl
  simp only [newB, List.length_cons, List.length_nil, Nat.zero_add, st1, bd_some, ld1, true_and]
  refine c43 hl (by simp; omega) fun m hm hmx => ?_
  have st2 : stV ([.cells [.nils], .cells [lv]] ++ [.cells [.nilf]]) 1 (.ptr (1 + 1) 0) (.fn 44 [.rptr [a, b], .ptr 1 0, .ptr 0 0, .ptr (1 + 1) 0]) = some [.cells [.nils], .cells [lv], .cells [.fn 44 [.rptr [a, b], .ptr 1 0, .ptr 0 0, .ptr 2 0]]] := rfl
  have ld2 : ldV [.cells [.nils], .cells [lv], .cells [.fn 44 [.rptr [a, b], .ptr 1 0, .ptr 0 0, .ptr 2 0]]] (.ptr (1 + 1) 0) 1 false = some (.fn 44 [.rptr [a, b], .ptr 1 0, .ptr 0 0, .ptr 2 0]) := rfl
  obtain ⟨i0, hi0, rfl⟩ := List.mem_map.1 hm
  have hi0' : i0 < x.1.length := by simpa using hi0
  have hmxx : isMx x.1 f (f i0) := ⟨fun i hi => hmx _ (List.mem_map.2 ⟨i, by simpa using hi, rfl⟩), .inr ⟨i0, hi0', rfl⟩⟩
  have hbm := hb i0 hi0'
  generalize f i0 = m at *
  simp only [List.length_cons, List.length_nil, Nat.zero_add, st2, bd_some, ld2, callV_fn, List.cons_append, List.nil_append, Bool.true_or, true_and]
  refine extend_ok vl z3 g1 hl (by omega) m.toNat m none _ [] _ (by omega) (by omega) (by simp; omega) ⟨.nils, Gr.nil⟩ fun H' hp => ?_
  obtain ⟨pv, hg⟩ := hp
  rw [List.nil_append] at hg
  have gp := hg.get (j := 0) rfl
  have l0 : ldV H' (.ptr 0 0) 1 false = some pv := ldV_own gp rfl
  have o1 : oneC pv = true := by rcases hg.2.2.2 with ⟨_, rfl⟩ | ⟨_, _, rfl, _⟩ <;> rfl
  have s0 := stV_own (off := 0) (x := pv) gp (by simp) o1
  have hg2 := hg.set (j := 0) (by simp) (.cells [pv])
  have rd0 : rd (H'.set 0 (.cells [pv])) (.ptr 0 0) 1 = some [pv] := by
    have := hg2.get (j := 0) rfl
    simp [rd, this]
  simp only [l0, bd_some, s0, List.set_cons_zero, true_and, hres, resultV, mapO, result1, List.getD_cons_zero, List.getD_cons_succ, rd0, Option.bind_some, packV, Option.map_some, Bool.false_eq_true, if_false]
  have hcl := chainL_len (T := x.1) (f := f) m.toNat m none
  obtain ⟨u, c1, c2⟩ := Gr.ints (l := ofN (chainL x.1 f m.toNat m none)) (d := 9) (by simpa [ofN] using hg2) (by simp [ofN]; unfold top; omega) (ofN_rng (n := 1000) (fun a ha => by have := chainL_lt _ _ _ a ha; omega) (by omega))
  refine hq_some (v' := .tup [.int .i64 m, u, .int .i64 0]) ?_ (h u f m hf hmxx hbm.1 hbm.2 c2)
  rw [show closeDepth = 11 + 1 from rfl, closeV_tup]
  simp only [mapO, c1, closeV_int, Option.bind_some, Option.map_some]

theorem c18 {x : tShop.D} {v : V} (hx : tShop.V x v) (he : shopErr x (decide ((orderL x.1).length < x.1.length)) = 0) {f : Nat → Int} (hf : isTail x.1 f) {H : Heap} {k : V → Heap → Prop}
    (h : ∀ r m, isMx x.1 f m → Arr 1 tI.R r (ofN (chainL x.1 f m.toNat m none)) → k (.tup [.int .i64 m, r]) H) : Cl G 18 [v] H k := by
  obtain ⟨a, b, rfl, h1, h2⟩ := shop_v hx
  obtain ⟨z1, z2, z3, z4⟩ := shopErr_zero he
  have vl := vld_of he
  have hft := tail_top vl z3 hf
  refine Cl.mode1 (F := i18) rfl rfl (by simp [h1.closed, h2.closed]) ?_
  rw [w18]
  simp only [bxrV_agg, closedVs_cons, closedVs_nil, h1.closed, h2.closed, Bool.and_self, bd_some]
  refine ub18_0 x.1.length (fun m c1 c4 c5 H => c1 = .rptr [a, b] ∧ c5 = .int .i64 m ∧ H = [] ∧ ∃ s, c4 = .int .i64 s ∧ 0 ≤ s ∧ (∀ k, k < m → f k ≤ s) ∧ ((m = 0 ∧ s = 0) ∨ ∃ k, k < m ∧ f k = s)) ?_ 0 (Nat.zero_le _) ⟨rfl, rfl, rfl, 0, rfl, by omega, fun k hk => by omega, .inl ⟨rfl, rfl⟩⟩
  rintro m hm _ _ _ H2 ⟨rfl, rfl, rfl, s, rfl, s1, s2, s3⟩
  intros
  rw [wb18_0]
  simp only [fadrV_rptr, List.drop_zero, ldV_one, h1.lens, bd_some, binV_lss, ifB_bool, decide_eq_true_eq, Int.ofNat_lt]
  split
  · rename_i hlt
    simp only [ldV_s2, bd_some, Bool.true_or, true_and]
    refine c21 hx he hf m hlt _ _ ?_
    have := hft m hlt
    simp only [maxV_int, bd_some, binV_add, wi (show (m : Int) + 1 = ((m + 1 : Nat) : Int) by omega) (by omega), upQ_n, Sb18_0_eq, true_and]
    refine ⟨m + 1, by omega, by omega, rfl, _, rfl, by split <;> omega, fun k hk => ?_, .inr ?_⟩
    · by_cases e : k = m
      · subst e; split <;> omega
      · have := s2 k (by omega)
        split <;> omega
    · split
      · exact ⟨m, by omega, rfl⟩
      · rcases s3 with ⟨rfl, rfl⟩ | ⟨k, a, b⟩
        · omega
        · exact ⟨k, by omega, b⟩
  rename_i hlt
  have em : m = x.1.length := by omega
  subst em
  have hmx : isMx x.1 f s := ⟨s2, s3⟩
  have hstop : s ≤ 24 * 1048576 := by
    rcases s3 with ⟨_, rfl⟩ | ⟨k, hk, rfl⟩
    · omega
    · have := hft k hk; omega
  simp only [upQ_e, blockQ_e, if_true, seqQ_n, wr18_1]
  refine ub18_2 s.toNat (fun m c1 c4 c6 c7 H => c1 = .rptr [a, b] ∧ c4 = .int .i64 s ∧ ∃ (p : List Nat) (left : Int) (d : Nat), c7 = .int .i64 left ∧ 0 ≤ left ∧ left ≤ d ∧ left + m = s ∧ p.length ≤ m ∧ p ++ chainL x.1 f d left p.getLast? = chainL x.1 f s.toNat s none ∧ leftOK x.1 f left p.getLast? ∧ Gr 1 [] H c6 ((ofN p).map (V.int .i64)) p.length) ?_ 0 (Nat.zero_le _) ⟨rfl, rfl, [], s, s.toNat, rfl, s1, by omega, by simp, by simp, rfl, fun hp => ?_, by simpa [ofN] using Gr.nil (k := 1) (F := [])⟩
  case refine_2 =>
    rcases s3 with ⟨_, rfl⟩ | ⟨k, hk, e⟩
    · omega
    · exact ⟨k, hk, e, trivial⟩
  rintro m hm _ _ c6 _ H2 ⟨rfl, rfl, p, left, d, rfl, l0, ld, lm, lp, lch, lok, hg⟩
  intros
  rw [wb18_2]
  simp only [binV_gtr, gt_iff_lt, bd_some, ifB_bool, decide_eq_true_eq]
  split
  · rename_i hpos
    obtain ⟨i, hnx⟩ := nxC_some lok hpos
    obtain ⟨n1, n2, n3⟩ := nxC_spec hnx
    refine ub18_3 x.1.length (fun t c1 c4 c6' c7 c8 H => c1 = .rptr [a, b] ∧ c4 = .int .i64 s ∧ c6 = c6' ∧ c7 = .int .i64 left ∧ c8 = .int .i64 t ∧ (∀ j, j < t → goB x.1 f left p.getLast? j = false) ∧ Gr 1 [] H c6 ((ofN p).map (V.int .i64)) p.length) ?_ 0 (Nat.zero_le _) ⟨rfl, rfl, rfl, rfl, rfl, fun j hj => by omega, hg⟩
    clear hg
    rintro t ht _ _ _ _ _ H3 ⟨rfl, rfl, rfl, rfl, rfl, hno, hg⟩
    intros
    rw [wb18_3]
    have hlt : t < x.1.length := by
      refine Classical.byContradiction fun hge => ?_
      rw [nxC_eq, find_range_none fun j hj => hno j (by omega)] at hnx
      cases hnx
    have htI : (t : Int) < x.1.length := by omega
    obtain ⟨w, r, e, q⟩ := task_at h1 hlt
    have hal : aft x.1 t = x.1[t].2.2.2 := aft_of hlt
    have wt : IntKind.i64.wrap ((t : Int) + 1) = ((t + 1 : Nat) : Int) := wi (by omega) (by omega)
    simp only [fadrV_rptr, List.drop_zero, ldV_one, h1.lens, bd_some, binV_lss, htI, decide_true, ifB_bool, if_true, ldV_s2, Bool.true_or, true_and]
    refine c21 hx he hf t hlt _ _ ?_
    have next : goB x.1 f left p.getLast? t = false → ∀ j, j < t + 1 → goB x.1 f left p.getLast? j = false := fun hgf j hj => by
      by_cases e : j = t
      · rw [e]; exact hgf
      · exact hno j (by omega)
    by_cases hfm : f t = left
    case neg =>
      have hgf : goB x.1 f left p.getLast? t = false := by simp [goB, hfm]
      simp only [binV_eql, hfm, decide_false, bd_some, gdV_bool, show (false == true) = false from rfl, wpg_false, gdV_undef, pickV_bool, Bool.false_eq_true, if_false, ifB_bool, binV_add, wt, upQ_n, Sb18_3_eq, true_and]
      exact ⟨t + 1, by omega, by omega, rfl, next hgf, hg⟩

    have hit : goB x.1 f left p.getLast? t = true → ∃ v' H', appV 1 8 true (H3 ++ [.cells [.int .i64 t]]) c6 (.sl H3.length 0 1 1 1) = some (v', H') ∧ IntKind.i64.wrap (left - x.1[t].2.1) = left - dur x.1 t ∧
        ∃ j, m < j ∧ j ≤ s.toNat ∧ ∃ (p : List Nat) (left' : Int) (d : Nat), V.int .i64 (left - dur x.1 t) = .int .i64 left' ∧ 0 ≤ left' ∧ left' ≤ d ∧ left' + j = s ∧ p.length ≤ j ∧ p ++ chainL x.1 f d left' p.getLast? = chainL x.1 f s.toNat s none ∧ leftOK x.1 f left' p.getLast? ∧ Gr 1 [] H' v' ((ofN p).map (V.int .i64)) p.length := by
      intro hgo
      have hti : nxC x.1 f left p.getLast? = some t := by rw [nxC_eq]; exact find_range_some hlt hgo hno
      have hdr := dur_rng z3 hlt
      have hnl := left_next hf hti
      obtain ⟨sf, q1, q2, _⟩ := hf t hlt
      obtain ⟨v', H', g1, g2⟩ := hg.push (xs := [.int .i64 t]) rfl (by omega) (bytes := 8) (by unfold room; omega)
      refine ⟨v', H', g1, by rw [dur_of hlt] at *; exact wz (by omega) (by omega), m + (dur x.1 t).toNat, by omega, by omega, p ++ [t], left - dur x.1 t, d - 1, rfl, by omega, by omega, by omega, by simp; omega, ?_, by simpa using hnl, by simpa [ofN] using g2⟩
      rw [← lch]
      cases d with
      | zero => omega
      | succ d =>
        simp only [chainL, show ¬ left ≤ 0 by omega, if_false, hti, Nat.add_sub_cancel]
        simp
    rcases List.eq_nil_or_concat p with hp | ⟨p', c, hp⟩
    · subst hp
      obtain ⟨v', H', g1, g2, fin⟩ := hit (by simp [goB, hfm])
      have lz : lensV c6 = some (.int .i64 (0 : Nat)) := hg.lens
      simp only [binV_eql, hfm, decide_true, bd_some, gdV_bool, beq_self_eq_true, wpg_true, lz, show ((0 : Nat) : Int) = 0 from rfl, show (true == false) = false from rfl, wpg_false, pickV_bool, if_true, ifB_bool, bslV_one (show oneC (.int .i64 t) = true from rfl), bd2_some, g1, fadrV_rptr, List.drop_zero, ldV_one, e, List.drop_succ_cons, binV_sub, g2, upQ_e, blockQ_e, blockQ_n, upQ_n, Sb18_2_eq, true_and]
      exact fin
    · have hgl : p.getLast? = some c := by rw [hp]; simp
      have hpl : p.length = p'.length + 1 := by rw [hp]; simp
      have lz : lensV c6 = some (.int .i64 p.length) := hg.lens
      have nz : ¬ ((p.length : Int) = 0) := by omega
      have wl : IntKind.i64.wrap ((p.length : Int) - 1) = ((p.length - 1 : Nat) : Int) := wi (by omega) (by omega)
      obtain ⟨pp, p1, p2⟩ := gr_elem (l := ofN p) (by simpa [ofN] using hg) (i := p.length - 1) (by simp [ofN]; omega)
      have e1 : (ofN p)[p.length - 1]'(by simp [ofN]; omega) = (c : Int) := by simp [ofN, hp]
      rw [e1] at p2
      simp only [binV_eql, hfm, decide_true, bd_some, gdV_bool, beq_self_eq_true, wpg_true, lz, nz, decide_false, fadrV_rptr, List.drop_zero, ldV_one, e, List.drop_succ_cons, binV_sub, wl, p1, p2, Bool.true_or, true_and]
      refine c22 (q.sh _) ?_
      by_cases hc : (c : Int) ∈ x.1[t].2.2.2
      · obtain ⟨v', H', g1, g2, fin⟩ := hit (by simp [goB, hfm, hgl, hal, hc])
        simp only [hc, decide_true, bd_some, pickV_bool, if_true, Bool.false_eq_true, if_false, gdV_bool, beq_self_eq_true, wpg_true, ifB_bool, bslV_one (show oneC (.int .i64 t) = true from rfl), bd2_some, g1, fadrV_rptr, List.drop_zero, ldV_one, e, List.drop_succ_cons, binV_sub, g2, upQ_e, blockQ_e, blockQ_n, upQ_n, Sb18_2_eq, true_and]
        exact fin
      · have hgf : goB x.1 f left p.getLast? t = false := by simp [goB, hgl, hal, hc]
        simp only [hc, decide_false, bd_some, pickV_bool, if_true, Bool.false_eq_true, if_false, gdV_bool, beq_self_eq_true, wpg_true, ifB_bool, binV_add, wt, upQ_n, Sb18_3_eq, true_and]
        exact ⟨t + 1, by omega, by omega, rfl, next hgf, hg⟩
  · rename_i hpos
    rw [chainL_none (by omega), List.append_nil] at lch
    simp only [upQ_e, blockQ_e, if_true, seqQ_n, wr18_4, ret18]
    have hcl := chainL_len (T := x.1) (f := f) s.toNat s none
    rw [lch] at hg
    obtain ⟨u, c1, c2⟩ := Gr.ints (l := ofN (chainL x.1 f s.toNat s none)) (d := 9) (by rw [← lch] at hg ⊢; simpa [ofN] using hg) (by simp [ofN]; unfold top; omega) (ofN_rng (n := 1000) (fun a ha => by have := chainL_lt _ _ _ a ha; omega) (by omega))
    refine hq_some (v' := .tup [.int .i64 s, u]) ?_ (h u s hmx c2)
    rw [show closeDepth = 11 + 1 from rfl, closeV_tup]
    simp only [mapO, c1, closeV_int, Option.bind_some, Option.map_some]
end Go.Proofs.Ytoommmeapdkopaa.E
namespace Go.Proofs.Ytoommmeapdkopaa.E
open Go Go.Eng

def Cpy (H H' : Heap) (r : V) (cs : List V) : Prop := (cs = [] ∧ (r = .nils ∨ r = .z0) ∧ H' = H) ∨ (0 < cs.length ∧ r = .sl H.length 0 cs.length cs.length 1 ∧ H' = H ++ [.cells cs])

theorem arr_cells {α : Type} {R : α → List V → Prop} {g : α → V} (hR : ∀ x c, R x c → c = [g x]) {v : V} {l : List α} (h : Arr 1 R v l) : v = .ro (l.map g) l.length ∨ (l = [] ∧ (v = .nils ∨ v = .z0 ∨ v = .e0)) := by
  obtain ⟨css, h1, h2, h3, h4, h5, h6⟩ := h
  have e : css.flatten = l.map g := by
    have : css = l.map fun x => [g x] := by
      apply List.ext_getElem (by simp [h1])
      intro i g1 g2
      simp only [List.getElem_map]
      exact hR _ _ (h2 i (by omega) g1)
    rw [this, flatS]
  rw [e] at h6
  exact h6.imp id fun ⟨a, b⟩ => ⟨List.length_eq_zero_iff.1 a, b⟩
theorem ints_cells {v : V} {l : List Int} (h : Arr 1 tI.R v l) : v = .ro (l.map (V.int .i64)) l.length ∨ (l = [] ∧ (v = .nils ∨ v = .z0 ∨ v = .e0)) := arr_cells (fun _ _ h => h.1) h
theorem strs_cells {v : V} {l : List (List UInt8)} (h : Arr 1 (Ty.R .str) v l) : v = .ro (l.map V.str) l.length ∨ (l = [] ∧ (v = .nils ∨ v = .z0 ∨ v = .e0)) := arr_cells (fun _ _ h => h.1) h
theorem mapO_strs {H : Heap} {d : Nat} (l : List (List UInt8)) : mapO (closeV H (d + 1)) (l.map V.str) = some (l.map V.str) :=
  mapO_self fun x hx => by obtain ⟨a, _, rfl⟩ := List.mem_map.1 hx; rfl

theorem hq2_sl {H : Heap} {K : V → Heap → Prop} {cs : List V} (hc : ∀ H : Heap, mapO (closeV H closeDepth) cs = some cs) (h : K (.sl H.length 0 cs.length cs.length 1) (H ++ [.cells cs])) : hq 2 H K (.sl 0 0 cs.length cs.length 1) [.cells cs] := by
  unfold hq
  simp only [handV, show ¬ ((2 : Nat) = 1) by decide, if_false, List.getElem?_cons_zero, Nat.mul_one, Nat.le_refl, true_and, and_self, if_true, List.take_length, hc, Option.map_some, bd2_some]
  exact h

theorem c48 {v : V} {l : List Int} (hx : Arr 1 tI.R v l) (hb : l.length ≤ 1000) {H : Heap} {k : V → Heap → Prop} (h : ∀ r H', Cpy H H' r (l.map (V.int .i64)) → k r H') : Cl G 48 [v] H k := by
  refine Cl.mode2 (F := i48) rfl rfl (by simp [hx.closed]) ?_
  rw [w48]
  have b0 : bslV 1 0 [.int .i64 0] [] [] = some (.z0, []) := rfl
  rcases ints_cells hx with rfl | ⟨rfl, rfl | rfl | rfl⟩
  · have e1 : eqnV .slice false (.ro (l.map (V.int .i64)) l.length) .nils = some (.bool false) := rfl
    simp only [e1, bd_some, ifB_bool, Bool.false_eq_true, if_false, b0, bd2_some]
    by_cases h0 : l.length = 0
    · have : l = [] := List.length_eq_zero_iff.1 h0
      subst this
      exact h .z0 H (.inl ⟨rfl, .inr rfl, rfl⟩)
    · have ea : appV 1 8 true [] .z0 (.ro (l.map (V.int .i64)) l.length) = some (.sl 0 0 l.length l.length 1, [.cells (l.map (V.int .i64))]) := by
        have hm : l.length * 8 ≤ room := by unfold room; omega
        simp [appV, sliceCells, h0, hm]
        rw [← List.map_take, List.take_length]
      simp only [ea, bd2_some]
      have := hq2_sl (H := H) (K := k) (cs := l.map (V.int .i64)) (fun H => mapO_ints (d := 11) l) (h _ _ (.inr ⟨by simp; omega, rfl, rfl⟩))
      simpa using this
  · exact h .nils H (.inl ⟨rfl, .inl rfl, rfl⟩)
  · exact h .z0 H (.inl ⟨rfl, .inr rfl, rfl⟩)
  · exact h .z0 H (.inl ⟨rfl, .inr rfl, rfl⟩)
theorem c52 {v : V} {l : List (List UInt8)} (hx : Arr 1 (Ty.R .str) v l) (hb : l.length ≤ 1000) {H : Heap} {k : V → Heap → Prop} (h : ∀ r H', Cpy H H' r (l.map V.str) → k r H') : Cl G 52 [v] H k := by
  refine Cl.mode2 (F := i52) rfl rfl (by simp [hx.closed]) ?_
  rw [w52]
  have b0 : bslV 1 0 [.str []] [] [] = some (.z0, []) := rfl
  rcases strs_cells hx with rfl | ⟨rfl, rfl | rfl | rfl⟩
  · have e1 : eqnV .slice false (.ro (l.map V.str) l.length) .nils = some (.bool false) := rfl
    simp only [e1, bd_some, ifB_bool, Bool.false_eq_true, if_false, b0, bd2_some]
    by_cases h0 : l.length = 0
    · have : l = [] := List.length_eq_zero_iff.1 h0
      subst this
      exact h .z0 H (.inl ⟨rfl, .inr rfl, rfl⟩)
    · have ea : appV 1 16 true [] .z0 (.ro (l.map V.str) l.length) = some (.sl 0 0 l.length l.length 1, [.cells (l.map V.str)]) := by
        have hm : l.length * 16 ≤ room := by unfold room; omega
        simp [appV, sliceCells, h0, hm]
        rw [← List.map_take, List.take_length]
      simp only [ea, bd2_some]
      have := hq2_sl (H := H) (K := k) (cs := l.map V.str) (fun H => mapO_strs (d := 11) l) (h _ _ (.inr ⟨by simp; omega, rfl, rfl⟩))
      simpa using this
  · exact h .nils H (.inl ⟨rfl, .inl rfl, rfl⟩)
  · exact h .z0 H (.inl ⟨rfl, .inr rfl, rfl⟩)
  · exact h .z0 H (.inl ⟨rfl, .inr rfl, rfl⟩)

abbrev Tab (T : List tTask.D) (bv : V) : Prop := Arr 1 (Ty.R (.sl .bool)) bv ((List.range T.length).map fun i => btab T.length (rchB T i))
theorem c51 {T : List tTask.D} {bv : V} (hb : Tab T bv) {j y : Nat} (hj : j < T.length) (hy : y < T.length) {H : Heap} {k : V → Heap → Prop} (h : k (.bool (rchB T j y)) H) : Cl G 51 [.int .i64 j, .rptr [bv], .rptr [.int .i64 y]] H k := by
  refine Cl.mode1 (F := i51) rfl rfl (by simp [hb.closed]) ?_
  rw [w51]
  obtain ⟨_, rr, ⟨row, rfl, q⟩, _, er⟩ := hb.iadr (i := j) (by simpa using hj)
  simp only [List.getElem_map, List.getElem_range] at q
  obtain ⟨r2, e2⟩ := bool1 q (i := y) (by simpa using hy)
  have gv : (btab T.length (rchB T j))[y]'(by simpa using hy) = rchB T j y := by simp [btab]
  rw [gv] at e2
  simp only [ldV_one, bd_some, er, List.singleton_append, e2, hq_bool]
  exact h
noncomputable def outB (T : List tTask.D) (l : List Int) (y : Int) : Bool := l.any fun j => rchB T j.toNat y.toNat
theorem c49 {T : List tTask.D} {bv w x1 x2 p : V} {l : List Int} (hb : Tab T bv) (hw : Arr 1 tI.R w l) (hl : ∀ a ∈ l, 0 ≤ a ∧ a < T.length) {y : Int} (hy : 0 ≤ y ∧ y < T.length) {H : Heap}
    (h1 : fadrV 3 x1 = some p) (h2 : ldV (H ++ [.cells [.int .i64 y]]) p 1 false = some w) (h3 : closeV (H ++ [.cells [.int .i64 y]]) 11 x2 = some (.rptr [bv])) {k : V → Heap → Prop} (h : k (.bool (outB T l y)) (H ++ [.cells [.int .i64 y]])) : Cl G 49 [.int .i64 y, x1, x2] H k := by
  refine Cl.inline (F := i49) rfl rfl ?_
  rw [w49]
  have bx : boxV (.int .i64 y) = some (.cells [.int .i64 y]) := rfl
  simp only [bx, bd_some, newB, h1, h2, Bool.true_or, true_and]
  have g : (H ++ [B.cells [.int .i64 y]])[H.length]? = some (.cells [.int .i64 y]) := by simp
  have c2 : closeV (H ++ [B.cells [.int .i64 y]]) 11 (.ptr H.length 0) = some (.rptr [.int .i64 y]) := by
    rw [show (11 : Nat) = 10 + 1 from rfl, closeV_ptr g]; rfl
  have hcl : closeV (H ++ [B.cells [.int .i64 y]]) closeDepth (.fn 51 [x2, .ptr H.length 0]) = some (.fn 51 [.rptr [bv], .rptr [.int .i64 y]]) := by
    rw [show closeDepth = 11 + 1 from rfl, closeV_fn]
    simp only [mapO, h3, c2, Option.bind_some, Option.map_some]
  obtain ⟨yn, rfl⟩ : ∃ n : Nat, y = n := ⟨y.toNat, by omega⟩
  refine c50 (hw.sh _) hcl (by simp [hb.closed]) (by simp) (fun j => rchB T j.toNat (yn : Int).toNat) (fun t ht H k hk => ?_) ?_
  · obtain ⟨t1, t2⟩ := hl t ht
    obtain ⟨tn, rfl⟩ : ∃ n : Nat, t = n := ⟨t.toNat, by omega⟩
    refine c51 hb (by omega) (by omega) ?_
    simpa using hk
  · exact h

theorem cIndexMem {v : V} {l : List Int} {x0 : V} {H : Heap} (hv : closeV H closeDepth x0 = some v) (hx : Arr 1 tI.R v l) {f : FuncId} {caps caps' : List V} (hcl : closeV H closeDepth (.fn f caps) = some (.fn f caps')) (p : Int → Bool)
    (hf : ∀ t ∈ l, ∀ (H : Heap) (k : V → Heap → Prop), (∀ H', k (.bool (p t)) H') → Cl G f (.int .i64 t :: caps') H k)
    {k : V → Heap → Prop} (h : ∀ r : Int, (r = -1 ∧ l.any p = false) → k (.int .i64 r) H) (h' : ∀ r : Nat, ∀ hr : r < l.length, (l.take r).any p = false → p l[r] = true → k (.int .i64 r) H) : Cl G 65 [x0, .fn f caps] H k := by
  refine Cl.any (F := i65) rfl rfl (args' := [v, .fn f caps']) (by simp [mapO, hv, hcl]) ?_
  rw [w65]
  have hle := hx.le
  simp only [hx.lens, bd_some]
  refine ub65_0 l.length (fun i a b c d _ => a = v ∧ b = .fn f caps' ∧ c = .int .i64 l.length ∧ d = .int .i64 i ∧ (l.take i).any p = false) ?_ 0 (Nat.zero_le _) (by simp)
  rintro i hi _ _ _ _ _ ⟨rfl, rfl, rfl, rfl, he⟩
  intros
  rw [wb65_0]
  simp only [bd_some, binV_lss, ifB_bool, decide_eq_true_eq, Int.ofNat_lt]
  split
  · rename_i hlt
    obtain ⟨r, e⟩ := hx.int1 hlt
    simp only [e, ldV_one, bd_some, callV_fn, Bool.true_or, true_and, List.singleton_append]
    refine hf l[i] (List.getElem_mem hlt) _ _ fun H' => ?_
    simp only [ifB_bool]
    split
    · rename_i hp
      simp only [upQ_r, blockQ_r, seqQ_r, ret65, hq_int, lq_int]
      exact h' i hlt he hp
    · rename_i hp
      simp only [binV_add, bd_some, wrap_succ (show i + 1 ≤ 9223372036854775807 by unfold top at hle; omega), upQ_n, Sb65_0_eq, true_and]
      exact ⟨i + 1, by omega, by omega, rfl, by rw [any_take_succ hlt, he]; simpa using hp⟩
  · rename_i hge
    rw [take_all hge] at he
    simp only [upQ_e, blockQ_e, if_true, seqQ_n, wr65_1, ret65, hq_int, lq_int]
    exact h (-1) ⟨rfl, he⟩
end Go.Proofs.Ytoommmeapdkopaa.E
namespace Go.Proofs.Ytoommmeapdkopaa.E
open Go Go.Eng

theorem ovl_take {cs xs : List V} {o : Nat} (h : o ≤ cs.length) : (ovl cs o xs).take o = cs.take o := by
  unfold ovl
  split
  · apply List.ext_getElem?
    intro i
    by_cases hi : i < o
    · rw [List.getElem?_take_of_lt hi, List.getElem?_take_of_lt hi, List.getElem?_set_ne (by omega)]
    · rw [List.getElem?_eq_none (by simp; omega), List.getElem?_eq_none (by simp; omega)]
  · rw [List.append_assoc, List.take_append_of_le_length (by simp; omega), List.take_take, Nat.min_self]
theorem filter_take_succ {α : Type} {l : List α} {i : Nat} (h : i < l.length) {p : α → Bool} : (l.take (i + 1)).filter p = (l.take i).filter p ++ if p l[i] = true then [l[i]] else [] := by
  rw [tk h, List.filter_append]
  cases hp : p l[i] <;> simp [hp]

theorem c47 {l : List Int} {c : Nat} {H : Heap} (hpos : 0 < l.length) (hc : H[c]? = some (.cells (l.map (V.int .i64)))) (hn : l.length ≤ 1000) (hr : ∀ y ∈ l, IntKind.i64.min ≤ y ∧ y ≤ IntKind.i64.max)
    {f : FuncId} {caps caps' : List V} (hcl : closeV H closeDepth (.fn f caps) = some (.fn f caps')) (p : Int → Bool)
    (hf : ∀ t ∈ l, ∀ (H : Heap) (k : V → Heap → Prop), (∀ H', k (.bool (p t)) H') → Cl G f (.int .i64 t :: caps') H k)
    (hf2 : ∀ t ∈ l, ∀ (Hx : Heap), But c H Hx → ∀ (k : V → Heap → Prop), (∀ H', But c Hx H' → H'[c]? = Hx[c]? → k (.bool (p t)) H') → Cl G f (.int .i64 t :: caps) Hx k)
    {k : V → Heap → Prop} (h : ∀ r H', But c H H' → (∃ cap rest, r = .sl c 0 (l.filter fun y => !p y).length cap 1 ∧ H'[c]? = some (.cells ((l.filter fun y => !p y).map (V.int .i64) ++ rest))) → k r H') : Cl G 47 [.sl c 0 l.length l.length 1, .fn f caps] H k := by
  refine Cl.inline (F := i47) rfl rfl ?_
  rw [w47]
  have hv : closeV H closeDepth (.sl c 0 l.length l.length 1) = some (.ro (l.map (V.int .i64)) l.length) := by
    rw [show closeDepth = 11 + 1 from rfl, closeV_sl hc (by simp)]
    have : (List.drop 0 (l.map (V.int .i64))).take (l.length * 1) = l.map (V.int .i64) := by rw [List.drop_zero]; exact List.take_of_length_le (by simp)
    rw [this, mapO_ints (d := 10)]
    rfl
  simp only [Bool.true_or, true_and]
  refine cIndexMem hv (ints_arr (by unfold top; omega) hr (.inl rfl)) hcl p hf (fun r hr0 => ?_) (fun r hrl ha hp => ?_)
  · obtain ⟨rfl, ha⟩ := hr0
    have hfl : (l.filter fun y => !p y) = l := by
      rw [List.filter_eq_self]
      intro a hm
      have := List.any_eq_false.1 ha a hm
      simpa using this
    simp only [binV_eql, decide_true, bd_some, ifB_bool, if_true]
    exact h _ H But.refl ⟨l.length, [], by rw [hfl], by rw [hfl, List.append_nil]; exact hc⟩
  have n1 : ¬ ((r : Int) = -1) := by omega
  have w1 : IntKind.i64.wrap ((r : Int) + 1) = ((r + 1 : Nat) : Int) := wi (by omega) (by omega)
  simp only [binV_eql, n1, decide_false, bd_some, ifB_bool, Bool.false_eq_true, if_false, binV_add, w1]
  have hfr : ((l.take r).filter fun y => !p y) = l.take r := by
    rw [List.filter_eq_self]
    intro a hm
    have := List.any_eq_false.1 ha a hm
    simpa using this
  have hfr1 : ((l.take (r + 1)).filter fun y => !p y) = l.take r := by
    rw [filter_take_succ hrl, hfr, hp]; simp
  refine ub47_0 l.length (fun j x0 x1 x5 x6 Hx => x0 = .sl c 0 l.length l.length 1 ∧ x1 = .fn f caps ∧ x5 = .int .i64 ((l.take j).filter fun y => !p y).length ∧ x6 = .int .i64 j ∧ But c H Hx ∧ ∃ B : List V, 0 < B.length ∧ ((l.take j).filter fun y => !p y).length + B.length = j ∧ Hx[c]? = some (.cells (((l.take j).filter fun y => !p y).map (V.int .i64) ++ (B ++ (l.drop j).map (V.int .i64))))) ?_ (r + 1) (by omega)
    ⟨rfl, rfl, by rw [hfr1]; simp; omega, rfl, But.refl, [.int .i64 l[r]], by simp, by rw [hfr1]; simp; omega, by
      rw [hfr1, hc]
      have e1 : l.map (V.int .i64) = (l.take r ++ l.drop r).map (V.int .i64) := by rw [List.take_append_drop]
      rw [e1, List.map_append, List.drop_eq_getElem_cons hrl]
      rfl⟩
  clear ha hp n1 w1 hfr hfr1
  rintro j hj _ _ _ _ Hx ⟨rfl, rfl, rfl, rfl, hB, B, b1, b2, b3⟩
  intros
  rw [wb47_0]
  have ls : lensV (.sl c 0 l.length l.length 1) = some (.int .i64 l.length) := rfl
  simp only [ls, bd_some, binV_lss, ifB_bool, decide_eq_true_eq, Int.ofNat_lt]
  split
  · rename_i hlt
    have step := filter_take_succ hlt (p := fun y => !p y)
    generalize hA : (l.take j).filter (fun y => !p y) = A at *
    have i1 : iadrV 1 (.sl c 0 l.length l.length 1) (.int .i64 j) = some (.ptr c j) := by simp [iadrV, hlt]
    have i2 : iadrV 1 (.sl c 0 l.length l.length 1) (.int .i64 A.length) = some (.ptr c A.length) := by
      have : A.length < l.length := by omega
      simp [iadrV, this]
    have hD : (l.drop j).map (V.int .i64) = .int .i64 l[j] :: (l.drop (j + 1)).map (V.int .i64) := by rw [List.drop_eq_getElem_cons hlt]; rfl
    rw [hD] at b3
    have l1 : ldV Hx (.ptr c j) 1 false = some (.int .i64 l[j]) := by
      refine ldV_own b3 ?_
      rw [List.getElem?_append_right (by simp; omega), List.getElem?_append_right (by simp; omega)]
      have : j - (A.map (V.int .i64)).length - B.length = 0 := by simp; omega
      rw [this]; rfl
    have wj : IntKind.i64.wrap ((j : Int) + 1) = ((j + 1 : Nat) : Int) := wi (by omega) (by omega)
    simp only [i1, l1, bd_some, callV_fn, List.singleton_append, Bool.true_or, true_and]
    refine hf2 l[j] (List.getElem_mem hlt) Hx hB _ fun H' hb' he' => ?_
    rw [b3] at he'
    have hlc := (List.getElem?_eq_some_iff.1 he').1
    simp only [unV_not, bd_some, ifB_bool, Bool.not_eq_true']
    cases hp : p l[j]
    · have wA : IntKind.i64.wrap ((A.length : Int) + 1) = ((A.length + 1 : Nat) : Int) := wi (by omega) (by omega)
      have st := stV_own (off := A.length) (x := .int .i64 l[j]) he' (by simp; omega) rfl
      simp only [hp, Bool.not_false, if_true] at step
      cases B with
      | nil => simp at b1
      | cons b B =>
        have es : (A.map (V.int .i64) ++ ((b :: B) ++ .int .i64 l[j] :: (l.drop (j + 1)).map (V.int .i64))).set A.length (.int .i64 l[j]) = (A ++ [l[j]]).map (V.int .i64) ++ ((B ++ [.int .i64 l[j]]) ++ (l.drop (j + 1)).map (V.int .i64)) := by
          rw [List.set_append_right _ _ (by simp)]
          simp
        rw [es] at st
        simp only [i2, st, bd_some, if_true, true_and, binV_add, wA, wr47_1, wj, upQ_n, Sb47_0_eq]
        refine ⟨j + 1, by omega, by omega, by rw [step]; simp, rfl, (hB.trans hb').trans But.set, B ++ [.int .i64 l[j]], by simp, by rw [step]; simp at b2 ⊢; omega, ?_⟩
        rw [step, List.getElem?_set]
        simp [hlc]
    · simp only [hp, Bool.not_true, Bool.false_eq_true, if_false, List.append_nil] at step
      simp only [Bool.true_eq_false, if_false, wr47_1, binV_add, bd_some, wj, upQ_n, Sb47_0_eq, true_and]
      refine ⟨j + 1, by omega, by omega, by rw [step], rfl, hB.trans hb', B ++ [.int .i64 l[j]], by simp, by rw [step]; simp; omega, ?_⟩
      rw [step, he']
      simp
  · rename_i hge
    have ej : j = l.length := by omega
    subst ej
    rw [List.take_length] at b2 b3 ⊢
    generalize hA : l.filter (fun y => !p y) = A at *
    have hAl : A.length < l.length := by omega
    have hlc := (List.getElem?_eq_some_iff.1 b3).1
    have s1 : slcV 1 (.sl c 0 l.length l.length 1) (some (.int .i64 A.length)) none none = some (.sl c A.length (l.length - A.length) (l.length - A.length) 1) := by
      have : ¬ l.length = A.length := by omega
      have h2 : A.length ≤ l.length := by omega
      simp [slcV, bnds, bnd, this, h2]
    have s2 : slcV 1 (.sl c 0 l.length l.length 1) none (some (.int .i64 A.length)) none = some (.sl c 0 A.length l.length 1) := by
      have : ¬ l.length = 0 := by omega
      have h2 : A.length ≤ l.length := by omega
      simp [slcV, bnds, bnd, this, h2]
    have hCl : (A.map (V.int .i64) ++ (B ++ (l.drop l.length).map (V.int .i64))).length = l.length := by simp; omega
    have s3 : clrV 1 [.int .i64 0] Hx (.sl c A.length (l.length - A.length) (l.length - A.length) 1) = some (undefV, Hx.set c (.cells (ovl (A.map (V.int .i64) ++ (B ++ (l.drop l.length).map (V.int .i64))) A.length (rep (l.length - A.length) [.int .i64 0])))) := by
      simp only [clrV, b3]
      rw [if_pos (by rw [hCl]; omega)]
    simp only [upQ_e, blockQ_e, if_true, seqQ_n, wr47_2, s1, s2, s3, bd_some, bd2_some, true_and, ret47]
    refine h _ _ (hB.trans But.set) ⟨l.length, (ovl (A.map (V.int .i64) ++ (B ++ (l.drop l.length).map (V.int .i64))) A.length (rep (l.length - A.length) [.int .i64 0])).drop A.length, rfl, ?_⟩
    rw [List.getElem?_set]
    simp only [hlc, if_true]
    have ot := ovl_take (cs := A.map (V.int .i64) ++ (B ++ (l.drop l.length).map (V.int .i64))) (xs := rep (l.length - A.length) [.int .i64 0]) (o := A.length) (by rw [hCl]; omega)
    have e2 : (A.map (V.int .i64) ++ (B ++ (l.drop l.length).map (V.int .i64))).take A.length = A.map (V.int .i64) := by
      rw [List.take_append_of_le_length (by simp)]
      exact List.take_of_length_le (by simp)
    rw [e2] at ot
    conv => lhs; rw [← List.take_append_drop A.length (ovl _ _ _), ot]
end Go.Proofs.Ytoommmeapdkopaa.E
namespace Go.Proofs.Ytoommmeapdkopaa.E
open Go Go.Eng

theorem c_before_all {x : tShop.D} {v : V} (hx : tShop.V x v) (he : shopErr x (decide ((orderL x.1).length < x.1.length)) = 0) {H : Heap} {k : V → Heap → Prop}
    (h : ∀ r, Tab x.1 r → k r H) : Cl G 46 [v] H k := by
  by_cases h0 : x.1.length = 0
  · refine cBefore0 hx h0 he (h .z0 ?_)
    unfold Tab
    rw [h0]
    exact ⟨[], by simp, by simp, by simp, by simp [top], by simp, .inr ⟨rfl, .inr (.inl rfl)⟩⟩
  · exact c46 hx (by omega) he h
theorem cDelete0 {x0 : V} (hx : x0 = .nils ∨ x0 = .z0) {H : Heap} {f : FuncId} {caps caps' : List V} (hcl : closeV H closeDepth (.fn f caps) = some (.fn f caps')) {k : V → Heap → Prop} (h : k x0 H) : Cl G 47 [x0, .fn f caps] H k := by
  refine Cl.inline (F := i47) rfl rfl ?_
  rw [w47]
  have hv : closeV H closeDepth x0 = some x0 := by rcases hx with rfl | rfl <;> rfl
  have ha : Arr 1 tI.R x0 [] := ints_arr (by simp [top]) (by simp) (.inr ⟨rfl, by rcases hx with rfl | rfl <;> simp⟩)
  simp only [Bool.true_or, true_and]
  refine cIndexMem hv ha hcl (fun _ => false) (fun t ht => by simp at ht) (fun r hr0 => ?_) (fun r hrl _ _ => by simp at hrl)
  obtain ⟨rfl, _⟩ := hr0
  simp only [binV_eql, decide_true, bd_some, ifB_bool, if_true]
  exact h
theorem shop_mk {x : tShop.D} {a b : V} (h1 : Arr 4 tTask.R a x.1) (h2 : Arr 2 tStation.R b x.2) : tShop.V x (.agg [a, b]) := ⟨[a, b], rfl, [a], [b], rfl, ⟨a, rfl, h1⟩, b, rfl, h2⟩
theorem task_mk {t : tTask.D} {w : V} (h1 : t.1.length ≤ top) (h2 : IntKind.i64.min ≤ t.2.1 ∧ t.2.1 ≤ IntKind.i64.max) (h3 : t.2.2.1.length ≤ top) (hw : Arr 1 tI.R w t.2.2.2) : tTask.R t [.str t.1, .int .i64 t.2.1, .str t.2.2.1, w] :=
  ⟨[.str t.1], _, rfl, ⟨rfl, h1⟩, [.int .i64 t.2.1], _, rfl, ⟨rfl, h2⟩, [.str t.2.2.1], _, rfl, ⟨rfl, h3⟩, w, rfl, hw⟩
theorem station_mk {t : tStation.D} {w : V} (h1 : t.1.length ≤ top) (hw : Arr 1 (Ty.R .str) w t.2) : tStation.R t [.str t.1, w] := ⟨[.str t.1], _, rfl, ⟨rfl, h1⟩, w, rfl, hw⟩
theorem strs_arr {v : V} {l : List (List UInt8)} (hb : l.length ≤ top) (hr : ∀ x ∈ l, x.length ≤ top) (hv : v = .ro (l.map V.str) l.length ∨ (l.length = 0 ∧ (v = .nils ∨ v = .z0 ∨ v = .e0))) : Arr 1 (Ty.R .str) v l := by
  refine ⟨l.map fun x => [V.str x], by simp, fun i h h' => ?_, ?_, hb, ?_, ?_⟩
  · simp only [List.getElem_map]; exact ⟨rfl, hr _ (List.getElem_mem _)⟩
  · intro c hc; obtain ⟨a, _, rfl⟩ := List.mem_map.1 hc; rfl
  · rw [flatS]; simp
  · rw [flatS]; exact hv
theorem els_arr {α : Type} {k : Nat} {R : α → List V → Prop} {L : List α} {en : α → List V × List V} {v' : V} (hn : L.length ≤ top)
    (h : (L.map en = [] ∧ v' = .nils) ∨ ∃ css' : List (List V), v' = .ro css'.flatten (L.map en).length ∧ css'.length = (L.map en).length ∧ (∀ c ∈ css', c.length = k) ∧ ∀ i (h : i < (L.map en).length) (h' : i < css'.length), ∃ w, css'[i] = (L.map en)[i].1 ++ [w] ∧ (w = .ro (L.map en)[i].2 (L.map en)[i].2.length ∨ ((L.map en)[i].2 = [] ∧ (w = .nils ∨ w = .z0))))
    (hR : ∀ x ∈ L, ∀ w, (w = .ro (en x).2 (en x).2.length ∨ ((en x).2 = [] ∧ (w = .nils ∨ w = .z0))) → R x ((en x).1 ++ [w])) : Arr k R v' L := by
  rcases h with ⟨h, rfl⟩ | ⟨css, rfl, h1, h2, h3⟩
  · obtain rfl := List.map_eq_nil_iff.1 h
    exact ⟨[], rfl, by simp, by simp, by simp [top], by simp, .inr ⟨rfl, .inl rfl⟩⟩
  · rw [List.length_map] at h1
    refine ⟨css, h1, fun i i1 i2 => ?_, h2, hn, by rw [flatten_len css h2, h1], .inl (by rw [List.length_map])⟩
    obtain ⟨w, e1, e2⟩ := h3 i (by simpa using i1) i2
    rw [e1]
    simp only [List.getElem_map] at e2 ⊢
    exact hR _ (List.getElem_mem i1) w e2

def enT (t : tTask.D) : List V × List V := ([.str t.1, .int .i64 t.2.1, .str t.2.2.1], t.2.2.2.map (V.int .i64))
def enS (s : tStation.D) : List V × List V := ([.str s.1], s.2.map V.str)
theorem redL_out {T : List tTask.D} {i : Nat} : (aft T i).filter (fun y => !outB T (aft T i) y) = redL T i := rfl
theorem bslV_k {k : Nat} {H : Heap} {zs c : List V} (hz : zs.length = k) (hc : c.length = k) (hk : 1 < k) : bslV k 1 zs [(0, k, .agg c)] H = some (.sl H.length 0 1 1 k, H ++ [.cells c]) := by
  have : ovl zs 0 c = c := by
    unfold ovl
    split
    · simp at hc; omega
    · rw [List.take_zero, List.nil_append, List.drop_of_length_le (by omega), List.append_nil]
  simp [bslV, rep, fillV, cellsV, notTup, hc, hz, this]

theorem stV_all {H : Heap} {id k : Nat} {cs c : List V} (h : H[id]? = some (.cells cs)) (h1 : cs.length = k) (h2 : c.length = k) (hk : 1 < k) : stV H k (.ptr id 0) (.agg c) = some (H.set id (.cells c)) := by
  have : ovl cs 0 c = c := by
    unfold ovl
    split
    · simp at h2; omega
    · rw [List.take_zero, List.nil_append, List.drop_of_length_le (by omega), List.append_nil]
  simp only [stV, cellsV, h2, notTup, and_self, if_true, wrt, h, Nat.zero_add]
  rw [if_pos (by omega), this]
theorem tools_le {S : List tStation.D} (h : stationsErr S = 0) {i : Nat} (hi : i < S.length) : S[i].2.length ≤ 16 := by
  have := firstErr_zero.1 h i hi
  rw [stationErrAt_of hi] at this
  unfold stationErr at this
  split at this
  · omega
  split at this
  · omega
  split at this
  · omega
  · rename_i h; omega

theorem ok_Reduce {x : tShop.D} {v : V} (hx : tShop.V x v) (he : shopErr x (decide ((orderL x.1).length < x.1.length)) = 0) {H : Heap} {k : V → Heap → Prop}
    (h : ∀ r, tShop.V (redT x.1, x.2) r → k (.tup [r, .int .i64 0]) H) : Cl G 17 [v] H k := by
  obtain ⟨a, b, rfl, g1, g2⟩ := shop_v hx
  obtain ⟨z1, z2, z3, z4⟩ := shopErr_zero he
  have vl := vld_of he
  refine Cl.mode1 (F := i17) rfl rfl (by simp [g1.closed, g2.closed]) ?_
  rw [w17]
  have len0 : ([] : Heap).length = 0 := rfl
  simp only [bxrV_agg, closedVs_cons, closedVs_nil, g1.closed, g2.closed, Bool.and_self, bd_some, newB, len0, List.nil_append, ldV_s2, Bool.true_or, true_and]
  refine c29 hx ?_
  rw [he]
  simp only [binV_neq, decide_true, Bool.not_true, bd_some, ifB_bool, Bool.false_eq_true, if_false, ldV_s2, Bool.true_or, true_and]
  refine c_before_all hx he fun bv hbv => ?_
  have st1 : stV ([.cells [.nils, .nils]] ++ [.cells [.nils]]) 1 (.ptr 1 0) bv = some [.cells [.nils, .nils], .cells [bv]] := by
    have := stV_own (H := [.cells [.nils, .nils]] ++ [.cells [.nils]]) (id := 1) (off := 0) (cs := [.nils]) (x := bv) rfl (by simp) hbv.one
    simpa using this
  simp only [newB, List.length_cons, List.length_nil, Nat.zero_add, st1, bd_some, fadrV_rptr, List.drop_zero, ldV_one, g1.lens, true_and]
  refine ub17_0 x.1.length (fun m c1 c2 c5 c6 c20 c21 c22 H => c1 = .rptr [a, b] ∧ c2 = .ptr 0 0 ∧ c5 = .ptr 1 0 ∧ c6 = .ptr 2 0 ∧ a = c20 ∧ c21 = .int .i64 x.1.length ∧ c22 = .int .i64 m ∧ H[0]? = some (.cells [.nils, .nils]) ∧ H[1]? = some (.cells [bv]) ∧ ∃ tv, H[2]? = some (.cells [tv, .nils]) ∧ OwnL 4 H tv (((redT x.1).take m).map enT)) ?_ 0 (Nat.zero_le _)
    ⟨rfl, rfl, rfl, rfl, rfl, rfl, rfl, rfl, rfl, .nils, rfl, .inl ⟨by simp, rfl⟩⟩
  rintro m hm _ _ _ _ _ _ _ H2 ⟨rfl, rfl, rfl, rfl, rfl, rfl, rfl, b0, b1, tv, b2, hT⟩
  intros
  rw [wb17_0]
  simp only [bd_some, binV_lss, ifB_bool, decide_eq_true_eq, Int.ofNat_lt]
  split
  · rename_i hlt
    obtain ⟨w, r, e, q⟩ := task_at g1 hlt
    have hal : aft x.1 m = x.1[m].2.2.2 := aft_of hlt
    have l3 : 3 ≤ H2.length := by have := (List.getElem?_eq_some_iff.1 b2).1; omega
    have hredm : (redT x.1)[m]'(by rw [redT_len]; exact hlt) = (x.1[m].1, x.1[m].2.1, x.1[m].2.2.1, redL x.1 m) := by
      have := redT_get hlt
      rw [List.getElem?_eq_getElem (by rw [redT_len]; exact hlt)] at this
      exact Option.some.inj this
    have tk1 : ((redT x.1).take (m + 1)).map enT = ((redT x.1).take m).map enT ++ [([.str x.1[m].1, .int .i64 x.1[m].2.1, .str x.1[m].2.2.1], (redL x.1 m).map (V.int .i64))] := by
      rw [tk (by rw [redT_len]; exact hlt), hredm, List.map_append]; rfl
    have hll : x.1[m].2.2.2.length ≤ 1000 := by
      have hnd : ((aft x.1 m).map Int.toNat).Nodup := by
        rw [List.nodup_iff_pairwise_ne, List.pairwise_map]
        refine List.Pairwise.imp_of_mem ?_ (aft_inc z3 m)
        intro p q hp hq hpq
        have := vl.rg m hlt p hp
        have := vl.rg m hlt q hq
        omega
      have := nodup_len x.1.length _ hnd (fun d hd => by
        obtain ⟨y, hy, rfl⟩ := List.mem_map.1 hd
        have := vl.rg m hlt y hy
        omega)
      rw [List.length_map, hal] at this
      omega
    have wm : IntKind.i64.wrap ((m : Int) + 1) = ((m + 1 : Nat) : Int) := wi (by omega) (by omega)
    simp only [e, bd_some, ldV_t4, newB]
    rw [stV_fill (k := 4) rfl rfl]
    generalize hc4 : [V.str x.1[m].1, .int .i64 x.1[m].2.1, .str x.1[m].2.2.1, w] = c4
    have gt1 : (H2 ++ [B.cells c4])[H2.length]? = some (.cells c4) := by simp
    have lw : ldV (H2 ++ [B.cells c4]) (.ptr H2.length 3) 1 false = some w := ldV_own gt1 (by rw [← hc4]; rfl)
    simp only [bd_some, true_and, fadrV_ptr, Nat.zero_add, lw, Bool.true_or]

    have rest : ∀ (r : V) (H3 : Heap), H2.length + 1 ≤ H3.length → (∀ id, id < H2.length + 1 → H3[id]? = (H2 ++ [B.cells c4])[id]?) → (((r = .nils ∨ r = .z0) ∧ redL x.1 m = []) ∨ ∃ cap rest, r = .sl (H2.length + 1) 0 (redL x.1 m).length cap 1 ∧ H3[H2.length + 1]? = some (.cells ((redL x.1 m).map (V.int .i64) ++ rest))) →
        ∃ (H4 H5 H6 H7 : Heap) (tv ag sv tv' : V), stV H3 1 (.ptr H2.length 3) r = some H4 ∧ ldV H4 (.ptr 2 0) 1 false = some tv ∧ ldV H4 (.ptr H2.length 0) 4 true = some ag ∧ bslV 4 1 [.str [], .int .i64 0, .str [], .nils] [(0, 4, ag)] H4 = some (sv, H5) ∧ appV 4 64 true H5 tv sv = some (tv', H6) ∧ stV H6 1 (.ptr 2 0) tv' = some H7 ∧
          H7[0]? = some (.cells [.nils, .nils]) ∧ H7[1]? = some (.cells [bv]) ∧ ∃ tv, H7[2]? = some (.cells [tv, .nils]) ∧ OwnL 4 H7 tv (((redT x.1).take (m + 1)).map enT) := by
      intro r H3 k1 k2 k3
      have g3 : H3[H2.length]? = some (.cells c4) := by rw [k2 _ (by omega)]; exact gt1
      have o1 : oneC r = true := by rcases k3 with ⟨rfl | rfl, _⟩ | ⟨_, _, rfl, _⟩ <;> rfl
      have s3 := stV_own (off := 3) (x := r) g3 (by rw [← hc4]; simp) o1
      have hc5 : c4.set 3 r = [V.str x.1[m].1, .int .i64 x.1[m].2.1, .str x.1[m].2.2.1] ++ [r] := by rw [← hc4]; rfl
      rw [hc5] at s3
      generalize hH4 : H3.set H2.length (.cells ([V.str x.1[m].1, .int .i64 x.1[m].2.1, .str x.1[m].2.2.1] ++ [r])) = H4 at s3
      have hl4 : H4.length = H3.length := by rw [← hH4]; simp
      have old : ∀ id, id < H2.length → H4[id]? = H2[id]? := fun id hid => by
        rw [← hH4, List.getElem?_set_ne (by omega), k2 id (by omega), List.getElem?_append_left hid]
      have g4 : H4[H2.length]? = some (.cells ([V.str x.1[m].1, .int .i64 x.1[m].2.1, .str x.1[m].2.2.1] ++ [r])) := by
        rw [← hH4, List.getElem?_set]; simp; omega
      have d2 : ldV H4 (.ptr 2 0) 1 false = some tv := ldV_own (by rw [old 2 (by omega)]; exact b2) rfl
      have d4 : ldV H4 (.ptr H2.length 0) 4 true = some (.agg ([V.str x.1[m].1, .int .i64 x.1[m].2.1, .str x.1[m].2.2.1] ++ [r])) := ldV_own_all g4 (by simp)
      have hT4 : OwnL 4 H4 tv (((redT x.1).take m).map enT) := hT.keep fun id hid _ => old id hid
      have cm : ∀ o, (o < H2.length ∨ H3.length ≤ o) → CellB H4 o r ((redL x.1 m).map (V.int .i64)) := fun o ho => by
        rcases k3 with ⟨c, d⟩ | ⟨cap, rest, i2, i4⟩
        · exact .inl ⟨c, by rw [d]; rfl⟩
        · have := (List.getElem?_eq_some_iff.1 i4).1
          refine .inr ⟨H2.length + 1, cap, rest, by omega, by omega, by simpa using i2, ?_⟩
          rw [← hH4, List.getElem?_set_ne (by omega)]
          exact i4
      have hlm : ((redT x.1).take m).length ≤ 24 := by simp; omega
      have hvlt : ∀ o n, tv = .sl o 0 n n 4 → o < H2.length := fun o n e => by
        rcases hT with ⟨_, c⟩ | ⟨o', css, _, c, d, _⟩
        · rw [c] at e; cases e
        · rw [c] at e; injection e with e; subst e; exact (List.getElem?_eq_some_iff.1 d).1
      obtain ⟨tv', H5, p1, p2, p3, p4, p5, _⟩ := hT4.push (by omega) (hd := [V.str x.1[m].1, .int .i64 x.1[m].2.1, .str x.1[m].2.2.1]) (cs := (redL x.1 m).map (V.int .i64)) (w := r) rfl (fun o ⟨n, ho⟩ => cm o (.inl (hvlt o n ho))) (by rw [hl4]; exact cm _ (.inr (Nat.le_refl _))) (bytes := 64) (by rw [List.length_map]; unfold room; omega)
      have nv : ∀ id, id < 3 → ∀ n, tv ≠ .sl id 0 n n 4 := fun id hid n e => by
        rcases hT with ⟨_, c⟩ | ⟨o', css, c0, c, d, _⟩
        · rw [c] at e; cases e
        · rw [c] at e; injection e with e; omega
      have h5 : ∀ id, id < 3 → H5[id]? = H2[id]? := fun id hid => by rw [p4 id (by omega) (nv id hid), old id (by omega)]
      have s5 := stV_own (off := 0) (x := tv') (H := H5) (id := 2) (by rw [h5 2 (by omega)]; exact b2) (by simp) p5
      refine ⟨_, _, _, _, _, _, _, _, s3, d2, d4, bslV_k (k := 4) rfl rfl (by omega), p1, s5, by rw [List.getElem?_set_ne (by omega), h5 0 (by omega)]; exact b0, by rw [List.getElem?_set_ne (by omega), h5 1 (by omega)]; exact b1, tv', ?_, ?_⟩
      · rw [List.getElem?_set]; simp; omega
      · rw [tk1]
        exact p2.keep fun id _ h3 => List.getElem?_set_ne (by omega)
    have hne : ∀ y : Int, y ∈ x.1[m].2.2.2 → 0 ≤ y ∧ y < (x.1.length : Int) := fun y hy => vl.rg m hlt y (by rw [hal]; exact hy)
    have hcap : ∀ Hx : Heap, Hx[H2.length]? = some (.cells c4) → Hx[1]? = some (.cells [bv]) → closeV Hx closeDepth (.fn 49 [.ptr H2.length 0, .ptr 1 0]) = some (.fn 49 [.rptr c4, .rptr [bv]]) := fun Hx q1 q2 => by
      rw [show closeDepth = 11 + 1 from rfl, closeV_fn]
      simp only [mapO]
      rw [show (11 : Nat) = 10 + 1 from rfl, closeV_ptr q1, closeV_ptr q2]
      have : mapO (closeV Hx 10) c4 = some c4 := by rw [← hc4]; simp [mapO, q.close]
      simp [this, mapO, hbv.close]
    have b1' : ∀ Hx : Heap, (∀ id, id < H2.length + 1 → Hx[id]? = (H2 ++ [B.cells c4])[id]?) → Hx[H2.length]? = some (.cells c4) ∧ Hx[1]? = some (.cells [bv]) := fun Hx hk => ⟨by rw [hk _ (by omega)]; exact gt1, by rw [hk _ (by omega), List.getElem?_append_left (by omega)]; exact b1⟩
    refine c48 q hll fun r H3 hr => ?_
    rcases hr with ⟨hcs, hr, rfl⟩ | ⟨hcs, rfl, rfl⟩
    · have h0 : x.1[m].2.2.2 = [] := List.map_eq_nil_iff.1 hcs
      have hr0 : redL x.1 m = [] := by unfold redL; rw [hal, h0]; rfl
      obtain ⟨q1, q2⟩ := b1' _ fun _ _ => rfl
      refine cDelete0 hr (hcap _ q1 q2) ?_
      obtain ⟨H4, H5, H6, H7, tv, ag, sv, tv', e1, e2, e3, e4, e5, e6, f0, f1, tv2, f2, f3⟩ := rest r (H2 ++ [B.cells c4]) (by simp) (fun _ _ => rfl) (.inl ⟨hr, hr0⟩)
      simp only [fadrV_ptr, Nat.zero_add, bd_some, e1, e2, e3, e4, e5, e6, bd2_some, true_and, binV_add, wm, upQ_n, Sb17_0_eq]
      exact ⟨m + 1, by omega, by omega, rfl, f0, f1, tv2, f2, f3⟩
    · simp only [List.length_map] at hcs
      have gc : ((H2 ++ [B.cells c4]) ++ [B.cells (x.1[m].2.2.2.map (V.int .i64))])[(H2 ++ [B.cells c4]).length]? = some (.cells (x.1[m].2.2.2.map (V.int .i64))) := List.getElem?_concat_length
      have hk : ∀ id, id < H2.length + 1 → ((H2 ++ [B.cells c4]) ++ [B.cells (x.1[m].2.2.2.map (V.int .i64))])[id]? = (H2 ++ [B.cells c4])[id]? := fun id hid => List.getElem?_append_left (by simpa using hid)
      have hlc : (H2 ++ [B.cells c4]).length = H2.length + 1 := by simp
      obtain ⟨q1, q2⟩ := b1' _ hk
      have rg : ∀ y : Int, y ∈ x.1[m].2.2.2 → IntKind.i64.min ≤ y ∧ y ≤ IntKind.i64.max := fun y hy => by have := hne y hy; exact i64_mm (by omega) (by omega)
      rw [hlc] at gc ⊢
      generalize (H2 ++ [B.cells c4]) ++ [B.cells (x.1[m].2.2.2.map (V.int .i64))] = H3 at gc hk q1 q2 ⊢
      have hH3 : H2.length + 1 < H3.length := (List.getElem?_eq_some_iff.1 gc).1
      rw [List.length_map]
      refine c47 hcs gc hll rg (hcap _ q1 q2) (fun y => outB x.1 x.1[m].2.2.2 y) (fun t ht H k hk => ?_) (fun t ht Hx hB k hk' => ?_) fun r H5 hB hr => ?_
      · refine c49 hbv q hne (hne t ht) (x1 := .rptr c4) (x2 := .rptr [bv]) (p := .rptr [w]) (by rw [← hc4]; rfl) (by simp) ?_ (hk _)
        rw [show (11 : Nat) = 10 + 1 from rfl]
        simp only [closeV]
      · obtain ⟨u1, u2⟩ := b1' Hx fun id hid => by rw [hB.2 id (by omega) (by omega), hk id hid]
        have lx : H2.length < Hx.length := (List.getElem?_eq_some_iff.1 u1).1
        have u1' : (Hx ++ [B.cells [V.int .i64 t]])[H2.length]? = some (.cells c4) := by rw [List.getElem?_append_left lx]; exact u1
        have u2' : (Hx ++ [B.cells [V.int .i64 t]])[1]? = some (.cells [bv]) := by rw [List.getElem?_append_left (by omega)]; exact u2
        refine c49 hbv q hne (hne t ht) (x1 := .ptr H2.length 0) (x2 := .ptr 1 0) (p := .ptr H2.length 3) (by simp) (ldV_own u1' (by rw [← hc4]; rfl)) ?_ (hk' _ But.app ?_)
        · rw [show (11 : Nat) = 10 + 1 from rfl, closeV_ptr u2']
          simp [mapO, hbv.close]
        · have := hB.1
          exact List.getElem?_append_left (by omega)
      · have hred : (x.1[m].2.2.2.filter fun y => !outB x.1 x.1[m].2.2.2 y) = redL x.1 m := by rw [← redL_out, hal]
        rw [hred] at hr
        have hl5 := hB.1
        obtain ⟨H4, H5', H6, H7, tv, ag, sv, tv', e1, e2, e3, e4, e5, e6, f0, f1, tv2, f2, f3⟩ := rest r H5 (by omega) (fun id hid => by rw [hB.2 id (by omega) (by omega), hk id hid]) (.inr hr)
        simp only [fadrV_ptr, Nat.zero_add, bd_some, e1, e2, e3, e4, e5, e6, bd2_some, true_and, binV_add, wm, upQ_n, Sb17_0_eq]
        exact ⟨m + 1, by omega, by omega, rfl, f0, f1, tv2, f2, f3⟩
  · rename_i hge
    have em : m = x.1.length := by omega
    subst em
    have htk : (redT x.1).take x.1.length = redT x.1 := List.take_of_length_le (by rw [redT_len]; exact Nat.le_refl _)
    rw [htk] at hT
    have l3 : 3 ≤ H2.length := by have := (List.getElem?_eq_some_iff.1 b2).1; omega
    simp only [upQ_e, blockQ_e, if_true, seqQ_n, wr17_1, fadrV_rptr, List.drop_succ_cons, List.drop_zero, bd_some, ldV_one, g2.lens]
    refine ub17_2 x.2.length (fun m c2 c6 c40 c41 c42 H => c2 = .ptr 0 0 ∧ c6 = .ptr 2 0 ∧ b = c40 ∧ c41 = .int .i64 x.2.length ∧ c42 = .int .i64 m ∧ H[0]? = some (.cells [.nils, .nils]) ∧ H2.length ≤ H.length ∧ (∀ id, id < H2.length → 3 ≤ id → H[id]? = H2[id]?) ∧ ∃ sv, H[2]? = some (.cells [tv, sv]) ∧ OwnL 2 H sv ((x.2.take m).map enS) ∧ ∀ o n, sv = .sl o 0 n n 2 → H2.length ≤ o) ?_ 0 (Nat.zero_le _)
      ⟨rfl, rfl, rfl, rfl, rfl, b0, Nat.le_refl _, fun _ _ _ => rfl, .nils, b2, .inl ⟨by simp, rfl⟩, fun o n e => by cases e⟩
    rintro m hm _ _ _ _ _ H3 ⟨rfl, rfl, rfl, rfl, rfl, d0, dl, dk, sv, d2, hS, hSo⟩
    intros
    rw [wb17_2]
    simp only [bd_some, binV_lss, ifB_bool, decide_eq_true_eq, Int.ofNat_lt]
    split
    · rename_i hlt
      obtain ⟨w, r, e, q⟩ := station_at g2 hlt
      have tk1 : (x.2.take (m + 1)).map enS = (x.2.take m).map enS ++ [([.str x.2[m].1], x.2[m].2.map V.str)] := by
        rw [tk hlt, List.map_append]; rfl
      have wm : IntKind.i64.wrap ((m : Int) + 1) = ((m + 1 : Nat) : Int) := wi (by omega) (by omega)
      have lt2 : ldV H3 (.rptr (.str x.2[m].1 :: w :: r)) 2 true = some (.agg [.str x.2[m].1, w]) := ldV_all (c := [.str x.2[m].1, w]) rfl
      simp only [e, bd_some, lt2, newB]
      rw [stV_fill (k := 2) rfl rfl]
      have gt1 : (H3 ++ [B.cells [V.str x.2[m].1, w]])[H3.length]? = some (.cells [V.str x.2[m].1, w]) := by simp
      have lw : ldV (H3 ++ [B.cells [V.str x.2[m].1, w]]) (.ptr H3.length 1) 1 false = some w := ldV_own gt1 rfl
      simp only [bd_some, true_and, fadrV_ptr, Nat.zero_add, lw, Bool.true_or]
      refine c52 q (by have := tools_le z4 hlt; omega) fun r H4 hr => ?_

      have cl : H3.length + 1 ≤ H4.length ∧ (∀ id, id < H3.length + 1 → H4[id]? = (H3 ++ [B.cells [V.str x.2[m].1, w]])[id]?) ∧ ((((r = .nils ∨ r = .z0) ∧ x.2[m].2.map V.str = []) ∨ (r = .sl (H3.length + 1) 0 (x.2[m].2.map V.str).length (x.2[m].2.map V.str).length 1 ∧ H4[H3.length + 1]? = some (.cells (x.2[m].2.map V.str))))) := by
        rcases hr with ⟨c1, c2, rfl⟩ | ⟨c1, rfl, rfl⟩
        · exact ⟨by simp, fun _ _ => rfl, .inl ⟨c2, c1⟩⟩
        · refine ⟨by simp, fun id hid => List.getElem?_append_left (by simpa using hid), .inr ⟨by simp, ?_⟩⟩
          have : H3.length + 1 = (H3 ++ [B.cells [V.str x.2[m].1, w]]).length := by simp
          rw [this]; exact List.getElem?_concat_length
      obtain ⟨k1, k2, k3⟩ := cl
      clear hr
      have g3 : H4[H3.length]? = some (.cells [V.str x.2[m].1, w]) := by rw [k2 _ (by omega)]; exact gt1
      have o1 : oneC r = true := by rcases k3 with ⟨rfl | rfl, _⟩ | ⟨rfl, _⟩ <;> rfl
      have s3 := stV_own (off := 1) (x := r) g3 (by simp) o1
      generalize hH5 : H4.set H3.length (.cells ([V.str x.2[m].1, w].set 1 r)) = H5 at s3
      have hl5 : H5.length = H4.length := by rw [← hH5]; simp
      have old : ∀ id, id < H3.length → H5[id]? = H3[id]? := fun id hid => by
        rw [← hH5, List.getElem?_set_ne (by omega), k2 id (by omega), List.getElem?_append_left hid]
      have g4 : H5[H3.length]? = some (.cells ([V.str x.2[m].1] ++ [r])) := by
        rw [← hH5, List.getElem?_set]; simp; omega
      have e2 : ldV H5 (.ptr 2 1) 1 false = some sv := ldV_own (by rw [old 2 (by omega)]; exact d2) rfl
      have e4 : ldV H5 (.ptr H3.length 0) 2 true = some (.agg ([V.str x.2[m].1] ++ [r])) := ldV_own_all g4 (by simp)
      have hS5 : OwnL 2 H5 sv ((x.2.take m).map enS) := hS.keep fun id hid _ => old id hid
      have cm : ∀ o, (o < H3.length ∨ H4.length ≤ o) → CellB H5 o r (x.2[m].2.map V.str) := fun o ho => by
        rcases k3 with ⟨c, d⟩ | ⟨i2, i4⟩
        · exact .inl ⟨c, d⟩
        · have := (List.getElem?_eq_some_iff.1 i4).1
          refine .inr ⟨H3.length + 1, _, [], by omega, by omega, i2, ?_⟩
          rw [← hH5, List.getElem?_set_ne (by omega), List.append_nil]
          exact i4
      have hlm : (x.2.take m).length ≤ 8 := by simp; omega
      have hvlt : ∀ o n, sv = .sl o 0 n n 2 → o < H3.length := fun o n e => by
        rcases hS with ⟨_, c⟩ | ⟨o', css, _, c, d, _⟩
        · rw [c] at e; cases e
        · rw [c] at e; injection e with e; subst e; exact (List.getElem?_eq_some_iff.1 d).1
      obtain ⟨sv', H6, p1, p2, p3, p4, p5, p6⟩ := hS5.push (by omega) (hd := [V.str x.2[m].1]) (cs := x.2[m].2.map V.str) (w := r) rfl (fun o ⟨n, ho⟩ => cm o (.inl (hvlt o n ho))) (by rw [hl5]; exact cm _ (.inr (Nat.le_refl _))) (bytes := 40) (by rw [List.length_map]; unfold room; omega)
      have nv : ∀ id, id < H2.length → ∀ n, sv ≠ .sl id 0 n n 2 := fun id hid n e => by have := hSo id n e; omega
      have h6 : ∀ id, id < H2.length → H6[id]? = H3[id]? := fun id hid => by rw [p4 id (by omega) (nv id hid), old id (by omega)]
      have s5 := stV_own (off := 1) (x := sv') (H := H6) (id := 2) (by rw [h6 2 (by omega)]; exact d2) (by simp) p5
      have eb := bslV_k (k := 2) (H := H5) (zs := [.str [], .nils]) (c := [V.str x.2[m].1] ++ [r]) rfl rfl (by omega)
      simp only [s3, bd_some, e2, e4, eb, bd2_some, p1, s5, true_and, binV_add, wm, upQ_n, Sb17_2_eq]
      refine ⟨m + 1, by omega, by omega, rfl, by rw [List.getElem?_set_ne (by omega), h6 0 (by omega)]; exact d0, by simp; omega, fun id hid h3 => by rw [List.getElem?_set_ne (by omega), h6 id hid, dk id hid h3], sv', ?_, ?_, fun o n e => by have := p6 o n e; omega⟩
      · rw [List.getElem?_set]; simp; omega
      · rw [tk1]
        exact p2.keep fun id _ h3 => List.getElem?_set_ne (by omega)
    · rename_i hge
      have em : m = x.2.length := by omega
      subst em
      rw [List.take_length] at hS
      have ld : ldV H3 (.ptr 2 0) 2 true = some (.agg [tv, sv]) := ldV_own_all d2 rfl
      have st := stV_all (k := 2) (c := [tv, sv]) d0 rfl rfl (by omega)
      have g0 : (H3.set 0 (B.cells [tv, sv]))[0]? = some (.cells [tv, sv]) := by rw [List.getElem?_set, if_pos rfl, if_pos (by omega)]
      have rd0 : rd (H3.set 0 (B.cells [tv, sv])) (.ptr 0 0) 2 = some [tv, sv] := by simp [rd, g0]
      have hT4 : OwnL 4 (H3.set 0 (B.cells [tv, sv])) tv ((redT x.1).map enT) := hT.keep fun id hid h3 => by rw [List.getElem?_set_ne (by omega), dk id hid h3]
      have hS4 : OwnL 2 (H3.set 0 (B.cells [tv, sv])) sv (x.2.map enS) := hS.keep fun id hid h3 => List.getElem?_set_ne (by omega)
      simp only [upQ_e, blockQ_e, if_true, seqQ_n, wr17_3, ld, st, bd_some, true_and, ret17, resultV, mapO, result1, List.getD_cons_zero, List.getD_cons_succ, rd0, Option.bind_some, packV, Option.map_some]
      obtain ⟨u, c1, c2⟩ := hT4.close (d := 8) (fun e he => by
        obtain ⟨t, _, rfl⟩ := List.mem_map.1 he
        exact ⟨by simp [enT, mapO], mapO_ints (d := 7) _⟩)
      obtain ⟨w, c3, c4⟩ := hS4.close (d := 8) (fun e he => by
        obtain ⟨t, _, rfl⟩ := List.mem_map.1 he
        exact ⟨by simp [enS, mapO], mapO_strs (d := 7) _⟩)
      refine hq_some (v' := .tup [.agg [u, w], .int .i64 0]) ?_ (h _ (shop_mk (els_arr (by rw [redT_len]; unfold top; omega) c2 fun t ht w hw => ?_) (els_arr (by simp only [top]; omega) c4 fun t ht w hw => ?_)))
      · rw [show closeDepth = 11 + 1 from rfl, closeV_tup]
        simp only [mapO]
        rw [show (11 : Nat) = 10 + 1 from rfl, closeV_agg]
        simp only [mapO, c1, c3, closeV_int, Option.bind_some, Option.map_some]
      · obtain ⟨i, hi, rfl⟩ := List.mem_iff_getElem.1 ht
        have hi' : i < x.1.length := by rw [redT_len] at hi; exact hi
        have hget : (redT x.1)[i] = (x.1[i].1, x.1[i].2.1, x.1[i].2.2.1, redL x.1 i) := by
          have := redT_get hi'
          rw [List.getElem?_eq_getElem hi] at this
          exact Option.some.inj this
        have tp := task_top g1 _ (List.getElem_mem hi')
        have hd := dur_rng z3 hi'
        have hdm := i64_mm (x := dur x.1 i) (by omega) (by omega)
        rw [dur_of hi'] at hdm
        rw [hget] at hw ⊢
        refine task_mk (t := (x.1[i].1, x.1[i].2.1, x.1[i].2.2.1, redL x.1 i)) tp.1 hdm tp.2 (ints_arr ?_ ?_ ?_)
        · have h1 := (redL_sub (T := x.1) (i := i)).length_le
          obtain ⟨_, _, _, q⟩ := task_at g1 hi'
          have h2 := q.le
          rw [aft_of hi'] at h1
          exact Nat.le_trans h1 h2
        · intro (y : Int) hy
          have : 0 ≤ y ∧ y < (x.1.length : Int) := vl.rg i hi' y (redL_sub.subset hy)
          exact i64_mm (by omega) (by omega)
        · rcases hw with hw | ⟨hw1, hw2⟩
          · left; simpa [enT] using hw
          · refine .inr ⟨?_, hw2.imp id .inl⟩
            have := congrArg List.length hw1
            simpa [enT] using this
      · obtain ⟨i, hi, rfl⟩ := List.mem_iff_getElem.1 ht
        have st1 := station_top g2 _ (List.getElem_mem hi)
        obtain ⟨_, _, _, q⟩ := station_at g2 hi
        refine station_mk st1 (strs_arr q.le (strs_top q) ?_)
        rcases hw with hw | ⟨hw1, hw2⟩
        · left; simpa [enS] using hw
        · refine .inr ⟨?_, hw2.imp id .inl⟩
          have := congrArg List.length hw1
          simpa [enS] using this
end Go.Proofs.Ytoommmeapdkopaa.E
namespace Go.Proofs.Ytoommmeapdkopaa.E
open Go Go.Eng

theorem Cl.lend {f : FuncId} {F : IFun} (hg : G.get f = some F) (hm : F.mode = 1) {args args' : List V} {H : Heap} (ha : mapO (closeV H closeDepth) args = some args') (hc' : closedVs args' = true) {k : V → Heap → Prop}
    (h : Cl G f args' [] fun v _ => scalarV v = true ∧ k v H) : Cl G f args H k := by
  obtain ⟨n, v, H1, e, hs, hk⟩ := h
  cases n with
  | zero => simp [evN] at e
  | succ n =>
    simp only [evN, stepS, callS, hg, hm, Nat.one_ne_zero, if_false, hc', if_true, Option.bind_eq_some_iff] at e
    obtain ⟨r, e1, e2⟩ := e
    have e3 : handV 1 r.2 r.1 H = some (v, H) := by
      simp only [handV, if_true, Option.map_eq_some_iff] at e2 ⊢
      obtain ⟨u, u1, u2⟩ := e2
      exact ⟨u, u1, by injection u2 with a b; rw [a]⟩
    refine ⟨n + 1, v, H, ?_, hk⟩
    simp only [evN, stepS, callS, hg, hm, Nat.one_ne_zero, if_false]
    cases hcl : closedVs args with
    | true =>
      obtain rfl := closeVs_closed _ _ _ hcl ha
      simp only [if_true, e1, Option.bind_some, e3]
    | false => simp only [Bool.false_eq_true, if_false, ha, Option.bind_some, e1, e3, hs, true_or, if_true]

theorem mem_befL {T : List tTask.D} {j k : Nat} (hk : k < T.length) : ((k : Int) ∈ ofN (befL T j)) ↔ rchB T j k = true := by
  rw [mem_ofN]
  constructor
  · rintro ⟨a, ha, e⟩
    have : a = k := by omega
    subst this
    exact (List.mem_filter.1 ha).2
  · intro h
    exact ⟨k, List.mem_filter.2 ⟨by simpa using hk, h⟩, rfl⟩

theorem lp_reduced {x : tShop.D} {a b : V} (hx : tShop.V x (.agg [a, b])) (he : shopErr x (decide ((orderL x.1).length < x.1.length)) = 0) {i : Nat} (hi : i < x.1.length) {l : List Int} {w c1 c2 c3 : V} {r : List V} (e : iadrV 4 a (.int .i64 i) = some (.rptr (c1 :: c2 :: c3 :: w :: r))) (q : Arr 1 tI.R w l)
    (hne : ∀ y ∈ l, 0 ≤ y ∧ y < (x.1.length : Int)) (hql : l.length ≤ x.1.length) (hn : x.1.length ≤ 24) {H : Heap} {k : V → Heap → Prop} (h : ∀ r, Arr 1 tI.R r (l.filter fun k => !l.any fun j => rchB x.1 j.toNat k.toNat) → k r H) :
    Lb20_0 (.int .i64 i) (.rptr [a, b]) .nils w (.int .i64 l.length) (.int .i64 0) [] (blockQ 0 (seqQ G r20_4 (retQ i20 (hq 1 H k)))) := by
  unfold Lb20_0
  intros
  refine ub20_0 l.length (fun t c1 c2 c5 c16 c17 c18 H => c1 = .int .i64 i ∧ c2 = .rptr [a, b] ∧ w = c16 ∧ c17 = .int .i64 l.length ∧ c18 = .int .i64 t ∧ Gr 1 [] H c5 (((l.take t).filter fun k => !l.any fun j => rchB x.1 j.toNat k.toNat).map (V.int .i64)) ((l.take t).filter fun k => !l.any fun j => rchB x.1 j.toNat k.toNat).length) ?_ 0 (Nat.zero_le _) ⟨rfl, rfl, rfl, rfl, rfl, by simpa using Gr.nil (k := 1) (F := [])⟩
  rintro t ht _ _ out _ _ _ H2 ⟨rfl, rfl, rfl, rfl, rfl, hg⟩
  intros
  rw [wb20_0]
  simp only [bd_some, binV_lss, ifB_bool, decide_eq_true_eq, Int.ofNat_lt]
  split
  · rename_i hlt
    obtain ⟨r2, e2⟩ := q.int1 hlt
    obtain ⟨kn, hkn, hkl⟩ : ∃ n : Nat, l[t] = n ∧ n < x.1.length := by
      have := hne _ (List.getElem_mem hlt)
      exact ⟨l[t].toNat, by omega, by omega⟩
    have step := filter_take_succ hlt (p := fun k : Int => !l.any fun j => rchB x.1 j.toNat k.toNat)
    have wt : IntKind.i64.wrap ((t : Int) + 1) = ((t + 1 : Nat) : Int) := wi (by omega) (by omega)
    rw [hkn] at e2 step
    simp only [e2, bd_some, ldV_one, fadrV_rptr, List.drop_zero, List.drop_succ_cons, e, q.lens]
    refine ub20_1 l.length (fun s c1 c2 c5 c7 c8 c16 c17 c18 c27 c28 c29 H => c1 = .int .i64 i ∧ c2 = .rptr [a, b] ∧ out = c5 ∧ c7 = .int .i64 kn ∧ c8 = .bool ((l.take s).any fun j => rchB x.1 j.toNat kn) ∧ w = c16 ∧ c17 = .int .i64 l.length ∧ c18 = .int .i64 t ∧ w = c27 ∧ c28 = .int .i64 l.length ∧ c29 = .int .i64 s ∧ Gr 1 [] H out (((l.take t).filter fun k => !l.any fun j => rchB x.1 j.toNat k.toNat).map (V.int .i64)) ((l.take t).filter fun k => !l.any fun j => rchB x.1 j.toNat k.toNat).length) ?_ 0 (Nat.zero_le _) ⟨rfl, rfl, rfl, rfl, by simp, rfl, rfl, rfl, rfl, rfl, rfl, hg⟩
    clear hg
    rintro s hs _ _ _ _ _ _ _ _ _ _ _ H3 ⟨rfl, rfl, rfl, rfl, rfl, rfl, rfl, rfl, hw, rfl, rfl, hg⟩
    subst hw
    intros
    rw [wb20_1]
    simp only [bd_some, binV_lss, ifB_bool, decide_eq_true_eq, Int.ofNat_lt]
    split
    · rename_i hsl
      obtain ⟨r3, e3⟩ := q.int1 hsl
      obtain ⟨jn, hjn, hjl⟩ : ∃ n : Nat, l[s] = n ∧ n < x.1.length := by
        have := hne _ (List.getElem_mem hsl)
        exact ⟨l[s].toNat, by omega, by omega⟩
      have ws : IntKind.i64.wrap ((s : Int) + 1) = ((s + 1 : Nat) : Int) := wi (by omega) (by omega)
      have st2 := any_take_succ hsl (p := fun j : Int => rchB x.1 j.toNat kn)
      rw [hjn] at e3 st2
      simp only [Int.toNat_natCast] at st2
      simp only [e3, bd_some, ldV_one]
      cases hb : (l.take s).any fun j => rchB x.1 j.toNat kn
      · rw [hb, Bool.false_or] at st2
        simp only [gdV_bool, beq_self_eq_true, wpg_true, ldV_s2, bd_some, Bool.true_or, true_and]
        refine c28 hx he hjl fun rb hrb => ?_
        refine c22 (hrb.sh _) ?_
        have : decide ((kn : Int) ∈ ofN (befL x.1 jn)) = rchB x.1 jn kn := by
          rw [Bool.eq_iff_iff, decide_eq_true_eq]; exact mem_befL hkl
        simp only [this, pickV_bool, Bool.false_eq_true, if_false, bd_some, binV_add, ws, upQ_n, Sb20_1_eq, true_and]
        exact ⟨s + 1, by omega, by omega, by rw [st2], rfl, hg⟩
      · rw [hb, Bool.true_or] at st2
        simp only [gdV_bool, show (true == false) = false from rfl, wpg_false, pickV_bool, if_true, bd_some, binV_add, ws, upQ_n, Sb20_1_eq, true_and]
        exact ⟨s + 1, by omega, by omega, by rw [st2], rfl, hg⟩
    · rename_i hsl
      rw [take_all hsl]
      simp only [upQ_e, blockQ_e, if_true, blockQ_n, seqQ_n, wr20_2, unV_not, bd_some, ifB_bool, Bool.not_eq_true']
      have hfl : ((l.take t).filter fun k => !l.any fun j => rchB x.1 j.toNat k.toNat).length ≤ t := by
        have := List.length_filter_le (fun k : Int => !l.any fun j => rchB x.1 j.toNat k.toNat) (l.take t)
        simp at this; omega
      cases hb : l.any fun j => rchB x.1 j.toNat kn
      · simp only [Int.toNat_natCast, hb, Bool.not_false, if_true] at step
        obtain ⟨v', H', p1, p2⟩ := hg.push (xs := [.int .i64 kn]) rfl (by omega) (bytes := 8) (by unfold room; omega)
        simp only [if_true, bslV_one (show oneC (.int .i64 kn) = true from rfl), bd2_some, p1, blockQ_n, seqQ_n, wr20_3, binV_add, bd_some, wt, upQ_n, Sb20_0_eq, true_and]
        refine ⟨t + 1, by omega, by omega, rfl, ?_⟩
        rw [step]
        simpa using p2
      · simp only [Int.toNat_natCast, hb, Bool.not_true, Bool.false_eq_true, if_false, List.append_nil] at step
        simp only [Bool.true_eq_false, if_false, blockQ_n, seqQ_n, wr20_3, binV_add, bd_some, wt, upQ_n, Sb20_0_eq, true_and]
        refine ⟨t + 1, by omega, by omega, rfl, ?_⟩
        rw [step]
        exact hg
  · rename_i hlt
    rw [take_all hlt] at hg
    simp only [upQ_e, blockQ_e, if_true, seqQ_n, wr20_4, ret20]
    have hfl := List.length_filter_le (fun k : Int => !l.any fun j => rchB x.1 j.toNat k.toNat) l
    obtain ⟨u, c1, c2⟩ := Gr.ints (d := 10) hg (by unfold top; omega) (fun (y : Int) hy => by
      have := hne y ((List.mem_filter.1 hy).1)
      exact i64_mm (by omega) (by omega))
    exact hq_some c1 (h u c2)
theorem c20 {x : tShop.D} {v : V} (hx : tShop.V x v) (he : shopErr x (decide ((orderL x.1).length < x.1.length)) = 0) {i : Nat} (hi : i < x.1.length) {H : Heap} {k : V → Heap → Prop}
    (h : ∀ r, Arr 1 tI.R r (redL x.1 i) → k r H) : Cl G 20 [v, .int .i64 i] H k := by
  obtain ⟨a, b, rfl, h1, h2⟩ := shop_v hx
  obtain ⟨z1, z2, z3, z4⟩ := shopErr_zero he
  have vl := vld_of he
  refine Cl.mode1 (F := i20) rfl rfl (by simp [h1.closed, h2.closed]) ?_
  rw [w20]
  obtain ⟨w, r, e, q⟩ := task_at h1 hi
  have hal : aft x.1 i = x.1[i].2.2.2 := aft_of hi
  have hne : ∀ y : Int, y ∈ x.1[i].2.2.2 → 0 ≤ y ∧ y < (x.1.length : Int) := fun y hy => vl.rg i hi y (by rw [hal]; exact hy)
  have hql : x.1[i].2.2.2.length ≤ x.1.length := by
    have hnd : ((aft x.1 i).map Int.toNat).Nodup := by
      rw [List.nodup_iff_pairwise_ne, List.pairwise_map]
      refine List.Pairwise.imp_of_mem ?_ (aft_inc z3 i)
      intro p q hp hq hpq
      have := vl.rg i hi p hp
      have := vl.rg i hi q hq
      omega
    have := nodup_len x.1.length _ hnd (fun d hd => by
      obtain ⟨y, hy, rfl⟩ := List.mem_map.1 hd
      have := vl.rg i hi y hy
      omega)
    rwa [List.length_map, hal] at this
  have hred : redL x.1 i = x.1[i].2.2.2.filter fun k => !x.1[i].2.2.2.any fun j => rchB x.1 j.toNat k.toNat := by unfold redL; rw [hal]
  rw [hred] at h
  simp only [bxrV_agg, closedVs_cons, closedVs_nil, h1.closed, h2.closed, Bool.and_self, bd_some, fadrV_rptr, List.drop_zero, List.drop_succ_cons, ldV_one, e, q.lens]
  exact lp_reduced hx he hi e q hne hql z1 h ..
end Go.Proofs.Ytoommmeapdkopaa.E
