/- What functions of the program return, proved over the interpreter. Each theorem says its conditions. -/
import Derived.Test.YtoommmeapdkopaaZS4
import Derived.Test.YtoommmeapdkopaaZD2
namespace Go.Proofs.Ytoommmeapdkopaa.E
open Go Go.Eng

@[simp] theorem maxV_int {κ : IntKind} {a b : Int} : maxV (.int κ a) (.int κ b) = some (.int κ (if b > a then b else a)) := nrfl
theorem gr_own_set {F H : Heap} {v : V} {cs cs' : List V} {n : Nat} (h : Gr 1 F H v cs n) (hc : cs'.length = n) {id : Nat} (hv : v = .sl id 0 n n 1) : Gr 1 F (H.set id (.cells cs')) v cs' n := by
  obtain ⟨h1, h2, h3, ⟨rfl, rfl⟩ | ⟨id', i1, i2, i3⟩⟩ := h
  · cases hv
  · rw [hv] at i2
    injection i2 with i2
    subst i2
    refine ⟨by omega, by simpa using h2, fun j hj => ?_, .inr ⟨id, i1, hv, ?_⟩⟩
    · rw [List.getElem?_set_ne (by omega)]; exact h3 j hj
    · rw [List.getElem?_set]; simp [(List.getElem?_eq_some_iff.1 i3).1]
theorem gr_elem {F H : Heap} {v : V} {l : List Int} (h : Gr 1 F H v (l.map (V.int .i64)) l.length) {i : Nat} (hi : i < l.length) : ∃ p, iadrV 1 v (.int .i64 i) = some p ∧ ldV H p 1 false = some (.int .i64 l[i]) := by
  obtain ⟨_, _, _, ⟨c, _⟩ | ⟨id, _, rfl, c⟩⟩ := h
  · omega
  · exact ⟨.ptr id i, by simp [iadrV, hi], ldV_own c (by simp [hi])⟩

theorem tab_self {L : List Int} : tab L.length (fun j => L.getD j 0) = L := by
  apply List.ext_getElem?
  intro i
  by_cases h : i < L.length
  · rw [tab_get h, List.getElem?_eq_getElem h, getD_of h]
  · rw [List.getElem?_eq_none (by simp; omega), List.getElem?_eq_none (by omega)]
theorem tab_rev {L : List Int} : tab L.length (fun j => L.getD (L.length - 1 - j) 0) = L.reverse := by
  apply List.ext_getElem?
  intro i
  by_cases h : i < L.length
  · rw [tab_get h, List.getElem?_reverse h, List.getElem?_eq_getElem (by omega), getD_of (by omega)]
  · rw [List.getElem?_eq_none (by simp; omega), List.getElem?_eq_none (by simp; omega)]

theorem c63 {F H : Heap} {v : V} {L : List Int} (hg : Gr 1 F H v (L.map (V.int .i64)) L.length) (hn : L.length ≤ 1000) {k : V → Heap → Prop}
    (h : ∀ H', Gr 1 F H' v (L.reverse.map (V.int .i64)) L.length → k (.tup []) H') : Cl G 63 [v] H k := by
  refine Cl.inline (F := i63) rfl rfl ?_
  rw [w63]
  have w0 : IntKind.i64.wrap ((L.length : Int) - 1) = (L.length : Int) - 1 := wz (by omega) (by omega)
  simp only [hg.lens, bd_some, binV_sub, w0]
  refine ub63_0 L.length (fun m c0 c2 c3 H => v = c0 ∧ c2 = .int .i64 m ∧ c3 = .int .i64 ((L.length : Int) - 1 - m) ∧ Gr 1 F H v ((tab L.length fun j => if j < m ∨ L.length ≤ j + m then L.getD (L.length - 1 - j) 0 else L.getD j 0).map (V.int .i64)) L.length) ?_ 0 (Nat.zero_le _) ⟨rfl, rfl, by simp, ?_⟩
  case refine_2 =>
    have : (tab L.length fun j => if j < 0 ∨ L.length ≤ j + 0 then L.getD (L.length - 1 - j) 0 else L.getD j 0) = L := by
      conv => rhs; rw [← tab_self (L := L)]
      exact tab_congr fun j hj => by rw [if_neg (by omega)]
    rw [this]; exact hg
  rintro m hm _ _ _ H2 ⟨rfl, rfl, rfl, hg2⟩
  intros
  rw [wb63_0]
  simp only [bd_some, binV_lss, ifB_bool, decide_eq_true_eq]
  split
  · rename_i hlt
    have hml : m + m + 1 < L.length := by omega
    have hid : ∃ id, v = .sl id 0 L.length L.length 1 := by
      obtain ⟨_, _, _, ⟨c, _⟩ | ⟨id, _, c, _⟩⟩ := hg2
      · omega
      · exact ⟨id, c⟩
    obtain ⟨id, hv⟩ := hid
    have hH : H2[id]? = some (.cells ((tab L.length fun j => if j < m ∨ L.length ≤ j + m then L.getD (L.length - 1 - j) 0 else L.getD j 0).map (V.int .i64))) := by
      obtain ⟨_, _, _, ⟨c, _⟩ | ⟨id', _, c, d⟩⟩ := hg2
      · omega
      · rw [hv] at c; injection c with c; subst c; exact d
    have a1 : iadrV 1 v (.int .i64 m) = some (.ptr id m) := by subst hv; simp [iadrV]; omega
    have a2 : iadrV 1 v (.int .i64 ((L.length : Int) - 1 - m)) = some (.ptr id (L.length - 1 - m)) := by
      have : (L.length : Int) - 1 - m = ((L.length - 1 - m : Nat) : Int) := by omega
      rw [this]; subst hv; simp [iadrV]; omega
    have hid2 := (List.getElem?_eq_some_iff.1 hH).1
    generalize hf : (fun j => if j < m ∨ L.length ≤ j + m then L.getD (L.length - 1 - j) 0 else L.getD j 0) = f at *
    have e1 := ldV_own (off := m) hH (tab_map_get (by omega))
    have e2 := ldV_own (off := L.length - 1 - m) hH (tab_map_get (by omega))
    have s1 := stV_own (off := m) (x := .int .i64 (f (L.length - 1 - m))) hH (by simp; omega) rfl
    rw [tab_map_set] at s1
    have hH3 : (H2.set id (B.cells ((tab L.length fun j => if j = m then f (L.length - 1 - m) else f j).map (V.int .i64))))[id]? = some (B.cells ((tab L.length fun j => if j = m then f (L.length - 1 - m) else f j).map (V.int .i64))) := by
      rw [List.getElem?_set]; simp [hid2]
    have s2 := stV_own (off := L.length - 1 - m) (x := .int .i64 (f m)) hH3 (by simp; omega) rfl
    rw [tab_map_set, List.set_set] at s2
    have w1 : IntKind.i64.wrap ((m : Int) + 1) = ((m + 1 : Nat) : Int) := wi (by omega) (by omega)
    have w2 : IntKind.i64.wrap ((L.length : Int) - 1 - m - 1) = (L.length : Int) - 1 - ((m + 1 : Nat) : Int) := by rw [wz (by omega) (by omega)]; omega
    simp only [a1, a2, bd_some, e1, e2, s1, s2, true_and, binV_add, binV_sub, w1, w2, upQ_n, Sb63_0_eq]
    have := gr_own_set hg2 (cs' := (tab L.length fun j => if j = L.length - 1 - m then f m else if j = m then f (L.length - 1 - m) else f j).map (V.int .i64)) (by simp) hv
    have e : (tab L.length fun j => if j = L.length - 1 - m then f m else if j = m then f (L.length - 1 - m) else f j) = tab L.length fun j => if j < m + 1 ∨ L.length ≤ j + (m + 1) then L.getD (L.length - 1 - j) 0 else L.getD j 0 := by
      refine tab_congr fun j hj => ?_
      subst hf
      by_cases c1 : j = L.length - 1 - m
      · have q : L.length - 1 - (L.length - 1 - m) = m := by omega
        have n1 : ¬ (m < m ∨ L.length ≤ m + m) := by omega
        have p1 : j < m + 1 ∨ L.length ≤ j + (m + 1) := by omega
        rw [if_pos c1, if_pos p1, c1, q]
        show (if _ then _ else _) = _
        rw [if_neg n1]
      · by_cases c2 : j = m
        · have n1 : ¬ (L.length - 1 - m < m ∨ L.length ≤ L.length - 1 - m + m) := by omega
          have p1 : j < m + 1 ∨ L.length ≤ j + (m + 1) := by omega
          rw [if_neg c1, if_pos c2, if_pos p1, c2]
          show (if _ then _ else _) = _
          rw [if_neg n1]
        · have i1 : (j < m ∨ L.length ≤ j + m) ↔ (j < m + 1 ∨ L.length ≤ j + (m + 1)) := by omega
          rw [if_neg c1, if_neg c2]
          simp only [i1]
    rw [e] at this
    exact ⟨m + 1, by omega, by omega, rfl, rfl, by rw [e]; exact this⟩
  · rename_i hge
    have : (tab L.length fun j => if j < m ∨ L.length ≤ j + m then L.getD (L.length - 1 - j) 0 else L.getD j 0) = L.reverse := by
      rw [← tab_rev]
      refine tab_congr fun j hj => ?_
      by_cases c : j < m ∨ L.length ≤ j + m
      · rw [if_pos c]
      · have : j = L.length - 1 - j := by omega
        rw [if_neg c, ← this]
    rw [this] at hg2
    simp only [upQ_e, blockQ_e, if_true]
    exact h H2 hg2

theorem c42 {x : tShop.D} {v : V} (hx : tShop.V x v) (he : shopErr x (decide ((orderL x.1).length < x.1.length)) = 0) {H : Heap} {k : V → Heap → Prop}
    (h : ∀ r f, isTail x.1 f → (∀ i, i < x.1.length → 0 ≤ f i ∧ f i ≤ 24 * 1048576) → Arr 1 tI.R r (tab x.1.length f) → k r H) : Cl G 42 [v] H k := by
  obtain ⟨a, b, rfl, h1, h2⟩ := shop_v hx
  obtain ⟨z1, z2, z3, z4⟩ := shopErr_zero he
  have vl := vld_of he
  refine Cl.mode1 (F := i42) rfl rfl (by simp [h1.closed, h2.closed]) ?_
  rw [w42]
  by_cases h0 : x.1.length = 0
  · have e0 : mksV 1 8 [.int .i64 0] [] (.int .i64 x.1.length) (.int .i64 x.1.length) = some (.z0, []) := by rw [h0]; rfl
    simp only [bxrV_agg, closedVs_cons, closedVs_nil, h1.closed, h2.closed, Bool.and_self, bd_some, fadrV_rptr, List.drop_zero, ldV_one, h1.lens, e0, bd2_some, ldV_s2, pur56, Bool.or_true, Bool.true_or, true_and]
    refine c56 hx (by omega) vl.rg fun r H' hr => ?_
    have ho : (orderL x.1).length = 0 := by have := shopErr_order he; omega
    have ho' : orderL x.1 = [] := List.length_eq_zero_iff.1 ho
    refine c63 (L := ofN (orderL x.1)) (by simpa [ofN] using hr) (by simp [ofN, ho]) fun H2 hr2 => ?_
    simp only [hr.lens, bd_some, ho]
    refine ub42_0 0 (fun m _ c3 _ c18 c19 _ => c3 = .z0 ∧ c18 = .int .i64 (0 : Nat) ∧ c19 = .int .i64 m) ?_ 0 (Nat.zero_le _) ⟨rfl, rfl, rfl⟩
    rintro m hm _ _ _ _ _ H2 ⟨rfl, rfl, rfl⟩
    intros
    rw [wb42_0]
    have : ¬ ((m : Int) < (0 : Nat)) := by omega
    simp only [bd_some, binV_lss, ifB_bool, this, decide_false, Bool.false_eq_true, if_false, upQ_e, blockQ_e, if_true, seqQ_n, wr42_3, ret42, hq_z0]
    refine h .z0 (fun _ => 0) (fun i hi => by omega) (fun i hi => by omega) ?_
    rw [h0]
    exact ints_arr (by simp [top]) (by simp [tab]) (.inr ⟨by simp, .inr (.inl rfl)⟩)
  have m8 : mksV 1 8 [.int .i64 0] [] (.int .i64 x.1.length) (.int .i64 x.1.length) = some (.sl 0 0 x.1.length x.1.length 1, [.cells ((tab x.1.length fun _ => 0).map (V.int .i64))]) := by
    have hnz : ¬ ((x.1.length : Int) = 0) := by omega
    have r : (x.1.length : Int) * (8 : Nat) ≤ (room : Int) := by unfold room; omega
    simp only [mksV, hnz, if_false, Int.le_refl, true_and, List.length_nil, List.nil_append, Int.toNat_natCast]
    rw [if_pos ⟨by omega, r⟩, rep_one]
    have : (tab x.1.length fun _ => 0).map (V.int .i64) = List.replicate x.1.length (.int .i64 0) := by simp [tab, List.map_const']
    rw [this]
  simp only [bxrV_agg, closedVs_cons, closedVs_nil, h1.closed, h2.closed, Bool.and_self, bd_some, fadrV_rptr, List.drop_zero, ldV_one, h1.lens, m8, bd2_some, ldV_s2, pur56, Bool.or_true, Bool.true_or, true_and]
  refine c56 hx (by omega) vl.rg fun r H' hr => ?_
  have hOl := vl.len
  refine c63 (L := ofN (orderL x.1)) (by simpa [ofN] using hr) (by simp [ofN]; omega) fun H2 hr2 => ?_
  have erev : (ofN (orderL x.1)).reverse = ofN (orderL x.1).reverse := by simp [ofN]
  have el : (ofN (orderL x.1)).length = x.1.length := by simp [ofN, hOl]
  rw [erev, el] at hr2
  simp only [hr.lens, bd_some, hOl]
  have hRl : (orderL x.1).reverse.length = x.1.length := by simp [hOl]
  have hRn : (orderL x.1).reverse.Nodup := List.pairwise_reverse.2 (vl.nd.imp fun h e => h e.symm)
  have hRlt : ∀ d ∈ (orderL x.1).reverse, d < x.1.length := fun d hd => vl.lt d (List.mem_reverse.1 hd)
  have hrev : ∀ m (h : m < (orderL x.1).reverse.length) (c : Nat), (c : Int) ∈ aft x.1 (orderL x.1).reverse[m] → c ∉ (orderL x.1).reverse.take m ∧ c ≠ (orderL x.1).reverse[m] := fun m h c hc => vl.rev h hc
  have hRall : ∀ i, i < x.1.length → i ∈ (orderL x.1).reverse := fun i hi => List.mem_reverse.2 (vl.all hi)
  generalize (orderL x.1).reverse = R at *
  clear hr
  refine ub42_0 x.1.length (fun m c1 c3 c17 c18 c19 H => c1 = .rptr [a, b] ∧ c3 = .sl 0 0 x.1.length x.1.length 1 ∧ r = c17 ∧ c18 = .int .i64 x.1.length ∧ c19 = .int .i64 m ∧ ∃ g, Gr 1 [.cells ((tab x.1.length g).map (V.int .i64))] H r ((ofN R).map (V.int .i64)) x.1.length ∧ TInv x.1 (R.take m) (E0 x.1 (R.take m)) g ∧ ∀ c, c < x.1.length → 0 ≤ g c ∧ g c ≤ m * 1048576) ?_ 0 (Nat.zero_le _) ⟨rfl, rfl, rfl, rfl, rfl, _, hr2, by simpa using TInv.start, fun c _ => by simp⟩
  clear hr2
  rintro m hm _ _ _ _ _ H3 ⟨rfl, rfl, rfl, rfl, rfl, g, hg, hT, hB⟩
  intros
  rw [wb42_0]
  simp only [bd_some, binV_lss, ifB_bool, decide_eq_true_eq, Int.ofNat_lt]
  split
  · rename_i hml
    have hmR : m < R.length := by omega
    obtain ⟨p, p1, p2⟩ := gr_elem (l := ofN R) (by simpa [ofN, hRl] using hg) (i := m) (by simpa [ofN] using hmR)
    obtain ⟨i, hi⟩ : ∃ i, R[m] = i := ⟨_, rfl⟩
    have hin : i < x.1.length := hi ▸ hRlt _ (List.getElem_mem hmR)
    have hnot : i ∉ R.take m := hi ▸ nodup_take_not hRn hmR
    have e1 : (ofN R)[m]'(by simpa [ofN] using hmR) = (i : Int) := by simp [ofN, hi]
    rw [e1] at p2
    have g0 : H3[0]? = some (.cells ((tab x.1.length g).map (V.int .i64))) := hg.get rfl
    have i3 : iadrV 1 (.sl 0 0 x.1.length x.1.length 1) (.int .i64 i) = some (.ptr 0 i) := by simp [iadrV, hin]
    have l3 := ldV_own (off := i) g0 (tab_map_get hin)
    obtain ⟨w, rr, e, q⟩ := task_at h1 hin
    have hd := dur_rng z3 hin
    rw [dur_of hin] at hd
    have hb := hB i hin
    have wd : IntKind.i64.wrap (g i + x.1[i].2.1) = g i + dur x.1 i := by rw [dur_of hin]; exact wz (by omega) (by omega)
    have s3 := stV_own (off := i) (x := .int .i64 (g i + dur x.1 i)) g0 (by simpa using hin) rfl
    rw [tab_map_set] at s3
    have hg3 := hg.set (j := 0) (by simp) (.cells ((tab x.1.length fun j => if j = i then g i + dur x.1 i else g j).map (V.int .i64)))
    have hT3 := hT.enter hnot
    have hal : aft x.1 i = x.1[i].2.2.2 := aft_of hin
    have hql : x.1[i].2.2.2.length ≤ top := q.le
    have tkm : R.take (m + 1) = R.take m ++ [i] := by rw [tk hmR, hi]
    have hB3 : ∀ c, c < x.1.length → 0 ≤ (if c = i then g i + dur x.1 i else g c) ∧ (if c = i then g i + dur x.1 i else g c) ≤ ((m + 1 : Nat) : Int) * 1048576 := fun c hc => by
      have := hB c hc
      have := dur_rng z3 hin
      split <;> omega
    simp only [p1, p2, bd_some, i3, l3, fadrV_rptr, List.drop_zero, List.drop_succ_cons, ldV_one, e, binV_add, wd, s3, true_and, q.lens]
    refine ub42_1 x.1[i].2.2.2.length (fun t c1 c3 c6 c17 c18 c19 c40 c41 c42 H => c1 = .rptr [a, b] ∧ c3 = .sl 0 0 x.1.length x.1.length 1 ∧ c6 = .int .i64 i ∧ r = c17 ∧ c18 = .int .i64 x.1.length ∧ c19 = .int .i64 m ∧ w = c40 ∧ c41 = .int .i64 x.1[i].2.2.2.length ∧ c42 = .int .i64 t ∧ ∃ g, Gr 1 [.cells ((tab x.1.length g).map (V.int .i64))] H r ((ofN R).map (V.int .i64)) x.1.length ∧ TInv x.1 (R.take m ++ [i]) (E1 x.1 (R.take m) i t) g ∧ ∀ c, c < x.1.length → 0 ≤ g c ∧ g c ≤ ((m + 1 : Nat) : Int) * 1048576) ?_ 0 (Nat.zero_le _) ⟨rfl, rfl, rfl, rfl, rfl, rfl, rfl, rfl, rfl, _, hg3, hT3, hB3⟩
    clear hg hT hB hg3 hT3 hB3 s3 l3 g0 wd hb p1 p2
    rintro t ht _ _ _ _ _ _ _ _ _ H4 ⟨rfl, rfl, rfl, rfl, rfl, rfl, rfl, rfl, rfl, g, hg, hT, hB⟩
    intros
    rw [wb42_1]
    simp only [bd_some, binV_lss, ifB_bool, decide_eq_true_eq, Int.ofNat_lt]
    split
    · rename_i htl
      obtain ⟨r4, e4⟩ := q.int1 htl
      have hmem : x.1[i].2.2.2[t] ∈ aft x.1 i := by rw [hal]; exact List.getElem_mem htl
      obtain ⟨c, hc, hcn⟩ := vl.nat hin hmem
      rw [hc] at e4 hmem
      have hcR := hrev m hmR c (by rw [hi]; exact hmem)
      have g0 : H4[0]? = some (.cells ((tab x.1.length g).map (V.int .i64))) := hg.get rfl
      have i4 : iadrV 1 (.sl 0 0 x.1.length x.1.length 1) (.int .i64 c) = some (.ptr 0 c) := by simp [iadrV, hcn]
      have l4 := ldV_own (off := c) g0 (tab_map_get hcn)
      have l3 := ldV_own (off := i) g0 (tab_map_get hin)
      have s4 := stV_own (off := c) (x := .int .i64 (if g i > g c then g i else g c)) g0 (by simpa using hcn) rfl
      rw [tab_map_set] at s4
      have hg4 := hg.set (j := 0) (by simp) (.cells ((tab x.1.length fun j => if j = c then (if g i > g c then g i else g c) else g j).map (V.int .i64)))
      have wt : IntKind.i64.wrap ((t : Int) + 1) = ((t + 1 : Nat) : Int) := wi (by omega) (by unfold top at hql; omega)
      simp only [e4, bd_some, ldV_one, i4, l4, i3, l3, maxV_int, s4, true_and, binV_add, wt, upQ_n, Sb42_1_eq]
      refine ⟨t + 1, by omega, by omega, rfl, _, hg4, hT.next (by rw [hal]; exact htl) (by simp only [hal]; exact hc) ?_, fun d hd => ?_⟩
      · rw [List.mem_append, List.mem_singleton]; rw [hi] at hcR; exact fun h => h.elim hcR.1 hcR.2
      · have := hB d hd
        have := hB i hin
        have := hB c hcn
        split
        · split <;> omega
        · omega
    · rename_i htl
      have hT4 := hT.leave (by rw [hal]; omega)
      simp only [upQ_e, blockQ_e, if_true, blockQ_n, seqQ_n, show (2 = 1) = False by decide, if_false, wr42_2, binV_add, bd_some, wi (show (m : Int) + 1 = ((m + 1 : Nat) : Int) by omega) (by omega), upQ_n, Sb42_0_eq, true_and]
      exact ⟨m + 1, by omega, by omega, rfl, g, hg, by rw [tkm]; exact hT4, hB⟩
  · rename_i hml
    have em : m = x.1.length := by omega
    subst em
    have htk : R.take x.1.length = R := List.take_of_length_le (by omega)
    rw [htk] at hT
    simp only [upQ_e, blockQ_e, if_true, seqQ_n, wr42_3, ret42]
    have g0 : H3[0]? = some (.cells ((tab x.1.length g).map (V.int .i64))) := hg.get rfl
    have hbd : ∀ i, i < x.1.length → 0 ≤ g i ∧ g i ≤ 24 * 1048576 := fun i hi => by have := hB i hi; omega
    refine hq_some (v' := .ro ((tab x.1.length g).map (V.int .i64)) x.1.length) ?_ (h _ g (hT.tail hRall hRlt) hbd (ints_arr (by simp; unfold top; omega) (fun y hy => ?_) (.inl (by simp))))
    · rw [show closeDepth = 11 + 1 from rfl, closeV_sl g0 (by simp)]
      have : (List.drop 0 ((tab x.1.length g).map (V.int .i64))).take (x.1.length * 1) = (tab x.1.length g).map (V.int .i64) := by
        rw [List.drop_zero]; exact List.take_of_length_le (by simp)
      rw [this, mapO_ints (d := 10)]
      rfl
    · obtain ⟨j, hj, rfl⟩ := List.mem_map.1 hy
      have := hbd j (by simpa using hj)
      exact i64_mm (by omega) (by omega)
end Go.Proofs.Ytoommmeapdkopaa.E
namespace Go.Proofs.Ytoommmeapdkopaa.E
open Go Go.Eng

section
variable {x : tShop.D} {v : V} {H : Heap} {k : V → Heap → Prop}
theorem ok_Tails (hx : tShop.V x v) (he : shopErr x (decide ((orderL x.1).length < x.1.length)) = 0)
    (h : ∀ r f, isTail x.1 f → (∀ i, i < x.1.length → 0 ≤ f i ∧ f i ≤ 24 * 1048576) → Arr 1 tI.R r (tab x.1.length f) → k (.tup [r, .int .i64 0]) H) : Cl G 15 [v] H k := by
  obtain ⟨a, b, rfl, g1, g2⟩ := shop_v hx
  refine Cl.mode1 (F := i15) rfl rfl (by simp [g1.closed, g2.closed]) ?_
  rw [w15]
  simp only [bxrV_agg, closedVs_cons, closedVs_nil, g1.closed, g2.closed, Bool.and_self, bd_some, ldV_s2, Bool.true_or, true_and]
  refine c29 hx ?_
  rw [he]
  simp only [binV_neq, decide_true, Bool.not_true, bd_some, ifB_bool, Bool.false_eq_true, if_false, ldV_s2, Bool.true_or, true_and]
  refine c42 hx he fun r f hf hb hr => ?_
  refine hq_some (v' := .tup [r, .int .i64 0]) ?_ (h r f hf hb hr)
  rw [show closeDepth = 11 + 1 from rfl, closeV_tup]
  simp only [mapO, hr.close, closeV_int, Option.bind_some, Option.map_some]
end

theorem c43 {v : V} {l : List Int} (hx : Arr 1 tI.R v l) (hpos : 0 < l.length) {H : Heap} {k : V → Heap → Prop} (h : ∀ r : Int, r ∈ l → (∀ y ∈ l, y ≤ r) → k (.int .i64 r) H) : Cl G 43 [v] H k := by
  refine Cl.mode1 (F := i43) rfl rfl (by simp [hx.closed]) ?_
  rw [w43]
  have n1 : ¬ ((l.length : Int) < 1) := by omega
  have hle : l.length ≤ top := hx.le
  obtain ⟨r, e⟩ := hx.int1 hpos
  simp only [hx.lens, bd_some, binV_lss, n1, decide_false, ifB_bool, Bool.false_eq_true, if_false, wr43_0]
  simp only [show iadrV 1 v (.int .i64 0) = _ from e, bd_some, ldV_one]
  refine ub43_1 l.length (fun m c0 c3 c4 H => v = c0 ∧ c4 = .int .i64 m ∧ 0 < m ∧ ∃ s, c3 = .int .i64 s ∧ s ∈ l ∧ ∀ y ∈ l.take m, y ≤ s) ?_ 1 (by omega) ⟨rfl, rfl, by omega, l[0], rfl, List.getElem_mem hpos, fun y hy => by
    rw [show (1 : Nat) = 0 + 1 from rfl, tk hpos] at hy
    simp at hy; omega⟩
  rintro m hm _ _ _ H2 ⟨rfl, rfl, hm0, s, rfl, hs, ha⟩
  intros
  rw [wb43_1]
  simp only [hx.lens, bd_some, binV_lss, ifB_bool, decide_eq_true_eq, Int.ofNat_lt]
  split
  · rename_i hlt
    obtain ⟨r2, e2⟩ := hx.int1 hlt
    simp only [e2, bd_some, ldV_one, maxV_int, binV_add, wi (show (m : Int) + 1 = ((m + 1 : Nat) : Int) by omega) (by unfold top at hle; omega), upQ_n, Sb43_1_eq, true_and]
    refine ⟨m + 1, by omega, by omega, rfl, by omega, _, rfl, ?_, fun y hy => ?_⟩
    · split
      · exact List.getElem_mem hlt
      · exact hs
    · rcases (mem_take_succ hlt).1 hy with hy | rfl
      · have := ha y hy
        split <;> omega
      · split <;> omega
  · rename_i hlt
    rw [take_all hlt] at ha
    simp only [upQ_e, blockQ_e, if_true, seqQ_n, wr43_2, ret43, hq_int]
    exact h s hs ha

theorem tail_top {T : List tTask.D} {O : List Nat} (vl : Vld T O) (hz : tasksErr T = 0) {f : Nat → Int} (hf : isTail T f) : ∀ i, i < T.length → 1 ≤ f i ∧ f i ≤ (T.length : Int) * 1048576 := by
  have gen : ∀ i, i < T.length → ∀ p (hp : p < O.length), O[p] = i → 1 ≤ f i ∧ f i ≤ ((T.length - p : Nat) : Int) * 1048576 := by
    refine vl.dn fun i hi ih p hp e => ?_
    obtain ⟨s, h1, h2, h3, h4⟩ := hf i hi
    have hd := dur_rng hz hi
    have hOl := vl.len
    rcases h4 with rfl | ⟨k, k1, k2, k3⟩
    · have : 1 ≤ T.length - p := by omega
      constructor
      · omega
      · have : (1 : Int) ≤ ((T.length - p : Nat) : Int) := by omega
        omega
    · obtain ⟨q, hq, hqk⟩ := vl.at' k1
      have := ih k k1 k2 q hq hqk
      have hpq := vl.pos hq hp (by rw [hqk, e]; exact k2)
      have : ((T.length - q : Nat) : Int) + 1 ≤ ((T.length - p : Nat) : Int) := by omega
      constructor <;> omega
  intro i hi
  obtain ⟨p, hp, e⟩ := vl.at' hi
  have := gen i hi p hp e
  have : ((T.length - p : Nat) : Int) ≤ (T.length : Int) := by omega
  constructor <;> omega

def lastI : Option Nat → Int
  | none => -1
  | some c => c
def goB (T : List tTask.D) (f : Nat → Int) (left : Int) (last : Option Nat) (i : Nat) : Bool := decide (f i = left) && match last with | none => true | some c => decide ((c : Int) ∈ aft T i)
theorem nxC_eq {T : List tTask.D} {f : Nat → Int} {left : Int} {last : Option Nat} : nxC T f left last = (List.range T.length).find? (goB T f left last) := rfl
def PI (H : Heap) (lv rp : V) (path : List Nat) : Prop := ∃ pv, Gr 1 [.cells [pv], .cells [lv], .cells [.fn 44 [rp, .ptr 1 0, .ptr 0 0, .ptr 2 0]]] H pv ((ofN path).map (V.int .i64)) path.length
theorem chainL_none {T : List tTask.D} {f : Nat → Int} {left : Int} {last : Option Nat} (h : left ≤ 0) : ∀ d, chainL T f d left last = []
  | 0 => rfl
  | d + 1 => by simp [chainL, h]

theorem ldV_t4 {H : Heap} {a b c d : V} {rest : List V} : ldV H (.rptr (a :: b :: c :: d :: rest)) 4 true = some (.agg [a, b, c, d]) := ldV_all (c := [a, b, c, d]) rfl

theorem extend_ok {T : List tTask.D} {O : List Nat} (vl : Vld T O) (hz : tasksErr T = 0) {a b : V} (h1 : Arr 4 tTask.R a T) {f : Nat → Int} {lv : V} (hl : Arr 1 tI.R lv (tab T.length f)) (hn : T.length ≤ 1000) : ∀ (d : Nat) (left : Int) (last : Option Nat) (H : Heap) (path : List Nat) (k : V → Heap → Prop), left ≤ d → -9223372036854775807 ≤ left → path.length + d ≤ 1000000000 → PI H lv (.rptr [a, b]) path →
    (∀ H', PI H' lv (.rptr [a, b]) (path ++ chainL T f d left last) → k (.tup []) H') → Cl G 44 [.int .i64 (lastI last), .int .i64 left, .rptr [a, b], .ptr 1 0, .ptr 0 0, .ptr 2 0] H k := by
  intro d
  induction d with
  | zero =>
    intro left last H path k hd hlo hr hp h
    have hle : left ≤ 0 := by omega
    rw [chainL_none hle, List.append_nil] at h
    refine Cl.inline (F := i44) rfl rfl ?_
    rw [w44]
    simp only [fadrV_rptr, List.drop_zero, bd_some, ldV_one, h1.lens]
    refine ub44_0 T.length (fun m c0 c1 c3 c4 c5 c11 c12 c13 H => c0 = .int .i64 (lastI last) ∧ c1 = .int .i64 left ∧ c3 = .ptr 1 0 ∧ c4 = .ptr 0 0 ∧ c5 = .ptr 2 0 ∧ a = c11 ∧ c12 = .int .i64 T.length ∧ c13 = .int .i64 m ∧ PI H lv (.rptr [a, b]) path) ?_ 0 (Nat.zero_le _) ⟨rfl, rfl, rfl, rfl, rfl, rfl, rfl, rfl, hp⟩
    rintro m hm _ _ _ _ _ _ _ _ H2 ⟨rfl, rfl, rfl, rfl, rfl, rfl, rfl, rfl, pv, hg⟩
    intros
    rw [wb44_0]
    simp only [bd_some, binV_lss, ifB_bool, decide_eq_true_eq, Int.ofNat_lt]
    split
    · rename_i hlt
      obtain ⟨w, r, e, q⟩ := task_at h1 hlt
      have n1 : ¬ (0 < left) := by omega
      simp only [e, bd_some, ldV_t4, newB]
      rw [stV_fill (k := 4) rfl rfl]
      simp only [bd_some, true_and]
      rw [frz_new (by simp [q.closed])]
      simp only [bd2_some, binV_gtr, gt_iff_lt, n1, decide_false, bd_some, gdV_bool, show (false == true) = false from rfl, wpg_false, pickV_bool, Bool.false_eq_true, if_false, gdV_undef, ifB_bool, binV_add, wi (show (m : Int) + 1 = ((m + 1 : Nat) : Int) by omega) (by omega), upQ_n, Sb44_0_eq, true_and]
      exact ⟨m + 1, by omega, by omega, rfl, pv, hg.alloc _⟩
    · simp only [upQ_e, blockQ_e, if_true, ret44n]
      exact h H2 ⟨pv, hg⟩
  | succ d ih =>
    intro left last H path k hd hlo hr hp h
    refine Cl.inline (F := i44) rfl rfl ?_
    rw [w44]
    simp only [fadrV_rptr, List.drop_zero, bd_some, ldV_one, h1.lens]
    refine ub44_0 T.length (fun m c0 c1 c3 c4 c5 c11 c12 c13 H => c0 = .int .i64 (lastI last) ∧ c1 = .int .i64 left ∧ c3 = .ptr 1 0 ∧ c4 = .ptr 0 0 ∧ c5 = .ptr 2 0 ∧ a = c11 ∧ c12 = .int .i64 T.length ∧ c13 = .int .i64 m ∧ PI H lv (.rptr [a, b]) path ∧ (0 < left → ∀ j, j < m → goB T f left last j = false)) ?_ 0 (Nat.zero_le _) ⟨rfl, rfl, rfl, rfl, rfl, rfl, rfl, rfl, hp, fun _ j hj => by omega⟩
    rintro m hm _ _ _ _ _ _ _ _ H2 ⟨rfl, rfl, rfl, rfl, rfl, rfl, rfl, rfl, ⟨pv, hg⟩, hno⟩
    intros
    rw [wb44_0]
    simp only [bd_some, binV_lss, ifB_bool, decide_eq_true_eq, Int.ofNat_lt]
    split
    · rename_i hlt
      obtain ⟨w, r, e, q⟩ := task_at h1 hlt
      have hal : aft T m = T[m].2.2.2 := aft_of hlt
      have wm : IntKind.i64.wrap ((m : Int) + 1) = ((m + 1 : Nat) : Int) := wi (by omega) (by omega)
      have hga := hg.alloc [.dead]
      simp only [e, bd_some, ldV_t4, newB]
      rw [stV_fill (k := 4) rfl rfl]
      simp only [bd_some, true_and]
      rw [frz_new (by simp [q.closed])]
      simp only [bd2_some, binV_gtr, gt_iff_lt, bd_some, gdV_bool]
      by_cases hpos : 0 < left
      case neg =>
        simp only [hpos, decide_false, show (false == true) = false from rfl, wpg_false, pickV_bool, Bool.false_eq_true, if_false, bd_some, gdV_undef, gdV_bool, ifB_bool, binV_add, wm, upQ_n, Sb44_0_eq, true_and]
        exact ⟨m + 1, by omega, by omega, rfl, ⟨pv, hga⟩, fun hp => (by first | exact absurd hp hpos | exact hp.elim)⟩
      have l1 : ldV (H2 ++ [.dead]) (.ptr 1 0) 1 false = some lv := ldV_own (hga.get (j := 1) rfl) rfl
      obtain ⟨r5, e5⟩ := hl.int1 (i := m) (by simpa using hlt)
      have g5 : (tab T.length f)[m]'(by simpa using hlt) = f m := by simp [tab]
      rw [g5] at e5
      simp only [hpos, decide_true, beq_self_eq_true, wpg_true, l1, bd_some, e5, ldV_one, binV_eql, pickV_bool, if_true, gdV_bool]

      by_cases hgo : goB T f left last m = true
      · have hfm : f m = left := by simp only [goB, Bool.and_eq_true, decide_eq_true_eq] at hgo; exact hgo.1
        have hnx : nxC T f left last = some m := by rw [nxC_eq]; exact find_range_some hlt hgo (hno hpos)
        have hch : chainL T f (d + 1) left last = m :: chainL T f d (left - dur T m) (some m) := by
          simp only [chainL, show ¬ left ≤ 0 by omega, if_false, hnx]
        rw [hch] at h
        have hd2 := dur_rng hz hlt
        obtain ⟨v', H', p1, p2⟩ := hga.push (xs := [.int .i64 m]) rfl (by omega) (bytes := 8) (by unfold room; omega)
        have l0 : ldV (H2 ++ [.dead]) (.ptr 0 0) 1 false = some pv := ldV_own (hga.get (j := 0) rfl) rfl
        have o1 : oneC v' = true := by rcases p2.2.2.2 with ⟨_, rfl⟩ | ⟨_, _, rfl, _⟩ <;> rfl
        have s0 := stV_own (off := 0) (x := v') (p2.get (j := 0) rfl) (by simp) o1
        have p3 := p2.set (j := 0) (by simp) (.cells [v'])
        have l2 : ldV (H'.set 0 (.cells [v'])) (.ptr 2 0) 1 false = some (.fn 44 [.rptr [a, b], .ptr 1 0, .ptr 0 0, .ptr 2 0]) := ldV_own (p3.get (j := 2) rfl) rfl
        have wl : IntKind.i64.wrap (left - T[m].2.1) = left - dur T m := by rw [dur_of hlt] at hd2 ⊢; exact wz (by omega) (by omega)
        have p4 : PI (H'.set 0 (.cells [v'])) lv (.rptr [a, b]) (path ++ [m]) := ⟨v', by simpa [ofN] using p3⟩

        have tail : Cl G 44 [.int .i64 (lastI (some m)), .int .i64 (left - dur T m), .rptr [a, b], .ptr 1 0, .ptr 0 0, .ptr 2 0] (H'.set 0 (.cells [v'])) fun r H'' => k (.tup []) H'' :=
          ih (left - dur T m) (some m) _ (path ++ [m]) _ (by omega) (by omega) (by simp; omega) p4 fun H'' hp => h H'' (by simpa using hp)
        have fin : ∀ Q : Cont, (∀ v H'', k (.tup []) H'' → Q .r v H'') → ∀ F : V → List V, Cl G 44 [.int .i64 m, .int .i64 (left - dur T m), .rptr [a, b], .ptr 1 0, .ptr 0 0, .ptr 2 0] (H'.set 0 (.cells [v'])) fun r H'' => Q .r (F r) H'' := fun Q hQ F => tail.mono fun r H'' hk => hQ _ _ hk
        cases last with
        | none =>
          simp only [hfm, decide_true, beq_self_eq_true, wpg_true, lastI, binV_lss, show ((-1 : Int) < 0) = True by decide, show (true == false) = false from rfl, wpg_false, bd_some, pickV_bool, if_true, gdV_bool, ifB_bool, l0, bslV_one (show oneC (.int .i64 m) = true from rfl), bd2_some, p1, s0, List.set_cons_zero, true_and, l2, fadrV_rptr, List.drop_succ_cons, List.drop_zero, ldrV_one, binV_sub, wl, callV_fn, Bool.true_or, List.cons_append, List.nil_append, upQ_r, blockQ_r, ret44]
          exact tail
        | some c =>
          have hc : (c : Int) ∈ T[m].2.2.2 := by
            simp only [goB, Bool.and_eq_true, decide_eq_true_eq] at hgo
            rw [← hal]; exact hgo.2
          have c0 : ¬ ((c : Int) < 0) := by omega
          simp only [hfm, decide_true, beq_self_eq_true, wpg_true, lastI, binV_lss, c0, decide_false, bd_some, gdV_bool, fadrV_rptr, List.drop_succ_cons, List.drop_zero, ldrV_one, Bool.true_or, true_and]
          refine c45 q ?_
          simp only [hc, decide_true, bd_some, pickV_bool, if_true, Bool.false_eq_true, if_false, gdV_bool, beq_self_eq_true, wpg_true, ifB_bool, l0, bslV_one (show oneC (.int .i64 m) = true from rfl), bd2_some, p1, s0, List.set_cons_zero, true_and, l2, fadrV_rptr, List.drop_succ_cons, List.drop_zero, ldrV_one, binV_sub, wl, callV_fn, Bool.true_or, List.cons_append, List.nil_append, upQ_r, blockQ_r, ret44]
          exact tail
      · have hgf : goB T f left last m = false := by simpa using hgo
        have next : ∀ j, j < m + 1 → goB T f left last j = false := fun j hj => by
          by_cases e : j = m
          · rw [e]; exact hgf
          · exact hno hpos j (by omega)
        by_cases hfm : f m = left
        case neg =>
          simp only [hfm, decide_false, show (false == true) = false from rfl, wpg_false, pickV_bool, Bool.false_eq_true, if_false, bd_some, gdV_undef, gdV_bool, ifB_bool, binV_add, wm, upQ_n, Sb44_0_eq, true_and]
          exact ⟨m + 1, by omega, by omega, rfl, ⟨pv, hga⟩, fun _ => next⟩
        cases last with
        | none => simp [goB, hfm] at hgf
        | some c =>
          have hc : (c : Int) ∉ T[m].2.2.2 := by
            simp only [goB, hfm, decide_true, Bool.true_and, decide_eq_false_iff_not] at hgf
            rw [← hal]; exact hgf
          have c0 : ¬ ((c : Int) < 0) := by omega
          simp only [hfm, decide_true, beq_self_eq_true, wpg_true, lastI, binV_lss, c0, decide_false, bd_some, gdV_bool, fadrV_rptr, List.drop_succ_cons, List.drop_zero, ldrV_one, Bool.true_or, true_and]
          refine c45 q ?_
          simp only [hc, decide_false, bd_some, pickV_bool, if_true, Bool.false_eq_true, if_false, gdV_bool, beq_self_eq_true, wpg_true, ifB_bool, binV_add, wm, upQ_n, Sb44_0_eq, true_and]
          exact ⟨m + 1, by omega, by omega, rfl, ⟨pv, hga⟩, fun _ => next⟩
    · rename_i hlt
      have : chainL T f (d + 1) left last = [] := by
        by_cases hpos : 0 < left
        · have : nxC T f left last = none := by rw [nxC_eq]; exact find_range_none fun j hj => hno hpos j (by omega)
          simp only [chainL, this, ite_self]
        · exact chainL_none (by omega) _
      rw [this, List.append_nil] at h
      simp only [upQ_e, blockQ_e, if_true, ret44n]
      exact h H2 ⟨pv, hg⟩
end Go.Proofs.Ytoommmeapdkopaa.E
namespace Go.Proofs.Ytoommmeapdkopaa.E
open Go Go.Eng

def isMx (T : List tTask.D) (f : Nat → Int) (m : Int) : Prop := (∀ i, i < T.length → f i ≤ m) ∧ ((T.length = 0 ∧ m = 0) ∨ ∃ i, i < T.length ∧ f i = m)
theorem isMx_eq {T : List tTask.D} {f g : Nat → Int} (hfg : ∀ i, i < T.length → f i = g i) {m m' : Int} (h : isMx T f m) (h' : isMx T g m') : m = m' := by
  obtain ⟨a1, a2⟩ := h
  obtain ⟨b1, b2⟩ := h'
  rcases a2 with ⟨z, rfl⟩ | ⟨i, hi, rfl⟩
  · rcases b2 with ⟨_, rfl⟩ | ⟨j, hj, rfl⟩
    · rfl
    · omega
  · rcases b2 with ⟨z, rfl⟩ | ⟨j, hj, rfl⟩
    · omega
    · have := a1 j hj
      have := b1 i hi
      rw [← hfg i hi] at this
      rw [hfg j hj] at *
      omega
theorem nxC_congr {T : List tTask.D} {f g : Nat → Int} (hfg : ∀ i, i < T.length → f i = g i) (left : Int) (last : Option Nat) : nxC T f left last = nxC T g left last := by
  simp only [nxC]
  have : ∀ (n : Nat), n ≤ T.length → ∀ p q : Nat → Bool, (∀ i, i < T.length → p i = q i) → (List.range n).find? p = (List.range n).find? q := by
    intro n hn p q hpq
    induction n with
    | zero => rfl
    | succ n ih =>
      rw [List.range_succ, List.find?_append, List.find?_append, ih (by omega)]
      simp [hpq n (by omega)]
  exact this _ (Nat.le_refl _) _ _ fun i hi => by rw [hfg i hi]
theorem chainL_congr {T : List tTask.D} {f g : Nat → Int} (hfg : ∀ i, i < T.length → f i = g i) : ∀ (d : Nat) (left : Int) (last : Option Nat), chainL T f d left last = chainL T g d left last
  | 0, _, _ => rfl
  | d + 1, left, last => by
    simp only [chainL, nxC_congr hfg, chainL_congr hfg d]
theorem chainL_lt {T : List tTask.D} {f : Nat → Int} : ∀ (d : Nat) (left : Int) (last : Option Nat), ∀ c ∈ chainL T f d left last, c < T.length
  | 0, _, _, c, hc => by simp [chainL] at hc
  | d + 1, left, last, c, hc => by
    simp only [chainL] at hc
    split at hc
    · simp at hc
    · split at hc
      · simp at hc
      · rename_i i hi
        rcases List.mem_cons.1 hc with rfl | hc
        · exact (nxC_spec hi).1
        · exact chainL_lt d _ _ c hc
theorem chainL_len {T : List tTask.D} {f : Nat → Int} : ∀ (d : Nat) (left : Int) (last : Option Nat), (chainL T f d left last).length ≤ d
  | 0, _, _ => by simp [chainL]
  | d + 1, left, last => by
    simp only [chainL]
    split
    · simp
    · split
      · simp
      · have := chainL_len (T := T) (f := f) d
        simp only [List.length_cons]
        have := this (left - dur T ‹Nat›) (some ‹Nat›)
        omega

theorem ok_Critical {x : tShop.D} {v : V} (hx : tShop.V x v) (he : shopErr x (decide ((orderL x.1).length < x.1.length)) = 0) {H : Heap} {k : V → Heap → Prop}
    (h : ∀ r f m, isTail x.1 f → isMx x.1 f m → 0 ≤ m → m ≤ 24 * 1048576 → Arr 1 tI.R r (ofN (chainL x.1 f m.toNat m none)) → k (.tup [.int .i64 m, r, .int .i64 0]) H) : Cl G 16 [v] H k := by
  obtain ⟨a, b, rfl, g1, g2⟩ := shop_v hx
  obtain ⟨z1, z2, z3, z4⟩ := shopErr_zero he
  have vl := vld_of he
  refine Cl.mode1 (F := i16) rfl rfl (by simp [g1.closed, g2.closed]) ?_
  rw [w16]
  have hres : i16.res = [.t 2, .cell 3 1 false, .t 4] := rfl
  have len0 : ([] : Heap).length = 0 := rfl
  simp only [bxrV_agg, closedVs_cons, closedVs_nil, g1.closed, g2.closed, Bool.and_self, bd_some, newB, len0, List.nil_append, ldV_s2, Bool.true_or, true_and]
  refine c29 hx ?_
  rw [he]
  simp only [binV_neq, decide_true, Bool.not_true, bd_some, ifB_bool, Bool.false_eq_true, if_false, fadrV_rptr, List.drop_zero, ldV_one, g1.lens, binV_eql]
  by_cases h0 : x.1.length = 0
  · have e0 : ((x.1.length : Nat) : Int) = 0 := by omega
    have st : stV [.cells [.nils]] 1 (.ptr 0 0) .nils = some [.cells [.nils]] := rfl
    have ld : rd [.cells [.nils]] (.ptr 0 0) 1 = some [.nils] := rfl
    simp only [e0, decide_true, if_true, st, bd_some, hres, resultV, mapO, result1, List.getD_cons_zero, List.getD_cons_succ, ld, Option.bind_some, packV, Option.map_some, true_and]
    refine hq_some (v' := .tup [.int .i64 0, .nils, .int .i64 0]) rfl (h .nils (fun _ => 0) 0 (fun i hi => by omega) ⟨fun i hi => by omega, .inl ⟨h0, rfl⟩⟩ (by omega) (by omega) ?_)
    exact ints_arr (by simp [ofN, chainL, top]) (by simp [ofN, chainL]) (.inr ⟨by simp [ofN, chainL], .inl rfl⟩)
  have e0 : ¬ ((x.1.length : Nat) : Int) = 0 := by omega
  simp only [e0, decide_false, Bool.false_eq_true, if_false, ldV_s2, bd_some, Bool.true_or, true_and]
  refine c42 hx he fun lv f hf hb hl => ?_
  have st1 : stV ([.cells [.nils]] ++ [.cells [.nils]]) 1 (.ptr 1 0) lv = some [.cells [.nils], .cells [lv]] := by
    have := stV_own (H := [.cells [.nils]] ++ [.cells [.nils]]) (id := 1) (off := 0) (cs := [.nils]) (x := lv) rfl (by simp) hl.one
    simpa using this
  have ld1 : ldV [.cells [.nils], .cells [lv]] (.ptr 1 0) 1 false = some lv := ldV_own rfl rfl
  simp only [newB, List.length_cons, List.length_nil, Nat.zero_add, st1, bd_some, ld1, true_and]
  refine c43 hl (by simp; omega) fun m hm hmx => ?_
  have st2 : stV ([.cells [.nils], .cells [lv]] ++ [.cells [.nilf]]) 1 (.ptr (1 + 1) 0) (.fn 44 [.rptr [a, b], .ptr 1 0, .ptr 0 0, .ptr (1 + 1) 0]) = some [.cells [.nils], .cells [lv], .cells [.fn 44 [.rptr [a, b], .ptr 1 0, .ptr 0 0, .ptr 2 0]]] := rfl
  have ld2 : ldV [.cells [.nils], .cells [lv], .cells [.fn 44 [.rptr [a, b], .ptr 1 0, .ptr 0 0, .ptr 2 0]]] (.ptr (1 + 1) 0) 1 false = some (.fn 44 [.rptr [a, b], .ptr 1 0, .ptr 0 0, .ptr 2 0]) := rfl
  obtain ⟨i0, hi0, rfl⟩ := List.mem_map.1 hm
  have hi0' : i0 < x.1.length := by simpa using hi0
  have hmxx : isMx x.1 f (f i0) := ⟨fun i hi => hmx _ (List.mem_map.2 ⟨i, by simpa using hi, rfl⟩), .inr ⟨i0, hi0', rfl⟩⟩
  have hbm := hb i0 hi0'
  generalize f i0 = m at *
  simp only [List.length_cons, List.length_nil, Nat.zero_add, st2, bd_some, ld2, callV_fn, List.cons_append, List.nil_append, Bool.true_or, true_and]
  refine extend_ok vl z3 g1 hl (by omega) m.toNat m none _ [] _ (by omega) (by omega) (by simp; omega) ⟨.nils, Gr.nil⟩ fun H' hp => ?_
  obtain ⟨pv, hg⟩ := hp
  rw [List.nil_append] at hg
  have gp := hg.get (j := 0) rfl
  have l0 : ldV H' (.ptr 0 0) 1 false = some pv := ldV_own gp rfl
  have o1 : oneC pv = true := by rcases hg.2.2.2 with ⟨_, rfl⟩ | ⟨_, _, rfl, _⟩ <;> rfl
  have s0 := stV_own (off := 0) (x := pv) gp (by simp) o1
  have hg2 := hg.set (j := 0) (by simp) (.cells [pv])
  have rd0 : rd (H'.set 0 (.cells [pv])) (.ptr 0 0) 1 = some [pv] := by
    have := hg2.get (j := 0) rfl
    simp [rd, this]
  simp only [l0, bd_some, s0, List.set_cons_zero, true_and, hres, resultV, mapO, result1, List.getD_cons_zero, List.getD_cons_succ, rd0, Option.bind_some, packV, Option.map_some, Bool.false_eq_true, if_false]
  have hcl := chainL_len (T := x.1) (f := f) m.toNat m none
  obtain ⟨u, c1, c2⟩ := Gr.ints (l := ofN (chainL x.1 f m.toNat m none)) (d := 9) (by simpa [ofN] using hg2) (by simp [ofN]; unfold top; omega) (ofN_rng (n := 1000) (fun a ha => by have := chainL_lt _ _ _ a ha; omega) (by omega))
  refine hq_some (v' := .tup [.int .i64 m, u, .int .i64 0]) ?_ (h u f m hf hmxx hbm.1 hbm.2 c2)
  rw [show closeDepth = 11 + 1 from rfl, closeV_tup]
  simp only [mapO, c1, closeV_int, Option.bind_some, Option.map_some]

end Go.Proofs.Ytoommmeapdkopaa.E
namespace Go.Proofs.Ytoommmeapdkopaa.E
open Go Go.Eng

theorem chainL_sum {T : List tTask.D} {f : Nat → Int} (hf : isTail T f) (hz : tasksErr T = 0) : ∀ (d : Nat) (left : Int) (last : Option Nat), 0 ≤ left → left ≤ d → leftOK T f left last → ((chainL T f d left last).map (dur T)).sum = left
  | 0, left, last, h0, hd, _ => by
    have : left = 0 := by omega
    simp [chainL, this]
  | d + 1, left, last, h0, hd, hok => by
    by_cases hp : left ≤ 0
    · have : left = 0 := by omega
      simp [chainL, this]
    · obtain ⟨i, hi⟩ := nxC_some hok (by omega)
      obtain ⟨n1, n2, _⟩ := nxC_spec hi
      obtain ⟨s, a1, a2, _⟩ := hf i n1
      have hdr := dur_rng hz n1
      have := chainL_sum hf hz d (left - dur T i) (some i) (by omega) (by omega) (left_next hf hi)
      simp only [chainL, hp, if_false, hi, List.map_cons, List.sum_cons, this]
      omega
theorem chainL_link {T : List tTask.D} {f : Nat → Int} : ∀ (d : Nat) (left : Int) (last : Option Nat), (∀ c, last = some c → ∀ h : 0 < (chainL T f d left last).length, (c : Int) ∈ aft T (chainL T f d left last)[0]) ∧ ∀ j (h : j + 1 < (chainL T f d left last).length), ((chainL T f d left last)[j] : Int) ∈ aft T (chainL T f d left last)[j + 1]
  | 0, left, last => ⟨fun c _ h => by simp [chainL] at h, fun j h => by simp [chainL] at h⟩
  | d + 1, left, last => by
    by_cases hp : left ≤ 0
    · have e : chainL T f (d + 1) left last = [] := by simp [chainL, hp]
      simp only [e]
      exact ⟨fun c _ h => by simp at h, fun j h => by simp at h⟩
    · cases hi : nxC T f left last with
      | none =>
        have e : chainL T f (d + 1) left last = [] := by simp [chainL, hi]
        simp only [e]
        exact ⟨fun c _ h => by simp at h, fun j h => by simp at h⟩
      | some i =>
        have e : chainL T f (d + 1) left last = i :: chainL T f d (left - dur T i) (some i) := by simp only [chainL, hp, if_false, hi]
        obtain ⟨g1, g2⟩ := chainL_link (T := T) (f := f) d (left - dur T i) (some i)
        simp only [e]
        refine ⟨fun c hc _ => ?_, fun j h => ?_⟩
        · simpa using (nxC_spec hi).2.2 c hc
        · cases j with
          | zero => simpa using g1 i rfl (by simpa using h)
          | succ j => simpa using g2 j (by simpa using h)
theorem mx_left {T : List tTask.D} {f : Nat → Int} {m : Int} (h : isMx T f m) : leftOK T f m none := fun hp => by
  rcases h.2 with ⟨_, rfl⟩ | ⟨i, hi, e⟩
  · omega
  · exact ⟨i, hi, e, trivial⟩
def durSum (T : List tTask.D) (p : List Nat) (m : Nat) : Int := ((p.take m).map (dur T)).sum
theorem durSum_succ {T : List tTask.D} {p : List Nat} {m : Nat} (h : m < p.length) : durSum T p (m + 1) = durSum T p m + dur T p[m] := by
  unfold durSum
  rw [tk h, List.map_append, List.sum_append]
  simp only [List.map_cons, List.map_nil, List.sum_cons, List.sum_nil, Int.add_zero]
theorem durSum_rng {T : List tTask.D} (hz : tasksErr T = 0) {p : List Nat} (hp : ∀ c ∈ p, c < T.length) : ∀ m, m ≤ p.length → 0 ≤ durSum T p m ∧ durSum T p m ≤ m * 1048576
  | 0, _ => by simp [durSum]
  | m + 1, h => by
    have := durSum_rng hz hp m (by omega)
    have hd := dur_rng hz (hp _ (List.getElem_mem (l := p) (n := m) (by omega)))
    rw [durSum_succ (by omega)]
    omega
theorem binV_rem {k : IntKind} {a b : Int} (ha : 0 ≤ a) (hb : b ≠ 0) : binV .rem (.int k a) (.int k b) = some (.int k (a % b)) := by
  simp [binV, hb, Int.tmod_eq_emod_of_nonneg ha]
end Go.Proofs.Ytoommmeapdkopaa.E
namespace Go.Proofs.Ytoommmeapdkopaa.E
open Go Go.Eng

abbrev tU8 : Ty := .int .u8
theorem u8_at {v : V} {l : List Int} (h : Arr 1 tU8.R v l) {i : Nat} (hi : i < l.length) : ∃ rest, iadrV 1 v (.int .i64 i) = some (.rptr (.int .u8 l[i] :: rest)) ∧ 0 ≤ l[i] ∧ l[i] ≤ 255 := by
  obtain ⟨c, rr, ⟨rfl, h1, h2⟩, hl, e⟩ := h.iadr hi
  exact ⟨rr, e, h1, h2⟩

theorem chains_walk {x : tShop.D} {a b y : V} {l : List Int} (h1 : Arr 4 tTask.R a x.1) (hy : Arr 1 tU8.R y l) (hl10 : l.length ≤ 10) (hc : shopErr x (decide ((orderL x.1).length < x.1.length)) = 0) {f : Nat → Int} (hf : isTail x.1 f) {n : Int} (hmx : isMx x.1 f n) {at0 : Nat} (ha : at0 < x.1.length) {H1 : Heap} :
    Lb5_4 y (.rptr [a, b]) (.int .i64 n) (.int .i64 at0) (.int .i64 0) (.int .i64 0) H1 (blockQ 4 (seqQ G r5_5 (retQ i5 (hq 1 [] fun r _ => r = .bool true)))) := by
  obtain ⟨z1, z2, z3, z4⟩ := shopErr_zero hc
  have vl := vld_of hc
  have htop := tail_top vl z3 hf
  unfold Lb5_4
  intros
  refine ub5_4 l.length (fun m c1 c2 c5 c14 c15 c16 H => y = c1 ∧ c2 = .rptr [a, b] ∧ c5 = .int .i64 n ∧ c16 = .int .i64 m ∧ ∃ (i : Nat) (s : Int), c14 = .int .i64 i ∧ i < x.1.length ∧ c15 = .int .i64 s ∧ 0 ≤ s ∧ s ≤ f i - dur x.1 i) ?_ 0 (Nat.zero_le _) ⟨rfl, rfl, rfl, rfl, at0, 0, rfl, ha, rfl, by omega, by obtain ⟨s, e1, e2, _⟩ := hf at0 ha; omega⟩
  rintro m hm _ _ _ _ _ _ H2 ⟨rfl, rfl, rfl, rfl, i, s, rfl, hi, rfl, s0, s1⟩
  intros
  rw [wb5_4]
  have hmi := hmx.1 i hi
  have hdi := dur_rng z3 hi
  have hti := htop i hi
  simp only [hy.lens, bd_some, binV_lss, ifB_bool, decide_eq_true_eq, Int.ofNat_lt]
  split
  · rename_i hlt
    obtain ⟨w, r, e, q⟩ := task_at h1 hi
    have hal : aft x.1 i = x.1[i].2.2.2 := aft_of hi
    have ws : IntKind.i64.wrap (s + x.1[i].2.1) = s + dur x.1 i := by rw [← dur_of hi]; exact wz (by omega) (by omega)
    have hql : x.1[i].2.2.2.length ≤ top := q.le
    simp only [fadrV_rptr, List.drop_zero, List.drop_succ_cons, ldV_one, bd_some, e, binV_add, ws, q.lens, binV_eql, ifB_bool, decide_eq_true_eq]
    split
    · have : s + dur x.1 i ≤ n := by omega
      simp only [upQ_e, blockQ_e, if_true, seqQ_n, wr5_5, binV_leq, this, decide_true, bd_some, ret5, hq_bool]
    · rename_i hne
      obtain ⟨r2, e2, b1, b2⟩ := u8_at hy hlt
      have cv : convV .i64 (.int .u8 l[m]) = some (.int .i64 l[m]) := by
        simp only [convV]
        rw [wz (by omega) (by omega)]
      have hne' : ((x.1[i].2.2.2.length : Nat) : Int) ≠ 0 := hne
      have hr := binV_rem (k := .i64) (a := l[m]) (b := (x.1[i].2.2.2.length : Nat)) b1 hne'
      obtain ⟨j, hj, hjl⟩ : ∃ j : Nat, l[m] % ((x.1[i].2.2.2.length : Nat) : Int) = j ∧ j < x.1[i].2.2.2.length := by
        have h1 := Int.emod_nonneg l[m] hne'
        have h2 := Int.emod_lt_of_pos l[m] (b := ((x.1[i].2.2.2.length : Nat) : Int)) (by omega)
        exact ⟨(l[m] % ((x.1[i].2.2.2.length : Nat) : Int)).toNat, by omega, by omega⟩
      rw [hj] at hr
      obtain ⟨r3, e3⟩ := q.int1 hjl
      have hmem : x.1[i].2.2.2[j] ∈ aft x.1 i := by rw [hal]; exact List.getElem_mem hjl
      obtain ⟨c, hcc, hcl⟩ := vl.nat hi hmem
      rw [hcc] at e3 hmem
      simp only [e2, bd_some, ldV_one, cv, q.lens, hr, e3, binV_add, wi (show (m : Int) + 1 = ((m + 1 : Nat) : Int) by omega) (by omega), upQ_n, Sb5_4_eq, true_and]
      obtain ⟨t, t1, t2, t3, _⟩ := hf c hcl
      have := t3 i hi hmem
      exact ⟨m + 1, by omega, by omega, rfl, c, _, rfl, hcl, rfl, by omega, by omega⟩
  · have : s ≤ n := by omega
    simp only [upQ_e, blockQ_e, if_true, seqQ_n, wr5_5, binV_leq, this, decide_true, bd_some, ret5, hq_bool]

set_option maxRecDepth 100000 in
theorem taskChains_true {x : tShop.D} {v y : V} {l : List Int} (hx : tShop.V x v) (hy : Arr 1 tU8.R y l) : Cl G 5 [v, y] [] fun r _ => r = .bool true := by
  obtain ⟨a, b, rfl, h1, h2⟩ := shop_v hx
  refine Cl.mode1 (F := i5) rfl rfl (by simp [h1.closed, h2.closed, hy.closed]) ?_
  rw [w5]
  simp only [bxrV_agg, closedVs_cons, closedVs_nil, h1.closed, h2.closed, Bool.and_self, bd_some, Bool.true_or, true_and]
  refine cknown ?_
  simp only [unV_not, Bool.not_true, bd_some, gdV_bool, beq_self_eq_true, wpg_true, ldV_s2, Bool.true_or, true_and]
  refine c11 hx ?_
  cases hfew : few x
  · simp
    exact cknown (by simp)
  obtain ⟨f1, f2, f3, f4⟩ := few_all hfew
  simp only [unV_not, Bool.not_true, bd_some, pickV_bool, Bool.false_eq_true, if_false, gdV_bool, beq_self_eq_true, wpg_true, ldV_s2, Bool.true_or, true_and]
  refine c14 hx f1 (few_aft hfew) ?_
  by_cases hc : shopErr x (decide ((orderL x.1).length < x.1.length)) = 0
  case neg =>
    simp [hc]
    exact cknown (by simp)
  obtain ⟨z1, z2, z3, z4⟩ := shopErr_zero hc
  have vl := vld_of hc
  by_cases hl10 : 10 < (l.length : Int)
  · simp [hc, hy.lens, hl10]
    exact cknown (by simp)
  simp only [hc, binV_neq, decide_true, Bool.not_true, bd_some, pickV_bool, Bool.false_eq_true, if_false, gdV_bool, beq_self_eq_true, wpg_true, hy.lens, binV_gtr, gt_iff_lt, hl10, decide_false, ifB_bool, ldV_s2, Bool.true_or, true_and]
  refine ok_Critical hx hc fun pr f n hf hmx hn0 hn1 hpr => ?_
  simp only [extV, List.getElem?_cons_zero, List.getElem?_cons_succ, bd_some, ldV_s2, Bool.true_or, true_and]
  refine ok_Tails hx hc fun tr f' hf' hfb htr => ?_
  have hff := isTail_eq vl hf hf'
  have hl : lensV tr = some (.int .i64 x.1.length) := by have := htr.lens; simpa using this
  simp only [extV, List.getElem?_cons_zero, List.getElem?_cons_succ, bd_some, binV_neq, decide_true, Bool.not_true, gdV_bool, beq_self_eq_true, wpg_true, pickV_bool, Bool.false_eq_true, if_false, hl, fadrV_rptr, List.drop_zero, ldV_one, h1.lens, ifB_bool]
  have key : ∃ p : List Nat, Arr 1 tI.R pr (ofN p) ∧ (p.map (dur x.1)).sum = n ∧ (∀ j (h : j + 1 < p.length), (p[j] : Int) ∈ aft x.1 p[j + 1]) ∧ (∀ c ∈ p, c < x.1.length) ∧ p.length ≤ n.toNat :=
    ⟨_, hpr, chainL_sum hf z3 n.toNat n none hn0 (by omega) (mx_left hmx), (chainL_link (T := x.1) (f := f) n.toNat n none).2, chainL_lt _ _ _, chainL_len (T := x.1) (f := f) n.toNat n none⟩
  clear hpr
  obtain ⟨p, hpr, hsum, hlink, hplt, hplen⟩ := key
  have hdr := durSum_rng z3 hplt
  have hpl : lensV pr = some (.int .i64 p.length) := by have := hpr.lens; rw [this]; simp [ofN]
  refine ub5_0 p.length (fun m c1 c2 c5 c6 c8 c10 c11 c12 H => y = c1 ∧ c2 = .rptr [a, b] ∧ c5 = .int .i64 n ∧ pr = c6 ∧ tr = c8 ∧ c10 = .int .i64 (durSum x.1 p m) ∧ c11 = .int .i64 0 ∧ c12 = .int .i64 m) ?_ 0 (Nat.zero_le _) ⟨rfl, rfl, rfl, rfl, rfl, by simp [durSum], rfl, rfl⟩
  rintro m hm _ _ _ _ _ _ _ _ H2 ⟨rfl, rfl, rfl, rfl, rfl, rfl, rfl, rfl⟩
  intros
  rw [wb5_0]
  simp only [hpl, bd_some, binV_lss, ifB_bool, decide_eq_true_eq, Int.ofNat_lt]
  split
  · rename_i hlt
    obtain ⟨r1, e1⟩ := hpr.int1 (i := m) (by simpa [ofN] using hlt)
    have g1 : (ofN p)[m]'(by simpa [ofN] using hlt) = (p[m] : Int) := by simp [ofN]
    rw [g1] at e1
    have hin := hplt _ (List.getElem_mem hlt)
    have n1 : ¬ ((p[m] : Int) < 0) := by omega
    have n2 : ¬ ((x.1.length : Int) ≤ (p[m] : Int)) := by omega
    have ds := durSum_succ (T := x.1) hlt
    have hdm := hdr (m + 1) (by omega)
    obtain ⟨w, r, e, q⟩ := task_at h1 hin
    have hal : aft x.1 p[m] = x.1[p[m]].2.2.2 := aft_of hin
    have ws : IntKind.i64.wrap (durSum x.1 p m + x.1[p[m]].2.1) = durSum x.1 p (m + 1) := by rw [← dur_of hin, ← ds]; exact wz (by omega) (by omega)
    have wm : IntKind.i64.wrap ((m : Int) + 1) = ((m + 1 : Nat) : Int) := wi (by omega) (by omega)
    simp only [e1, bd_some, ldV_one, binV_lss, n1, decide_false, gdV_bool, beq_self_eq_true, wpg_true, fadrV_rptr, List.drop_zero, h1.lens, binV_geq, ge_iff_le, n2, pickV_bool, Bool.false_eq_true, if_false, binV_gtr, gt_iff_lt]
    cases m with
    | zero =>
      have z : ¬ (0 < ((0 : Nat) : Int)) := by omega
      simp only [z, decide_false, gdV_bool, show (false == true) = false from rfl, wpg_false, pickV_bool, Bool.false_eq_true, if_false, bd_some, ifB_bool, fadrV_rptr, List.drop_zero, List.drop_succ_cons, ldV_one, e1, e, binV_add, ws, wm, upQ_n, Sb5_0_eq, true_and]
      exact ⟨0 + 1, by omega, by omega, rfl, rfl⟩
    | succ m =>
      have z : (0 < ((m + 1 : Nat) : Int)) := by omega
      have wl : IntKind.i64.wrap (((m + 1 : Nat) : Int) - 1) = ((m : Nat) : Int) := wi (by omega) (by omega)
      obtain ⟨r4, e4⟩ := hpr.int1 (i := m) (by simp [ofN]; omega)
      have g4 : (ofN p)[m]'(by simp [ofN]; omega) = (p[m] : Int) := by simp [ofN]
      rw [g4] at e4
      have hk := hlink m hlt
      rw [hal] at hk
      simp only [z, decide_true, gdV_bool, beq_self_eq_true, wpg_true, fadrV_rptr, List.drop_zero, List.drop_succ_cons, ldV_one, bd_some, e1, e, binV_sub, wl, e4, Bool.true_or, true_and]
      refine c22 (q.sh _) ?_
      simp only [hk, decide_true, unV_not, Bool.not_true, bd_some, pickV_bool, if_true, Bool.false_eq_true, if_false, ifB_bool, fadrV_rptr, List.drop_zero, List.drop_succ_cons, ldV_one, e1, e, binV_add, ws, wm, upQ_n, Sb5_0_eq, true_and]
      exact ⟨m + 1 + 1, by omega, by omega, rfl, rfl⟩
  rename_i hge
  have em : m = p.length := by omega
  subst em
  have hs : durSum x.1 p p.length = n := by unfold durSum; rw [List.take_length]; exact hsum
  rw [hs]
  simp only [upQ_e, blockQ_e, if_true, seqQ_n, wr5_1]
  refine ub5_2 x.1.length (fun m c1 c2 c5 c8 c10 c11 c13 H => y = c1 ∧ c2 = .rptr [a, b] ∧ c5 = .int .i64 n ∧ tr = c8 ∧ c10 = .int .i64 n ∧ c13 = .int .i64 m ∧ ∃ s, c11 = .int .i64 s ∧ 0 ≤ s ∧ (∀ k, k < m → f' k ≤ s) ∧ ((m = 0 ∧ s = 0) ∨ ∃ k, k < m ∧ f' k = s)) ?_ 0 (Nat.zero_le _) ⟨rfl, rfl, rfl, rfl, rfl, rfl, 0, rfl, by omega, fun k hk => by omega, .inl ⟨rfl, rfl⟩⟩
  rintro m hm _ _ _ _ _ _ _ H3 ⟨rfl, rfl, rfl, rfl, rfl, rfl, s, rfl, s1, s2, s3⟩
  intros
  rw [wb5_2]
  simp only [hl, bd_some, binV_lss, ifB_bool, decide_eq_true_eq, Int.ofNat_lt]
  split
  · rename_i hlt
    obtain ⟨r5, e5⟩ := htr.int1 (i := m) (by simpa using hlt)
    have g5 : (tab x.1.length f')[m]'(by simpa using hlt) = f' m := by simp [tab]
    rw [g5] at e5
    have := hfb m hlt
    simp only [e5, bd_some, ldV_one, maxV_int, binV_add, wi (show (m : Int) + 1 = ((m + 1 : Nat) : Int) by omega) (by omega), upQ_n, Sb5_2_eq, true_and]
    refine ⟨m + 1, by omega, by omega, rfl, _, rfl, by split <;> omega, fun k hk => ?_, .inr ?_⟩
    · by_cases e : k = m
      · subst e; split <;> omega
      · have := s2 k (by omega)
        split <;> omega
    · split
      · exact ⟨m, by omega, rfl⟩
      · rcases s3 with ⟨rfl, rfl⟩ | ⟨k, a, b⟩
        · exact ⟨0, by omega, by omega⟩
        · exact ⟨k, by omega, b⟩
  rename_i hge2
  have em : m = x.1.length := by omega
  subst em
  have hsn : s = n := isMx_eq (fun i hi => (hff i hi).symm) (f := f') (g := f) ⟨s2, s3⟩ hmx
  subst hsn
  simp only [upQ_e, blockQ_e, if_true, seqQ_n, wr5_3, binV_neq, decide_true, Bool.not_true, bd_some, gdV_bool, beq_self_eq_true, wpg_true, pickV_bool, Bool.false_eq_true, if_false, fadrV_rptr, List.drop_zero, ldV_one, h1.lens, binV_eql, ifB_bool, decide_eq_true_eq]
  split
  · simp
  · rename_i h0
    have h0' : ((x.1.length : Nat) : Int) ≠ 0 := h0
    have hr := binV_rem (k := .i64) (a := (l.length : Nat)) (b := (x.1.length : Nat)) (by omega) h0'
    have hmod : ((l.length : Nat) : Int) % ((x.1.length : Nat) : Int) = ((l.length % x.1.length : Nat) : Int) := by simp
    rw [hmod] at hr
    simp only [hy.lens, bd_some, hr]
    exact chains_walk h1 hy (by omega) hc hf hmx (Nat.mod_lt _ (by omega)) ..
end Go.Proofs.Ytoommmeapdkopaa.E
