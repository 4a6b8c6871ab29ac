/- What functions of the program return, proved over the interpreter. Each theorem says its conditions. -/
import Derived.Test.YtoommmeapdkopaaZD1
import Derived.Test.YtoommmeapdkopaaE32
import Derived.KernelRfl
namespace Go.Proofs.Ytoommmeapdkopaa.E
open Go Go.Eng
abbrev tI : Ty := .int .i64

theorem c22 {x : V} {l : List Int} {H : Heap} (hx : Sh H 1 tI.R x l) {n : Int} {k : V → Heap → Prop} (h : k (.bool (decide (n ∈ l))) H) : Cl G 22 [x, .int .i64 n] H k := by
  obtain ⟨v, hv, hx⟩ := hx
  refine Cl.any (F := i22) rfl rfl (args' := [v, .int .i64 n]) (by simp [mapO, hv]) ?_
  rw [w22]
  refine ub22_0 l.length (fun i a b c _ => a = v ∧ b = .int .i64 n ∧ c = .int .i64 i ∧ n ∉ l.take i) ?_ 0 (Nat.zero_le _) ⟨rfl, rfl, rfl, by simp⟩
  rintro i hi _ _ _ _ ⟨rfl, rfl, rfl, hn⟩
  intros
  rw [wb22_0]
  have hle := hx.le
  simp only [hx.lens, bd_some, binV_lss, ifB_bool, decide_eq_true_eq, Int.ofNat_lt]
  split
  · rename_i hlt
    obtain ⟨r, e⟩ := hx.int1 hlt
    simp only [e, bd_some, ldV_one, binV_eql, ifB_bool, decide_eq_true_eq]
    split
    · rename_i heq
      simpa [show n ∈ l from heq ▸ List.getElem_mem _] using h
    · rename_i hne
      simp only [binV_add, bd_some, wrap_succ (show i + 1 ≤ 9223372036854775807 by unfold top at hle; omega), upQ_n, Sb22_0_eq, true_and]
      exact ⟨i + 1, by omega, by omega, by simp [mem_take_succ hlt, hn, Ne.symm hne]⟩
  · rename_i hge
    rw [take_all hge] at hn
    simpa [hn, wr22_1] using h

theorem c33 {x y : V} {l1 l2 : List Int} {H : Heap} (hx : Sh H 1 tI.R x l1) (hy : Sh H 1 tI.R y l2) {k : V → Heap → Prop} (h : k (.bool (decide (l1 = l2))) H) : Cl G 33 [x, y] H k := by
  obtain ⟨v, hv, hx⟩ := hx
  obtain ⟨w, hw, hy⟩ := hy
  refine Cl.any (F := i33) rfl rfl (args' := [v, w]) (by simp [mapO, hv, hw]) ?_
  rw [w33]
  have hle := hx.le
  simp only [hx.lens, hy.lens, bd_some, binV_neq, ifB_bool, Bool.not_eq_true', decide_eq_false_iff_not, Int.ofNat_inj, ite_not]
  split
  case isFalse hne => simpa [show l1 ≠ l2 from fun e => hne (by rw [e])] using h
  case isTrue hln =>
  refine ub33_0 l1.length (fun i a b c d _ => a = v ∧ b = w ∧ c = .int .i64 l1.length ∧ d = .int .i64 i ∧ l1.take i = l2.take i) ?_ 0 (Nat.zero_le _) ⟨rfl, rfl, rfl, rfl, by simp⟩
  rintro i hi _ _ _ _ _ ⟨rfl, rfl, rfl, rfl, he⟩
  intros
  rw [wb33_0]
  simp only [bd_some, binV_lss, ifB_bool, decide_eq_true_eq, Int.ofNat_lt]
  split
  · rename_i hlt
    obtain ⟨r, e⟩ := hx.int1 hlt
    obtain ⟨r', e'⟩ := hy.int1 (show i < l2.length by omega)
    simp only [e, e', bd_some, ldV_one, binV_neq, ifB_bool, Bool.not_eq_true', decide_eq_false_iff_not, ite_not]
    split
    · rename_i heq
      simp only [binV_add, bd_some, wrap_succ (show i + 1 ≤ 9223372036854775807 by unfold top at hle; omega), upQ_n, Sb33_0_eq, true_and]
      exact ⟨i + 1, by omega, by omega, rfl, (agree_succ hlt (by omega)).2 ⟨he, heq⟩⟩
    · rename_i hne
      simpa [show l1 ≠ l2 from fun e => hne (by subst e; rfl)] using h
  · rename_i hge
    simpa [agree_all hge hln he, wr33_1] using h

theorem c36 {x y : V} {l1 l2 : List (List UInt8)} {H : Heap} (hx : Sh H 1 (Ty.R .str) x l1) (hy : Sh H 1 (Ty.R .str) y l2) {k : V → Heap → Prop} (h : k (.bool (decide (l1 = l2))) H) : Cl G 36 [x, y] H k := by
  obtain ⟨v, hv, hx⟩ := hx
  obtain ⟨w, hw, hy⟩ := hy
  refine Cl.any (F := i36) rfl rfl (args' := [v, w]) (by simp [mapO, hv, hw]) ?_
  rw [w36]
  have hle := hx.le
  simp only [hx.lens, hy.lens, bd_some, binV_neq, ifB_bool, Bool.not_eq_true', decide_eq_false_iff_not, Int.ofNat_inj, ite_not]
  split
  case isFalse hne => simpa [show l1 ≠ l2 from fun e => hne (by rw [e])] using h
  case isTrue hln =>
  refine ub36_0 l1.length (fun i a b c d _ => a = v ∧ b = w ∧ c = .int .i64 l1.length ∧ d = .int .i64 i ∧ l1.take i = l2.take i) ?_ 0 (Nat.zero_le _) ⟨rfl, rfl, rfl, rfl, by simp⟩
  rintro i hi _ _ _ _ _ ⟨rfl, rfl, rfl, rfl, he⟩
  intros
  rw [wb36_0]
  simp only [bd_some, binV_lss, ifB_bool, decide_eq_true_eq, Int.ofNat_lt]
  split
  · rename_i hlt
    obtain ⟨r, e⟩ := hx.str1 hlt
    obtain ⟨r', e'⟩ := hy.str1 (show i < l2.length by omega)
    simp only [e, e', bd_some, ldV_one, binV_sneq, ifB_bool, Bool.not_eq_true', decide_eq_false_iff_not, ite_not]
    split
    · rename_i heq
      simp only [binV_add, bd_some, wrap_succ (show i + 1 ≤ 9223372036854775807 by unfold top at hle; omega), upQ_n, Sb36_0_eq, true_and]
      exact ⟨i + 1, by omega, by omega, rfl, (agree_succ hlt (by omega)).2 ⟨he, heq⟩⟩
    · rename_i hne
      simpa [show l1 ≠ l2 from fun e => hne (by subst e; rfl)] using h
  · rename_i hge
    simpa [agree_all hge hln he, wr36_1] using h

theorem c19 {x y : V} {l1 l2 : List Int} {H : Heap} (hx : Sh H 1 tI.R x l1) (hy : Sh H 1 tI.R y l2) {k : V → Heap → Prop} (h : k (.bool (decide (l1 = l2))) H) : Cl G 19 [x, y] H k := by
  obtain ⟨v, hv, hx⟩ := hx
  obtain ⟨w, hw, hy⟩ := hy
  refine Cl.any (F := i19) rfl rfl (args' := [v, w]) (by simp [mapO, hv, hw]) ?_
  rw [w19]
  have hle := hx.le
  simp only [hx.lens, hy.lens, bd_some, binV_neq, ifB_bool, Bool.not_eq_true', decide_eq_false_iff_not, Int.ofNat_inj, ite_not]
  split
  case isFalse hne => simpa [show l1 ≠ l2 from fun e => hne (by rw [e])] using h
  case isTrue hln =>
  refine ub19_0 l1.length (fun i a b d _ => a = v ∧ b = w ∧ d = .int .i64 i ∧ l1.take i = l2.take i) ?_ 0 (Nat.zero_le _) ⟨rfl, rfl, rfl, by simp⟩
  rintro i hi _ _ _ _ ⟨rfl, rfl, rfl, he⟩
  intros
  rw [wb19_0]
  simp only [hx.lens, bd_some, binV_lss, ifB_bool, decide_eq_true_eq, Int.ofNat_lt]
  split
  · rename_i hlt
    obtain ⟨r, e⟩ := hx.int1 hlt
    obtain ⟨r', e'⟩ := hy.int1 (show i < l2.length by omega)
    simp only [e, e', bd_some, ldV_one, binV_neq, ifB_bool, Bool.not_eq_true', decide_eq_false_iff_not, ite_not]
    split
    · rename_i heq
      simp only [binV_add, bd_some, wrap_succ (show i + 1 ≤ 9223372036854775807 by unfold top at hle; omega), upQ_n, Sb19_0_eq, true_and]
      exact ⟨i + 1, by omega, by omega, rfl, (agree_succ hlt (by omega)).2 ⟨he, heq⟩⟩
    · rename_i hne
      simpa [show l1 ≠ l2 from fun e => hne (by subst e; rfl)] using h
  · rename_i hge
    simpa [agree_all hge hln he, wr19_1] using h
end Go.Proofs.Ytoommmeapdkopaa.E
namespace Go.Proofs.Ytoommmeapdkopaa.E
open Go Go.Eng

def cmpI (a b : Int) : Int := if a < b then -1 else if b < a then 1 else 0
def ordE (x y : IP) : Int := if cmpI x.1 y.1 ≠ 0 then cmpI x.1 y.1 else cmpI x.2 y.2
def ltE (x y : IP) : Bool := decide (ordE x y < 0)
theorem ltE_iff {x y : IP} : ltE x y = true ↔ x.1 < y.1 ∨ (x.1 = y.1 ∧ x.2 < y.2) := by
  by_cases h1 : x.1 < y.1
  · simp [ltE, ordE, cmpI, h1]
  by_cases h2 : y.1 < x.1
  · have : ¬ (x.1 = y.1) := by omega
    simp [ltE, ordE, cmpI, h1, h2, this]
  have h3 : x.1 = y.1 := by omega
  by_cases h4 : x.2 < y.2
  · simp [ltE, ordE, cmpI, h3, h4]
  by_cases h5 : y.2 < x.2
  · simp [ltE, ordE, cmpI, h3, h4, h5]
  · simp [ltE, ordE, cmpI, h3, h4, h5]
theorem ltE_not {x y : IP} (h : ltE x y = false) : ¬ (x.1 < y.1 ∨ (x.1 = y.1 ∧ x.2 < y.2)) := fun h' => by rw [← ltE_iff] at h'; rw [h'] at h; cases h
theorem loE : LO ltE where
  irr x := by
    cases h : ltE x x
    · rfl
    · rw [ltE_iff] at h; omega
  tr x y z h1 h2 := by rw [ltE_iff] at *; omega
  tot x y h1 h2 := by
    have h1 := ltE_not h1
    have h2 := ltE_not h2
    exact Prod.ext (by omega) (by omega)

theorem c86 {n : Int} {H : Heap} {k : V → Heap → Prop} (h : k (.bool false) H) : Cl G 86 [.int .i64 n] H k := by
  refine Cl.mode1 (F := i86) rfl rfl (by simp) ?_
  rw [w86]
  simpa using h
theorem c82 {a b : Int} {H : Heap} {k : V → Heap → Prop} (h : k (.int .i64 (cmpI a b)) H) : Cl G 82 [.int .i64 a, .int .i64 b] H k := by
  refine Cl.mode1 (F := i82) rfl rfl (by simp) ?_
  rw [w82]
  simp only [Bool.true_or, true_and]
  refine c86 ?_
  refine c86 ?_
  by_cases h1 : a < b
  · simpa [h1, cmpI] using h
  by_cases h2 : b < a
  · simpa [h1, h2, cmpI] using h
  simpa [h1, h2, cmpI] using h
theorem c81 {x : V} {c1 c2 : Int} {H : Heap} (hx : Sh H 1 tI.R x [c1, c2]) {k : V → Heap → Prop} (h : k (.int .i64 (if c1 ≠ 0 then c1 else c2)) H) : Cl G 81 [x] H k := by
  obtain ⟨v, hv, hx⟩ := hx
  refine Cl.any (F := i81) rfl rfl (args' := [v]) (by simp [mapO, hv]) ?_
  rw [w81]
  obtain ⟨r1, e1⟩ := hx.int1 (i := 0) (by simp)
  obtain ⟨r2, e2⟩ := hx.int1 (i := 1) (by simp)
  have hl : lensV v = some (.int .i64 2) := hx.lens
  simp at e1 e2
  simp only [hl, bd_some]
  apply Lp.step
  rw [wb81_0]
  by_cases h1 : c1 = 0
  case neg =>
    simpa [e1, h1] using h
  simp [e1, h1, wrap_i64]
  apply Lp.step
  rw [wb81_0]
  by_cases h2 : c2 = 0
  case neg =>
    simpa [e2, h1, h2] using h
  simp [e2, h2, wrap_i64]
  apply Lp.step
  rw [wb81_0]
  simpa [wr81_1, h1, h2] using h

theorem c73 {x y : IP} {H : Heap} {k : V → Heap → Prop} (h : k (.int .i64 (ordE x y)) H) : Cl G 73 [vP x, vP y] H k := by
  refine Cl.mode1 (F := i73) rfl rfl (by simp [vP]) ?_
  rw [w73]
  simp only [vP, bxrV_agg, closedVs_cons, closedVs_nil, closedV_int, Bool.and_self, bd_some, fadrV_rptr, List.drop_zero, List.drop_succ_cons, ldV_one, pur82, Bool.or_true, true_and]
  refine c82 ?_
  refine c82 ?_
  have e : bslV 1 2 [V.int .i64 0] [(0, 1, .int .i64 (cmpI x.1 y.1)), (1, 1, .int .i64 (cmpI x.2 y.2))] [] = some (.sl 0 0 2 2 1, [.cells [.int .i64 (cmpI x.1 y.1), .int .i64 (cmpI x.2 y.2)]]) := rfl
  simp only [e, bd2_some, Bool.true_or, true_and]
  have rng : ∀ a b : Int, IntKind.i64.min ≤ cmpI a b ∧ cmpI a b ≤ IntKind.i64.max := fun a b => by
    unfold cmpI
    repeat' split
    all_goals exact i64_mm (by omega) (by omega)
  refine c81 (c1 := cmpI x.1 y.1) (c2 := cmpI x.2 y.2) ⟨.ro [.int .i64 (cmpI x.1 y.1), .int .i64 (cmpI x.2 y.2)] 2, rfl, ?_⟩ ?_
  · refine ints_arr (by simp [top]) (fun z hz => ?_) (.inl rfl)
    simp only [List.mem_cons, List.not_mem_nil, or_false] at hz
    rcases hz with rfl | rfl <;> exact rng _ _
  · exact h

theorem call_ordE {x y : IP} {H : Heap} {k : V → Heap → Prop} (h : k (.int .i64 (ordE x y)) H) : Cl G 73 ([vP x, vP y] ++ []) H k := c73 h
theorem ltE_lt {x y : IP} : decide (ordE x y < 0) = ltE x y := rfl
end Go.Proofs.Ytoommmeapdkopaa.E
namespace Go.Proofs.Ytoommmeapdkopaa.E
open Go Go.Eng

theorem wi {x : Int} {n : Nat} (h : x = n) (hn : n ≤ 9223372036854775807) : IntKind.i64.wrap x = n := by rw [h, wrap_i64] <;> omega
theorem wz {x : Int} (h1 : -9223372036854775808 ≤ x) (h2 : x ≤ 9223372036854775807) : IntKind.i64.wrap x = x := wrap_i64 h1 h2

theorem c87 {H : Heap} {id n : Nat} {L : List IP} (hB : BlkP H id L) (hn : L.length = n) (hn' : n ≤ 1000000) {a b : Nat} (hab : a ≤ b) (hb : b ≤ n) {k : V → Heap → Prop}
    (h : ∀ r H' L', But id H H' → BlkP H' id L' → Mv a b L L' → Srt ltE a b L' → k r H') : Cl G 87 [.sl id 0 n n 2, .int .i64 a, .int .i64 b, .fn 73 []] H k := by
  refine Cl.inline (F := i87) rfl rfl ?_
  rw [w87]
  simp only [binV_add, bd_some, wi (show (a : Int) + 1 = ((a + 1 : Nat) : Int) by omega) (by omega)]
  refine ub87_0 (b + 1) (fun i c0 c1 c2 c3 c8 H1 => c0 = .sl id 0 n n 2 ∧ c1 = .int .i64 a ∧ c2 = .int .i64 b ∧ c3 = .fn 73 [] ∧ c8 = .int .i64 i ∧ a + 1 ≤ i ∧ ∃ L', But id H H1 ∧ BlkP H1 id L' ∧ Mv a b L L' ∧ Srt ltE a i L') ?_ (a + 1) (by omega)
    ⟨rfl, rfl, rfl, rfl, rfl, Nat.le_refl _, L, .refl, hB, .refl, .small (Nat.le_refl _)⟩
  rintro i hi _ _ _ _ _ H1 ⟨rfl, rfl, rfl, rfl, rfl, hai, L1, hbut, hB1, hmv, hs⟩
  intros
  rw [wb87_0]
  simp only [binV_lss, bd_some, ifB_bool, decide_eq_true_eq, Int.ofNat_lt]
  split
  case isFalse hge =>
    simp only [upQ_e, blockQ_e, if_true, ret87n]
    exact h _ _ _ hbut hB1 hmv (hs.sub (Nat.le_refl _) (by omega))
  rename_i hlt
  have hlen1 : L1.length = n := by rw [hmv.len, hn]
  refine ub87_1 i (fun m c0 c1 c2 c3 c8 c9 H2 => c0 = .sl id 0 n n 2 ∧ c1 = .int .i64 a ∧ c2 = .int .i64 b ∧ c3 = .fn 73 [] ∧ c8 = .int .i64 i ∧ ∃ j L', j + m = i ∧ a ≤ j ∧ c9 = .int .i64 j ∧ But id H H2 ∧ BlkP H2 id L' ∧ Mv a b L L' ∧ ∀ p q, a ≤ p → p < q → q ≤ i → q ≠ j → ltE (gt' L' q) (gt' L' p) = false) ?_ 0 (Nat.zero_le _)
    ⟨rfl, rfl, rfl, rfl, rfl, i, L1, rfl, by omega, rfl, hbut, hB1, hmv, fun p q h1 h2 h3 h4 => hs p q h1 h2 (by omega)⟩
  rintro m hm _ _ _ _ _ _ H2 ⟨rfl, rfl, rfl, rfl, rfl, j, L2, hjm, haj, rfl, hbut2, hB2, hmv2, hs2⟩
  intros
  have hlen2 : L2.length = n := by rw [hmv2.len, hn]

  have fin : (∀ p q, a ≤ p → p < q → q ≤ i → ltE (gt' L2 q) (gt' L2 p) = false) → ∃ j_1, i < j_1 ∧ j_1 ≤ b + 1 ∧ a + 1 ≤ j_1 ∧ (i : Int) + 1 = (j_1 : Int) ∧ Srt ltE a j_1 L2 := fun hf => ⟨i + 1, by omega, by omega, by omega, by omega, fun p q h1 h2 h3 => hf p q h1 h2 (by omega)⟩
  rw [wb87_1]
  by_cases hja : j = a
  · have : ¬ ((j : Int) > (a : Int)) := by omega
    obtain ⟨i', q1, q2, q3, q4, q5⟩ := fin (fun p q h1 h2 h3 => hs2 p q h1 h2 h3 (by omega))
    simp only [binV_gtr, bd_some, this, decide_false, gdV_bool, show (false == true) = false from rfl, wpg_false, pickV_bool, Bool.false_eq_true, if_false, ifB_bool, upQ_e, blockQ_e, if_true, blockQ_n, seqQ_n, wr87_2, binV_add, wi q4 (by omega), upQ_n, Sb87_0_eq, true_and]
    exact ⟨i', q1, q2, rfl, q3, L2, hbut2, hB2, hmv2, q5⟩
  have hgt : ((j : Int) > (a : Int)) := by omega
  have w1 : IntKind.i64.wrap ((j : Int) - 1) = ((j - 1 : Nat) : Int) := wi (by omega) (by omega)
  simp only [binV_gtr, bd_some, hgt, decide_true, gdV_bool, beq_self_eq_true, wpg_true, iadrP (show j < n by omega), hB2.ld (show j < L2.length by omega), binV_sub, w1, iadrP (show j - 1 < n by omega), hB2.ld (show j - 1 < L2.length by omega), callV_fn, Bool.true_or, true_and]
  refine call_ordE ?_
  simp only [binV_lss, bd_some, ltE_lt, pickV_bool, if_true, ifB_bool]
  by_cases hl : ltE (gt' L2 j) (gt' L2 (j - 1)) = true
  · simp only [hl, if_true]
    obtain ⟨H3, s1, H4, s2, hB4, hbut4⟩ := hB2.swap (i := j) (j := j - 1) (by omega) (by omega)
    simp only [iadrP (show j < n by omega), iadrP (show j - 1 < n by omega), bd_some, hB2.ld (show j < L2.length by omega), hB2.ld (show j - 1 < L2.length by omega), s1, s2, true_and, upQ_n, Sb87_1_eq]
    have hi2 : j < L2.length := by omega
    have hj2 : j - 1 < L2.length := by omega
    refine ⟨m + 1, by omega, by omega, j - 1, _, by omega, by omega, rfl, hbut2.trans hbut4, hB4, hmv2.trans (.swap (by omega) haj (by omega) (by omega) (by omega)), fun p q h1 h2 h3 h4 => ?_⟩
    have hle : ltE (gt' L2 (j - 1)) (gt' L2 j) = false := loE.asym hl
    rw [gt_swp hi2 hj2, gt_swp hi2 hj2, if_neg h4]
    by_cases e1 : q = j
    · rw [if_pos e1]
      by_cases e2 : p = j - 1
      · rw [if_pos e2]; exact hle
      · rw [if_neg e2, if_neg (by omega)]; exact hs2 p (j - 1) h1 (by omega) (by omega) (by omega)
    · rw [if_neg e1]
      by_cases e2 : p = j - 1
      · rw [if_pos e2]; exact hs2 j q haj (by omega) h3 (by omega)
      · rw [if_neg e2]
        by_cases e3 : p = j
        · rw [if_pos e3]; exact hs2 (j - 1) q (by omega) (by omega) h3 (by omega)
        · rw [if_neg e3]; exact hs2 p q h1 h2 h3 e1
  · have hl : ltE (gt' L2 j) (gt' L2 (j - 1)) = false := by simpa using hl
    obtain ⟨i', q1, q2, q3, q4, q5⟩ := fin (fun p q h1 h2 h3 => by
      by_cases e : q = j
      · subst e
        by_cases e2 : p = q - 1
        · rw [e2]; exact hl
        · exact loE.le_trans (hs2 p (q - 1) h1 (by omega) (by omega) (by omega)) hl
      · exact hs2 p q h1 h2 h3 e)
    simp only [hl, Bool.false_eq_true, if_false, upQ_e, blockQ_e, if_true, blockQ_n, seqQ_n, wr87_2, binV_add, bd_some, wi q4 (by omega), upQ_n, Sb87_0_eq, true_and]
    exact ⟨i', q1, q2, rfl, q3, L2, hbut2, hB2, hmv2, q5⟩

theorem c91 {H : Heap} {id n : Nat} {L : List IP} (hB : BlkP H id L) (hn : L.length = n) (hn' : n ≤ 1000000) {a b : Nat} (hab : a < b) (hb : b ≤ n) {k : V → Heap → Prop}
    (h : ∀ r H' L', But id H H' → BlkP H' id L' → Mv a b L L' → k r H') : Cl G 91 [.sl id 0 n n 2, .int .i64 a, .int .i64 b, .fn 73 []] H k := by
  refine Cl.inline (F := i91) rfl rfl ?_
  rw [w91]
  simp only [binV_sub, bd_some, wi (show (b : Int) - 1 = ((b - 1 : Nat) : Int) by omega) (by omega)]
  refine ub91_0 b (fun m c0 c8 c9 H1 => c0 = .sl id 0 n n 2 ∧ ∃ i j L', c8 = .int .i64 (i : Nat) ∧ c9 = .int .i64 (j : Nat) ∧ i = m ∧ a ≤ i ∧ i ≤ b ∧ j < b ∧ But id H H1 ∧ BlkP H1 id L' ∧ Mv a b L L') ?_ a (by omega)
    ⟨rfl, a, b - 1, L, rfl, rfl, rfl, by omega, by omega, by omega, .refl, hB, .refl⟩
  rintro m hm _ _ _ H1 ⟨rfl, i, j, L1, rfl, rfl, rfl, hai, hib, hjb, hbut, hB1, hmv⟩
  intros
  have hlen1 : L1.length = n := by rw [hmv.len, hn]
  rw [wb91_0]
  simp only [binV_lss, bd_some, ifB_bool, decide_eq_true_eq, Int.ofNat_lt]
  split
  · rename_i hlt
    obtain ⟨H3, s1, H4, s2, hB4, hbut4⟩ := hB1.swap (i := i) (j := j) (by omega) (by omega)
    simp only [iadrP (show i < n by omega), iadrP (show j < n by omega), bd_some, hB1.ld (show i < L1.length by omega), hB1.ld (show j < L1.length by omega), s1, s2, true_and, binV_add, binV_sub, wi (show (i : Int) + 1 = ((i + 1 : Nat) : Int) by omega) (by omega), wi (show (j : Int) - 1 = ((j - 1 : Nat) : Int) by omega) (by omega), upQ_n, Sb91_0_eq]
    exact ⟨i + 1, by omega, by omega, i + 1, j - 1, _, rfl, rfl, rfl, by omega, by omega, by omega, hbut.trans hbut4, hB4, hmv.trans (.swap (by omega) hai (by omega) (by omega) hjb)⟩
  · simp only [upQ_e, blockQ_e, if_true, ret91n]
    exact h _ _ _ hbut hB1 hmv
end Go.Proofs.Ytoommmeapdkopaa.E
namespace Go.Proofs.Ytoommmeapdkopaa.E
open Go Go.Eng

def HP (lo hi f : Nat) (L : List IP) : Prop := ∀ r c, lo ≤ r → (c = 2 * r + 1 ∨ c = 2 * r + 2) → c < hi → ltE (gt' L (f + r)) (gt' L (f + c)) = false
def HPx (lo hi f root : Nat) (L : List IP) : Prop := (∀ r c, lo ≤ r → r ≠ root → (c = 2 * r + 1 ∨ c = 2 * r + 2) → c < hi → ltE (gt' L (f + r)) (gt' L (f + c)) = false) ∧
  ∀ p c, lo ≤ p → (root = 2 * p + 1 ∨ root = 2 * p + 2) → (c = 2 * root + 1 ∨ c = 2 * root + 2) → c < hi → ltE (gt' L (f + p)) (gt' L (f + c)) = false
def ISift (H : Heap) (L : List IP) (id n lo hi f : Nat) (r : Nat) (c0 c2 c3 c4 c10 : V) (H1 : Heap) : Prop :=
  c0 = .sl id 0 n n 2 ∧ c2 = .int .i64 hi ∧ c3 = .int .i64 f ∧ c4 = .fn 73 [] ∧ c10 = .int .i64 r ∧ lo ≤ r ∧ ∃ L', But id H H1 ∧ BlkP H1 id L' ∧ Mv f (f + hi) L L' ∧ HPx lo hi f r L'

theorem lp_sift {H : Heap} {id n : Nat} {L : List IP} (hn : L.length = n) (hn' : n ≤ 1000000) {lo hi f : Nat} (hf : f + hi ≤ n) {k : V → Heap → Prop}
    (h : ∀ r H' L', But id H H' → BlkP H' id L' → Mv f (f + hi) L L' → HP lo hi f L' → k r H')
    {r c : Nat} {H1 : Heap} {L1 : List IP} (hlo : lo ≤ r) (hbut : But id H H1) (hB1 : BlkP H1 id L1) (hmv : Mv f (f + hi) L L1) (hx : HPx lo hi f r L1)
    (hc : c = 2 * r + 1 ∨ c = 2 * r + 2) (hchi : c < hi) (hmax : ∀ c', (c' = 2 * r + 1 ∨ c' = 2 * r + 2) → c' < hi → ltE (gt' L1 (f + c)) (gt' L1 (f + c')) = false) :
    Wr98_1 (.sl id 0 n n 2) (.int .i64 hi) (.int .i64 f) (.fn 73 []) (.int .i64 r) (.int .i64 c) H1 (blockQ 1 (upQ (hi + lo) (Sb98_0 (ISift H L id n lo hi f)) r (blockQ 0 (retQ i98 k)))) := by
  unfold Wr98_1
  intros
  have hlen1 : L1.length = n := by rw [hmv.len, hn]
  rw [wr98_1]
  simp only [binV_add, bd_some, wi (show (f : Int) + (r : Int) = ((f + r : Nat) : Int) by omega) (by omega), wi (show (f : Int) + (c : Int) = ((f + c : Nat) : Int) by omega) (by omega), iadrP (show f + r < n by omega), iadrP (show f + c < n by omega), hB1.ld (show f + r < L1.length by omega), hB1.ld (show f + c < L1.length by omega), callV_fn, Bool.true_or, true_and]
  refine call_ordE ?_
  simp only [binV_lss, bd_some, ltE_lt, unV_not, ifB_bool]
  cases hl : ltE (gt' L1 (f + r)) (gt' L1 (f + c))
  · simp only [Bool.not_false, if_true, blockQ_r, upQ_r, ret98]
    refine h _ _ _ hbut hB1 hmv fun r' c' q1 q2 q3 => ?_
    by_cases e : r' = r
    · subst e; exact loE.le_trans (hmax c' q2 q3) hl
    · exact hx.1 r' c' q1 e q2 q3
  · obtain ⟨H3, s1, H4, s2, hB4, hbut4⟩ := hB1.swap (i := f + r) (j := f + c) (by omega) (by omega)
    simp only [Bool.not_true, Bool.false_eq_true, if_false, binV_add, bd_some, wi (show (f : Int) + (r : Int) = ((f + r : Nat) : Int) by omega) (by omega), wi (show (f : Int) + (c : Int) = ((f + c : Nat) : Int) by omega) (by omega), iadrP (show f + r < n by omega), iadrP (show f + c < n by omega), hB1.ld (show f + r < L1.length by omega), hB1.ld (show f + c < L1.length by omega), s1, s2, true_and, blockQ_n, upQ_n, Sb98_0_eq]
    have hr2 : f + r < L1.length := by omega
    have hc2 : f + c < L1.length := by omega
    have hle : ltE (gt' L1 (f + c)) (gt' L1 (f + r)) = false := loE.asym hl
    refine ⟨c, by omega, by omega, rfl, rfl, rfl, rfl, rfl, by omega, _, hbut.trans hbut4, hB4, hmv.trans (.swap (by omega) (by omega) (by omega) (by omega) (by omega)), fun r' c' q1 q2 q3 q4 => ?_, fun p c' q1 q2 q3 q4 => ?_⟩
    · rw [gt_swp hr2 hc2, gt_swp hr2 hc2, if_neg (show ¬ f + r' = f + c by omega)]
      by_cases e : r' = r
      · rw [if_pos (by omega)]
        by_cases e2 : c' = c
        · rw [if_pos (by omega)]; exact hle
        · rw [if_neg (by omega), if_neg (by omega)]; exact hmax c' (by omega) q4
      · rw [if_neg (by omega)]
        by_cases e2 : c' = r
        · rw [if_neg (by omega), if_pos (by omega)]
          exact hx.2 r' c q1 (by omega) hc hchi
        · rw [if_neg (by omega), if_neg (by omega)]
          exact hx.1 r' c' q1 e q3 q4
    · have : p = r := by omega
      subst this
      rw [gt_swp hr2 hc2, gt_swp hr2 hc2, if_neg (show ¬ f + p = f + c by omega), if_pos rfl, if_neg (by omega), if_neg (by omega)]
      exact hx.1 c c' (by omega) (by omega) q3 q4

theorem c98 {H : Heap} {id n : Nat} {L : List IP} (hB : BlkP H id L) (hn : L.length = n) (hn' : n ≤ 1000000) {lo hi f : Nat} (hf : f + hi ≤ n) (hlo : lo ≤ n) (hp : HP (lo + 1) hi f L) {k : V → Heap → Prop}
    (h : ∀ r H' L', But id H H' → BlkP H' id L' → Mv f (f + hi) L L' → HP lo hi f L' → k r H') : Cl G 98 [.sl id 0 n n 2, .int .i64 lo, .int .i64 hi, .int .i64 f, .fn 73 []] H k := by
  refine Cl.inline (F := i98) rfl rfl ?_
  rw [w98]
  refine ub98_0 (hi + lo) (ISift H L id n lo hi f) ?_ lo (by omega)
    ⟨rfl, rfl, rfl, rfl, rfl, Nat.le_refl _, L, .refl, hB, .refl, fun r c q1 q2 q3 q4 => hp r c (by omega) q3 q4, fun p c q1 q2 => by omega⟩
  rintro r hr _ _ _ _ _ H1 ⟨rfl, rfl, rfl, rfl, rfl, hlr, L1, hbut, hB1, hmv, hx⟩
  intros
  have hlen1 : L1.length = n := by rw [hmv.len, hn]
  rw [wb98_0]
  simp only [binV_mul, bd_some, wi (show 2 * (r : Int) = ((2 * r : Nat) : Int) by omega) (by omega), binV_add, wi (show ((2 * r : Nat) : Int) + 1 = ((2 * r + 1 : Nat) : Int) by omega) (by omega), binV_geq, ifB_bool, ge_iff_le, Int.ofNat_le, decide_eq_true_eq]
  split
  · simp only [upQ_e, blockQ_e, if_true, ret98n]
    refine h _ _ _ hbut hB1 hmv fun r' c' q1 q2 q3 => ?_
    by_cases e : r' = r
    · omega
    · exact hx.1 r' c' q1 e q2 q3
  · rename_i hge
    have hrn : 2 * r + 1 < n := by omega
    simp only [wi (show ((2 * r + 1 : Nat) : Int) + 1 = ((2 * r + 2 : Nat) : Int) by omega) (by omega), binV_lss, bd_some, gdV_bool, Int.ofNat_lt]
    by_cases h2 : 2 * r + 2 < hi
    case neg =>
      simp only [h2, decide_false, show (false == true) = false from rfl, wpg_false, pickV_bool, Bool.false_eq_true, if_false, bd_some, ifB_bool]
      exact lp_sift hn hn' hf h hlr hbut hB1 hmv hx (.inl rfl) (by omega) (fun c' q1 q2 => by rw [show c' = 2 * r + 1 by omega]; exact loE.irr _) ..
    simp only [h2, decide_true, beq_self_eq_true, wpg_true, wi (show (f : Int) + ((2 * r + 1 : Nat) : Int) = ((f + (2 * r + 1) : Nat) : Int) by omega) (by omega), iadrP (show f + (2 * r + 1) < n by omega), bd_some, hB1.ld (show f + (2 * r + 1) < L1.length by omega), wi (show ((f + (2 * r + 1) : Nat) : Int) + 1 = ((f + (2 * r + 2) : Nat) : Int) by omega) (by omega), iadrP (show f + (2 * r + 2) < n by omega), hB1.ld (show f + (2 * r + 2) < L1.length by omega), callV_fn, Bool.true_or, true_and, binV_add]
    refine call_ordE ?_
    simp only [binV_lss, bd_some, ltE_lt, pickV_bool, if_true, ifB_bool]
    cases hl : ltE (gt' L1 (f + (2 * r + 1))) (gt' L1 (f + (2 * r + 2)))
    · simp only [Bool.false_eq_true, if_false]
      exact lp_sift hn hn' hf h hlr hbut hB1 hmv hx (.inl rfl) (by omega) (fun c' q1 q2 => by
        rcases q1 with rfl | rfl
        · exact loE.irr _
        · exact hl) ..
    · simp only [if_true, binV_add, bd_some, wi (show ((2 * r + 1 : Nat) : Int) + 1 = ((2 * r + 2 : Nat) : Int) by omega) (by omega)]
      exact lp_sift hn hn' hf h hlr hbut hB1 hmv hx (.inr rfl) (by omega) (fun c' q1 q2 => by
        rcases q1 with rfl | rfl
        · exact loE.asym hl
        · exact loE.irr _) ..

theorem HP.top {hi f : Nat} {L : List IP} (h : HP 0 hi f L) : ∀ m i, i ≤ m → i < hi → ltE (gt' L f) (gt' L (f + i)) = false := by
  intro m
  induction m with
  | zero => intro i h1 h2; rw [show f + i = f by omega]; exact loE.irr _
  | succ m ih =>
    intro i h1 h2
    by_cases e : i = 0
    · rw [e]; exact loE.irr _
    · have := h ((i - 1) / 2) i (Nat.zero_le _) (by omega) h2
      exact loE.le_trans this (ih ((i - 1) / 2) (by omega) (by omega))

theorem c88 {H : Heap} {id n : Nat} {L : List IP} (hB : BlkP H id L) (hn : L.length = n) (hn' : n ≤ 1000000) {a b : Nat} (hab : a < b) (hb : b ≤ n) {k : V → Heap → Prop}
    (h : ∀ r H' L', But id H H' → BlkP H' id L' → Mv a b L L' → Srt ltE a b L' → k r H') : Cl G 88 [.sl id 0 n n 2, .int .i64 a, .int .i64 b, .fn 73 []] H k := by
  refine Cl.inline (F := i88) rfl rfl ?_
  rw [w88]
  have q : binV .quo (.int .i64 ((b - a - 1 : Nat) : Int)) (.int .i64 2) = some (.int .i64 (((b - a - 1) / 2 : Nat) : Int)) := by
    simp only [binV, if_true]
    rw [if_neg (by decide), Int.tdiv_eq_ediv_of_nonneg (by omega), wi (n := (b - a - 1) / 2) (by omega) (by omega)]
  simp only [binV_sub, bd_some, wi (show (b : Int) - (a : Int) = ((b - a : Nat) : Int) by omega) (by omega), wi (show ((b - a : Nat) : Int) - 1 = ((b - a - 1 : Nat) : Int) by omega) (by omega), q]
  refine ub88_0 ((b - a - 1) / 2 + 1) (fun m c0 c3 c8 c9 c10 c11 H1 => c0 = .sl id 0 n n 2 ∧ c3 = .fn 73 [] ∧ c8 = .int .i64 a ∧ c9 = .int .i64 (0 : Nat) ∧ c10 = .int .i64 (b - a : Nat) ∧ ∃ (i : Int) (L' : List IP), c11 = .int .i64 i ∧ i + m = ((b - a - 1) / 2 : Nat) ∧ But id H H1 ∧ BlkP H1 id L' ∧ Mv a b L L' ∧ HP (i + 1).toNat (b - a) a L') ?_ 0 (Nat.zero_le _)
    ⟨rfl, rfl, rfl, rfl, rfl, _, L, rfl, by simp, .refl, hB, .refl, fun r c q1 q2 q3 => by omega⟩
  rintro m hm _ _ _ _ _ _ H1 ⟨rfl, rfl, rfl, rfl, rfl, i, L1, rfl, him, hbut, hB1, hmv, hp⟩
  intros
  have hlen1 : L1.length = n := by rw [hmv.len, hn]
  rw [wb88_0]
  simp only [binV_geq, bd_some, ifB_bool, ge_iff_le, decide_eq_true_eq]
  split
  · rename_i hi0
    simp only [Bool.true_or, true_and]
    have ei : i = (i.toNat : Int) := by omega
    rw [ei]
    refine c98 (L := L1) hB1 hlen1 hn' (lo := i.toNat) (hi := b - a) (f := a) (by omega) (by omega) (by rw [show (i + 1).toNat = i.toNat + 1 by omega] at hp; exact hp) fun r H2 L2 hbut2 hB2 hmv2 hp2 => ?_
    simp only [binV_sub, bd_some, wz (show -9223372036854775808 ≤ (i.toNat : Int) - 1 by omega) (show (i.toNat : Int) - 1 ≤ 9223372036854775807 by omega), upQ_n, Sb88_0_eq, true_and]
    exact ⟨m + 1, by omega, by omega, _, L2, rfl, by omega, hbut.trans hbut2, hB2, hmv.trans (hmv2.mono (Nat.le_refl _) (by omega)), by rw [show ((i.toNat : Int) - 1 + 1).toNat = i.toNat by omega]; exact hp2⟩
  · rename_i hi0
    have hp0 : HP 0 (b - a) a L1 := by rw [show (i + 1).toNat = 0 by omega] at hp; exact hp
    simp only [upQ_e, blockQ_e, if_true, seqQ_n, wr88_1, binV_sub, bd_some, wi (show ((b - a : Nat) : Int) - 1 = ((b - a - 1 : Nat) : Int) by omega) (by omega)]
    refine ub88_2 (b - a) (fun m c0 c3 c8 c9 c12 H1 => c0 = .sl id 0 n n 2 ∧ c3 = .fn 73 [] ∧ c8 = .int .i64 a ∧ c9 = .int .i64 (0 : Nat) ∧ ∃ (i : Int) (L' : List IP), c12 = .int .i64 i ∧ i + m = (b - a - 1 : Nat) ∧ But id H H1 ∧ BlkP H1 id L' ∧ Mv a b L L' ∧ HP 0 (i + 1).toNat a L' ∧ Srt ltE (a + (i + 1).toNat) b L' ∧ ∀ p q, a ≤ p → p < a + (i + 1).toNat → a + (i + 1).toNat ≤ q → q < b → ltE (gt' L' q) (gt' L' p) = false) ?_ 0 (Nat.zero_le _)
      ⟨rfl, rfl, rfl, rfl, _, L1, rfl, by simp, hbut, hB1, hmv, by rw [show (((b - a - 1 : Nat) : Int) + 1).toNat = b - a by omega]; exact hp0, .small (by omega), fun p q h1 h2 h3 h4 => by omega⟩
    clear hp hp0 him hi0 hB1 hmv hlen1 hbut
    rintro m hm _ _ _ _ _ H1 ⟨rfl, rfl, rfl, rfl, i, L1, rfl, him, hbut, hB1, hmv, hp, hs, hsep⟩
    intros
    have hlen1 : L1.length = n := by rw [hmv.len, hn]
    rw [wb88_2]
    simp only [binV_geq, bd_some, ifB_bool, ge_iff_le, decide_eq_true_eq]
    split
    · rename_i hi0
      obtain ⟨j, rfl⟩ : ∃ j : Nat, i = j := ⟨i.toNat, by omega⟩
      have ej : ((j : Int) + 1).toNat = j + 1 := by omega
      rw [ej] at hp hs hsep
      have hi2 : a < L1.length := by omega
      have hj2 : a + j < L1.length := by omega
      obtain ⟨H3, s1, H4, s2, hB4, hbut4⟩ := hB1.swap (i := a) (j := a + j) hi2 hj2
      simp only [binV_add, bd_some, wi (show (a : Int) + (j : Int) = ((a + j : Nat) : Int) by omega) (by omega), iadrP (show a < n by omega), iadrP (show a + j < n by omega), hB1.ld hi2, hB1.ld hj2, s1, s2, true_and, Bool.true_or]
      refine c98 hB4 (by rw [swp_len]; exact hlen1) hn' (lo := 0) (hi := j) (f := a) (by omega) (by omega) (fun r c q1 q2 q3 => ?_) fun r H2 L2 hbut2 hB2 hmv2 hp2 => ?_
      · rw [gt_swp hi2 hj2, gt_swp hi2 hj2, if_neg (by omega), if_neg (by omega), if_neg (by omega), if_neg (by omega)]
        exact hp r c (by omega) q2 (by omega)
      · simp only [binV_sub, bd_some, wz (show -9223372036854775808 ≤ (j : Int) - 1 by omega) (show (j : Int) - 1 ≤ 9223372036854775807 by omega), upQ_n, Sb88_2_eq, true_and]
        have e2 : ((j : Int) - 1 + 1).toNat = j := by omega

        have beyond : ∀ q, a + j ≤ q → gt' L2 q = gt' (swp L1 a (a + j)) q := fun q hq => hmv2.out q (.inr hq)
        have last : gt' L2 (a + j) = gt' L1 a := by rw [beyond _ (Nat.le_refl _), gt_swp hi2 hj2, if_pos rfl]
        have rest : ∀ q, a + j < q → gt' L2 q = gt' L1 q := fun q hq => by rw [beyond q (by omega), gt_swp hi2 hj2, if_neg (by omega), if_neg (by omega)]
        have head : ∀ p, a ≤ p → p < a + j → ∃ m', a ≤ m' ∧ m' ≤ a + j ∧ gt' L2 p = gt' L1 m' := fun p p1 p2 => by
          obtain ⟨m', m1, m2, m3⟩ := hmv2.into p p1 p2
          rw [gt_swp hi2 hj2, if_neg (by omega)] at m3
          by_cases e : m' = a
          · rw [if_pos e] at m3; exact ⟨a + j, by omega, by omega, m3⟩
          · rw [if_neg e] at m3; exact ⟨m', m1, by omega, m3⟩
        refine ⟨m + 1, by omega, by omega, _, L2, rfl, by omega, (hbut.trans hbut4).trans hbut2, hB2, (hmv.trans (.swap (by omega) (Nat.le_refl _) (by omega) (by omega) (by omega))).trans (hmv2.mono (Nat.le_refl _) (by omega)), by rw [e2]; exact hp2, ?_, ?_⟩
        · rw [e2]
          intro p q h1 h2 h3
          rw [rest q (by omega)]
          by_cases e : p = a + j
          · rw [e, last]; exact hsep a q (Nat.le_refl _) (by omega) (by omega) h3
          · rw [rest p (by omega)]; exact hs p q (by omega) h2 h3
        · rw [e2]
          intro p q h1 h2 h3 h4
          obtain ⟨m', m1, m2, m3⟩ := head p h1 h2
          rw [m3]
          by_cases e : q = a + j
          · rw [e, last]
            have := HP.top hp (m' - a) (m' - a) (Nat.le_refl _) (by omega)
            rwa [show a + (m' - a) = m' by omega] at this
          · rw [rest q (by omega)]; exact hsep m' q m1 (by omega) (by omega) h4
    · rename_i hi0
      rw [show (i + 1).toNat = 0 by omega] at hs
      simp only [upQ_e, blockQ_e, if_true, ret88n]
      exact h _ _ _ hbut hB1 hmv hs
end Go.Proofs.Ytoommmeapdkopaa.E
namespace Go.Proofs.Ytoommmeapdkopaa.E
open Go Go.Eng

def PInv (a b i j : Nat) (L : List IP) : Prop := a + 1 ≤ i ∧ i ≤ j + 1 ∧ j < b ∧ (∀ m, a + 1 ≤ m → m < i → ltE (gt' L m) (gt' L a) = true) ∧ ∀ m, j < m → m < b → ltE (gt' L m) (gt' L a) = false
def PEnd (a b j : Nat) (L : List IP) : Prop := a ≤ j ∧ j < b ∧ (∀ m, a ≤ m → m < j → ltE (gt' L m) (gt' L j) = true) ∧ ∀ m, j < m → m < b → ltE (gt' L m) (gt' L j) = false

theorem PInv.fin {a b i j : Nat} {L : List IP} (h : PInv a b i j L) (hji : j < i) (hb : b ≤ L.length) : PEnd a b j (swp L j a) := by
  obtain ⟨h1, h2, h3, h4, h5⟩ := h
  have hj : j < L.length := by omega
  have ha : a < L.length := by omega
  have e1 : gt' (swp L j a) j = gt' L a := by
    rw [gt_swp hj ha]
    by_cases e : j = a
    · rw [if_pos e, e]
    · rw [if_neg e, if_pos rfl]
  refine ⟨by omega, h3, fun m m1 m2 => ?_, fun m m1 m2 => ?_⟩
  · rw [e1, gt_swp hj ha]
    by_cases e : m = a
    · rw [if_pos e]; exact h4 j (by omega) (by omega)
    · rw [if_neg e, if_neg (by omega)]; exact h4 m (by omega) (by omega)
  · rw [e1, gt_swp hj ha, if_neg (by omega), if_neg (by omega)]; exact h5 m m1 m2
theorem PInv.step {a b i j : Nat} {L : List IP} (h : PInv a b i j L) (hij : i < j) (hb : b ≤ L.length) (li : ltE (gt' L i) (gt' L a) = false) (lj : ltE (gt' L j) (gt' L a) = true) : PInv a b (i + 1) (j - 1) (swp L i j) := by
  obtain ⟨h1, h2, h3, h4, h5⟩ := h
  have hi : i < L.length := by omega
  have hj : j < L.length := by omega
  have e1 : gt' (swp L i j) a = gt' L a := by rw [gt_swp hi hj, if_neg (by omega), if_neg (by omega)]
  refine ⟨by omega, by omega, by omega, fun m m1 m2 => ?_, fun m m1 m2 => ?_⟩
  · rw [e1, gt_swp hi hj, if_neg (by omega)]
    by_cases e : m = i
    · rw [if_pos e]; exact lj
    · rw [if_neg e]; exact h4 m m1 (by omega)
  · rw [e1, gt_swp hi hj]
    by_cases e : m = j
    · rw [if_pos e]; exact li
    · rw [if_neg e, if_neg (by omega)]; exact h5 m (by omega) m2

section
variable {H : Heap} {id n : Nat} {L : List IP} {a b : Nat} {k : V → Heap → Prop}
structure PK (H : Heap) (id n : Nat) (L : List IP) (a b : Nat) (i j : Nat) (H1 : Heap) (L1 : List IP) : Prop where
  but : But id H H1
  blk : BlkP H1 id L1
  mv : Mv a b L L1
  inv : PInv a b i j L1

abbrev PRes (H : Heap) (id : Nat) (L : List IP) (a b : Nat) (k : V → Heap → Prop) : Prop := ∀ (j : Nat) f H' L', But id H H' → BlkP H' id L' → Mv a b L L' → PEnd a b j L' → k (.tup [.int .i64 j, .bool f]) H'

theorem part9 (hn : L.length = n) (hn' : n ≤ 1000000) (hb : b ≤ n) (h : PRes H id L a b k) {i j : Nat} {H1 : Heap} {L1 : List IP} (p : PK H id n L a b i j H1 L1) (hji : j < i) :
    Wr94_9 (.sl id 0 n n 2) (.int .i64 a) (.int .i64 j) H1 (retQ i94 k) := by
  unfold Wr94_9
  intros
  have hl : L1.length = n := by rw [p.mv.len, hn]
  have hv := p.inv
  obtain ⟨h1, h2, h3, h4, h5⟩ := p.inv
  rw [wr94_9]
  obtain ⟨H3, s1, H4, s2, hB4, hbut4⟩ := p.blk.swap (i := j) (j := a) (by omega) (by omega)
  simp only [iadrP (show a < n by omega), iadrP (show j < n by omega), bd_some, p.blk.ld (show a < L1.length by omega), p.blk.ld (show j < L1.length by omega), s1, s2, true_and, ret94]
  exact h _ _ _ _ (p.but.trans hbut4) hB4 (p.mv.trans (.swap (by omega) (by omega) (by omega) (by omega) (by omega))) (hv.fin hji (by omega))

abbrev I4 (H : Heap) (id n : Nat) (L : List IP) (a b : Nat) : Nat → V → V → V → V → V → Heap → Prop := fun m c0 c1 c4 c12 c13 H1 => c0 = .sl id 0 n n 2 ∧ c1 = .int .i64 a ∧ c4 = .fn 73 [] ∧ c12 = .int .i64 m ∧ ∃ (j : Nat) (L1 : List IP), c13 = .int .i64 j ∧ PK H id n L a b m j H1 L1

theorem part8 (hn : L.length = n) (hn' : n ≤ 1000000) (hb : b ≤ n) (h : PRes H id L a b k) {i j num : Nat} {H1 : Heap} {L1 : List IP} (p : PK H id n L a b i j H1 L1) (hnum : num ≤ i) (si : j < i ∨ ltE (gt' L1 i) (gt' L1 a) = false) (sj : j < i ∨ ltE (gt' L1 j) (gt' L1 a) = true) :
    Wr94_8 (.sl id 0 n n 2) (.int .i64 a) (.fn 73 []) (.int .i64 i) (.int .i64 j) H1 (blockQ 5 (upQ n (Sb94_4 (I4 H id n L a b)) num (blockQ 4 (seqQ G r94_9 (retQ i94 k))))) := by
  unfold Wr94_8
  intros
  have hl : L1.length = n := by rw [p.mv.len, hn]
  have hv := p.inv
  obtain ⟨h1, h2, h3, h4, h5⟩ := p.inv
  rw [wr94_8]
  simp only [binV_gtr, bd_some, gt_iff_lt, Int.ofNat_lt, ifB_bool, decide_eq_true_eq]
  split
  · rename_i hji
    simp only [blockQ_e, show ((4 : Nat) = 5) = False by simp, if_false, upQ_e, if_true, seqQ_n]
    exact part9 hn hn' hb h p hji ..
  · rename_i hji
    have ti := si.resolve_left hji
    have tj := sj.resolve_left hji
    have hlt : i < j := by
      rcases Nat.lt_or_ge i j with h | h
      · exact h
      · have : i = j := by omega
        rw [← this, ti] at tj; cases tj
    obtain ⟨H3, s1, H4, s2, hB4, hbut4⟩ := p.blk.swap (i := i) (j := j) (by omega) (by omega)
    simp only [iadrP (show i < n by omega), iadrP (show j < n by omega), bd_some, p.blk.ld (show i < L1.length by omega), p.blk.ld (show j < L1.length by omega), s1, s2, true_and, binV_add, binV_sub, wi (show (i : Int) + 1 = ((i + 1 : Nat) : Int) by omega) (by omega), wi (show (j : Int) - 1 = ((j - 1 : Nat) : Int) by omega) (by omega), blockQ_n, upQ_n, Sb94_4_eq]
    exact ⟨i + 1, by omega, by omega, rfl, rfl, rfl, rfl, j - 1, _, rfl, p.but.trans hbut4, hB4, p.mv.trans (.swap (by omega) (by omega) (by omega) (by omega) (by omega)), hv.step hlt (by omega) ti tj⟩

theorem part6 (hn : L.length = n) (hn' : n ≤ 1000000) (hb : b ≤ n) (h : PRes H id L a b k) {num : Nat} {i j : Nat} {H1 : Heap} {L1 : List IP} (p : PK H id n L a b i j H1 L1) (hnum : num ≤ i) (si : j < i ∨ ltE (gt' L1 i) (gt' L1 a) = false) :
    Wr94_6 (.sl id 0 n n 2) (.int .i64 a) (.fn 73 []) (.int .i64 i) (.int .i64 j) H1 (blockQ 5 (upQ n (Sb94_4 (I4 H id n L a b)) num (blockQ 4 (seqQ G r94_9 (retQ i94 k))))) := by
  unfold Wr94_6
  intros
  rw [wr94_6]
  refine ub94_7 b (fun m c0 c1 c4 c12 c13 H2 => c0 = .sl id 0 n n 2 ∧ c1 = .int .i64 a ∧ c4 = .fn 73 [] ∧ c12 = .int .i64 i ∧ ∃ (j : Nat), c13 = .int .i64 j ∧ j + m = b ∧ PK H id n L a b i j H2 L1 ∧ (j < i ∨ ltE (gt' L1 i) (gt' L1 a) = false)) ?_ (b - j) (by omega)
    ⟨rfl, rfl, rfl, rfl, j, rfl, by have := p.inv.2.2.1; omega, p, si⟩
  clear si p j
  rintro m hm _ _ _ _ _ H2 ⟨rfl, rfl, rfl, rfl, j, rfl, hjm, p, si⟩
  intros
  have hl : L1.length = n := by rw [p.mv.len, hn]
  obtain ⟨h1, h2, h3, h4, h5⟩ := p.inv
  rw [wb94_7]
  by_cases hij : i ≤ j
  case neg =>
    simp only [binV_leq, bd_some, Int.ofNat_le, hij, decide_false, gdV_bool, show (false == true) = false from rfl, wpg_false, pickV_bool, Bool.false_eq_true, if_false, ifB_bool, upQ_e, blockQ_e, if_true, seqQ_n]
    exact part8 hn hn' hb h p hnum si (.inl (by omega)) ..
  simp only [binV_leq, bd_some, Int.ofNat_le, hij, decide_true, gdV_bool, beq_self_eq_true, wpg_true, iadrP (show j < n by omega), iadrP (show a < n by omega), p.blk.ld (show j < L1.length by omega), p.blk.ld (show a < L1.length by omega), callV_fn, Bool.true_or, true_and]
  refine call_ordE ?_
  simp only [binV_lss, bd_some, ltE_lt, unV_not, pickV_bool, if_true, ifB_bool]
  cases hlj : ltE (gt' L1 j) (gt' L1 a)
  · simp only [Bool.not_false, if_true, binV_sub, bd_some, wi (show (j : Int) - 1 = ((j - 1 : Nat) : Int) by omega) (by omega), upQ_n, Sb94_7_eq, true_and]
    exact ⟨m + 1, by omega, by omega, j - 1, rfl, by omega, ⟨p.but, p.blk, p.mv, h1, by omega, by omega, h4, fun q q1 q2 => by
      by_cases e : q = j
      · rw [e]; exact hlj
      · exact h5 q (by omega) q2⟩, by rcases si with si | si; exact .inl (by omega); exact .inr si⟩
  · simp only [Bool.not_true, Bool.false_eq_true, if_false, upQ_e, blockQ_e, if_true, seqQ_n]
    exact part8 hn hn' hb h p hnum si (.inr hlj) ..

theorem part4 (hn : L.length = n) (hn' : n ≤ 1000000) (hb : b ≤ n) (h : PRes H id L a b k) {i j : Nat} {H1 : Heap} {L1 : List IP} (p : PK H id n L a b i j H1 L1) :
    Lb94_4 (.sl id 0 n n 2) (.int .i64 a) (.fn 73 []) (.int .i64 i) (.int .i64 j) H1 (blockQ 4 (seqQ G r94_9 (retQ i94 k))) := by
  unfold Lb94_4
  intros
  refine ub94_4 n (I4 H id n L a b) ?_ i (by have := p.inv; unfold PInv at this; omega) ⟨rfl, rfl, rfl, rfl, j, L1, rfl, p⟩
  clear p j i L1
  rintro num hi _ _ _ _ _ H1 ⟨rfl, rfl, rfl, rfl, j, L1, rfl, p⟩
  intros
  rw [wb94_4]
  have hnum : num ≤ num := Nat.le_refl _

  refine ub94_5 b (fun m c0 c1 c4 c12 c13 H2 => c0 = .sl id 0 n n 2 ∧ c1 = .int .i64 a ∧ c4 = .fn 73 [] ∧ c12 = .int .i64 m ∧ c13 = .int .i64 j ∧ num ≤ m ∧ PK H id n L a b m j H2 L1) ?_ num (by have := p.inv; unfold PInv at this; omega)
    ⟨rfl, rfl, rfl, rfl, rfl, hnum, p⟩
  clear p
  rintro i' hi' _ _ _ _ _ H2 ⟨rfl, rfl, rfl, rfl, rfl, hnum, p⟩
  intros
  have hl : L1.length = n := by rw [p.mv.len, hn]
  obtain ⟨h1, h2, h3, h4, h5⟩ := p.inv
  rw [wb94_5]
  by_cases hij : i' ≤ j
  case neg =>
    simp only [binV_leq, bd_some, Int.ofNat_le, hij, decide_false, gdV_bool, show (false == true) = false from rfl, wpg_false, pickV_bool, Bool.false_eq_true, if_false, ifB_bool, upQ_e, blockQ_e, if_true, seqQ_n]
    exact part6 hn hn' hb h p hnum (.inl (by omega)) ..
  simp only [binV_leq, bd_some, Int.ofNat_le, hij, decide_true, gdV_bool, beq_self_eq_true, wpg_true, iadrP (show i' < n by omega), iadrP (show a < n by omega), p.blk.ld (show i' < L1.length by omega), p.blk.ld (show a < L1.length by omega), callV_fn, Bool.true_or, true_and]
  refine call_ordE ?_
  simp only [binV_lss, bd_some, ltE_lt, pickV_bool, if_true, ifB_bool]
  cases hli : ltE (gt' L1 i') (gt' L1 a)
  · simp only [Bool.false_eq_true, if_false, upQ_e, blockQ_e, if_true, seqQ_n]
    exact part6 hn hn' hb h p hnum (.inr hli) ..
  · simp only [if_true, binV_add, bd_some, wi (show (i' : Int) + 1 = ((i' + 1 : Nat) : Int) by omega) (by omega), upQ_n, Sb94_5_eq, true_and]
    exact ⟨i' + 1, by omega, by omega, rfl, by omega, ⟨p.but, p.blk, p.mv, by omega, by omega, h3, fun q q1 q2 => by
      by_cases e : q = i'
      · rw [e]; exact hli
      · exact h4 q q1 (by omega), h5⟩⟩

theorem part3 (hn : L.length = n) (hn' : n ≤ 1000000) (hb : b ≤ n) (h : PRes H id L a b k) {i j : Nat} {H1 : Heap} {L1 : List IP} (p : PK H id n L a b i j H1 L1) (si : j < i ∨ ltE (gt' L1 i) (gt' L1 a) = false) (sj : j < i ∨ ltE (gt' L1 j) (gt' L1 a) = true) :
    Wr94_3 (.sl id 0 n n 2) (.int .i64 a) (.fn 73 []) (.int .i64 i) (.int .i64 j) H1 (retQ i94 k) := by
  unfold Wr94_3
  intros
  have hl : L1.length = n := by rw [p.mv.len, hn]
  have hv := p.inv
  obtain ⟨h1, h2, h3, h4, h5⟩ := p.inv
  rw [wr94_3]
  simp only [binV_gtr, bd_some, gt_iff_lt, Int.ofNat_lt, ifB_bool, decide_eq_true_eq]
  split
  · rename_i hji
    obtain ⟨H3, s1, H4, s2, hB4, hbut4⟩ := p.blk.swap (i := j) (j := a) (by omega) (by omega)
    simp only [iadrP (show a < n by omega), iadrP (show j < n by omega), bd_some, p.blk.ld (show a < L1.length by omega), p.blk.ld (show j < L1.length by omega), s1, s2, true_and, ret94]
    exact h _ _ _ _ (p.but.trans hbut4) hB4 (p.mv.trans (.swap (by omega) (by omega) (by omega) (by omega) (by omega))) (hv.fin hji (by omega))
  · rename_i hji
    have ti := si.resolve_left hji
    have tj := sj.resolve_left hji
    have hlt : i < j := by
      rcases Nat.lt_or_ge i j with h | h
      · exact h
      · have : i = j := by omega
        rw [← this, ti] at tj; cases tj
    obtain ⟨H3, s1, H4, s2, hB4, hbut4⟩ := p.blk.swap (i := i) (j := j) (by omega) (by omega)
    simp only [iadrP (show i < n by omega), iadrP (show j < n by omega), bd_some, p.blk.ld (show i < L1.length by omega), p.blk.ld (show j < L1.length by omega), s1, s2, true_and, binV_add, binV_sub, wi (show (i : Int) + 1 = ((i + 1 : Nat) : Int) by omega) (by omega), wi (show (j : Int) - 1 = ((j - 1 : Nat) : Int) by omega) (by omega)]
    exact part4 hn hn' hb h ⟨p.but.trans hbut4, hB4, p.mv.trans (.swap (by omega) (by omega) (by omega) (by omega) (by omega)), hv.step hlt (by omega) ti tj⟩ ..

theorem part1 (hn : L.length = n) (hn' : n ≤ 1000000) (hb : b ≤ n) (h : PRes H id L a b k) {i j : Nat} {H1 : Heap} {L1 : List IP} (p : PK H id n L a b i j H1 L1) (si : j < i ∨ ltE (gt' L1 i) (gt' L1 a) = false) :
    Wr94_1 (.sl id 0 n n 2) (.int .i64 a) (.fn 73 []) (.int .i64 i) (.int .i64 j) H1 (retQ i94 k) := by
  unfold Wr94_1
  intros
  rw [wr94_1]
  refine ub94_2 b (fun m c0 c1 c4 c12 c13 H2 => c0 = .sl id 0 n n 2 ∧ c1 = .int .i64 a ∧ c4 = .fn 73 [] ∧ c12 = .int .i64 i ∧ ∃ (j : Nat), c13 = .int .i64 j ∧ j + m = b ∧ PK H id n L a b i j H2 L1 ∧ (j < i ∨ ltE (gt' L1 i) (gt' L1 a) = false)) ?_ (b - j) (by omega)
    ⟨rfl, rfl, rfl, rfl, j, rfl, by have := p.inv.2.2.1; omega, p, si⟩
  clear si p j
  rintro m hm _ _ _ _ _ H2 ⟨rfl, rfl, rfl, rfl, j, rfl, hjm, p, si⟩
  intros
  have hl : L1.length = n := by rw [p.mv.len, hn]
  obtain ⟨h1, h2, h3, h4, h5⟩ := p.inv
  rw [wb94_2]
  by_cases hij : i ≤ j
  case neg =>
    simp only [binV_leq, bd_some, Int.ofNat_le, hij, decide_false, gdV_bool, show (false == true) = false from rfl, wpg_false, pickV_bool, Bool.false_eq_true, if_false, ifB_bool, upQ_e, blockQ_e, if_true, seqQ_n]
    exact part3 hn hn' hb h p si (.inl (by omega)) ..
  simp only [binV_leq, bd_some, Int.ofNat_le, hij, decide_true, gdV_bool, beq_self_eq_true, wpg_true, iadrP (show j < n by omega), iadrP (show a < n by omega), p.blk.ld (show j < L1.length by omega), p.blk.ld (show a < L1.length by omega), callV_fn, Bool.true_or, true_and]
  refine call_ordE ?_
  simp only [binV_lss, bd_some, ltE_lt, unV_not, pickV_bool, if_true, ifB_bool]
  cases hlj : ltE (gt' L1 j) (gt' L1 a)
  · simp only [Bool.not_false, if_true, binV_sub, bd_some, wi (show (j : Int) - 1 = ((j - 1 : Nat) : Int) by omega) (by omega), upQ_n, Sb94_2_eq, true_and]
    exact ⟨m + 1, by omega, by omega, j - 1, rfl, by omega, ⟨p.but, p.blk, p.mv, h1, by omega, by omega, h4, fun q q1 q2 => by
      by_cases e : q = j
      · rw [e]; exact hlj
      · exact h5 q (by omega) q2⟩, by rcases si with si | si; exact .inl (by omega); exact .inr si⟩
  · simp only [Bool.not_true, Bool.false_eq_true, if_false, upQ_e, blockQ_e, if_true, seqQ_n]
    exact part3 hn hn' hb h p si (.inr hlj) ..

theorem c94 (hB : BlkP H id L) (hn : L.length = n) (hn' : n ≤ 1000000) {v : Nat} (hav : a ≤ v) (hvb : v < b) (hb : b ≤ n) (h : PRes H id L a b k) :
    Cl G 94 [.sl id 0 n n 2, .int .i64 a, .int .i64 b, .int .i64 v, .fn 73 []] H k := by
  refine Cl.inline (F := i94) rfl rfl ?_
  rw [w94]
  obtain ⟨H3, s1, H4, s2, hB4, hbut4⟩ := hB.swap (i := a) (j := v) (by omega) (by omega)
  simp only [iadrP (show a < n by omega), iadrP (show v < n by omega), bd_some, hB.ld (show a < L.length by omega), hB.ld (show v < L.length by omega), s1, s2, true_and, binV_add, binV_sub, wi (show (a : Int) + 1 = ((a + 1 : Nat) : Int) by omega) (by omega), wi (show (b : Int) - 1 = ((b - 1 : Nat) : Int) by omega) (by omega)]
  generalize hi0 : a + 1 = i
  generalize hj0 : b - 1 = j
  generalize hL1 : swp L a v = L1 at hB4
  have p : PK H id n L a b i j H4 L1 := ⟨hbut4, hB4, by rw [← hL1]; exact .swap (by omega) (by omega) (by omega) (by omega) (by omega), by omega, by omega, by omega, fun m m1 m2 => by omega, fun m m1 m2 => by omega⟩
  clear hi0 hj0 hL1 hB4 hbut4 s1 s2

  refine ub94_0 b (fun m c0 c1 c4 c12 c13 H2 => c0 = .sl id 0 n n 2 ∧ c1 = .int .i64 a ∧ c4 = .fn 73 [] ∧ c12 = .int .i64 m ∧ c13 = .int .i64 j ∧ PK H id n L a b m j H2 L1) ?_ i (by have := p.inv; unfold PInv at this; omega)
    ⟨rfl, rfl, rfl, rfl, rfl, p⟩
  clear p
  rintro i' hi' _ _ _ _ _ H2 ⟨rfl, rfl, rfl, rfl, rfl, p⟩
  intros
  have hl : L1.length = n := by rw [p.mv.len, hn]
  obtain ⟨h1, h2, h3, h4, h5⟩ := p.inv
  rw [wb94_0]
  by_cases hij : i' ≤ j
  case neg =>
    simp only [binV_leq, bd_some, Int.ofNat_le, hij, decide_false, gdV_bool, show (false == true) = false from rfl, wpg_false, pickV_bool, Bool.false_eq_true, if_false, ifB_bool, upQ_e, blockQ_e, if_true, seqQ_n]
    exact part1 hn hn' hb h p (.inl (by omega)) ..
  simp only [binV_leq, bd_some, Int.ofNat_le, hij, decide_true, gdV_bool, beq_self_eq_true, wpg_true, iadrP (show i' < n by omega), iadrP (show a < n by omega), p.blk.ld (show i' < L1.length by omega), p.blk.ld (show a < L1.length by omega), callV_fn, Bool.true_or, true_and]
  refine call_ordE ?_
  simp only [binV_lss, bd_some, ltE_lt, pickV_bool, if_true, ifB_bool]
  cases hli : ltE (gt' L1 i') (gt' L1 a)
  · simp only [Bool.false_eq_true, if_false, upQ_e, blockQ_e, if_true, seqQ_n]
    exact part1 hn hn' hb h p (.inr hli) ..
  · simp only [if_true, binV_add, bd_some, wi (show (i' : Int) + 1 = ((i' + 1 : Nat) : Int) by omega) (by omega), upQ_n, Sb94_0_eq, true_and]
    exact ⟨i' + 1, by omega, by omega, rfl, ⟨p.but, p.blk, p.mv, by omega, by omega, h3, fun q q1 q2 => by
      by_cases e : q = i'
      · rw [e]; exact hli
      · exact h4 q q1 (by omega), h5⟩⟩
end
end Go.Proofs.Ytoommmeapdkopaa.E
namespace Go.Proofs.Ytoommmeapdkopaa.E
open Go Go.Eng

def lenI (x : Nat) : Nat := if x = 0 then 0 else Nat.log2 x + 1
def lenChk (x : Nat) : Bool := match (evN G 8).call 84 [.int .u64 x] [] with | some (.int .i64 n, []) => n == (lenI x : Int) | _ => false
theorem lenAll : (List.range 128).all lenChk = true := by kernel_rfl
theorem len_pow' : ∀ x, x < 128 → 1 ≤ x → 2 ^ lenI x ≤ 2 * x ∧ lenI x ≤ 8 := by decide +kernel
theorem len_pow (x : Nat) (h : 1 ≤ x) (h' : x < 128) : 2 ^ lenI x ≤ 2 * x ∧ lenI x ≤ 8 := len_pow' x h' h
theorem wu {x : Int} (h0 : 0 ≤ x) (h1 : x < 18446744073709551616) : IntKind.u64.wrap x = x := by
  simp [IntKind.wrap, IntKind.signed, IntKind.bits]; omega
theorem anyheap {f : FuncId} {F : IFun} (hg : G.get f = some F) (hm : F.mode = 1) {args : List V} (hc : closedVs args = true) {n : Nat} {κ : IntKind} {x : Int} {H : Heap} (h : (evN G (n + 1)).call f args [] = some (.int κ x, [])) : (evN G (n + 1)).call f args H = some (.int κ x, H) := by
  simp only [evN, stepS, callS, hg, hm, Nat.one_ne_zero, if_false, hc, if_true, handV, Option.bind_eq_some_iff, Option.map_eq_some_iff] at h ⊢
  obtain ⟨r, h1, v, h2, h3⟩ := h
  cases h3
  exact ⟨r, h1, _, h2, rfl⟩
theorem c84 {x : Nat} (hx : x < 128) {H : Heap} {k : V → Heap → Prop} (h : k (.int .i64 (lenI x)) H) : Cl G 84 [.int .u64 x] H k := by
  have := List.all_eq_true.1 lenAll x (by simpa using hx)
  unfold lenChk at this
  split at this
  case h_2 => cases this
  rename_i n hn
  rw [beq_iff_eq.1 this] at hn
  exact ⟨8, _, _, anyheap (F := i84) rfl rfl (by simp) hn, h⟩

theorem c99 {x : Nat} (hx : x < 128) {H : Heap} {k : V → Heap → Prop} (h : k (.int .u64 (2 ^ lenI x : Nat)) H) : Cl G 99 [.int .i64 x] H k := by
  refine Cl.mode1 (F := i99) rfl rfl (by simp) ?_
  rw [w99]
  have w : IntKind.u64.wrap (x : Int) = x := by simp [IntKind.wrap, IntKind.signed, IntKind.bits]; omega
  simp only [convV, w, bd_some, Bool.true_or, true_and]
  refine c84 hx ?_
  have l8 : lenI x ≤ 8 := by
    by_cases e : x = 0
    · simp [lenI, e]
    · exact (len_pow x (by omega) hx).2
  have e : binV .shl (.int .u64 1) (.int .i64 (lenI x)) = some (.int .u64 (2 ^ lenI x : Nat)) := by
    have p : 2 ^ lenI x ≤ 2 ^ 8 := Nat.pow_le_pow_right (by omega) l8
    have n0 : ¬ ((lenI x : Int) < 0) := by omega
    have e1 : binV .shl (.int .u64 1) (.int .i64 (lenI x)) = some (.int .u64 (IntKind.u64.wrap (1 * 2 ^ (min (lenI x) 64)))) := by
      simp only [binV]
      rw [if_neg n0]
      rfl
    rw [e1, Nat.min_eq_left (by omega), Int.one_mul, show ((2 : Int) ^ lenI x) = ((2 ^ lenI x : Nat) : Int) by simp]
    have hw : IntKind.u64.wrap ((2 ^ lenI x : Nat) : Int) = ((2 ^ lenI x : Nat) : Int) := by
      generalize 2 ^ lenI x = t at p
      exact wu (by omega) (by omega)
    rw [hw]
  simp only [e, bd_some, hq_int]
  exact h

def BoxN (H : Heap) (p : Nat) (κ : IntKind) : Prop := ∃ c : Int, H[p]? = some (.cells [.int κ c])
theorem BoxN.ld {H : Heap} {p : Nat} {κ : IntKind} {c : Int} (h : H[p]? = some (.cells [.int κ c])) : ldV H (.ptr p 0) 1 false = some (.int κ c) := ldV_own h rfl
theorem BoxN.st {H : Heap} {p : Nat} {κ : IntKind} {c : Int} (h : H[p]? = some (.cells [.int κ c])) (x : Int) : stV H 1 (.ptr p 0) (.int κ x) = some (H.set p (.cells [.int κ x])) := stV_own h (by simp) rfl

theorem c100 {H : Heap} {p : Nat} (hp : BoxN H p .u64) {k : V → Heap → Prop} (h : ∀ x H', But p H H' → BoxN H' p .u64 → k (.int .u64 x) H') : Cl G 100 [.ptr p 0] H k := by
  obtain ⟨c, hc⟩ := hp
  refine Cl.inline (F := i100) rfl rfl ?_
  rw [w100]
  have lt := (List.getElem?_eq_some_iff.1 hc).1
  have shl : ∀ (y : Int) (s : Nat), ∃ z, binV .shl (.int .u64 y) (.int .u64 (s : Int)) = some (.int .u64 z) := fun y s => ⟨_, by simp only [binV]; rw [if_neg (by omega)]⟩
  have shr : ∀ (y : Int) (s : Nat), ∃ z, binV .shr (.int .u64 y) (.int .u64 (s : Int)) = some (.int .u64 z) := fun y s => ⟨_, by simp only [binV]; rw [if_neg (by omega)]⟩
  have xor : ∀ y z : Int, ∃ x, binV .xor (.int .u64 y) (.int .u64 z) = some (.int .u64 x) := fun y z => ⟨_, by simp only [binV, if_true]; rfl⟩
  obtain ⟨z1, e1⟩ := shl c 13
  obtain ⟨y1, f1⟩ := xor c z1
  obtain ⟨z2, e2⟩ := shr y1 7
  obtain ⟨y2, f2⟩ := xor y1 z2
  obtain ⟨z3, e3⟩ := shl y2 17
  obtain ⟨y3, f3⟩ := xor y2 z3
  have hc1 : (H.set p (.cells [.int .u64 y1]))[p]? = some (.cells [.int .u64 y1]) := by rw [List.getElem?_set]; simp [lt]
  have hc2 : ((H.set p (.cells [.int .u64 y1])).set p (.cells [.int .u64 y2]))[p]? = some (.cells [.int .u64 y2]) := by rw [List.getElem?_set]; simp [lt]
  have hc3 : (((H.set p (.cells [.int .u64 y1])).set p (.cells [.int .u64 y2])).set p (.cells [.int .u64 y3]))[p]? = some (.cells [.int .u64 y3]) := by rw [List.getElem?_set]; simp [lt]
  simp only [nilckV, bd_some, BoxN.ld hc, BoxN.st hc, BoxN.ld hc1, BoxN.st hc1, BoxN.ld hc2, BoxN.st hc2, BoxN.ld hc3, true_and] at e1 e2 e3 ⊢
  simp only [show ((13 : Nat) : Int) = 13 from rfl, show ((7 : Nat) : Int) = 7 from rfl, show ((17 : Nat) : Int) = 17 from rfl] at e1 e2 e3
  simp only [e1, f1, e2, f2, e3, f3, bd_some, BoxN.st hc, BoxN.ld hc1, BoxN.st hc1, BoxN.ld hc2, BoxN.st hc2, BoxN.ld hc3, true_and]
  exact h _ _ ((But.set.trans But.set).trans But.set) ⟨_, hc3⟩

theorem and_le {r : Int} {m : Nat} (hm : m < 2 ^ 63) : ∃ o : Nat, o ≤ m ∧ binV .and (.int .u64 r) (.int .u64 m) = some (.int .u64 o) := by
  refine ⟨(BitVec.ofInt 64 r &&& BitVec.ofInt 64 (m : Int)).toNat, ?_, ?_⟩
  · rw [BitVec.toNat_and]
    have : (BitVec.ofInt 64 (m : Int)).toNat = m := by simp; omega
    rw [this]
    exact Nat.and_le_right
  · have : (BitVec.ofInt 64 r &&& BitVec.ofInt 64 (m : Int)).toNat < 2 ^ 64 := BitVec.isLt _
    exact congrArg (fun z => some (V.int .u64 z)) (wu (x := ((BitVec.ofInt 64 r &&& BitVec.ofInt 64 (m : Int)).toNat : Int)) (by omega) (by omega))

def IBrk (H : Heap) (L : List IP) (id n a b p md lim : Nat) (m : Nat) (c0 c1 c8 c9 c10 c11 : V) (H1 : Heap) : Prop :=
  c0 = .sl id 0 n n 2 ∧ c1 = .int .i64 a ∧ c8 = .int .i64 (b - a : Nat) ∧ c9 = .ptr p 0 ∧ c10 = .int .u64 md ∧ c11 = .int .i64 m ∧ But id H H1 ∧ p ≠ id ∧ H.length ≤ p ∧ BoxN H1 p .u64 ∧ lim ≤ m ∧ ∃ L', BlkP H1 id L' ∧ Mv a b L L'

theorem lp_brk {H : Heap} {L : List IP} {id n a b p md : Nat} (hn : L.length = n) (hn' : n ≤ 1000000) (hl : a + 8 ≤ b) (hb : b ≤ n) {Q : Cont} {m o : Nat} {H1 : Heap} {L1 : List IP} (hm : m < b) (ham : a ≤ m) (ho : o < b - a) (hbut : But id H H1) (hp : p ≠ id) (hpl : H.length ≤ p) (hbox : BoxN H1 p .u64) (hB1 : BlkP H1 id L1) (hmv : Mv a b L L1) {M lim num : Nat} (hM : m + 1 ≤ M) (hnum : num ≤ m) (hlim : lim ≤ m) :
    Wr89_1 (.sl id 0 n n 2) (.int .i64 a) (.int .i64 (b - a : Nat)) (.ptr p 0) (.int .u64 md) (.int .i64 m) (.int .i64 o) H1 (blockQ 1 (seqQ G r89_2 (upQ M (Sb89_0 (IBrk H L id n a b p md lim)) num Q))) := by
  unfold Wr89_1
  intros
  have hlen1 : L1.length = n := by rw [hmv.len, hn]
  rw [wr89_1]
  obtain ⟨H3, s1, H4, s2, hB4, hbut4⟩ := hB1.swap (i := m) (j := a + o) (by omega) (by omega)
  simp only [binV_add, bd_some, wi (show (a : Int) + (o : Int) = ((a + o : Nat) : Int) by omega) (by omega), iadrP (show m < n by omega), iadrP (show a + o < n by omega), hB1.ld (show m < L1.length by omega), hB1.ld (show a + o < L1.length by omega), s1, s2, true_and, blockQ_n, seqQ_n, wr89_2, wi (show (m : Int) + 1 = ((m + 1 : Nat) : Int) by omega) (by omega), upQ_n, Sb89_0_eq]
  refine ⟨m + 1, by omega, hM, rfl, rfl, rfl, rfl, rfl, rfl, hbut.trans hbut4, hp, hpl, ?_, by omega, _, hB4, hmv.trans (.swap (by omega) (by omega) (by omega) (by omega) (by omega))⟩
  obtain ⟨c, hc⟩ := hbox
  exact ⟨c, by rw [hbut4.2 p (List.getElem?_eq_some_iff.1 hc).1 hp]; exact hc⟩

theorem c89 {H : Heap} {id n : Nat} {L : List IP} (hB : BlkP H id L) (hn : L.length = n) (hn' : n < 128) {a b : Nat} (hab : a + 8 ≤ b) (hb : b ≤ n) {k : V → Heap → Prop}
    (h : ∀ r H' L', But id H H' → BlkP H' id L' → Mv a b L L' → k r H') : Cl G 89 [.sl id 0 n n 2, .int .i64 a, .int .i64 b, .fn 73 []] H k := by
  refine Cl.inline (F := i89) rfl rfl ?_
  rw [w89]
  have q4 : binV .quo (.int .i64 ((b - a : Nat) : Int)) (.int .i64 4) = some (.int .i64 (((b - a) / 4 : Nat) : Int)) := by
    simp only [binV, if_true]
    rw [if_neg (by decide), Int.tdiv_eq_ediv_of_nonneg (by omega), wi (n := (b - a) / 4) (by omega) (by omega)]
  have w : IntKind.u64.wrap ((b - a : Nat) : Int) = ((b - a : Nat) : Int) := by simp [IntKind.wrap, IntKind.signed, IntKind.bits]; omega
  have ge8 : (8 : Int) ≤ ((b - a : Nat) : Int) := by omega
  have e1 : stV (H ++ [B.cells [.int .u64 0]]) 1 (.ptr H.length 0) (.int .u64 ((b - a : Nat) : Int)) = some ((H ++ [B.cells [.int .u64 0]]).set H.length (B.cells [.int .u64 ((b - a : Nat) : Int)])) := BoxN.st (c := 0) (by simp) _
  simp only [binV_sub, bd_some, wi (show (b : Int) - (a : Int) = ((b - a : Nat) : Int) by omega) (by omega), binV_geq, ge_iff_le, ge8, decide_true, ifB_bool, if_true, convV, w, newB, e1, true_and, Bool.true_or]
  refine c99 (x := b - a) (by omega) ?_
  obtain ⟨pw, _⟩ := len_pow (b - a) (by omega) (by omega)
  have ppos : 1 ≤ 2 ^ lenI (b - a) := Nat.one_le_two_pow
  generalize 2 ^ lenI (b - a) = md at pw ppos
  simp only [q4, bd_some, binV_mul, wi (show (((b - a) / 4 : Nat) : Int) * 2 = (((b - a) / 4 * 2 : Nat) : Int) by omega) (by omega), binV_add, wi (show (a : Int) + (((b - a) / 4 * 2 : Nat) : Int) = ((a + (b - a) / 4 * 2 : Nat) : Int) by omega) (by omega), binV_sub, wi (show ((a + (b - a) / 4 * 2 : Nat) : Int) - 1 = ((a + (b - a) / 4 * 2 - 1 : Nat) : Int) by omega) (by omega)]
  generalize hH1 : (H ++ [B.cells [.int .u64 0]]).set H.length (B.cells [.int .u64 ((b - a : Nat) : Int)]) = H1
  have hbut1 : But id H H1 := by
    rw [← hH1]
    refine ⟨by simp, fun j hj _ => ?_⟩
    rw [List.getElem?_set_ne (by omega), List.getElem?_append_left hj]
  have hbox1 : BoxN H1 H.length .u64 := ⟨((b - a : Nat) : Int), by rw [← hH1, List.getElem?_set]; simp⟩
  have hne : H.length ≠ id := by have := hB.lt; omega
  have hB1 : BlkP H1 id L := by unfold BlkP; rw [← hH1, List.getElem?_set_ne hne, List.getElem?_append_left hB.lt]; exact hB
  refine ub89_0 (a + (b - a) / 4 * 2 + 2) (IBrk H L id n a b H.length md (a + (b - a) / 4 * 2 - 1)) ?_ (a + (b - a) / 4 * 2 - 1) (by omega)
    ⟨rfl, rfl, rfl, rfl, rfl, rfl, hbut1, hne, Nat.le_refl _, hbox1, Nat.le_refl _, L, hB1, .refl⟩
  clear hB1 hbox1 hbut1 hH1 H1
  rintro m hm _ _ _ _ _ _ H1 ⟨rfl, rfl, rfl, rfl, rfl, rfl, hbut1, _, hpl, hbox1, hlim, L1, hB1, hmv⟩
  intros
  rw [wb89_0]
  simp only [q4, bd_some, binV_mul, wi (show (((b - a) / 4 : Nat) : Int) * 2 = (((b - a) / 4 * 2 : Nat) : Int) by omega) (by omega), binV_add, wi (show (a : Int) + (((b - a) / 4 * 2 : Nat) : Int) = ((a + (b - a) / 4 * 2 : Nat) : Int) by omega) (by omega), wi (show ((a + (b - a) / 4 * 2 : Nat) : Int) + 1 = ((a + (b - a) / 4 * 2 + 1 : Nat) : Int) by omega) (by omega), binV_leq, Int.ofNat_le, ifB_bool, decide_eq_true_eq]
  split
  case isFalse =>
    simp only [upQ_e, blockQ_e, if_true, ret89n]
    exact h _ _ _ hbut1 hB1 hmv
  rename_i hle
  simp only [Bool.true_or, true_and]
  refine c100 hbox1 fun x H2 hbut2 hbox2 => ?_
  have w1 : IntKind.u64.wrap ((md : Int) - 1) = ((md - 1 : Nat) : Int) := by simp [IntKind.wrap, IntKind.signed, IntKind.bits]; omega
  obtain ⟨o, ho1, ho2⟩ := and_le (r := x) (m := md - 1) (by omega)
  have wo : IntKind.i64.wrap (o : Int) = o := wi rfl (by omega)
  have hlt0 := hB1.lt
  have hlp : H.length < H1.length := by obtain ⟨c, hc⟩ := hbox1; exact (List.getElem?_eq_some_iff.1 hc).1
  have hbut12 : But id H H2 := ⟨Nat.le_trans hbut1.1 hbut2.1, fun j hj hne => by rw [hbut2.2 j (by have := hbut1.1; omega) (by omega)]; exact hbut1.2 j hj hne⟩
  have hB2 : BlkP H2 id L1 := by unfold BlkP; rw [hbut2.2 id hlt0 (fun h => hne h.symm)]; exact hB1
  simp only [binV_sub, bd_some, w1, ho2, convV, wo, binV_geq, ge_iff_le, Int.ofNat_le, ifB_bool, decide_eq_true_eq]
  split
  · rename_i hge
    simp only [wi (show (o : Int) - ((b - a : Nat) : Int) = ((o - (b - a) : Nat) : Int) by omega) (by omega)]
    exact lp_brk (md := md) (p := H.length) (m := m) (o := o - (b - a)) (M := a + (b - a) / 4 * 2 + 2) (lim := a + (b - a) / 4 * 2 - 1) (num := m) hn (by omega) hab hb (by omega) (by omega) (by omega) hbut12 hne (Nat.le_refl _) hbox2 hB2 hmv (by omega) (Nat.le_refl _) hlim ..
  · rename_i hge
    exact lp_brk (md := md) (p := H.length) (m := m) (o := o) (M := a + (b - a) / 4 * 2 + 2) (lim := a + (b - a) / 4 * 2 - 1) (num := m) hn (by omega) hab hb (by omega) (by omega) (by omega) hbut12 hne (Nat.le_refl _) hbox2 hB2 hmv (by omega) (Nat.le_refl _) hlim ..
end Go.Proofs.Ytoommmeapdkopaa.E
namespace Go.Proofs.Ytoommmeapdkopaa.E
open Go Go.Eng

structure Sw (H0 H : Heap) (id p : Nat) (L : List IP) : Prop where
  blk : BlkP H id L
  ne : p ≠ id
  box : BoxN H p .i64
  but : But p H0 H

theorem c103 {H0 H : Heap} {id n p : Nat} {L : List IP} (hs : Sw H0 H id p L) (hn : L.length = n) {i j : Nat} (hi : i < n) (hj : j < n) {k : V → Heap → Prop}
    (h : ∀ x y H', (x = i ∧ y = j ∨ x = j ∧ y = i) → Sw H0 H' id p L → k (.tup [.int .i64 (x : Nat), .int .i64 (y : Nat)]) H') :
    Cl G 103 [.sl id 0 n n 2, .int .i64 i, .int .i64 j, .ptr p 0, .fn 73 []] H k := by
  refine Cl.inline (F := i103) rfl rfl ?_
  rw [w103]
  obtain ⟨c, hc⟩ := hs.box
  simp only [iadrP hi, iadrP hj, bd_some, hs.blk.ld (show i < L.length by omega), hs.blk.ld (show j < L.length by omega), callV_fn, Bool.true_or, true_and]
  refine call_ordE ?_
  simp only [binV_lss, bd_some, ifB_bool, decide_eq_true_eq]
  split
  · simp only [nilckV, bd_some, BoxN.ld hc, binV_add, BoxN.st hc, true_and]
    refine h j i _ (.inr ⟨rfl, rfl⟩) ⟨?_, hs.ne, ⟨IntKind.i64.wrap (c + 1), ?_⟩, hs.but.trans But.set⟩
    · unfold BlkP; rw [List.getElem?_set_ne hs.ne]; exact hs.blk
    · rw [List.getElem?_set]; simp [(List.getElem?_eq_some_iff.1 hc).1]
  · exact h i j _ (.inl ⟨rfl, rfl⟩) hs

theorem c102 {H0 H : Heap} {id n p : Nat} {L : List IP} (hs : Sw H0 H id p L) (hn : L.length = n) {x y z lo hi : Nat} (hx : lo ≤ x ∧ x < hi) (hy : lo ≤ y ∧ y < hi) (hz : lo ≤ z ∧ z < hi) (hh : hi ≤ n) {k : V → Heap → Prop}
    (h : ∀ m H', lo ≤ m → m < hi → Sw H0 H' id p L → k (.int .i64 (m : Nat)) H') :
    Cl G 102 [.sl id 0 n n 2, .int .i64 x, .int .i64 y, .int .i64 z, .ptr p 0, .fn 73 []] H k := by
  refine Cl.inline (F := i102) rfl rfl ?_
  rw [w102]
  simp only [Bool.true_or, true_and]
  refine c103 hs hn (i := x) (j := y) (by omega) (by omega) fun x1 y1 H1 q1 s1 => ?_
  simp only [extV, List.getElem?_cons_zero, List.getElem?_cons_succ, bd_some]
  refine c103 s1 hn (i := y1) (j := z) (by omega) (by omega) fun x2 y2 H2 q2 s2 => ?_
  simp only [extV, List.getElem?_cons_zero, List.getElem?_cons_succ, bd_some]
  refine c103 s2 hn (i := x1) (j := x2) (by omega) (by omega) fun x3 y3 H3 q3 s3 => ?_
  simp only [extV, List.getElem?_cons_zero, List.getElem?_cons_succ, bd_some]
  exact h y3 H3 (by omega) (by omega) s3

theorem c101 {H0 H : Heap} {id n p : Nat} {L : List IP} (hs : Sw H0 H id p L) (hn : L.length = n) (hn' : n ≤ 1000000) {x lo hi : Nat} (hx : lo + 1 ≤ x ∧ x + 1 < hi) (hh : hi ≤ n) {k : V → Heap → Prop}
    (h : ∀ m H', lo ≤ m → m < hi → Sw H0 H' id p L → k (.int .i64 (m : Nat)) H') :
    Cl G 101 [.sl id 0 n n 2, .int .i64 x, .ptr p 0, .fn 73 []] H k := by
  refine Cl.inline (F := i101) rfl rfl ?_
  rw [w101]
  simp only [binV_sub, binV_add, bd_some, wi (show (x : Int) - 1 = ((x - 1 : Nat) : Int) by omega) (by omega), wi (show (x : Int) + 1 = ((x + 1 : Nat) : Int) by omega) (by omega), Bool.true_or, true_and]
  exact c102 hs hn (lo := lo) (hi := hi) (by omega) (by omega) (by omega) hh h

theorem lp_choose {H : Heap} {id : Nat} {L : List IP} {a b : Nat} {k : V → Heap → Prop} (h : ∀ v hint H', But id H H' → BlkP H' id L → a ≤ v → v < b → k (.tup [.int .i64 (v : Nat), .int .i64 hint]) H')
    {H1 : Heap} (hs : Sw (H ++ [.cells [.int .i64 0]]) H1 id H.length L) {m : Nat} (h1 : a ≤ m) (h2 : m < b) : Wr90_1 (.ptr H.length 0) (.int .i64 m) H1 (retQ i90 k) := by
  unfold Wr90_1
  intros
  rw [wr90_1]
  obtain ⟨c, hc⟩ := hs.box
  have hbut : But id H H1 := ⟨by have := hs.but.1; simp at this; omega, fun j hj hne => by
    rw [hs.but.2 j (by simp; omega) (by omega), List.getElem?_append_left hj]⟩
  simp only [BoxN.ld hc, bd_some, binV_eql, ifB_bool, decide_eq_true_eq]
  split
  · simp only [ret90]; exact h m 1 _ hbut hs.blk h1 h2
  · split
    · simp only [ret90]; exact h m 2 _ hbut hs.blk h1 h2
    · simp only [ret90]; exact h m 0 _ hbut hs.blk h1 h2

theorem c90 {H : Heap} {id n : Nat} {L : List IP} (hB : BlkP H id L) (hn : L.length = n) (hn' : n ≤ 1000000) {a b : Nat} (hab : a + 8 ≤ b) (hb : b ≤ n) {k : V → Heap → Prop}
    (h : ∀ v hint H', But id H H' → BlkP H' id L → a ≤ v → v < b → k (.tup [.int .i64 (v : Nat), .int .i64 hint]) H') : Cl G 90 [.sl id 0 n n 2, .int .i64 a, .int .i64 b, .fn 73 []] H k := by
  refine Cl.inline (F := i90) rfl rfl ?_
  rw [w90]
  have q4 : binV .quo (.int .i64 ((b - a : Nat) : Int)) (.int .i64 4) = some (.int .i64 (((b - a) / 4 : Nat) : Int)) := by
    simp only [binV, if_true]
    rw [if_neg (by decide), Int.tdiv_eq_ediv_of_nonneg (by omega), wi (n := (b - a) / 4) (by omega) (by omega)]
  have ge8 : (8 : Int) ≤ ((b - a : Nat) : Int) := by omega
  simp only [binV_sub, bd_some, wi (show (b : Int) - (a : Int) = ((b - a : Nat) : Int) by omega) (by omega), newB, q4, binV_mul, binV_add, wi (show (((b - a) / 4 : Nat) : Int) * 1 = (((b - a) / 4 : Nat) : Int) by omega) (by omega), wi (show (((b - a) / 4 : Nat) : Int) * 2 = (((b - a) / 4 * 2 : Nat) : Int) by omega) (by omega), wi (show (((b - a) / 4 : Nat) : Int) * 3 = (((b - a) / 4 * 3 : Nat) : Int) by omega) (by omega), wi (show (a : Int) + (((b - a) / 4 : Nat) : Int) = ((a + (b - a) / 4 : Nat) : Int) by omega) (by omega), wi (show (a : Int) + (((b - a) / 4 * 2 : Nat) : Int) = ((a + (b - a) / 4 * 2 : Nat) : Int) by omega) (by omega), wi (show (a : Int) + (((b - a) / 4 * 3 : Nat) : Int) = ((a + (b - a) / 4 * 3 : Nat) : Int) by omega) (by omega), binV_geq, ge_iff_le, ge8, decide_true, ifB_bool, if_true]
  have s0 : Sw (H ++ [.cells [.int .i64 0]]) (H ++ [.cells [.int .i64 0]]) id H.length L := ⟨hB.app _, by have := hB.lt; omega, ⟨0, by simp⟩, .refl⟩
  have fin : ∀ (H1 : Heap) (x y z : Nat), Sw (H ++ [.cells [.int .i64 0]]) H1 id H.length L → (a ≤ x ∧ x < b) → (a ≤ y ∧ y < b) → (a ≤ z ∧ z < b) →
      Wr90_0 (.sl id 0 n n 2) (.fn 73 []) (.ptr H.length 0) (.int .i64 x) (.int .i64 y) (.int .i64 z) H1 (seqQ G r90_1 (retQ i90 k)) := fun H1 x y z s hx hy hz => by
    unfold Wr90_0
    intros
    rw [wr90_0]
    refine ⟨rfl, ?_⟩
    refine c102 s hn (lo := a) (hi := b) hx hy hz hb fun m H2 m1 m2 s2 => ?_
    simp only [seqQ_n]
    exact lp_choose h s2 m1 m2 ..
  split
  · rename_i h50
    simp only [Bool.true_or, true_and]
    have h50' : 50 ≤ b - a := by simp at h50; omega
    refine c101 s0 hn hn' (lo := a) (hi := b) (by omega) hb fun m1 H1 x1 x2 s1 => ?_
    refine c101 s1 hn hn' (lo := a) (hi := b) (by omega) hb fun m2 H2 y1 y2 s2 => ?_
    refine c101 s2 hn hn' (lo := a) (hi := b) (by omega) hb fun m3 H3 z1 z2 s3 => ?_
    exact fin H3 m1 m2 m3 s3 ⟨x1, x2⟩ ⟨y1, y2⟩ ⟨z1, z2⟩ ..
  · exact fin _ _ _ _ s0 (by omega) (by omega) (by omega) ..
end Go.Proofs.Ytoommmeapdkopaa.E
