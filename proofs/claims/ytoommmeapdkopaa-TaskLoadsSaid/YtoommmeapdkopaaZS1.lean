/- What functions of the program return, proved over the interpreter. Each theorem says its conditions. -/
import Derived.Test.YtoommmeapdkopaaZD1
import Derived.Test.YtoommmeapdkopaaE32
import Derived.Test.YtoommmeapdkopaaZD2
import Derived.KernelRfl
import Derived.Test.YtoommmeapdkopaaE33
namespace Go.Proofs.Ytoommmeapdkopaa.E
open Go Go.Eng
abbrev tI : Ty := .int .i64

/-- has -/
theorem c22 {x : V} {l : List Int} {H : Heap} (hx : Sh H 1 tI.R x l) {n : Int} {k : V → Heap → Prop} (h : k (.bool (decide (n ∈ l))) H) : Cl G 22 [x, .int .i64 n] H k := by
  obtain ⟨v, hv, hx⟩ := hx
  refine Cl.any (F := i22) rfl rfl (args' := [v, .int .i64 n]) (by simp [mapO, hv]) ?_
  rw [w22]
  refine ub22_0 l.length (fun i a b c _ => a = v ∧ b = .int .i64 n ∧ c = .int .i64 i ∧ n ∉ l.take i) ?_ 0 (Nat.zero_le _) ⟨rfl, rfl, rfl, by simp⟩
  rintro i hi _ _ _ _ ⟨rfl, rfl, rfl, hn⟩
  intros
  rw [wb22_0]
  have hle := hx.le
  simp only [hx.lens, bd_some, binV_lss, ifB_bool, decide_eq_true_eq, Int.ofNat_lt]
  split
  · rename_i hlt
    obtain ⟨r, e⟩ := hx.int1 hlt
    simp only [e, bd_some, ldV_one, binV_eql, ifB_bool, decide_eq_true_eq]
    split
    · rename_i heq
      simpa [show n ∈ l from heq ▸ List.getElem_mem _] using h
    · rename_i hne
      simp only [binV_add, bd_some, wrap_succ (show i + 1 ≤ 9223372036854775807 by unfold top at hle; omega), upQ_n, Sb22_0_eq, true_and]
      exact ⟨i + 1, by omega, by omega, by simp [mem_take_succ hlt, hn, Ne.symm hne]⟩
  · rename_i hge
    rw [take_all hge] at hn
    simpa [hn, wr22_1] using h

end Go.Proofs.Ytoommmeapdkopaa.E
namespace Go.Proofs.Ytoommmeapdkopaa.E
open Go Go.Eng

def cmpI (a b : Int) : Int := if a < b then -1 else if b < a then 1 else 0
def ordE (x y : IP) : Int := if cmpI x.1 y.1 ≠ 0 then cmpI x.1 y.1 else cmpI x.2 y.2
def ltE (x y : IP) : Bool := decide (ordE x y < 0)
theorem ltE_iff {x y : IP} : ltE x y = true ↔ x.1 < y.1 ∨ (x.1 = y.1 ∧ x.2 < y.2) := by
  by_cases h1 : x.1 < y.1
  · simp [ltE, ordE, cmpI, h1]
  by_cases h2 : y.1 < x.1
  · have : ¬ (x.1 = y.1) := by omega
    simp [ltE, ordE, cmpI, h1, h2, this]
  have h3 : x.1 = y.1 := by omega
  by_cases h4 : x.2 < y.2
  · simp [ltE, ordE, cmpI, h3, h4]
  by_cases h5 : y.2 < x.2
  · simp [ltE, ordE, cmpI, h3, h4, h5]
  · simp [ltE, ordE, cmpI, h3, h4, h5]
theorem ltE_not {x y : IP} (h : ltE x y = false) : ¬ (x.1 < y.1 ∨ (x.1 = y.1 ∧ x.2 < y.2)) := fun h' => by rw [← ltE_iff] at h'; rw [h'] at h; cases h
theorem loE : LO ltE where
  irr x := by
    cases h : ltE x x
    · rfl
    · rw [ltE_iff] at h; omega
  tr x y z h1 h2 := by rw [ltE_iff] at *; omega
  tot x y h1 h2 := by
    have h1 := ltE_not h1
    have h2 := ltE_not h2
    exact Prod.ext (by omega) (by omega)

theorem c86 {n : Int} {H : Heap} {k : V → Heap → Prop} (h : k (.bool false) H) : Cl G 86 [.int .i64 n] H k := by
  refine Cl.mode1 (F := i86) rfl rfl (by simp) ?_
  rw [w86]
  simpa using h
theorem c82 {a b : Int} {H : Heap} {k : V → Heap → Prop} (h : k (.int .i64 (cmpI a b)) H) : Cl G 82 [.int .i64 a, .int .i64 b] H k := by
  refine Cl.mode1 (F := i82) rfl rfl (by simp) ?_
  rw [w82]
  simp only [Bool.true_or, true_and]
  refine c86 ?_
  refine c86 ?_
  by_cases h1 : a < b
  · simpa [h1, cmpI] using h
  by_cases h2 : b < a
  · simpa [h1, h2, cmpI] using h
  simpa [h1, h2, cmpI] using h
theorem c81 {x : V} {c1 c2 : Int} {H : Heap} (hx : Sh H 1 tI.R x [c1, c2]) {k : V → Heap → Prop} (h : k (.int .i64 (if c1 ≠ 0 then c1 else c2)) H) : Cl G 81 [x] H k := by
  obtain ⟨v, hv, hx⟩ := hx
  refine Cl.any (F := i81) rfl rfl (args' := [v]) (by simp [mapO, hv]) ?_
  rw [w81]
  obtain ⟨r1, e1⟩ := hx.int1 (i := 0) (by simp)
  obtain ⟨r2, e2⟩ := hx.int1 (i := 1) (by simp)
  have hl : lensV v = some (.int .i64 2) := hx.lens
  simp at e1 e2
  simp only [hl, bd_some]
  apply Lp.step
  rw [wb81_0]
  by_cases h1 : c1 = 0
  case neg =>
    simpa [e1, h1] using h
  simp [e1, h1, wrap_i64]
  apply Lp.step
  rw [wb81_0]
  by_cases h2 : c2 = 0
  case neg =>
    simpa [e2, h1, h2] using h
  simp [e2, h2, wrap_i64]
  apply Lp.step
  rw [wb81_0]
  simpa [wr81_1, h1, h2] using h

theorem c73 {x y : IP} {H : Heap} {k : V → Heap → Prop} (h : k (.int .i64 (ordE x y)) H) : Cl G 73 [vP x, vP y] H k := by
  refine Cl.mode1 (F := i73) rfl rfl (by simp [vP]) ?_
  rw [w73]
  simp only [vP, bxrV_agg, closedVs_cons, closedVs_nil, closedV_int, Bool.and_self, bd_some, fadrV_rptr, List.drop_zero, List.drop_succ_cons, ldV_one, pur82, Bool.or_true, true_and]
  refine c82 ?_
  refine c82 ?_
  have e : bslV 1 2 [V.int .i64 0] [(0, 1, .int .i64 (cmpI x.1 y.1)), (1, 1, .int .i64 (cmpI x.2 y.2))] [] = some (.sl 0 0 2 2 1, [.cells [.int .i64 (cmpI x.1 y.1), .int .i64 (cmpI x.2 y.2)]]) := rfl
  simp only [e, bd2_some, Bool.true_or, true_and]
  have rng : ∀ a b : Int, IntKind.i64.min ≤ cmpI a b ∧ cmpI a b ≤ IntKind.i64.max := fun a b => by
    unfold cmpI
    repeat' split
    all_goals exact i64_mm (by omega) (by omega)
  refine c81 (c1 := cmpI x.1 y.1) (c2 := cmpI x.2 y.2) ⟨.ro [.int .i64 (cmpI x.1 y.1), .int .i64 (cmpI x.2 y.2)] 2, rfl, ?_⟩ ?_
  · refine ints_arr (by simp [top]) (fun z hz => ?_) (.inl rfl)
    simp only [List.mem_cons, List.not_mem_nil, or_false] at hz
    rcases hz with rfl | rfl <;> exact rng _ _
  · exact h

theorem call_ordE {x y : IP} {H : Heap} {k : V → Heap → Prop} (h : k (.int .i64 (ordE x y)) H) : Cl G 73 ([vP x, vP y] ++ []) H k := c73 h
theorem ltE_lt {x y : IP} : decide (ordE x y < 0) = ltE x y := rfl
end Go.Proofs.Ytoommmeapdkopaa.E
namespace Go.Proofs.Ytoommmeapdkopaa.E
open Go Go.Eng

theorem wi {x : Int} {n : Nat} (h : x = n) (hn : n ≤ 9223372036854775807) : IntKind.i64.wrap x = n := by rw [h, wrap_i64] <;> omega
theorem wz {x : Int} (h1 : -9223372036854775808 ≤ x) (h2 : x ≤ 9223372036854775807) : IntKind.i64.wrap x = x := wrap_i64 h1 h2

/-- insertion sort -/
theorem c87 {H : Heap} {id n : Nat} {L : List IP} (hB : BlkP H id L) (hn : L.length = n) (hn' : n ≤ 1000000) {a b : Nat} (hab : a ≤ b) (hb : b ≤ n) {k : V → Heap → Prop}
    (h : ∀ r H' L', But id H H' → BlkP H' id L' → Mv a b L L' → Srt ltE a b L' → k r H') : Cl G 87 [.sl id 0 n n 2, .int .i64 a, .int .i64 b, .fn 73 []] H k := by
  refine Cl.inline (F := i87) rfl rfl ?_
  rw [w87]
  simp only [binV_add, bd_some, wi (show (a : Int) + 1 = ((a + 1 : Nat) : Int) by omega) (by omega)]
  refine ub87_0 (b + 1) (fun i c0 c1 c2 c3 c8 H1 => c0 = .sl id 0 n n 2 ∧ c1 = .int .i64 a ∧ c2 = .int .i64 b ∧ c3 = .fn 73 [] ∧ c8 = .int .i64 i ∧ a + 1 ≤ i ∧ ∃ L', But id H H1 ∧ BlkP H1 id L' ∧ Mv a b L L' ∧ Srt ltE a i L') ?_ (a + 1) (by omega)
    ⟨rfl, rfl, rfl, rfl, rfl, Nat.le_refl _, L, .refl, hB, .refl, .small (Nat.le_refl _)⟩
  rintro i hi _ _ _ _ _ H1 ⟨rfl, rfl, rfl, rfl, rfl, hai, L1, hbut, hB1, hmv, hs⟩
  intros
  rw [wb87_0]
  simp only [binV_lss, bd_some, ifB_bool, decide_eq_true_eq, Int.ofNat_lt]
  split
  case isFalse hge =>
    simp only [upQ_e, blockQ_e, if_true, ret87n]
    exact h _ _ _ hbut hB1 hmv (hs.sub (Nat.le_refl _) (by omega))
  rename_i hlt
  have hlen1 : L1.length = n := by rw [hmv.len, hn]
  refine ub87_1 i (fun m c0 c1 c2 c3 c8 c9 H2 => c0 = .sl id 0 n n 2 ∧ c1 = .int .i64 a ∧ c2 = .int .i64 b ∧ c3 = .fn 73 [] ∧ c8 = .int .i64 i ∧ ∃ j L', j + m = i ∧ a ≤ j ∧ c9 = .int .i64 j ∧ But id H H2 ∧ BlkP H2 id L' ∧ Mv a b L L' ∧ ∀ p q, a ≤ p → p < q → q ≤ i → q ≠ j → ltE (gt' L' q) (gt' L' p) = false) ?_ 0 (Nat.zero_le _)
    ⟨rfl, rfl, rfl, rfl, rfl, i, L1, rfl, by omega, rfl, hbut, hB1, hmv, fun p q h1 h2 h3 h4 => hs p q h1 h2 (by omega)⟩
  rintro m hm _ _ _ _ _ _ H2 ⟨rfl, rfl, rfl, rfl, rfl, j, L2, hjm, haj, rfl, hbut2, hB2, hmv2, hs2⟩
  intros
  have hlen2 : L2.length = n := by rw [hmv2.len, hn]
  -- the round ends
  have fin : (∀ p q, a ≤ p → p < q → q ≤ i → ltE (gt' L2 q) (gt' L2 p) = false) → ∃ j_1, i < j_1 ∧ j_1 ≤ b + 1 ∧ a + 1 ≤ j_1 ∧ (i : Int) + 1 = (j_1 : Int) ∧ Srt ltE a j_1 L2 := fun hf => ⟨i + 1, by omega, by omega, by omega, by omega, fun p q h1 h2 h3 => hf p q h1 h2 (by omega)⟩
  rw [wb87_1]
  by_cases hja : j = a
  · have : ¬ ((j : Int) > (a : Int)) := by omega
    obtain ⟨i', q1, q2, q3, q4, q5⟩ := fin (fun p q h1 h2 h3 => hs2 p q h1 h2 h3 (by omega))
    simp only [binV_gtr, bd_some, this, decide_false, gdV_bool, show (false == true) = false from rfl, wpg_false, pickV_bool, Bool.false_eq_true, if_false, ifB_bool, upQ_e, blockQ_e, if_true, blockQ_n, seqQ_n, wr87_2, binV_add, wi q4 (by omega), upQ_n, Sb87_0_eq, true_and]
    exact ⟨i', q1, q2, rfl, q3, L2, hbut2, hB2, hmv2, q5⟩
  have hgt : ((j : Int) > (a : Int)) := by omega
  have w1 : IntKind.i64.wrap ((j : Int) - 1) = ((j - 1 : Nat) : Int) := wi (by omega) (by omega)
  simp only [binV_gtr, bd_some, hgt, decide_true, gdV_bool, beq_self_eq_true, wpg_true, iadrP (show j < n by omega), hB2.ld (show j < L2.length by omega), binV_sub, w1, iadrP (show j - 1 < n by omega), hB2.ld (show j - 1 < L2.length by omega), callV_fn, Bool.true_or, true_and]
  refine call_ordE ?_
  simp only [binV_lss, bd_some, ltE_lt, pickV_bool, if_true, ifB_bool]
  by_cases hl : ltE (gt' L2 j) (gt' L2 (j - 1)) = true
  · simp only [hl, if_true]
    obtain ⟨H3, s1, H4, s2, hB4, hbut4⟩ := hB2.swap (i := j) (j := j - 1) (by omega) (by omega)
    simp only [iadrP (show j < n by omega), iadrP (show j - 1 < n by omega), bd_some, hB2.ld (show j < L2.length by omega), hB2.ld (show j - 1 < L2.length by omega), s1, s2, true_and, upQ_n, Sb87_1_eq]
    have hi2 : j < L2.length := by omega
    have hj2 : j - 1 < L2.length := by omega
    refine ⟨m + 1, by omega, by omega, j - 1, _, by omega, by omega, rfl, hbut2.trans hbut4, hB4, hmv2.trans (.swap (by omega) haj (by omega) (by omega) (by omega)), fun p q h1 h2 h3 h4 => ?_⟩
    have hle : ltE (gt' L2 (j - 1)) (gt' L2 j) = false := loE.asym hl
    rw [gt_swp hi2 hj2, gt_swp hi2 hj2, if_neg h4]
    by_cases e1 : q = j
    · rw [if_pos e1]
      by_cases e2 : p = j - 1
      · rw [if_pos e2]; exact hle
      · rw [if_neg e2, if_neg (by omega)]; exact hs2 p (j - 1) h1 (by omega) (by omega) (by omega)
    · rw [if_neg e1]
      by_cases e2 : p = j - 1
      · rw [if_pos e2]; exact hs2 j q haj (by omega) h3 (by omega)
      · rw [if_neg e2]
        by_cases e3 : p = j
        · rw [if_pos e3]; exact hs2 (j - 1) q (by omega) (by omega) h3 (by omega)
        · rw [if_neg e3]; exact hs2 p q h1 h2 h3 e1
  · have hl : ltE (gt' L2 j) (gt' L2 (j - 1)) = false := by simpa using hl
    obtain ⟨i', q1, q2, q3, q4, q5⟩ := fin (fun p q h1 h2 h3 => by
      by_cases e : q = j
      · subst e
        by_cases e2 : p = q - 1
        · rw [e2]; exact hl
        · exact loE.le_trans (hs2 p (q - 1) h1 (by omega) (by omega) (by omega)) hl
      · exact hs2 p q h1 h2 h3 e)
    simp only [hl, Bool.false_eq_true, if_false, upQ_e, blockQ_e, if_true, blockQ_n, seqQ_n, wr87_2, binV_add, bd_some, wi q4 (by omega), upQ_n, Sb87_0_eq, true_and]
    exact ⟨i', q1, q2, rfl, q3, L2, hbut2, hB2, hmv2, q5⟩

/-- turning round -/
theorem c91 {H : Heap} {id n : Nat} {L : List IP} (hB : BlkP H id L) (hn : L.length = n) (hn' : n ≤ 1000000) {a b : Nat} (hab : a < b) (hb : b ≤ n) {k : V → Heap → Prop}
    (h : ∀ r H' L', But id H H' → BlkP H' id L' → Mv a b L L' → k r H') : Cl G 91 [.sl id 0 n n 2, .int .i64 a, .int .i64 b, .fn 73 []] H k := by
  refine Cl.inline (F := i91) rfl rfl ?_
  rw [w91]
  simp only [binV_sub, bd_some, wi (show (b : Int) - 1 = ((b - 1 : Nat) : Int) by omega) (by omega)]
  refine ub91_0 b (fun m c0 c8 c9 H1 => c0 = .sl id 0 n n 2 ∧ ∃ i j L', c8 = .int .i64 (i : Nat) ∧ c9 = .int .i64 (j : Nat) ∧ i = m ∧ a ≤ i ∧ i ≤ b ∧ j < b ∧ But id H H1 ∧ BlkP H1 id L' ∧ Mv a b L L') ?_ a (by omega)
    ⟨rfl, a, b - 1, L, rfl, rfl, rfl, by omega, by omega, by omega, .refl, hB, .refl⟩
  rintro m hm _ _ _ H1 ⟨rfl, i, j, L1, rfl, rfl, rfl, hai, hib, hjb, hbut, hB1, hmv⟩
  intros
  have hlen1 : L1.length = n := by rw [hmv.len, hn]
  rw [wb91_0]
  simp only [binV_lss, bd_some, ifB_bool, decide_eq_true_eq, Int.ofNat_lt]
  split
  · rename_i hlt
    obtain ⟨H3, s1, H4, s2, hB4, hbut4⟩ := hB1.swap (i := i) (j := j) (by omega) (by omega)
    simp only [iadrP (show i < n by omega), iadrP (show j < n by omega), bd_some, hB1.ld (show i < L1.length by omega), hB1.ld (show j < L1.length by omega), s1, s2, true_and, binV_add, binV_sub, wi (show (i : Int) + 1 = ((i + 1 : Nat) : Int) by omega) (by omega), wi (show (j : Int) - 1 = ((j - 1 : Nat) : Int) by omega) (by omega), upQ_n, Sb91_0_eq]
    exact ⟨i + 1, by omega, by omega, i + 1, j - 1, _, rfl, rfl, rfl, by omega, by omega, by omega, hbut.trans hbut4, hB4, hmv.trans (.swap (by omega) hai (by omega) (by omega) hjb)⟩
  · simp only [upQ_e, blockQ_e, if_true, ret91n]
    exact h _ _ _ hbut hB1 hmv
end Go.Proofs.Ytoommmeapdkopaa.E
namespace Go.Proofs.Ytoommmeapdkopaa.E
open Go Go.Eng

/-- the heap's order, from node lo on -/
def HP (lo hi f : Nat) (L : List IP) : Prop := ∀ r c, lo ≤ r → (c = 2 * r + 1 ∨ c = 2 * r + 2) → c < hi → ltE (gt' L (f + r)) (gt' L (f + c)) = false
/-- the same, but for one node, over which its parent reaches -/
def HPx (lo hi f root : Nat) (L : List IP) : Prop := (∀ r c, lo ≤ r → r ≠ root → (c = 2 * r + 1 ∨ c = 2 * r + 2) → c < hi → ltE (gt' L (f + r)) (gt' L (f + c)) = false) ∧
  ∀ p c, lo ≤ p → (root = 2 * p + 1 ∨ root = 2 * p + 2) → (c = 2 * root + 1 ∨ c = 2 * root + 2) → c < hi → ltE (gt' L (f + p)) (gt' L (f + c)) = false
def ISift (H : Heap) (L : List IP) (id n lo hi f : Nat) (r : Nat) (c0 c2 c3 c4 c10 : V) (H1 : Heap) : Prop :=
  c0 = .sl id 0 n n 2 ∧ c2 = .int .i64 hi ∧ c3 = .int .i64 f ∧ c4 = .fn 73 [] ∧ c10 = .int .i64 r ∧ lo ≤ r ∧ ∃ L', But id H H1 ∧ BlkP H1 id L' ∧ Mv f (f + hi) L L' ∧ HPx lo hi f r L'

theorem lp_sift {H : Heap} {id n : Nat} {L : List IP} (hn : L.length = n) (hn' : n ≤ 1000000) {lo hi f : Nat} (hf : f + hi ≤ n) {k : V → Heap → Prop}
    (h : ∀ r H' L', But id H H' → BlkP H' id L' → Mv f (f + hi) L L' → HP lo hi f L' → k r H')
    {r c : Nat} {H1 : Heap} {L1 : List IP} (hlo : lo ≤ r) (hbut : But id H H1) (hB1 : BlkP H1 id L1) (hmv : Mv f (f + hi) L L1) (hx : HPx lo hi f r L1)
    (hc : c = 2 * r + 1 ∨ c = 2 * r + 2) (hchi : c < hi) (hmax : ∀ c', (c' = 2 * r + 1 ∨ c' = 2 * r + 2) → c' < hi → ltE (gt' L1 (f + c)) (gt' L1 (f + c')) = false) :
    Wr98_1 (.sl id 0 n n 2) (.int .i64 hi) (.int .i64 f) (.fn 73 []) (.int .i64 r) (.int .i64 c) H1 (blockQ 1 (upQ (hi + lo) (Sb98_0 (ISift H L id n lo hi f)) r (blockQ 0 (retQ i98 k)))) := by
  unfold Wr98_1
  intros
  have hlen1 : L1.length = n := by rw [hmv.len, hn]
  rw [wr98_1]
  simp only [binV_add, bd_some, wi (show (f : Int) + (r : Int) = ((f + r : Nat) : Int) by omega) (by omega), wi (show (f : Int) + (c : Int) = ((f + c : Nat) : Int) by omega) (by omega), iadrP (show f + r < n by omega), iadrP (show f + c < n by omega), hB1.ld (show f + r < L1.length by omega), hB1.ld (show f + c < L1.length by omega), callV_fn, Bool.true_or, true_and]
  refine call_ordE ?_
  simp only [binV_lss, bd_some, ltE_lt, unV_not, ifB_bool]
  cases hl : ltE (gt' L1 (f + r)) (gt' L1 (f + c))
  · simp only [Bool.not_false, if_true, blockQ_r, upQ_r, ret98]
    refine h _ _ _ hbut hB1 hmv fun r' c' q1 q2 q3 => ?_
    by_cases e : r' = r
    · subst e; exact loE.le_trans (hmax c' q2 q3) hl
    · exact hx.1 r' c' q1 e q2 q3
  · obtain ⟨H3, s1, H4, s2, hB4, hbut4⟩ := hB1.swap (i := f + r) (j := f + c) (by omega) (by omega)
    simp only [Bool.not_true, Bool.false_eq_true, if_false, binV_add, bd_some, wi (show (f : Int) + (r : Int) = ((f + r : Nat) : Int) by omega) (by omega), wi (show (f : Int) + (c : Int) = ((f + c : Nat) : Int) by omega) (by omega), iadrP (show f + r < n by omega), iadrP (show f + c < n by omega), hB1.ld (show f + r < L1.length by omega), hB1.ld (show f + c < L1.length by omega), s1, s2, true_and, blockQ_n, upQ_n, Sb98_0_eq]
    have hr2 : f + r < L1.length := by omega
    have hc2 : f + c < L1.length := by omega
    have hle : ltE (gt' L1 (f + c)) (gt' L1 (f + r)) = false := loE.asym hl
    refine ⟨c, by omega, by omega, rfl, rfl, rfl, rfl, rfl, by omega, _, hbut.trans hbut4, hB4, hmv.trans (.swap (by omega) (by omega) (by omega) (by omega) (by omega)), fun r' c' q1 q2 q3 q4 => ?_, fun p c' q1 q2 q3 q4 => ?_⟩
    · rw [gt_swp hr2 hc2, gt_swp hr2 hc2, if_neg (show ¬ f + r' = f + c by omega)]
      by_cases e : r' = r
      · rw [if_pos (by omega)]
        by_cases e2 : c' = c
        · rw [if_pos (by omega)]; exact hle
        · rw [if_neg (by omega), if_neg (by omega)]; exact hmax c' (by omega) q4
      · rw [if_neg (by omega)]
        by_cases e2 : c' = r
        · rw [if_neg (by omega), if_pos (by omega)]
          exact hx.2 r' c q1 (by omega) hc hchi
        · rw [if_neg (by omega), if_neg (by omega)]
          exact hx.1 r' c' q1 e q3 q4
    · have : p = r := by omega
      subst this
      rw [gt_swp hr2 hc2, gt_swp hr2 hc2, if_neg (show ¬ f + p = f + c by omega), if_pos rfl, if_neg (by omega), if_neg (by omega)]
      exact hx.1 c c' (by omega) (by omega) q3 q4

theorem c98 {H : Heap} {id n : Nat} {L : List IP} (hB : BlkP H id L) (hn : L.length = n) (hn' : n ≤ 1000000) {lo hi f : Nat} (hf : f + hi ≤ n) (hlo : lo ≤ n) (hp : HP (lo + 1) hi f L) {k : V → Heap → Prop}
    (h : ∀ r H' L', But id H H' → BlkP H' id L' → Mv f (f + hi) L L' → HP lo hi f L' → k r H') : Cl G 98 [.sl id 0 n n 2, .int .i64 lo, .int .i64 hi, .int .i64 f, .fn 73 []] H k := by
  refine Cl.inline (F := i98) rfl rfl ?_
  rw [w98]
  refine ub98_0 (hi + lo) (ISift H L id n lo hi f) ?_ lo (by omega)
    ⟨rfl, rfl, rfl, rfl, rfl, Nat.le_refl _, L, .refl, hB, .refl, fun r c q1 q2 q3 q4 => hp r c (by omega) q3 q4, fun p c q1 q2 => by omega⟩
  rintro r hr _ _ _ _ _ H1 ⟨rfl, rfl, rfl, rfl, rfl, hlr, L1, hbut, hB1, hmv, hx⟩
  intros
  have hlen1 : L1.length = n := by rw [hmv.len, hn]
  rw [wb98_0]
  simp only [binV_mul, bd_some, wi (show 2 * (r : Int) = ((2 * r : Nat) : Int) by omega) (by omega), binV_add, wi (show ((2 * r : Nat) : Int) + 1 = ((2 * r + 1 : Nat) : Int) by omega) (by omega), binV_geq, ifB_bool, ge_iff_le, Int.ofNat_le, decide_eq_true_eq]
  split
  · simp only [upQ_e, blockQ_e, if_true, ret98n]
    refine h _ _ _ hbut hB1 hmv fun r' c' q1 q2 q3 => ?_
    by_cases e : r' = r
    · omega
    · exact hx.1 r' c' q1 e q2 q3
  · rename_i hge
    have hrn : 2 * r + 1 < n := by omega
    simp only [wi (show ((2 * r + 1 : Nat) : Int) + 1 = ((2 * r + 2 : Nat) : Int) by omega) (by omega), binV_lss, bd_some, gdV_bool, Int.ofNat_lt]
    by_cases h2 : 2 * r + 2 < hi
    case neg =>
      simp only [h2, decide_false, show (false == true) = false from rfl, wpg_false, pickV_bool, Bool.false_eq_true, if_false, bd_some, ifB_bool]
      exact lp_sift hn hn' hf h hlr hbut hB1 hmv hx (.inl rfl) (by omega) (fun c' q1 q2 => by rw [show c' = 2 * r + 1 by omega]; exact loE.irr _) ..
    simp only [h2, decide_true, beq_self_eq_true, wpg_true, wi (show (f : Int) + ((2 * r + 1 : Nat) : Int) = ((f + (2 * r + 1) : Nat) : Int) by omega) (by omega), iadrP (show f + (2 * r + 1) < n by omega), bd_some, hB1.ld (show f + (2 * r + 1) < L1.length by omega), wi (show ((f + (2 * r + 1) : Nat) : Int) + 1 = ((f + (2 * r + 2) : Nat) : Int) by omega) (by omega), iadrP (show f + (2 * r + 2) < n by omega), hB1.ld (show f + (2 * r + 2) < L1.length by omega), callV_fn, Bool.true_or, true_and, binV_add]
    refine call_ordE ?_
    simp only [binV_lss, bd_some, ltE_lt, pickV_bool, if_true, ifB_bool]
    cases hl : ltE (gt' L1 (f + (2 * r + 1))) (gt' L1 (f + (2 * r + 2)))
    · simp only [Bool.false_eq_true, if_false]
      exact lp_sift hn hn' hf h hlr hbut hB1 hmv hx (.inl rfl) (by omega) (fun c' q1 q2 => by
        rcases q1 with rfl | rfl
        · exact loE.irr _
        · exact hl) ..
    · simp only [if_true, binV_add, bd_some, wi (show ((2 * r + 1 : Nat) : Int) + 1 = ((2 * r + 2 : Nat) : Int) by omega) (by omega)]
      exact lp_sift hn hn' hf h hlr hbut hB1 hmv hx (.inr rfl) (by omega) (fun c' q1 q2 => by
        rcases q1 with rfl | rfl
        · exact loE.asym hl
        · exact loE.irr _) ..

theorem HP.top {hi f : Nat} {L : List IP} (h : HP 0 hi f L) : ∀ m i, i ≤ m → i < hi → ltE (gt' L f) (gt' L (f + i)) = false := by
  intro m
  induction m with
  | zero => intro i h1 h2; rw [show f + i = f by omega]; exact loE.irr _
  | succ m ih =>
    intro i h1 h2
    by_cases e : i = 0
    · rw [e]; exact loE.irr _
    · have := h ((i - 1) / 2) i (Nat.zero_le _) (by omega) h2
      exact loE.le_trans this (ih ((i - 1) / 2) (by omega) (by omega))

theorem c88 {H : Heap} {id n : Nat} {L : List IP} (hB : BlkP H id L) (hn : L.length = n) (hn' : n ≤ 1000000) {a b : Nat} (hab : a < b) (hb : b ≤ n) {k : V → Heap → Prop}
    (h : ∀ r H' L', But id H H' → BlkP H' id L' → Mv a b L L' → Srt ltE a b L' → k r H') : Cl G 88 [.sl id 0 n n 2, .int .i64 a, .int .i64 b, .fn 73 []] H k := by
  refine Cl.inline (F := i88) rfl rfl ?_
  rw [w88]
  have q : binV .quo (.int .i64 ((b - a - 1 : Nat) : Int)) (.int .i64 2) = some (.int .i64 (((b - a - 1) / 2 : Nat) : Int)) := by
    simp only [binV, if_true]
    rw [if_neg (by decide), Int.tdiv_eq_ediv_of_nonneg (by omega), wi (n := (b - a - 1) / 2) (by omega) (by omega)]
  simp only [binV_sub, bd_some, wi (show (b : Int) - (a : Int) = ((b - a : Nat) : Int) by omega) (by omega), wi (show ((b - a : Nat) : Int) - 1 = ((b - a - 1 : Nat) : Int) by omega) (by omega), q]
  refine ub88_0 ((b - a - 1) / 2 + 1) (fun m c0 c3 c8 c9 c10 c11 H1 => c0 = .sl id 0 n n 2 ∧ c3 = .fn 73 [] ∧ c8 = .int .i64 a ∧ c9 = .int .i64 (0 : Nat) ∧ c10 = .int .i64 (b - a : Nat) ∧ ∃ (i : Int) (L' : List IP), c11 = .int .i64 i ∧ i + m = ((b - a - 1) / 2 : Nat) ∧ But id H H1 ∧ BlkP H1 id L' ∧ Mv a b L L' ∧ HP (i + 1).toNat (b - a) a L') ?_ 0 (Nat.zero_le _)
    ⟨rfl, rfl, rfl, rfl, rfl, _, L, rfl, by simp, .refl, hB, .refl, fun r c q1 q2 q3 => by omega⟩
  rintro m hm _ _ _ _ _ _ H1 ⟨rfl, rfl, rfl, rfl, rfl, i, L1, rfl, him, hbut, hB1, hmv, hp⟩
  intros
  have hlen1 : L1.length = n := by rw [hmv.len, hn]
  rw [wb88_0]
  simp only [binV_geq, bd_some, ifB_bool, ge_iff_le, decide_eq_true_eq]
  split
  · rename_i hi0
    simp only [Bool.true_or, true_and]
    have ei : i = (i.toNat : Int) := by omega
    rw [ei]
    refine c98 (L := L1) hB1 hlen1 hn' (lo := i.toNat) (hi := b - a) (f := a) (by omega) (by omega) (by rw [show (i + 1).toNat = i.toNat + 1 by omega] at hp; exact hp) fun r H2 L2 hbut2 hB2 hmv2 hp2 => ?_
    simp only [binV_sub, bd_some, wz (show -9223372036854775808 ≤ (i.toNat : Int) - 1 by omega) (show (i.toNat : Int) - 1 ≤ 9223372036854775807 by omega), upQ_n, Sb88_0_eq, true_and]
    exact ⟨m + 1, by omega, by omega, _, L2, rfl, by omega, hbut.trans hbut2, hB2, hmv.trans (hmv2.mono (Nat.le_refl _) (by omega)), by rw [show ((i.toNat : Int) - 1 + 1).toNat = i.toNat by omega]; exact hp2⟩
  · rename_i hi0
    have hp0 : HP 0 (b - a) a L1 := by rw [show (i + 1).toNat = 0 by omega] at hp; exact hp
    simp only [upQ_e, blockQ_e, if_true, seqQ_n, wr88_1, binV_sub, bd_some, wi (show ((b - a : Nat) : Int) - 1 = ((b - a - 1 : Nat) : Int) by omega) (by omega)]
    refine ub88_2 (b - a) (fun m c0 c3 c8 c9 c12 H1 => c0 = .sl id 0 n n 2 ∧ c3 = .fn 73 [] ∧ c8 = .int .i64 a ∧ c9 = .int .i64 (0 : Nat) ∧ ∃ (i : Int) (L' : List IP), c12 = .int .i64 i ∧ i + m = (b - a - 1 : Nat) ∧ But id H H1 ∧ BlkP H1 id L' ∧ Mv a b L L' ∧ HP 0 (i + 1).toNat a L' ∧ Srt ltE (a + (i + 1).toNat) b L' ∧ ∀ p q, a ≤ p → p < a + (i + 1).toNat → a + (i + 1).toNat ≤ q → q < b → ltE (gt' L' q) (gt' L' p) = false) ?_ 0 (Nat.zero_le _)
      ⟨rfl, rfl, rfl, rfl, _, L1, rfl, by simp, hbut, hB1, hmv, by rw [show (((b - a - 1 : Nat) : Int) + 1).toNat = b - a by omega]; exact hp0, .small (by omega), fun p q h1 h2 h3 h4 => by omega⟩
    clear hp hp0 him hi0 hB1 hmv hlen1 hbut
    rintro m hm _ _ _ _ _ H1 ⟨rfl, rfl, rfl, rfl, i, L1, rfl, him, hbut, hB1, hmv, hp, hs, hsep⟩
    intros
    have hlen1 : L1.length = n := by rw [hmv.len, hn]
    rw [wb88_2]
    simp only [binV_geq, bd_some, ifB_bool, ge_iff_le, decide_eq_true_eq]
    split
    · rename_i hi0
      obtain ⟨j, rfl⟩ : ∃ j : Nat, i = j := ⟨i.toNat, by omega⟩
      have ej : ((j : Int) + 1).toNat = j + 1 := by omega
      rw [ej] at hp hs hsep
      have hi2 : a < L1.length := by omega
      have hj2 : a + j < L1.length := by omega
      obtain ⟨H3, s1, H4, s2, hB4, hbut4⟩ := hB1.swap (i := a) (j := a + j) hi2 hj2
      simp only [binV_add, bd_some, wi (show (a : Int) + (j : Int) = ((a + j : Nat) : Int) by omega) (by omega), iadrP (show a < n by omega), iadrP (show a + j < n by omega), hB1.ld hi2, hB1.ld hj2, s1, s2, true_and, Bool.true_or]
      refine c98 hB4 (by rw [swp_len]; exact hlen1) hn' (lo := 0) (hi := j) (f := a) (by omega) (by omega) (fun r c q1 q2 q3 => ?_) fun r H2 L2 hbut2 hB2 hmv2 hp2 => ?_
      · rw [gt_swp hi2 hj2, gt_swp hi2 hj2, if_neg (by omega), if_neg (by omega), if_neg (by omega), if_neg (by omega)]
        exact hp r c (by omega) q2 (by omega)
      · simp only [binV_sub, bd_some, wz (show -9223372036854775808 ≤ (j : Int) - 1 by omega) (show (j : Int) - 1 ≤ 9223372036854775807 by omega), upQ_n, Sb88_2_eq, true_and]
        have e2 : ((j : Int) - 1 + 1).toNat = j := by omega
        -- what stands behind: as it was, and the greatest ahead of it
        have beyond : ∀ q, a + j ≤ q → gt' L2 q = gt' (swp L1 a (a + j)) q := fun q hq => hmv2.out q (.inr hq)
        have last : gt' L2 (a + j) = gt' L1 a := by rw [beyond _ (Nat.le_refl _), gt_swp hi2 hj2, if_pos rfl]
        have rest : ∀ q, a + j < q → gt' L2 q = gt' L1 q := fun q hq => by rw [beyond q (by omega), gt_swp hi2 hj2, if_neg (by omega), if_neg (by omega)]
        have head : ∀ p, a ≤ p → p < a + j → ∃ m', a ≤ m' ∧ m' ≤ a + j ∧ gt' L2 p = gt' L1 m' := fun p p1 p2 => by
          obtain ⟨m', m1, m2, m3⟩ := hmv2.into p p1 p2
          rw [gt_swp hi2 hj2, if_neg (by omega)] at m3
          by_cases e : m' = a
          · rw [if_pos e] at m3; exact ⟨a + j, by omega, by omega, m3⟩
          · rw [if_neg e] at m3; exact ⟨m', m1, by omega, m3⟩
        refine ⟨m + 1, by omega, by omega, _, L2, rfl, by omega, (hbut.trans hbut4).trans hbut2, hB2, (hmv.trans (.swap (by omega) (Nat.le_refl _) (by omega) (by omega) (by omega))).trans (hmv2.mono (Nat.le_refl _) (by omega)), by rw [e2]; exact hp2, ?_, ?_⟩
        · rw [e2]
          intro p q h1 h2 h3
          rw [rest q (by omega)]
          by_cases e : p = a + j
          · rw [e, last]; exact hsep a q (Nat.le_refl _) (by omega) (by omega) h3
          · rw [rest p (by omega)]; exact hs p q (by omega) h2 h3
        · rw [e2]
          intro p q h1 h2 h3 h4
          obtain ⟨m', m1, m2, m3⟩ := head p h1 h2
          rw [m3]
          by_cases e : q = a + j
          · rw [e, last]
            have := HP.top hp (m' - a) (m' - a) (Nat.le_refl _) (by omega)
            rwa [show a + (m' - a) = m' by omega] at this
          · rw [rest q (by omega)]; exact hsep m' q m1 (by omega) (by omega) h4
    · rename_i hi0
      rw [show (i + 1).toNat = 0 by omega] at hs
      simp only [upQ_e, blockQ_e, if_true, ret88n]
      exact h _ _ _ hbut hB1 hmv hs
end Go.Proofs.Ytoommmeapdkopaa.E
namespace Go.Proofs.Ytoommmeapdkopaa.E
open Go Go.Eng

/-- what a partition has found: less than the first, and not less -/
def PInv (a b i j : Nat) (L : List IP) : Prop := a + 1 ≤ i ∧ i ≤ j + 1 ∧ j < b ∧ (∀ m, a + 1 ≤ m → m < i → ltE (gt' L m) (gt' L a) = true) ∧ ∀ m, j < m → m < b → ltE (gt' L m) (gt' L a) = false
/-- where a partition ends -/
def PEnd (a b j : Nat) (L : List IP) : Prop := a ≤ j ∧ j < b ∧ (∀ m, a ≤ m → m < j → ltE (gt' L m) (gt' L j) = true) ∧ ∀ m, j < m → m < b → ltE (gt' L m) (gt' L j) = false

theorem PInv.fin {a b i j : Nat} {L : List IP} (h : PInv a b i j L) (hji : j < i) (hb : b ≤ L.length) : PEnd a b j (swp L j a) := by
  obtain ⟨h1, h2, h3, h4, h5⟩ := h
  have hj : j < L.length := by omega
  have ha : a < L.length := by omega
  have e1 : gt' (swp L j a) j = gt' L a := by
    rw [gt_swp hj ha]
    by_cases e : j = a
    · rw [if_pos e, e]
    · rw [if_neg e, if_pos rfl]
  refine ⟨by omega, h3, fun m m1 m2 => ?_, fun m m1 m2 => ?_⟩
  · rw [e1, gt_swp hj ha]
    by_cases e : m = a
    · rw [if_pos e]; exact h4 j (by omega) (by omega)
    · rw [if_neg e, if_neg (by omega)]; exact h4 m (by omega) (by omega)
  · rw [e1, gt_swp hj ha, if_neg (by omega), if_neg (by omega)]; exact h5 m m1 m2
theorem PInv.step {a b i j : Nat} {L : List IP} (h : PInv a b i j L) (hij : i < j) (hb : b ≤ L.length) (li : ltE (gt' L i) (gt' L a) = false) (lj : ltE (gt' L j) (gt' L a) = true) : PInv a b (i + 1) (j - 1) (swp L i j) := by
  obtain ⟨h1, h2, h3, h4, h5⟩ := h
  have hi : i < L.length := by omega
  have hj : j < L.length := by omega
  have e1 : gt' (swp L i j) a = gt' L a := by rw [gt_swp hi hj, if_neg (by omega), if_neg (by omega)]
  refine ⟨by omega, by omega, by omega, fun m m1 m2 => ?_, fun m m1 m2 => ?_⟩
  · rw [e1, gt_swp hi hj, if_neg (by omega)]
    by_cases e : m = i
    · rw [if_pos e]; exact lj
    · rw [if_neg e]; exact h4 m m1 (by omega)
  · rw [e1, gt_swp hi hj]
    by_cases e : m = j
    · rw [if_pos e]; exact li
    · rw [if_neg e, if_neg (by omega)]; exact h5 m (by omega) m2

section
variable {H : Heap} {id n : Nat} {L : List IP} {a b : Nat} {k : V → Heap → Prop}
/-- what is known on the way -/
structure PK (H : Heap) (id n : Nat) (L : List IP) (a b : Nat) (i j : Nat) (H1 : Heap) (L1 : List IP) : Prop where
  but : But id H H1
  blk : BlkP H1 id L1
  mv : Mv a b L L1
  inv : PInv a b i j L1

abbrev PRes (H : Heap) (id : Nat) (L : List IP) (a b : Nat) (k : V → Heap → Prop) : Prop := ∀ (j : Nat) f H' L', But id H H' → BlkP H' id L' → Mv a b L L' → PEnd a b j L' → k (.tup [.int .i64 j, .bool f]) H'

theorem part9 (hn : L.length = n) (hn' : n ≤ 1000000) (hb : b ≤ n) (h : PRes H id L a b k) {i j : Nat} {H1 : Heap} {L1 : List IP} (p : PK H id n L a b i j H1 L1) (hji : j < i) :
    Wr94_9 (.sl id 0 n n 2) (.int .i64 a) (.int .i64 j) H1 (retQ i94 k) := by
  unfold Wr94_9
  intros
  have hl : L1.length = n := by rw [p.mv.len, hn]
  have hv := p.inv
  obtain ⟨h1, h2, h3, h4, h5⟩ := p.inv
  rw [wr94_9]
  obtain ⟨H3, s1, H4, s2, hB4, hbut4⟩ := p.blk.swap (i := j) (j := a) (by omega) (by omega)
  simp only [iadrP (show a < n by omega), iadrP (show j < n by omega), bd_some, p.blk.ld (show a < L1.length by omega), p.blk.ld (show j < L1.length by omega), s1, s2, true_and, ret94]
  exact h _ _ _ _ (p.but.trans hbut4) hB4 (p.mv.trans (.swap (by omega) (by omega) (by omega) (by omega) (by omega))) (hv.fin hji (by omega))

abbrev I4 (H : Heap) (id n : Nat) (L : List IP) (a b : Nat) : Nat → V → V → V → V → V → Heap → Prop := fun m c0 c1 c4 c12 c13 H1 => c0 = .sl id 0 n n 2 ∧ c1 = .int .i64 a ∧ c4 = .fn 73 [] ∧ c12 = .int .i64 m ∧ ∃ (j : Nat) (L1 : List IP), c13 = .int .i64 j ∧ PK H id n L a b m j H1 L1

theorem part8 (hn : L.length = n) (hn' : n ≤ 1000000) (hb : b ≤ n) (h : PRes H id L a b k) {i j num : Nat} {H1 : Heap} {L1 : List IP} (p : PK H id n L a b i j H1 L1) (hnum : num ≤ i) (si : j < i ∨ ltE (gt' L1 i) (gt' L1 a) = false) (sj : j < i ∨ ltE (gt' L1 j) (gt' L1 a) = true) :
    Wr94_8 (.sl id 0 n n 2) (.int .i64 a) (.fn 73 []) (.int .i64 i) (.int .i64 j) H1 (blockQ 5 (upQ n (Sb94_4 (I4 H id n L a b)) num (blockQ 4 (seqQ G r94_9 (retQ i94 k))))) := by
  unfold Wr94_8
  intros
  have hl : L1.length = n := by rw [p.mv.len, hn]
  have hv := p.inv
  obtain ⟨h1, h2, h3, h4, h5⟩ := p.inv
  rw [wr94_8]
  simp only [binV_gtr, bd_some, gt_iff_lt, Int.ofNat_lt, ifB_bool, decide_eq_true_eq]
  split
  · rename_i hji
    simp only [blockQ_e, show ((4 : Nat) = 5) = False by simp, if_false, upQ_e, if_true, seqQ_n]
    exact part9 hn hn' hb h p hji ..
  · rename_i hji
    have ti := si.resolve_left hji
    have tj := sj.resolve_left hji
    have hlt : i < j := by
      rcases Nat.lt_or_ge i j with h | h
      · exact h
      · have : i = j := by omega
        rw [← this, ti] at tj; cases tj
    obtain ⟨H3, s1, H4, s2, hB4, hbut4⟩ := p.blk.swap (i := i) (j := j) (by omega) (by omega)
    simp only [iadrP (show i < n by omega), iadrP (show j < n by omega), bd_some, p.blk.ld (show i < L1.length by omega), p.blk.ld (show j < L1.length by omega), s1, s2, true_and, binV_add, binV_sub, wi (show (i : Int) + 1 = ((i + 1 : Nat) : Int) by omega) (by omega), wi (show (j : Int) - 1 = ((j - 1 : Nat) : Int) by omega) (by omega), blockQ_n, upQ_n, Sb94_4_eq]
    exact ⟨i + 1, by omega, by omega, rfl, rfl, rfl, rfl, j - 1, _, rfl, p.but.trans hbut4, hB4, p.mv.trans (.swap (by omega) (by omega) (by omega) (by omega) (by omega)), hv.step hlt (by omega) ti tj⟩

theorem part6 (hn : L.length = n) (hn' : n ≤ 1000000) (hb : b ≤ n) (h : PRes H id L a b k) {num : Nat} {i j : Nat} {H1 : Heap} {L1 : List IP} (p : PK H id n L a b i j H1 L1) (hnum : num ≤ i) (si : j < i ∨ ltE (gt' L1 i) (gt' L1 a) = false) :
    Wr94_6 (.sl id 0 n n 2) (.int .i64 a) (.fn 73 []) (.int .i64 i) (.int .i64 j) H1 (blockQ 5 (upQ n (Sb94_4 (I4 H id n L a b)) num (blockQ 4 (seqQ G r94_9 (retQ i94 k))))) := by
  unfold Wr94_6
  intros
  rw [wr94_6]
  refine ub94_7 b (fun m c0 c1 c4 c12 c13 H2 => c0 = .sl id 0 n n 2 ∧ c1 = .int .i64 a ∧ c4 = .fn 73 [] ∧ c12 = .int .i64 i ∧ ∃ (j : Nat), c13 = .int .i64 j ∧ j + m = b ∧ PK H id n L a b i j H2 L1 ∧ (j < i ∨ ltE (gt' L1 i) (gt' L1 a) = false)) ?_ (b - j) (by omega)
    ⟨rfl, rfl, rfl, rfl, j, rfl, by have := p.inv.2.2.1; omega, p, si⟩
  clear si p j
  rintro m hm _ _ _ _ _ H2 ⟨rfl, rfl, rfl, rfl, j, rfl, hjm, p, si⟩
  intros
  have hl : L1.length = n := by rw [p.mv.len, hn]
  obtain ⟨h1, h2, h3, h4, h5⟩ := p.inv
  rw [wb94_7]
  by_cases hij : i ≤ j
  case neg =>
    simp only [binV_leq, bd_some, Int.ofNat_le, hij, decide_false, gdV_bool, show (false == true) = false from rfl, wpg_false, pickV_bool, Bool.false_eq_true, if_false, ifB_bool, upQ_e, blockQ_e, if_true, seqQ_n]
    exact part8 hn hn' hb h p hnum si (.inl (by omega)) ..
  simp only [binV_leq, bd_some, Int.ofNat_le, hij, decide_true, gdV_bool, beq_self_eq_true, wpg_true, iadrP (show j < n by omega), iadrP (show a < n by omega), p.blk.ld (show j < L1.length by omega), p.blk.ld (show a < L1.length by omega), callV_fn, Bool.true_or, true_and]
  refine call_ordE ?_
  simp only [binV_lss, bd_some, ltE_lt, unV_not, pickV_bool, if_true, ifB_bool]
  cases hlj : ltE (gt' L1 j) (gt' L1 a)
  · simp only [Bool.not_false, if_true, binV_sub, bd_some, wi (show (j : Int) - 1 = ((j - 1 : Nat) : Int) by omega) (by omega), upQ_n, Sb94_7_eq, true_and]
    exact ⟨m + 1, by omega, by omega, j - 1, rfl, by omega, ⟨p.but, p.blk, p.mv, h1, by omega, by omega, h4, fun q q1 q2 => by
      by_cases e : q = j
      · rw [e]; exact hlj
      · exact h5 q (by omega) q2⟩, by rcases si with si | si; exact .inl (by omega); exact .inr si⟩
  · simp only [Bool.not_true, Bool.false_eq_true, if_false, upQ_e, blockQ_e, if_true, seqQ_n]
    exact part8 hn hn' hb h p hnum si (.inr hlj) ..

theorem part4 (hn : L.length = n) (hn' : n ≤ 1000000) (hb : b ≤ n) (h : PRes H id L a b k) {i j : Nat} {H1 : Heap} {L1 : List IP} (p : PK H id n L a b i j H1 L1) :
    Lb94_4 (.sl id 0 n n 2) (.int .i64 a) (.fn 73 []) (.int .i64 i) (.int .i64 j) H1 (blockQ 4 (seqQ G r94_9 (retQ i94 k))) := by
  unfold Lb94_4
  intros
  refine ub94_4 n (I4 H id n L a b) ?_ i (by have := p.inv; unfold PInv at this; omega) ⟨rfl, rfl, rfl, rfl, j, L1, rfl, p⟩
  clear p j i L1
  rintro num hi _ _ _ _ _ H1 ⟨rfl, rfl, rfl, rfl, j, L1, rfl, p⟩
  intros
  rw [wb94_4]
  have hnum : num ≤ num := Nat.le_refl _

  refine ub94_5 b (fun m c0 c1 c4 c12 c13 H2 => c0 = .sl id 0 n n 2 ∧ c1 = .int .i64 a ∧ c4 = .fn 73 [] ∧ c12 = .int .i64 m ∧ c13 = .int .i64 j ∧ num ≤ m ∧ PK H id n L a b m j H2 L1) ?_ num (by have := p.inv; unfold PInv at this; omega)
    ⟨rfl, rfl, rfl, rfl, rfl, hnum, p⟩
  clear p
  rintro i' hi' _ _ _ _ _ H2 ⟨rfl, rfl, rfl, rfl, rfl, hnum, p⟩
  intros
  have hl : L1.length = n := by rw [p.mv.len, hn]
  obtain ⟨h1, h2, h3, h4, h5⟩ := p.inv
  rw [wb94_5]
  by_cases hij : i' ≤ j
  case neg =>
    simp only [binV_leq, bd_some, Int.ofNat_le, hij, decide_false, gdV_bool, show (false == true) = false from rfl, wpg_false, pickV_bool, Bool.false_eq_true, if_false, ifB_bool, upQ_e, blockQ_e, if_true, seqQ_n]
    exact part6 hn hn' hb h p hnum (.inl (by omega)) ..
  simp only [binV_leq, bd_some, Int.ofNat_le, hij, decide_true, gdV_bool, beq_self_eq_true, wpg_true, iadrP (show i' < n by omega), iadrP (show a < n by omega), p.blk.ld (show i' < L1.length by omega), p.blk.ld (show a < L1.length by omega), callV_fn, Bool.true_or, true_and]
  refine call_ordE ?_
  simp only [binV_lss, bd_some, ltE_lt, pickV_bool, if_true, ifB_bool]
  cases hli : ltE (gt' L1 i') (gt' L1 a)
  · simp only [Bool.false_eq_true, if_false, upQ_e, blockQ_e, if_true, seqQ_n]
    exact part6 hn hn' hb h p hnum (.inr hli) ..
  · simp only [if_true, binV_add, bd_some, wi (show (i' : Int) + 1 = ((i' + 1 : Nat) : Int) by omega) (by omega), upQ_n, Sb94_5_eq, true_and]
    exact ⟨i' + 1, by omega, by omega, rfl, by omega, ⟨p.but, p.blk, p.mv, by omega, by omega, h3, fun q q1 q2 => by
      by_cases e : q = i'
      · rw [e]; exact hli
      · exact h4 q q1 (by omega), h5⟩⟩

theorem part3 (hn : L.length = n) (hn' : n ≤ 1000000) (hb : b ≤ n) (h : PRes H id L a b k) {i j : Nat} {H1 : Heap} {L1 : List IP} (p : PK H id n L a b i j H1 L1) (si : j < i ∨ ltE (gt' L1 i) (gt' L1 a) = false) (sj : j < i ∨ ltE (gt' L1 j) (gt' L1 a) = true) :
    Wr94_3 (.sl id 0 n n 2) (.int .i64 a) (.fn 73 []) (.int .i64 i) (.int .i64 j) H1 (retQ i94 k) := by
  unfold Wr94_3
  intros
  have hl : L1.length = n := by rw [p.mv.len, hn]
  have hv := p.inv
  obtain ⟨h1, h2, h3, h4, h5⟩ := p.inv
  rw [wr94_3]
  simp only [binV_gtr, bd_some, gt_iff_lt, Int.ofNat_lt, ifB_bool, decide_eq_true_eq]
  split
  · rename_i hji
    obtain ⟨H3, s1, H4, s2, hB4, hbut4⟩ := p.blk.swap (i := j) (j := a) (by omega) (by omega)
    simp only [iadrP (show a < n by omega), iadrP (show j < n by omega), bd_some, p.blk.ld (show a < L1.length by omega), p.blk.ld (show j < L1.length by omega), s1, s2, true_and, ret94]
    exact h _ _ _ _ (p.but.trans hbut4) hB4 (p.mv.trans (.swap (by omega) (by omega) (by omega) (by omega) (by omega))) (hv.fin hji (by omega))
  · rename_i hji
    have ti := si.resolve_left hji
    have tj := sj.resolve_left hji
    have hlt : i < j := by
      rcases Nat.lt_or_ge i j with h | h
      · exact h
      · have : i = j := by omega
        rw [← this, ti] at tj; cases tj
    obtain ⟨H3, s1, H4, s2, hB4, hbut4⟩ := p.blk.swap (i := i) (j := j) (by omega) (by omega)
    simp only [iadrP (show i < n by omega), iadrP (show j < n by omega), bd_some, p.blk.ld (show i < L1.length by omega), p.blk.ld (show j < L1.length by omega), s1, s2, true_and, binV_add, binV_sub, wi (show (i : Int) + 1 = ((i + 1 : Nat) : Int) by omega) (by omega), wi (show (j : Int) - 1 = ((j - 1 : Nat) : Int) by omega) (by omega)]
    exact part4 hn hn' hb h ⟨p.but.trans hbut4, hB4, p.mv.trans (.swap (by omega) (by omega) (by omega) (by omega) (by omega)), hv.step hlt (by omega) ti tj⟩ ..

theorem part1 (hn : L.length = n) (hn' : n ≤ 1000000) (hb : b ≤ n) (h : PRes H id L a b k) {i j : Nat} {H1 : Heap} {L1 : List IP} (p : PK H id n L a b i j H1 L1) (si : j < i ∨ ltE (gt' L1 i) (gt' L1 a) = false) :
    Wr94_1 (.sl id 0 n n 2) (.int .i64 a) (.fn 73 []) (.int .i64 i) (.int .i64 j) H1 (retQ i94 k) := by
  unfold Wr94_1
  intros
  rw [wr94_1]
  refine ub94_2 b (fun m c0 c1 c4 c12 c13 H2 => c0 = .sl id 0 n n 2 ∧ c1 = .int .i64 a ∧ c4 = .fn 73 [] ∧ c12 = .int .i64 i ∧ ∃ (j : Nat), c13 = .int .i64 j ∧ j + m = b ∧ PK H id n L a b i j H2 L1 ∧ (j < i ∨ ltE (gt' L1 i) (gt' L1 a) = false)) ?_ (b - j) (by omega)
    ⟨rfl, rfl, rfl, rfl, j, rfl, by have := p.inv.2.2.1; omega, p, si⟩
  clear si p j
  rintro m hm _ _ _ _ _ H2 ⟨rfl, rfl, rfl, rfl, j, rfl, hjm, p, si⟩
  intros
  have hl : L1.length = n := by rw [p.mv.len, hn]
  obtain ⟨h1, h2, h3, h4, h5⟩ := p.inv
  rw [wb94_2]
  by_cases hij : i ≤ j
  case neg =>
    simp only [binV_leq, bd_some, Int.ofNat_le, hij, decide_false, gdV_bool, show (false == true) = false from rfl, wpg_false, pickV_bool, Bool.false_eq_true, if_false, ifB_bool, upQ_e, blockQ_e, if_true, seqQ_n]
    exact part3 hn hn' hb h p si (.inl (by omega)) ..
  simp only [binV_leq, bd_some, Int.ofNat_le, hij, decide_true, gdV_bool, beq_self_eq_true, wpg_true, iadrP (show j < n by omega), iadrP (show a < n by omega), p.blk.ld (show j < L1.length by omega), p.blk.ld (show a < L1.length by omega), callV_fn, Bool.true_or, true_and]
  refine call_ordE ?_
  simp only [binV_lss, bd_some, ltE_lt, unV_not, pickV_bool, if_true, ifB_bool]
  cases hlj : ltE (gt' L1 j) (gt' L1 a)
  · simp only [Bool.not_false, if_true, binV_sub, bd_some, wi (show (j : Int) - 1 = ((j - 1 : Nat) : Int) by omega) (by omega), upQ_n, Sb94_2_eq, true_and]
    exact ⟨m + 1, by omega, by omega, j - 1, rfl, by omega, ⟨p.but, p.blk, p.mv, h1, by omega, by omega, h4, fun q q1 q2 => by
      by_cases e : q = j
      · rw [e]; exact hlj
      · exact h5 q (by omega) q2⟩, by rcases si with si | si; exact .inl (by omega); exact .inr si⟩
  · simp only [Bool.not_true, Bool.false_eq_true, if_false, upQ_e, blockQ_e, if_true, seqQ_n]
    exact part3 hn hn' hb h p si (.inr hlj) ..

theorem c94 (hB : BlkP H id L) (hn : L.length = n) (hn' : n ≤ 1000000) {v : Nat} (hav : a ≤ v) (hvb : v < b) (hb : b ≤ n) (h : PRes H id L a b k) :
    Cl G 94 [.sl id 0 n n 2, .int .i64 a, .int .i64 b, .int .i64 v, .fn 73 []] H k := by
  refine Cl.inline (F := i94) rfl rfl ?_
  rw [w94]
  obtain ⟨H3, s1, H4, s2, hB4, hbut4⟩ := hB.swap (i := a) (j := v) (by omega) (by omega)
  simp only [iadrP (show a < n by omega), iadrP (show v < n by omega), bd_some, hB.ld (show a < L.length by omega), hB.ld (show v < L.length by omega), s1, s2, true_and, binV_add, binV_sub, wi (show (a : Int) + 1 = ((a + 1 : Nat) : Int) by omega) (by omega), wi (show (b : Int) - 1 = ((b - 1 : Nat) : Int) by omega) (by omega)]
  generalize hi0 : a + 1 = i
  generalize hj0 : b - 1 = j
  generalize hL1 : swp L a v = L1 at hB4
  have p : PK H id n L a b i j H4 L1 := ⟨hbut4, hB4, by rw [← hL1]; exact .swap (by omega) (by omega) (by omega) (by omega) (by omega), by omega, by omega, by omega, fun m m1 m2 => by omega, fun m m1 m2 => by omega⟩
  clear hi0 hj0 hL1 hB4 hbut4 s1 s2

  refine ub94_0 b (fun m c0 c1 c4 c12 c13 H2 => c0 = .sl id 0 n n 2 ∧ c1 = .int .i64 a ∧ c4 = .fn 73 [] ∧ c12 = .int .i64 m ∧ c13 = .int .i64 j ∧ PK H id n L a b m j H2 L1) ?_ i (by have := p.inv; unfold PInv at this; omega)
    ⟨rfl, rfl, rfl, rfl, rfl, p⟩
  clear p
  rintro i' hi' _ _ _ _ _ H2 ⟨rfl, rfl, rfl, rfl, rfl, p⟩
  intros
  have hl : L1.length = n := by rw [p.mv.len, hn]
  obtain ⟨h1, h2, h3, h4, h5⟩ := p.inv
  rw [wb94_0]
  by_cases hij : i' ≤ j
  case neg =>
    simp only [binV_leq, bd_some, Int.ofNat_le, hij, decide_false, gdV_bool, show (false == true) = false from rfl, wpg_false, pickV_bool, Bool.false_eq_true, if_false, ifB_bool, upQ_e, blockQ_e, if_true, seqQ_n]
    exact part1 hn hn' hb h p (.inl (by omega)) ..
  simp only [binV_leq, bd_some, Int.ofNat_le, hij, decide_true, gdV_bool, beq_self_eq_true, wpg_true, iadrP (show i' < n by omega), iadrP (show a < n by omega), p.blk.ld (show i' < L1.length by omega), p.blk.ld (show a < L1.length by omega), callV_fn, Bool.true_or, true_and]
  refine call_ordE ?_
  simp only [binV_lss, bd_some, ltE_lt, pickV_bool, if_true, ifB_bool]
  cases hli : ltE (gt' L1 i') (gt' L1 a)
  · simp only [Bool.false_eq_true, if_false, upQ_e, blockQ_e, if_true, seqQ_n]
    exact part1 hn hn' hb h p (.inr hli) ..
  · simp only [if_true, binV_add, bd_some, wi (show (i' : Int) + 1 = ((i' + 1 : Nat) : Int) by omega) (by omega), upQ_n, Sb94_0_eq, true_and]
    exact ⟨i' + 1, by omega, by omega, rfl, ⟨p.but, p.blk, p.mv, by omega, by omega, h3, fun q q1 q2 => by
      by_cases e : q = i'
      · rw [e]; exact hli
      · exact h4 q q1 (by omega), h5⟩⟩
end
end Go.Proofs.Ytoommmeapdkopaa.E
namespace Go.Proofs.Ytoommmeapdkopaa.E
open Go Go.Eng

/-- the number of bits -/
def lenI (x : Nat) : Nat := if x = 0 then 0 else Nat.log2 x + 1
def lenChk (x : Nat) : Bool := match (evN G 8).call 84 [.int .u64 x] [] with | some (.int .i64 n, []) => n == (lenI x : Int) | _ => false
theorem lenAll : (List.range 128).all lenChk = true := by kernel_rfl
theorem len_pow' : ∀ x, x < 128 → 1 ≤ x → 2 ^ lenI x ≤ 2 * x ∧ lenI x ≤ 8 := by decide +kernel
theorem len_pow (x : Nat) (h : 1 ≤ x) (h' : x < 128) : 2 ^ lenI x ≤ 2 * x ∧ lenI x ≤ 8 := len_pow' x h' h
theorem wu {x : Int} (h0 : 0 ≤ x) (h1 : x < 18446744073709551616) : IntKind.u64.wrap x = x := by
  simp [IntKind.wrap, IntKind.signed, IntKind.bits]; omega
theorem anyheap {f : FuncId} {F : IFun} (hg : G.get f = some F) (hm : F.mode = 1) {args : List V} (hc : closedVs args = true) {n : Nat} {κ : IntKind} {x : Int} {H : Heap} (h : (evN G (n + 1)).call f args [] = some (.int κ x, [])) : (evN G (n + 1)).call f args H = some (.int κ x, H) := by
  simp only [evN, stepS, callS, hg, hm, Nat.one_ne_zero, if_false, hc, if_true, handV, Option.bind_eq_some_iff, Option.map_eq_some_iff] at h ⊢
  obtain ⟨r, h1, v, h2, h3⟩ := h
  cases h3
  exact ⟨r, h1, _, h2, rfl⟩
theorem c84 {x : Nat} (hx : x < 128) {H : Heap} {k : V → Heap → Prop} (h : k (.int .i64 (lenI x)) H) : Cl G 84 [.int .u64 x] H k := by
  have := List.all_eq_true.1 lenAll x (by simpa using hx)
  unfold lenChk at this
  split at this
  case h_2 => cases this
  rename_i n hn
  rw [beq_iff_eq.1 this] at hn
  exact ⟨8, _, _, anyheap (F := i84) rfl rfl (by simp) hn, h⟩

theorem c99 {x : Nat} (hx : x < 128) {H : Heap} {k : V → Heap → Prop} (h : k (.int .u64 (2 ^ lenI x : Nat)) H) : Cl G 99 [.int .i64 x] H k := by
  refine Cl.mode1 (F := i99) rfl rfl (by simp) ?_
  rw [w99]
  have w : IntKind.u64.wrap (x : Int) = x := by simp [IntKind.wrap, IntKind.signed, IntKind.bits]; omega
  simp only [convV, w, bd_some, Bool.true_or, true_and]
  refine c84 hx ?_
  have l8 : lenI x ≤ 8 := by
    by_cases e : x = 0
    · simp [lenI, e]
    · exact (len_pow x (by omega) hx).2
  have e : binV .shl (.int .u64 1) (.int .i64 (lenI x)) = some (.int .u64 (2 ^ lenI x : Nat)) := by
    have p : 2 ^ lenI x ≤ 2 ^ 8 := Nat.pow_le_pow_right (by omega) l8
    have n0 : ¬ ((lenI x : Int) < 0) := by omega
    have e1 : binV .shl (.int .u64 1) (.int .i64 (lenI x)) = some (.int .u64 (IntKind.u64.wrap (1 * 2 ^ (min (lenI x) 64)))) := by
      simp only [binV]
      rw [if_neg n0]
      rfl
    rw [e1, Nat.min_eq_left (by omega), Int.one_mul, show ((2 : Int) ^ lenI x) = ((2 ^ lenI x : Nat) : Int) by simp]
    have hw : IntKind.u64.wrap ((2 ^ lenI x : Nat) : Int) = ((2 ^ lenI x : Nat) : Int) := by
      generalize 2 ^ lenI x = t at p
      exact wu (by omega) (by omega)
    rw [hw]
  simp only [e, bd_some, hq_int]
  exact h

/-- the box of a number -/
def BoxN (H : Heap) (p : Nat) (κ : IntKind) : Prop := ∃ c : Int, H[p]? = some (.cells [.int κ c])
theorem BoxN.ld {H : Heap} {p : Nat} {κ : IntKind} {c : Int} (h : H[p]? = some (.cells [.int κ c])) : ldV H (.ptr p 0) 1 false = some (.int κ c) := ldV_own h rfl
theorem BoxN.st {H : Heap} {p : Nat} {κ : IntKind} {c : Int} (h : H[p]? = some (.cells [.int κ c])) (x : Int) : stV H 1 (.ptr p 0) (.int κ x) = some (H.set p (.cells [.int κ x])) := stV_own h (by simp) rfl

theorem c100 {H : Heap} {p : Nat} (hp : BoxN H p .u64) {k : V → Heap → Prop} (h : ∀ x H', But p H H' → BoxN H' p .u64 → k (.int .u64 x) H') : Cl G 100 [.ptr p 0] H k := by
  obtain ⟨c, hc⟩ := hp
  refine Cl.inline (F := i100) rfl rfl ?_
  rw [w100]
  have lt := (List.getElem?_eq_some_iff.1 hc).1
  have shl : ∀ (y : Int) (s : Nat), ∃ z, binV .shl (.int .u64 y) (.int .u64 (s : Int)) = some (.int .u64 z) := fun y s => ⟨_, by simp only [binV]; rw [if_neg (by omega)]⟩
  have shr : ∀ (y : Int) (s : Nat), ∃ z, binV .shr (.int .u64 y) (.int .u64 (s : Int)) = some (.int .u64 z) := fun y s => ⟨_, by simp only [binV]; rw [if_neg (by omega)]⟩
  have xor : ∀ y z : Int, ∃ x, binV .xor (.int .u64 y) (.int .u64 z) = some (.int .u64 x) := fun y z => ⟨_, by simp only [binV, if_true]; rfl⟩
  obtain ⟨z1, e1⟩ := shl c 13
  obtain ⟨y1, f1⟩ := xor c z1
  obtain ⟨z2, e2⟩ := shr y1 7
  obtain ⟨y2, f2⟩ := xor y1 z2
  obtain ⟨z3, e3⟩ := shl y2 17
  obtain ⟨y3, f3⟩ := xor y2 z3
  have hc1 : (H.set p (.cells [.int .u64 y1]))[p]? = some (.cells [.int .u64 y1]) := by rw [List.getElem?_set]; simp [lt]
  have hc2 : ((H.set p (.cells [.int .u64 y1])).set p (.cells [.int .u64 y2]))[p]? = some (.cells [.int .u64 y2]) := by rw [List.getElem?_set]; simp [lt]
  have hc3 : (((H.set p (.cells [.int .u64 y1])).set p (.cells [.int .u64 y2])).set p (.cells [.int .u64 y3]))[p]? = some (.cells [.int .u64 y3]) := by rw [List.getElem?_set]; simp [lt]
  simp only [nilckV, bd_some, BoxN.ld hc, BoxN.st hc, BoxN.ld hc1, BoxN.st hc1, BoxN.ld hc2, BoxN.st hc2, BoxN.ld hc3, true_and] at e1 e2 e3 ⊢
  simp only [show ((13 : Nat) : Int) = 13 from rfl, show ((7 : Nat) : Int) = 7 from rfl, show ((17 : Nat) : Int) = 17 from rfl] at e1 e2 e3
  simp only [e1, f1, e2, f2, e3, f3, bd_some, BoxN.st hc, BoxN.ld hc1, BoxN.st hc1, BoxN.ld hc2, BoxN.st hc2, BoxN.ld hc3, true_and]
  exact h _ _ ((But.set.trans But.set).trans But.set) ⟨_, hc3⟩

theorem and_le {r : Int} {m : Nat} (hm : m < 2 ^ 63) : ∃ o : Nat, o ≤ m ∧ binV .and (.int .u64 r) (.int .u64 m) = some (.int .u64 o) := by
  refine ⟨(BitVec.ofInt 64 r &&& BitVec.ofInt 64 (m : Int)).toNat, ?_, ?_⟩
  · rw [BitVec.toNat_and]
    have : (BitVec.ofInt 64 (m : Int)).toNat = m := by simp; omega
    rw [this]
    exact Nat.and_le_right
  · have : (BitVec.ofInt 64 r &&& BitVec.ofInt 64 (m : Int)).toNat < 2 ^ 64 := BitVec.isLt _
    exact congrArg (fun z => some (V.int .u64 z)) (wu (x := ((BitVec.ofInt 64 r &&& BitVec.ofInt 64 (m : Int)).toNat : Int)) (by omega) (by omega))

def IBrk (H : Heap) (L : List IP) (id n a b p md lim : Nat) (m : Nat) (c0 c1 c8 c9 c10 c11 : V) (H1 : Heap) : Prop :=
  c0 = .sl id 0 n n 2 ∧ c1 = .int .i64 a ∧ c8 = .int .i64 (b - a : Nat) ∧ c9 = .ptr p 0 ∧ c10 = .int .u64 md ∧ c11 = .int .i64 m ∧ But id H H1 ∧ p ≠ id ∧ H.length ≤ p ∧ BoxN H1 p .u64 ∧ lim ≤ m ∧ ∃ L', BlkP H1 id L' ∧ Mv a b L L'

theorem lp_brk {H : Heap} {L : List IP} {id n a b p md : Nat} (hn : L.length = n) (hn' : n ≤ 1000000) (hl : a + 8 ≤ b) (hb : b ≤ n) {Q : Cont} {m o : Nat} {H1 : Heap} {L1 : List IP} (hm : m < b) (ham : a ≤ m) (ho : o < b - a) (hbut : But id H H1) (hp : p ≠ id) (hpl : H.length ≤ p) (hbox : BoxN H1 p .u64) (hB1 : BlkP H1 id L1) (hmv : Mv a b L L1) {M lim num : Nat} (hM : m + 1 ≤ M) (hnum : num ≤ m) (hlim : lim ≤ m) :
    Wr89_1 (.sl id 0 n n 2) (.int .i64 a) (.int .i64 (b - a : Nat)) (.ptr p 0) (.int .u64 md) (.int .i64 m) (.int .i64 o) H1 (blockQ 1 (seqQ G r89_2 (upQ M (Sb89_0 (IBrk H L id n a b p md lim)) num Q))) := by
  unfold Wr89_1
  intros
  have hlen1 : L1.length = n := by rw [hmv.len, hn]
  rw [wr89_1]
  obtain ⟨H3, s1, H4, s2, hB4, hbut4⟩ := hB1.swap (i := m) (j := a + o) (by omega) (by omega)
  simp only [binV_add, bd_some, wi (show (a : Int) + (o : Int) = ((a + o : Nat) : Int) by omega) (by omega), iadrP (show m < n by omega), iadrP (show a + o < n by omega), hB1.ld (show m < L1.length by omega), hB1.ld (show a + o < L1.length by omega), s1, s2, true_and, blockQ_n, seqQ_n, wr89_2, wi (show (m : Int) + 1 = ((m + 1 : Nat) : Int) by omega) (by omega), upQ_n, Sb89_0_eq]
  refine ⟨m + 1, by omega, hM, rfl, rfl, rfl, rfl, rfl, rfl, hbut.trans hbut4, hp, hpl, ?_, by omega, _, hB4, hmv.trans (.swap (by omega) (by omega) (by omega) (by omega) (by omega))⟩
  obtain ⟨c, hc⟩ := hbox
  exact ⟨c, by rw [hbut4.2 p (List.getElem?_eq_some_iff.1 hc).1 hp]; exact hc⟩

theorem c89 {H : Heap} {id n : Nat} {L : List IP} (hB : BlkP H id L) (hn : L.length = n) (hn' : n < 128) {a b : Nat} (hab : a + 8 ≤ b) (hb : b ≤ n) {k : V → Heap → Prop}
    (h : ∀ r H' L', But id H H' → BlkP H' id L' → Mv a b L L' → k r H') : Cl G 89 [.sl id 0 n n 2, .int .i64 a, .int .i64 b, .fn 73 []] H k := by
  refine Cl.inline (F := i89) rfl rfl ?_
  rw [w89]
  have q4 : binV .quo (.int .i64 ((b - a : Nat) : Int)) (.int .i64 4) = some (.int .i64 (((b - a) / 4 : Nat) : Int)) := by
    simp only [binV, if_true]
    rw [if_neg (by decide), Int.tdiv_eq_ediv_of_nonneg (by omega), wi (n := (b - a) / 4) (by omega) (by omega)]
  have w : IntKind.u64.wrap ((b - a : Nat) : Int) = ((b - a : Nat) : Int) := by simp [IntKind.wrap, IntKind.signed, IntKind.bits]; omega
  have ge8 : (8 : Int) ≤ ((b - a : Nat) : Int) := by omega
  have e1 : stV (H ++ [B.cells [.int .u64 0]]) 1 (.ptr H.length 0) (.int .u64 ((b - a : Nat) : Int)) = some ((H ++ [B.cells [.int .u64 0]]).set H.length (B.cells [.int .u64 ((b - a : Nat) : Int)])) := BoxN.st (c := 0) (by simp) _
  simp only [binV_sub, bd_some, wi (show (b : Int) - (a : Int) = ((b - a : Nat) : Int) by omega) (by omega), binV_geq, ge_iff_le, ge8, decide_true, ifB_bool, if_true, convV, w, newB, e1, true_and, Bool.true_or]
  refine c99 (x := b - a) (by omega) ?_
  obtain ⟨pw, _⟩ := len_pow (b - a) (by omega) (by omega)
  have ppos : 1 ≤ 2 ^ lenI (b - a) := Nat.one_le_two_pow
  generalize 2 ^ lenI (b - a) = md at pw ppos
  simp only [q4, bd_some, binV_mul, wi (show (((b - a) / 4 : Nat) : Int) * 2 = (((b - a) / 4 * 2 : Nat) : Int) by omega) (by omega), binV_add, wi (show (a : Int) + (((b - a) / 4 * 2 : Nat) : Int) = ((a + (b - a) / 4 * 2 : Nat) : Int) by omega) (by omega), binV_sub, wi (show ((a + (b - a) / 4 * 2 : Nat) : Int) - 1 = ((a + (b - a) / 4 * 2 - 1 : Nat) : Int) by omega) (by omega)]
  generalize hH1 : (H ++ [B.cells [.int .u64 0]]).set H.length (B.cells [.int .u64 ((b - a : Nat) : Int)]) = H1
  have hbut1 : But id H H1 := by
    rw [← hH1]
    refine ⟨by simp, fun j hj _ => ?_⟩
    rw [List.getElem?_set_ne (by omega), List.getElem?_append_left hj]
  have hbox1 : BoxN H1 H.length .u64 := ⟨((b - a : Nat) : Int), by rw [← hH1, List.getElem?_set]; simp⟩
  have hne : H.length ≠ id := by have := hB.lt; omega
  have hB1 : BlkP H1 id L := by unfold BlkP; rw [← hH1, List.getElem?_set_ne hne, List.getElem?_append_left hB.lt]; exact hB
  refine ub89_0 (a + (b - a) / 4 * 2 + 2) (IBrk H L id n a b H.length md (a + (b - a) / 4 * 2 - 1)) ?_ (a + (b - a) / 4 * 2 - 1) (by omega)
    ⟨rfl, rfl, rfl, rfl, rfl, rfl, hbut1, hne, Nat.le_refl _, hbox1, Nat.le_refl _, L, hB1, .refl⟩
  clear hB1 hbox1 hbut1 hH1 H1
  rintro m hm _ _ _ _ _ _ H1 ⟨rfl, rfl, rfl, rfl, rfl, rfl, hbut1, _, hpl, hbox1, hlim, L1, hB1, hmv⟩
  intros
  rw [wb89_0]
  simp only [q4, bd_some, binV_mul, wi (show (((b - a) / 4 : Nat) : Int) * 2 = (((b - a) / 4 * 2 : Nat) : Int) by omega) (by omega), binV_add, wi (show (a : Int) + (((b - a) / 4 * 2 : Nat) : Int) = ((a + (b - a) / 4 * 2 : Nat) : Int) by omega) (by omega), wi (show ((a + (b - a) / 4 * 2 : Nat) : Int) + 1 = ((a + (b - a) / 4 * 2 + 1 : Nat) : Int) by omega) (by omega), binV_leq, Int.ofNat_le, ifB_bool, decide_eq_true_eq]
  split
  case isFalse =>
    simp only [upQ_e, blockQ_e, if_true, ret89n]
    exact h _ _ _ hbut1 hB1 hmv
  rename_i hle
  simp only [Bool.true_or, true_and]
  refine c100 hbox1 fun x H2 hbut2 hbox2 => ?_
  have w1 : IntKind.u64.wrap ((md : Int) - 1) = ((md - 1 : Nat) : Int) := by simp [IntKind.wrap, IntKind.signed, IntKind.bits]; omega
  obtain ⟨o, ho1, ho2⟩ := and_le (r := x) (m := md - 1) (by omega)
  have wo : IntKind.i64.wrap (o : Int) = o := wi rfl (by omega)
  have hlt0 := hB1.lt
  have hlp : H.length < H1.length := by obtain ⟨c, hc⟩ := hbox1; exact (List.getElem?_eq_some_iff.1 hc).1
  have hbut12 : But id H H2 := ⟨Nat.le_trans hbut1.1 hbut2.1, fun j hj hne => by rw [hbut2.2 j (by have := hbut1.1; omega) (by omega)]; exact hbut1.2 j hj hne⟩
  have hB2 : BlkP H2 id L1 := by unfold BlkP; rw [hbut2.2 id hlt0 (fun h => hne h.symm)]; exact hB1
  simp only [binV_sub, bd_some, w1, ho2, convV, wo, binV_geq, ge_iff_le, Int.ofNat_le, ifB_bool, decide_eq_true_eq]
  split
  · rename_i hge
    simp only [wi (show (o : Int) - ((b - a : Nat) : Int) = ((o - (b - a) : Nat) : Int) by omega) (by omega)]
    exact lp_brk (md := md) (p := H.length) (m := m) (o := o - (b - a)) (M := a + (b - a) / 4 * 2 + 2) (lim := a + (b - a) / 4 * 2 - 1) (num := m) hn (by omega) hab hb (by omega) (by omega) (by omega) hbut12 hne (Nat.le_refl _) hbox2 hB2 hmv (by omega) (Nat.le_refl _) hlim ..
  · rename_i hge
    exact lp_brk (md := md) (p := H.length) (m := m) (o := o) (M := a + (b - a) / 4 * 2 + 2) (lim := a + (b - a) / 4 * 2 - 1) (num := m) hn (by omega) hab hb (by omega) (by omega) (by omega) hbut12 hne (Nat.le_refl _) hbox2 hB2 hmv (by omega) (Nat.le_refl _) hlim ..
end Go.Proofs.Ytoommmeapdkopaa.E
namespace Go.Proofs.Ytoommmeapdkopaa.E
open Go Go.Eng

/-- pairs at id, a counter at p -/
structure Sw (H0 H : Heap) (id p : Nat) (L : List IP) : Prop where
  blk : BlkP H id L
  ne : p ≠ id
  box : BoxN H p .i64
  but : But p H0 H

theorem c103 {H0 H : Heap} {id n p : Nat} {L : List IP} (hs : Sw H0 H id p L) (hn : L.length = n) {i j : Nat} (hi : i < n) (hj : j < n) {k : V → Heap → Prop}
    (h : ∀ x y H', (x = i ∧ y = j ∨ x = j ∧ y = i) → Sw H0 H' id p L → k (.tup [.int .i64 (x : Nat), .int .i64 (y : Nat)]) H') :
    Cl G 103 [.sl id 0 n n 2, .int .i64 i, .int .i64 j, .ptr p 0, .fn 73 []] H k := by
  refine Cl.inline (F := i103) rfl rfl ?_
  rw [w103]
  obtain ⟨c, hc⟩ := hs.box
  simp only [iadrP hi, iadrP hj, bd_some, hs.blk.ld (show i < L.length by omega), hs.blk.ld (show j < L.length by omega), callV_fn, Bool.true_or, true_and]
  refine call_ordE ?_
  simp only [binV_lss, bd_some, ifB_bool, decide_eq_true_eq]
  split
  · simp only [nilckV, bd_some, BoxN.ld hc, binV_add, BoxN.st hc, true_and]
    refine h j i _ (.inr ⟨rfl, rfl⟩) ⟨?_, hs.ne, ⟨IntKind.i64.wrap (c + 1), ?_⟩, hs.but.trans But.set⟩
    · unfold BlkP; rw [List.getElem?_set_ne hs.ne]; exact hs.blk
    · rw [List.getElem?_set]; simp [(List.getElem?_eq_some_iff.1 hc).1]
  · exact h i j _ (.inl ⟨rfl, rfl⟩) hs

theorem c102 {H0 H : Heap} {id n p : Nat} {L : List IP} (hs : Sw H0 H id p L) (hn : L.length = n) {x y z lo hi : Nat} (hx : lo ≤ x ∧ x < hi) (hy : lo ≤ y ∧ y < hi) (hz : lo ≤ z ∧ z < hi) (hh : hi ≤ n) {k : V → Heap → Prop}
    (h : ∀ m H', lo ≤ m → m < hi → Sw H0 H' id p L → k (.int .i64 (m : Nat)) H') :
    Cl G 102 [.sl id 0 n n 2, .int .i64 x, .int .i64 y, .int .i64 z, .ptr p 0, .fn 73 []] H k := by
  refine Cl.inline (F := i102) rfl rfl ?_
  rw [w102]
  simp only [Bool.true_or, true_and]
  refine c103 hs hn (i := x) (j := y) (by omega) (by omega) fun x1 y1 H1 q1 s1 => ?_
  simp only [extV, List.getElem?_cons_zero, List.getElem?_cons_succ, bd_some]
  refine c103 s1 hn (i := y1) (j := z) (by omega) (by omega) fun x2 y2 H2 q2 s2 => ?_
  simp only [extV, List.getElem?_cons_zero, List.getElem?_cons_succ, bd_some]
  refine c103 s2 hn (i := x1) (j := x2) (by omega) (by omega) fun x3 y3 H3 q3 s3 => ?_
  simp only [extV, List.getElem?_cons_zero, List.getElem?_cons_succ, bd_some]
  exact h y3 H3 (by omega) (by omega) s3

theorem c101 {H0 H : Heap} {id n p : Nat} {L : List IP} (hs : Sw H0 H id p L) (hn : L.length = n) (hn' : n ≤ 1000000) {x lo hi : Nat} (hx : lo + 1 ≤ x ∧ x + 1 < hi) (hh : hi ≤ n) {k : V → Heap → Prop}
    (h : ∀ m H', lo ≤ m → m < hi → Sw H0 H' id p L → k (.int .i64 (m : Nat)) H') :
    Cl G 101 [.sl id 0 n n 2, .int .i64 x, .ptr p 0, .fn 73 []] H k := by
  refine Cl.inline (F := i101) rfl rfl ?_
  rw [w101]
  simp only [binV_sub, binV_add, bd_some, wi (show (x : Int) - 1 = ((x - 1 : Nat) : Int) by omega) (by omega), wi (show (x : Int) + 1 = ((x + 1 : Nat) : Int) by omega) (by omega), Bool.true_or, true_and]
  exact c102 hs hn (lo := lo) (hi := hi) (by omega) (by omega) (by omega) hh h

theorem lp_choose {H : Heap} {id : Nat} {L : List IP} {a b : Nat} {k : V → Heap → Prop} (h : ∀ v hint H', But id H H' → BlkP H' id L → a ≤ v → v < b → k (.tup [.int .i64 (v : Nat), .int .i64 hint]) H')
    {H1 : Heap} (hs : Sw (H ++ [.cells [.int .i64 0]]) H1 id H.length L) {m : Nat} (h1 : a ≤ m) (h2 : m < b) : Wr90_1 (.ptr H.length 0) (.int .i64 m) H1 (retQ i90 k) := by
  unfold Wr90_1
  intros
  rw [wr90_1]
  obtain ⟨c, hc⟩ := hs.box
  have hbut : But id H H1 := ⟨by have := hs.but.1; simp at this; omega, fun j hj hne => by
    rw [hs.but.2 j (by simp; omega) (by omega), List.getElem?_append_left hj]⟩
  simp only [BoxN.ld hc, bd_some, binV_eql, ifB_bool, decide_eq_true_eq]
  split
  · simp only [ret90]; exact h m 1 _ hbut hs.blk h1 h2
  · split
    · simp only [ret90]; exact h m 2 _ hbut hs.blk h1 h2
    · simp only [ret90]; exact h m 0 _ hbut hs.blk h1 h2

theorem c90 {H : Heap} {id n : Nat} {L : List IP} (hB : BlkP H id L) (hn : L.length = n) (hn' : n ≤ 1000000) {a b : Nat} (hab : a + 8 ≤ b) (hb : b ≤ n) {k : V → Heap → Prop}
    (h : ∀ v hint H', But id H H' → BlkP H' id L → a ≤ v → v < b → k (.tup [.int .i64 (v : Nat), .int .i64 hint]) H') : Cl G 90 [.sl id 0 n n 2, .int .i64 a, .int .i64 b, .fn 73 []] H k := by
  refine Cl.inline (F := i90) rfl rfl ?_
  rw [w90]
  have q4 : binV .quo (.int .i64 ((b - a : Nat) : Int)) (.int .i64 4) = some (.int .i64 (((b - a) / 4 : Nat) : Int)) := by
    simp only [binV, if_true]
    rw [if_neg (by decide), Int.tdiv_eq_ediv_of_nonneg (by omega), wi (n := (b - a) / 4) (by omega) (by omega)]
  have ge8 : (8 : Int) ≤ ((b - a : Nat) : Int) := by omega
  simp only [binV_sub, bd_some, wi (show (b : Int) - (a : Int) = ((b - a : Nat) : Int) by omega) (by omega), newB, q4, binV_mul, binV_add, wi (show (((b - a) / 4 : Nat) : Int) * 1 = (((b - a) / 4 : Nat) : Int) by omega) (by omega), wi (show (((b - a) / 4 : Nat) : Int) * 2 = (((b - a) / 4 * 2 : Nat) : Int) by omega) (by omega), wi (show (((b - a) / 4 : Nat) : Int) * 3 = (((b - a) / 4 * 3 : Nat) : Int) by omega) (by omega), wi (show (a : Int) + (((b - a) / 4 : Nat) : Int) = ((a + (b - a) / 4 : Nat) : Int) by omega) (by omega), wi (show (a : Int) + (((b - a) / 4 * 2 : Nat) : Int) = ((a + (b - a) / 4 * 2 : Nat) : Int) by omega) (by omega), wi (show (a : Int) + (((b - a) / 4 * 3 : Nat) : Int) = ((a + (b - a) / 4 * 3 : Nat) : Int) by omega) (by omega), binV_geq, ge_iff_le, ge8, decide_true, ifB_bool, if_true]
  have s0 : Sw (H ++ [.cells [.int .i64 0]]) (H ++ [.cells [.int .i64 0]]) id H.length L := ⟨hB.app _, by have := hB.lt; omega, ⟨0, by simp⟩, .refl⟩
  have fin : ∀ (H1 : Heap) (x y z : Nat), Sw (H ++ [.cells [.int .i64 0]]) H1 id H.length L → (a ≤ x ∧ x < b) → (a ≤ y ∧ y < b) → (a ≤ z ∧ z < b) →
      Wr90_0 (.sl id 0 n n 2) (.fn 73 []) (.ptr H.length 0) (.int .i64 x) (.int .i64 y) (.int .i64 z) H1 (seqQ G r90_1 (retQ i90 k)) := fun H1 x y z s hx hy hz => by
    unfold Wr90_0
    intros
    rw [wr90_0]
    refine ⟨rfl, ?_⟩
    refine c102 s hn (lo := a) (hi := b) hx hy hz hb fun m H2 m1 m2 s2 => ?_
    simp only [seqQ_n]
    exact lp_choose h s2 m1 m2 ..
  split
  · rename_i h50
    simp only [Bool.true_or, true_and]
    have h50' : 50 ≤ b - a := by simp at h50; omega
    refine c101 s0 hn hn' (lo := a) (hi := b) (by omega) hb fun m1 H1 x1 x2 s1 => ?_
    refine c101 s1 hn hn' (lo := a) (hi := b) (by omega) hb fun m2 H2 y1 y2 s2 => ?_
    refine c101 s2 hn hn' (lo := a) (hi := b) (by omega) hb fun m3 H3 z1 z2 s3 => ?_
    exact fin H3 m1 m2 m3 s3 ⟨x1, x2⟩ ⟨y1, y2⟩ ⟨z1, z2⟩ ..
  · exact fin _ _ _ _ s0 (by omega) (by omega) (by omega) ..
end Go.Proofs.Ytoommmeapdkopaa.E
namespace Go.Proofs.Ytoommmeapdkopaa.E
open Go Go.Eng

theorem srt_snoc {a i : Nat} {L : List IP} (h : Srt ltE a i L) (hi : a + 1 ≤ i) (hl : ltE (gt' L i) (gt' L (i - 1)) = false) : Srt ltE a (i + 1) L := fun p q h1 h2 h3 => by
  by_cases e : q = i
  · subst e
    by_cases e2 : p = q - 1
    · rw [e2]; exact hl
    · exact loE.le_trans (h p (q - 1) h1 (by omega) (by omega)) hl
  · exact h p q h1 h2 (by omega)
/-- sorted but for position j, whose thing has still to move down -/
def Ins (a t j : Nat) (L : List IP) : Prop := ∀ p q, a ≤ p → p < q → q < t → q ≠ j → ltE (gt' L q) (gt' L p) = false
theorem Ins.step {a t j : Nat} {L : List IP} (h : Ins a t j L) (haj : a < j) (hjt : j < t) (ht : t ≤ L.length) (hl : ltE (gt' L j) (gt' L (j - 1)) = true) : Ins a t (j - 1) (swp L j (j - 1)) := fun p q h1 h2 h3 h4 => by
  have hle : ltE (gt' L (j - 1)) (gt' L j) = false := loE.asym hl
  rw [gt_swp (by omega) (by omega), gt_swp (by omega) (by omega), if_neg h4]
  by_cases e1 : q = j
  · rw [if_pos e1]
    by_cases e2 : p = j - 1
    · rw [if_pos e2]; exact hle
    · rw [if_neg e2, if_neg (by omega)]; exact h p (j - 1) h1 (by omega) (by omega) (by omega)
  · rw [if_neg e1]
    by_cases e2 : p = j - 1
    · rw [if_pos e2]; exact h j q (by omega) (by omega) h3 (by omega)
    · rw [if_neg e2]
      by_cases e3 : p = j
      · rw [if_pos e3]; exact h (j - 1) q (by omega) (by omega) h3 (by omega)
      · rw [if_neg e3]; exact h p q h1 h2 h3 e1
theorem Ins.fin {a t j : Nat} {L : List IP} (h : Ins a t j L) (hs : j ≤ a ∨ ltE (gt' L j) (gt' L (j - 1)) = false) : Srt ltE a t L := fun p q h1 h2 h3 => by
  by_cases e : q = j
  · subst e
    have hl := hs.resolve_left (by omega)
    by_cases e2 : p = q - 1
    · rw [e2]; exact hl
    · exact loE.le_trans (h p (q - 1) h1 (by omega) (by omega) (by omega)) hl
  · exact h p q h1 h2 h3 e

section
variable {H : Heap} {id n : Nat} {L : List IP} {a b : Nat} {k : V → Heap → Prop}
structure QK (H : Heap) (id n : Nat) (L : List IP) (a b : Nat) (i : Nat) (H1 : Heap) (L1 : List IP) : Prop where
  but : But id H H1
  blk : BlkP H1 id L1
  mv : Mv a b L L1
  srt : Srt ltE a i L1
  lo : a + 1 ≤ i
  hi : i ≤ b
abbrev IPar (H : Heap) (id n : Nat) (L : List IP) (a b : Nat) : Nat → V → V → V → V → V → V → Heap → Prop := fun m c0 c1 c2 c3 c9 c10 H1 => c0 = .sl id 0 n n 2 ∧ c1 = .int .i64 a ∧ c2 = .int .i64 b ∧ c3 = .fn 73 [] ∧ c10 = .int .i64 m ∧ ∃ (i : Nat) (L1 : List IP), c9 = .int .i64 i ∧ QK H id n L a b i H1 L1
abbrev QRes (H : Heap) (id : Nat) (L : List IP) (a b : Nat) (k : V → Heap → Prop) : Prop := ∀ f H' L', But id H H' → BlkP H' id L' → Mv a b L L' → (f = true → Srt ltE a b L') → k (.bool f) H'

theorem par4 (hn : L.length = n) (hn' : n ≤ 1000000) (hb : b ≤ n) {i num : Nat} {Q : Cont} {H1 : Heap} {L1 : List IP} (p : QK H id n L a b i H1 L1) (hnum : num < 5) :
    Wr92_4 (.sl id 0 n n 2) (.int .i64 a) (.int .i64 b) (.fn 73 []) (.int .i64 i) (.int .i64 num) H1 (blockQ 1 (seqQ G r92_6 (upQ 5 (Sb92_0 (IPar H id n L a b)) num Q))) := by
  unfold Wr92_4
  intros
  have hl := p.mv.len
  have hlo := p.lo
  have hhi := p.hi
  rw [wr92_4]
  simp only [binV_sub, bd_some, wi (show (b : Int) - (i : Int) = ((b - i : Nat) : Int) by omega) (by omega), binV_geq, ge_iff_le, ifB_bool, decide_eq_true_eq]
  split
  case isFalse =>
    simp only [blockQ_n, seqQ_n, wr92_6, binV_add, bd_some, wi (show (num : Int) + 1 = ((num + 1 : Nat) : Int) by omega) (by omega), upQ_n, Sb92_0_eq]
    exact ⟨num + 1, by omega, by omega, rfl, rfl, rfl, rfl, rfl, i, L1, rfl, p⟩
  rename_i h2
  simp only [binV_add, bd_some, wi (show (i : Int) + 1 = ((i + 1 : Nat) : Int) by omega) (by omega)]
  refine ub92_5 b (fun m c0 c1 c2 c3 c9 c10 c12 H2 => c0 = .sl id 0 n n 2 ∧ c1 = .int .i64 a ∧ c2 = .int .i64 b ∧ c3 = .fn 73 [] ∧ c9 = .int .i64 i ∧ c10 = .int .i64 num ∧ c12 = .int .i64 m ∧ i + 1 ≤ m ∧ ∃ L2, QK H id n L a b i H2 L2) ?_ (i + 1) (by omega)
    ⟨rfl, rfl, rfl, rfl, rfl, rfl, rfl, Nat.le_refl _, L1, p⟩
  clear p L1 hl
  rintro m hm _ _ _ _ _ _ _ H2 ⟨rfl, rfl, rfl, rfl, rfl, rfl, rfl, him, L2, p⟩
  intros
  have hl : L2.length = n := by rw [p.mv.len, hn]
  rw [wb92_5]
  simp only [binV_lss, bd_some, ifB_bool, decide_eq_true_eq, Int.ofNat_lt]
  split
  case isFalse =>
    simp only [upQ_e, blockQ_e, show ((6 : Nat) = 6) = True by simp, if_true, blockQ_n, seqQ_n, wr92_6, binV_add, bd_some, wi (show (num : Int) + 1 = ((num + 1 : Nat) : Int) by omega) (by omega), upQ_n, Sb92_0_eq]
    exact ⟨num + 1, by omega, by omega, rfl, rfl, rfl, rfl, rfl, i, L2, rfl, p⟩
  rename_i hmb
  have w1 : IntKind.i64.wrap ((m : Int) - 1) = ((m - 1 : Nat) : Int) := wi (by omega) (by omega)
  simp only [iadrP (show m < n by omega), bd_some, p.blk.ld (show m < L2.length by omega), binV_sub, w1, iadrP (show m - 1 < n by omega), p.blk.ld (show m - 1 < L2.length by omega), callV_fn, Bool.true_or, true_and]
  refine call_ordE ?_
  simp only [binV_lss, bd_some, ltE_lt, unV_not, ifB_bool]
  cases hc : ltE (gt' L2 m) (gt' L2 (m - 1))
  · simp only [Bool.not_false, if_true, upQ_e, blockQ_e, blockQ_n, seqQ_n, wr92_6, binV_add, bd_some, wi (show (num : Int) + 1 = ((num + 1 : Nat) : Int) by omega) (by omega), upQ_n, Sb92_0_eq]
    exact ⟨num + 1, by omega, by omega, rfl, rfl, rfl, rfl, rfl, i, L2, rfl, p⟩
  · obtain ⟨H3, s1, H4, s2, hB4, hbut4⟩ := p.blk.swap (i := m) (j := m - 1) (by omega) (by omega)
    simp only [Bool.not_true, Bool.false_eq_true, if_false, binV_sub, bd_some, w1, iadrP (show m < n by omega), iadrP (show m - 1 < n by omega), p.blk.ld (show m < L2.length by omega), p.blk.ld (show m - 1 < L2.length by omega), s1, s2, true_and, binV_add, wi (show (m : Int) + 1 = ((m + 1 : Nat) : Int) by omega) (by omega), upQ_n, Sb92_5_eq]
    refine ⟨m + 1, by omega, by omega, rfl, by omega, _, p.but.trans hbut4, hB4, p.mv.trans (.swap (by omega) (by omega) (by omega) (by omega) (by omega)), fun u q h1 h2 h3 => ?_, p.lo, p.hi⟩
    rw [gt_swp (by omega) (by omega), gt_swp (by omega) (by omega), if_neg (by omega), if_neg (by omega), if_neg (by omega), if_neg (by omega)]
    exact p.srt u q h1 h2 h3

theorem par2 (hn : L.length = n) (hn' : n ≤ 1000000) (hb : b ≤ n) (hlow : Low ltE a b L) (h : QRes H id L a b k) {i num : Nat} {H1 : Heap} {L1 : List IP} (p : QK H id n L a b i H1 L1) (hnum : num < 5) :
    Wr92_2 (.sl id 0 n n 2) (.int .i64 a) (.int .i64 b) (.fn 73 []) (.int .i64 i) (.int .i64 num) H1 (blockQ 1 (seqQ G r92_6 (upQ 5 (Sb92_0 (IPar H id n L a b)) num (blockQ 0 (seqQ G r92_7 (retQ i92 k)))))) := by
  unfold Wr92_2
  intros
  have hl : L1.length = n := by rw [p.mv.len, hn]
  have hlo := p.lo
  have hhi := p.hi
  rw [wr92_2]
  simp only [binV_eql, bd_some, ifB_bool, decide_eq_true_eq, Int.ofNat_inj]
  split
  · rename_i hib
    subst hib
    simp only [blockQ_r, seqQ_r, upQ_r, ret92]
    exact h _ _ _ p.but p.blk p.mv (fun _ => p.srt)
  rename_i hib
  simp only [binV_sub, bd_some, wi (show (b : Int) - (a : Int) = ((b - a : Nat) : Int) by omega) (by omega), binV_lss, ifB_bool, decide_eq_true_eq]
  split
  · simp only [blockQ_r, seqQ_r, upQ_r, ret92]
    exact h _ _ _ p.but p.blk p.mv (fun h => by cases h)
  have w1 : IntKind.i64.wrap ((i : Int) - 1) = ((i - 1 : Nat) : Int) := wi (by omega) (by omega)
  obtain ⟨H3, s1, H4, s2, hB4, hbut4⟩ := p.blk.swap (i := i) (j := i - 1) (by omega) (by omega)
  have hmv4 : Mv a b L (swp L1 i (i - 1)) := p.mv.trans (.swap (by omega) (by omega) (by omega) (by omega) (by omega))
  simp only [w1, bd_some, iadrP (show i < n by omega), iadrP (show i - 1 < n by omega), p.blk.ld (show i < L1.length by omega), p.blk.ld (show i - 1 < L1.length by omega), s1, s2, true_and, wi (show (i : Int) - (a : Int) = ((i - a : Nat) : Int) by omega) (by omega), binV_geq, ge_iff_le, ifB_bool, decide_eq_true_eq, binV_sub]
  split
  case isFalse h2 =>
    exact par4 hn hn' hb ⟨p.but.trans hbut4, hB4, hmv4, .small (by omega), p.lo, p.hi⟩ hnum ..
  rename_i h2
  have ins0 : Ins a i (i - 1) (swp L1 i (i - 1)) := fun u q h1 h2 h3 h4 => by
    rw [gt_swp (by omega) (by omega), gt_swp (by omega) (by omega), if_neg (by omega), if_neg (by omega), if_neg (by omega), if_neg (by omega)]
    exact p.srt u q h1 h2 h3
  refine ub92_3 i (fun m c0 c1 c2 c3 c9 c10 c11 H2 => c0 = .sl id 0 n n 2 ∧ c1 = .int .i64 a ∧ c2 = .int .i64 b ∧ c3 = .fn 73 [] ∧ c9 = .int .i64 i ∧ c10 = .int .i64 num ∧ ∃ (j : Nat) (L2 : List IP), c11 = .int .i64 j ∧ j + 1 + m = i ∧ a ≤ j ∧ But id H H2 ∧ BlkP H2 id L2 ∧ Mv a b L L2 ∧ Ins a i j L2) ?_ 0 (by omega)
    ⟨rfl, rfl, rfl, rfl, rfl, rfl, i - 1, _, rfl, by omega, by omega, p.but.trans hbut4, hB4, hmv4, ins0⟩
  clear ins0 hmv4 hB4 hbut4 s1 s2 w1 hl p L1
  rintro m hm _ _ _ _ _ _ _ H2 ⟨rfl, rfl, rfl, rfl, rfl, rfl, j, L2, rfl, hjm, haj, hbut, hB2, hmv, hins⟩
  intros
  have hl : L2.length = n := by rw [hmv.len, hn]
  rw [wb92_3]
  simp only [binV_geq, bd_some, ge_iff_le, ifB_bool, decide_eq_true_eq]
  split
  case isFalse h1 =>
    simp only [upQ_e, blockQ_e, show ((4 : Nat) = 4) = True by simp, if_true, seqQ_n]
    exact par4 hn hn' hb ⟨hbut, hB2, hmv, hins.fin (.inl (by omega)), hlo, hhi⟩ hnum ..
  rename_i h1
  have w1 : IntKind.i64.wrap ((j : Int) - 1) = ((j - 1 : Nat) : Int) := wi (by omega) (by omega)
  simp only [iadrP (show j < n by omega), bd_some, hB2.ld (show j < L2.length by omega), binV_sub, w1, iadrP (show j - 1 < n by omega), hB2.ld (show j - 1 < L2.length by omega), callV_fn, Bool.true_or, true_and]
  refine call_ordE ?_
  simp only [binV_lss, bd_some, ltE_lt, unV_not, ifB_bool]
  cases hc : ltE (gt' L2 j) (gt' L2 (j - 1))
  · simp only [Bool.not_false, if_true, upQ_e, blockQ_e, seqQ_n]
    exact par4 hn hn' hb ⟨hbut, hB2, hmv, hins.fin (.inr hc), hlo, hhi⟩ hnum ..
  · -- what lies before a is not greater
    have hja : a < j := by
      rcases Nat.lt_or_ge a j with h | h
      · exact h
      · have e : j = a := by omega
        subst e
        rcases hlow.mv hmv with h0 | h0
        · omega
        · have := h0 j (Nat.le_refl _) (by omega); rw [this] at hc; cases hc
    obtain ⟨H3, s1, H4, s2, hB4, hbut4⟩ := hB2.swap (i := j) (j := j - 1) (by omega) (by omega)
    simp only [Bool.not_true, Bool.false_eq_true, if_false, binV_sub, bd_some, w1, iadrP (show j < n by omega), iadrP (show j - 1 < n by omega), hB2.ld (show j < L2.length by omega), hB2.ld (show j - 1 < L2.length by omega), s1, s2, true_and, upQ_n, Sb92_3_eq]
    exact ⟨m + 1, by omega, by omega, j - 1, _, rfl, by omega, by omega, hbut.trans hbut4, hB4, hmv.trans (.swap (by omega) (by omega) (by omega) (by omega) (by omega)), hins.step hja (by omega) (by omega) hc⟩

theorem c92 (hB : BlkP H id L) (hn : L.length = n) (hn' : n ≤ 1000000) (hab : a < b) (hb : b ≤ n) (hlow : Low ltE a b L) (h : QRes H id L a b k) :
    Cl G 92 [.sl id 0 n n 2, .int .i64 a, .int .i64 b, .fn 73 []] H k := by
  refine Cl.inline (F := i92) rfl rfl ?_
  rw [w92]
  simp only [binV_add, bd_some, wi (show (a : Int) + 1 = ((a + 1 : Nat) : Int) by omega) (by omega)]
  refine ub92_0 5 (IPar H id n L a b) ?_ 0 (by omega) ⟨rfl, rfl, rfl, rfl, rfl, a + 1, L, rfl, .refl, hB, .refl, .small (Nat.le_refl _), Nat.le_refl _, hab⟩
  rintro num hi _ _ _ _ _ _ H1 ⟨rfl, rfl, rfl, rfl, rfl, i, L1, rfl, p⟩
  intros
  rw [wb92_0]
  simp only [binV_lss, bd_some, ifB_bool, decide_eq_true_eq]
  split
  case isFalse =>
    simp only [upQ_e, blockQ_e, if_true, seqQ_n, wr92_7, ret92]
    exact h _ _ _ p.but p.blk p.mv (fun h => by cases h)
  rename_i h5
  refine ub92_1 b (fun m c0 c1 c2 c3 c9 c10 H2 => c0 = .sl id 0 n n 2 ∧ c1 = .int .i64 a ∧ c2 = .int .i64 b ∧ c3 = .fn 73 [] ∧ c9 = .int .i64 m ∧ c10 = .int .i64 num ∧ QK H id n L a b m H2 L1) ?_ i p.hi
    ⟨rfl, rfl, rfl, rfl, rfl, rfl, p⟩
  clear p
  rintro m hm _ _ _ _ _ _ H2 ⟨rfl, rfl, rfl, rfl, rfl, rfl, p⟩
  intros
  have hl : L1.length = n := by rw [p.mv.len, hn]
  have hlo := p.lo
  rw [wb92_1]
  by_cases hmb : m < b
  case neg =>
    simp only [binV_lss, bd_some, Int.ofNat_lt, hmb, decide_false, gdV_bool, show (false == true) = false from rfl, wpg_false, pickV_bool, Bool.false_eq_true, if_false, ifB_bool, upQ_e, blockQ_e, if_true, seqQ_n]
    exact par2 hn hn' hb hlow h p (by omega) ..
  have w1 : IntKind.i64.wrap ((m : Int) - 1) = ((m - 1 : Nat) : Int) := wi (by omega) (by omega)
  simp only [binV_lss, bd_some, Int.ofNat_lt, hmb, decide_true, gdV_bool, beq_self_eq_true, wpg_true, iadrP (show m < n by omega), p.blk.ld (show m < L1.length by omega), binV_sub, w1, iadrP (show m - 1 < n by omega), p.blk.ld (show m - 1 < L1.length by omega), callV_fn, Bool.true_or, true_and]
  refine call_ordE ?_
  simp only [binV_lss, bd_some, ltE_lt, unV_not, pickV_bool, if_true, ifB_bool]
  cases hc : ltE (gt' L1 m) (gt' L1 (m - 1))
  · simp only [Bool.not_false, if_true, binV_add, bd_some, wi (show (m : Int) + 1 = ((m + 1 : Nat) : Int) by omega) (by omega), upQ_n, Sb92_1_eq, true_and]
    exact ⟨m + 1, by omega, by omega, rfl, p.but, p.blk, p.mv, srt_snoc p.srt hlo hc, by omega, by omega⟩
  · simp only [Bool.not_true, Bool.false_eq_true, if_false, upQ_e, blockQ_e, if_true, seqQ_n]
    exact par2 hn hn' hb hlow h p (by omega) ..
end
end Go.Proofs.Ytoommmeapdkopaa.E
namespace Go.Proofs.Ytoommmeapdkopaa.E
open Go Go.Eng

/-- all but the pairs between a' and b' stand in order -/
def Out (a a' b' b : Nat) (L : List IP) : Prop := ∀ p q, a ≤ p → p < q → q < b → (p < a' ∨ b' ≤ q) → ltE (gt' L q) (gt' L p) = false
theorem Out.mv {a a' b' b : Nat} {L L' : List IP} (ho : Out a a' b' b L) (m : Mv a' b' L L') (ha : a ≤ a') (hb : b' ≤ b) : Out a a' b' b L' := fun p q h1 h2 h3 h4 => by
  rcases h4 with h4 | h4
  · rw [m.out p (.inl h4)]
    by_cases e : a' ≤ q ∧ q < b'
    · obtain ⟨q', q1, q2, q3⟩ := m.into q e.1 e.2
      rw [q3]; exact ho p q' h1 (by omega) (by omega) (.inl h4)
    · rw [m.out q (by omega)]; exact ho p q h1 h2 h3 (.inl h4)
  · rw [m.out q (.inr h4)]
    by_cases e : a' ≤ p ∧ p < b'
    · obtain ⟨p', p1, p2, p3⟩ := m.into p e.1 e.2
      rw [p3]; exact ho p' q (by omega) (by omega) h3 (.inr h4)
    · rw [m.out p (by omega)]; exact ho p q h1 h2 h3 (.inr h4)
theorem Out.srt {a a' b' b : Nat} {L : List IP} (ho : Out a a' b' b L) (hs : Srt ltE a' b' L) : Srt ltE a b L := fun p q h1 h2 h3 => by
  by_cases e : a' ≤ p ∧ q < b'
  · exact hs p q e.1 h2 e.2
  · exact ho p q h1 h2 h3 (by omega)
theorem Out.left {a a' b' b j : Nat} {L2 L3 : List IP} (ho : Out a a' b' b L2) (pe : PEnd a' b' j L2) (m : Mv a' j L2 L3) (s : Srt ltE a' j L3) (ha : a ≤ a') (hb : b' ≤ b) : Out a (j + 1) b' b L3 := fun p q h1 h2 h3 h4 => by
  obtain ⟨e1, e2, e3, e4⟩ := pe
  by_cases old : p < a' ∨ b' ≤ q
  · exact ho.mv (m.mono (Nat.le_refl _) (by omega)) ha hb p q h1 h2 h3 old
  have lo : p < j → ltE (gt' L2 j) (gt' L3 p) = false := fun hp => by
    obtain ⟨p', p1, p2, p3⟩ := m.into p (by omega) hp
    rw [p3]; exact loE.asym (e3 p' p1 p2)
  by_cases hpj : p < j
  · by_cases hqj : q < j
    · exact s p q (by omega) h2 hqj
    · rw [m.out q (by omega)]
      by_cases e : q = j
      · rw [e]; exact lo hpj
      · exact loE.le_trans (lo hpj) (e4 q (by omega) (by omega))
  · have : p = j := by omega
    subst this
    rw [m.out q (by omega), m.out p (by omega)]
    exact e4 q h2 (by omega)
theorem Out.right {a a' b' b j : Nat} {L2 L3 : List IP} (ho : Out a a' b' b L2) (pe : PEnd a' b' j L2) (m : Mv (j + 1) b' L2 L3) (s : Srt ltE (j + 1) b' L3) (ha : a ≤ a') (hb : b' ≤ b) : Out a a' j b L3 := fun p q h1 h2 h3 h4 => by
  obtain ⟨e1, e2, e3, e4⟩ := pe
  by_cases old : p < a' ∨ b' ≤ q
  · exact ho.mv (m.mono (by omega) (Nat.le_refl _)) ha hb p q h1 h2 h3 old
  have hi : j < q → ltE (gt' L3 q) (gt' L2 j) = false := fun hq => by
    obtain ⟨q', q1, q2, q3⟩ := m.into q (by omega) (by omega)
    rw [q3]; exact e4 q' (by omega) q2
  by_cases hpj : p ≤ j
  · rw [m.out p (by omega)]
    by_cases hq : q = j
    · subst hq
      rw [m.out q (by omega)]
      exact loE.asym (e3 p (by omega) h2)
    · by_cases e : p = j
      · rw [e]; exact hi (by omega)
      · exact loE.le_trans (loE.asym (e3 p (by omega) (by omega))) (hi (by omega))
  · exact s p q (by omega) h2 (by omega)

def Pdq (m : Nat) : Prop := ∀ (H : Heap) (id n : Nat) (L : List IP) (a b lim : Nat) (k : V → Heap → Prop), BlkP H id L → L.length = n → n < 128 → lim ≤ 1000 → L.Nodup → a ≤ b → b ≤ n → b - a = m → Low ltE a b L →
  (∀ r H' L', But id H H' → BlkP H' id L' → Mv a b L L' → Srt ltE a b L' → k r H') → Cl G 83 [.sl id 0 n n 2, .int .i64 a, .int .i64 b, .int .i64 lim, .fn 73 []] H k

section
variable {H : Heap} {id n : Nat} {L : List IP} {a b : Nat} {k : V → Heap → Prop}
structure DK (H : Heap) (id n : Nat) (L : List IP) (a b a' b' : Nat) (H1 : Heap) (L1 : List IP) : Prop where
  but : But id H H1
  blk : BlkP H1 id L1
  mv : Mv a b L L1
  out : Out a a' b' b L1
  low : Low ltE a' b' L1
  ha : a ≤ a'
  hab : a' ≤ b'
  hb : b' ≤ b
abbrev IPdq (H : Heap) (id n : Nat) (L : List IP) (a b : Nat) : Nat → V → V → V → V → V → V → V → Heap → Prop := fun m c0 c1 c2 c3 c4 c10 c11 H1 => c0 = .sl id 0 n n 2 ∧ c4 = .fn 73 [] ∧ ∃ (a' b' lim : Nat) (wb wp : Bool) (L1 : List IP), c1 = .int .i64 a' ∧ c2 = .int .i64 b' ∧ c3 = .int .i64 lim ∧ c10 = .bool wb ∧ c11 = .bool wp ∧ lim ≤ 1000 ∧ m + (b' - a') = b - a ∧ DK H id n L a b a' b' H1 L1
abbrev SRes (H : Heap) (id : Nat) (L : List IP) (a b : Nat) (k : V → Heap → Prop) : Prop := ∀ r H' L', But id H H' → BlkP H' id L' → Mv a b L L' → Srt ltE a b L' → k r H'

theorem pdq3 (ih : ∀ m, m < b - a → Pdq m) (hn : L.length = n) (hn' : n < 128) (hb : b ≤ n) (hnd : L.Nodup) {a' b' lim v num : Nat} {wb wp : Bool} {H1 : Heap} {L1 : List IP} (p : DK H id n L a b a' b' H1 L1) (hbig : 12 < b' - a') (hlim : lim ≤ 1000) (h1 : a' ≤ v) (h2 : v < b') (hnum : num + (b' - a') = b - a) :
    Wr83_3 (.sl id 0 n n 2) (.int .i64 a') (.int .i64 b') (.int .i64 lim) (.fn 73 []) (.bool wb) (.bool wp) (.int .i64 (b' - a' : Nat)) (.int .i64 v) H1 (blockQ 1 (upQ (b - a) (Sb83_0 (IPdq H id n L a b)) num (blockQ 0 (retQ i83 k)))) := by
  unfold Wr83_3
  intros
  have hl : L1.length = n := by rw [p.mv.len, hn]
  have hha := p.ha
  have hhb := p.hb
  have hnd1 : L1.Nodup := p.mv.perm.nodup_iff.2 hnd
  rw [wr83_3]
  -- the first test never holds: nothing here is equal to what lies before
  have part : ∀ (H2 : Heap), H2 = H1 → Cl G 94 [.sl id 0 n n 2, .int .i64 a', .int .i64 b', .int .i64 v, .fn 73 []] H2 (fun a111 h111 => ∃ (j : Nat) (f : Bool), a111 = .tup [.int .i64 j, .bool f] ∧ ∃ (L2 : List IP), But id H h111 ∧ BlkP h111 id L2 ∧ Mv a b L L2 ∧ Mv a' b' L1 L2 ∧ PEnd a' b' j L2) := fun H2 e => by
    subst e
    refine c94 p.blk hl (by omega) h1 h2 (by omega) fun j f H' L' q1 q2 q3 q4 => ?_
    exact ⟨j, f, rfl, L', p.but.trans q1, q2, p.mv.trans (q3.mono hha hhb), q3, q4⟩
  have q8 : binV .quo (.int .i64 ((b' - a' : Nat) : Int)) (.int .i64 8) = some (.int .i64 (((b' - a') / 8 : Nat) : Int)) := by
    simp only [binV, if_true]
    rw [if_neg (by decide), Int.tdiv_eq_ediv_of_nonneg (by omega), wi (n := (b' - a') / 8) (by omega) (by omega)]
  have rest : ∀ (j : Nat) (f : Bool) (H2 : Heap) (L2 : List IP), But id H H2 → BlkP H2 id L2 → Mv a b L L2 → Mv a' b' L1 L2 → PEnd a' b' j L2 →
      (j - a' < b' - j → Cl G 83 [.sl id 0 n n 2, .int .i64 a', .int .i64 j, .int .i64 lim, .fn 73 []] H2 fun _ H3 => ∃ L3, DK H id n L a b (j + 1) b' H3 L3) ∧
      (¬ (j - a' < b' - j) → Cl G 83 [.sl id 0 n n 2, .int .i64 ((j + 1 : Nat) : Int), .int .i64 b', .int .i64 lim, .fn 73 []] H2 fun _ H3 => ∃ L3, DK H id n L a b a' j H3 L3) := fun j f H2 L2 q1 q2 q3 q4 q5 => by
    obtain ⟨e1, e2, e3, e4⟩ := q5
    have hl2 : L2.length = n := by rw [q3.len, hn]
    have hnd2 : L2.Nodup := q3.perm.nodup_iff.2 hnd
    have hout := p.out.mv q4 hha hhb
    have hlow := p.low.mv q4
    have lowj : Low ltE (j + 1) b' L2 := .inr fun i i1 i2 => by rw [Nat.add_sub_cancel]; exact e4 i (by omega) i2
    have lowa : Low ltE a' j L2 := hlow.imp (fun h => h) fun h i i1 i2 => h i i1 (by omega)
    refine ⟨fun _ => ?_, fun _ => ?_⟩
    · refine ih (j - a') (by omega) H2 id n L2 a' j lim _ q2 hl2 hn' hlim hnd2 e1 (by omega) rfl lowa fun r H3 L3 b1 b2 b3 b4 => ?_
      refine ⟨L3, q1.trans b1, b2, q3.trans (b3.mono hha (by omega)), hout.left ⟨e1, e2, e3, e4⟩ b3 b4 hha hhb, .inr fun i i1 i2 => ?_, by omega, by omega, hhb⟩
      rw [Nat.add_sub_cancel, b3.out i (by omega), b3.out j (by omega)]
      exact e4 i (by omega) i2
    · refine ih (b' - (j + 1)) (by omega) H2 id n L2 (j + 1) b' lim _ q2 hl2 hn' hlim hnd2 (by omega) (by omega) rfl lowj fun r H3 L3 b1 b2 b3 b4 => ?_
      exact ⟨L3, q1.trans b1, b2, q3.trans (b3.mono (by omega) hhb), hout.right ⟨e1, e2, e3, e4⟩ b3 b4 hha hhb, lowa.imp (fun h => h) (fun h i i1 i2 => by rw [b3.out i (.inl (by omega)), b3.out (a' - 1) (.inl (by omega))]; exact h i i1 i2), hha, by omega, by omega⟩
  have go : ∀ (H2 : Heap), H2 = H1 → ∀ K : V → Heap → Prop, (∀ (j : Nat) f H3 L2, But id H H3 → BlkP H3 id L2 → Mv a b L L2 → Mv a' b' L1 L2 → PEnd a' b' j L2 → K (.tup [.int .i64 j, .bool f]) H3) → Cl G 94 [.sl id 0 n n 2, .int .i64 a', .int .i64 b', .int .i64 v, .fn 73 []] H2 K := fun H2 e K hK =>
    (part H2 e).mono fun v' H' ⟨j, f, e1, L2, q1, q2, q3, q4, q5⟩ => by rw [e1]; exact hK j f H' L2 q1 q2 q3 q4 q5
  by_cases h0 : 0 < a'
  case neg =>
    have h0' : ¬ ((a' : Int) > 0) := by omega
    simp only [binV_gtr, bd_some, h0', decide_false, gdV_bool, show (false == true) = false from rfl, wpg_false, pickV_bool, Bool.false_eq_true, if_false, ifB_bool, Bool.true_or, true_and]
    refine go H1 rfl _ fun j f H3 L2 q1 q2 q3 q4 q5 => ?_
    obtain ⟨r1, r2⟩ := rest j f H3 L2 q1 q2 q3 q4 q5
    obtain ⟨e1, e2, _, _⟩ := q5
    simp only [extV, List.getElem?_cons_zero, List.getElem?_cons_succ, bd_some, binV_sub, wi (show (j : Int) - (a' : Int) = ((j - a' : Nat) : Int) by omega) (by omega), wi (show (b' : Int) - (j : Int) = ((b' - j : Nat) : Int) by omega) (by omega), q8, binV_lss, Int.ofNat_lt, ifB_bool, decide_eq_true_eq, binV_geq, binV_add, wi (show (j : Int) + 1 = ((j + 1 : Nat) : Int) by omega) (by omega)]
    split
    · rename_i hlt
      try simp only [bd_some, Bool.true_or, true_and]
      refine (r1 hlt).mono fun _ H4 ⟨L3, d⟩ => ?_
      simp only [blockQ_n, upQ_n, Sb83_0_eq, bd_some]
      exact ⟨b - a - (b' - (j + 1)), by omega, by omega, rfl, rfl, j + 1, b', lim, _, f, L3, rfl, rfl, rfl, rfl, rfl, hlim, by omega, d⟩
    · rename_i hlt
      try simp only [bd_some, Bool.true_or, true_and]
      refine (r2 hlt).mono fun _ H4 ⟨L3, d⟩ => ?_
      simp only [blockQ_n, upQ_n, Sb83_0_eq, bd_some]
      exact ⟨b - a - (j - a'), by omega, by omega, rfl, rfl, a', j, lim, _, f, L3, rfl, rfl, rfl, rfl, rfl, hlim, by omega, d⟩
  have h0' : ((a' : Int) > 0) := by omega
  have w1 : IntKind.i64.wrap ((a' : Int) - 1) = ((a' - 1 : Nat) : Int) := wi (by omega) (by omega)
  simp only [binV_gtr, bd_some, h0', decide_true, gdV_bool, beq_self_eq_true, wpg_true, binV_sub, w1, iadrP (show a' - 1 < n by omega), p.blk.ld (show a' - 1 < L1.length by omega), iadrP (show v < n by omega), p.blk.ld (show v < L1.length by omega), callV_fn, Bool.true_or, true_and]
  refine call_ordE ?_
  have hlt : ltE (gt' L1 (a' - 1)) (gt' L1 v) = true := by
    cases e : ltE (gt' L1 (a' - 1)) (gt' L1 v)
    · have le := (p.low.resolve_left (by omega)) v h1 h2
      have := nodup_gt hnd1 (by omega) (by omega) (loE.tot _ _ e le)
      omega
    · rfl
  simp only [binV_lss, bd_some, ltE_lt, hlt, unV_not, Bool.not_true, pickV_bool, if_true, ifB_bool, Bool.false_eq_true, if_false]
  refine go H1 rfl _ fun j f H3 L2 q1 q2 q3 q4 q5 => ?_
  obtain ⟨r1, r2⟩ := rest j f H3 L2 q1 q2 q3 q4 q5
  obtain ⟨e1, e2, _, _⟩ := q5
  simp only [extV, List.getElem?_cons_zero, List.getElem?_cons_succ, bd_some, binV_sub, wi (show (j : Int) - (a' : Int) = ((j - a' : Nat) : Int) by omega) (by omega), wi (show (b' : Int) - (j : Int) = ((b' - j : Nat) : Int) by omega) (by omega), q8, binV_lss, Int.ofNat_lt, ifB_bool, decide_eq_true_eq, binV_geq, binV_add, wi (show (j : Int) + 1 = ((j + 1 : Nat) : Int) by omega) (by omega)]
  split
  · rename_i hlt
    try simp only [bd_some, Bool.true_or, true_and]
    refine (r1 hlt).mono fun _ H4 ⟨L3, d⟩ => ?_
    simp only [blockQ_n, upQ_n, Sb83_0_eq, bd_some]
    exact ⟨b - a - (b' - (j + 1)), by omega, by omega, rfl, rfl, j + 1, b', lim, _, f, L3, rfl, rfl, rfl, rfl, rfl, hlim, by omega, d⟩
  · rename_i hlt
    try simp only [bd_some, Bool.true_or, true_and]
    refine (r2 hlt).mono fun _ H4 ⟨L3, d⟩ => ?_
    simp only [blockQ_n, upQ_n, Sb83_0_eq, bd_some]
    exact ⟨b - a - (j - a'), by omega, by omega, rfl, rfl, a', j, lim, _, f, L3, rfl, rfl, rfl, rfl, rfl, hlim, by omega, d⟩

theorem pdq2 (ih : ∀ m, m < b - a → Pdq m) (hn : L.length = n) (hn' : n < 128) (hb : b ≤ n) (hnd : L.Nodup) (h : SRes H id L a b k) {a' b' lim v num : Nat} {hint : Int} {wb wp : Bool} {H1 : Heap} {L1 : List IP} (p : DK H id n L a b a' b' H1 L1) (hbig : 12 < b' - a') (hlim : lim ≤ 1000) (h1 : a' ≤ v) (h2 : v < b') (hnum : num + (b' - a') = b - a) :
    Wr83_2 (.sl id 0 n n 2) (.int .i64 a') (.int .i64 b') (.int .i64 lim) (.fn 73 []) (.bool wb) (.bool wp) (.int .i64 (b' - a' : Nat)) (.int .i64 v) (.int .i64 hint) H1 (blockQ 1 (upQ (b - a) (Sb83_0 (IPdq H id n L a b)) num (blockQ 0 (retQ i83 k)))) := by
  unfold Wr83_2
  intros
  have hl : L1.length = n := by rw [p.mv.len, hn]
  have hha := p.ha
  have hhb := p.hb
  rw [wr83_2]
  -- either nothing is tried, or the range may be found sorted
  have skip : ∀ x0 x1 x2 x3 : V, True := fun _ _ _ _ => trivial
  by_cases hgo : wb = true ∧ wp = true ∧ hint = 1
  · obtain ⟨rfl, rfl, rfl⟩ := hgo
    simp only [gdV_bool, beq_self_eq_true, wpg_true, pickV_bool, if_true, bd_some, binV_eql, decide_true, ifB_bool, Bool.true_or, true_and]
    refine c92 p.blk hl (by omega) (by omega) (by omega) p.low fun f H2 L2 q1 q2 q3 q4 => ?_
    have mv2 := p.mv.trans (q3.mono hha hhb)
    cases f
    · simp only [ifB_bool, Bool.false_eq_true, if_false]
      exact pdq3 (wb := true) (wp := true) ih hn hn' hb hnd ⟨p.but.trans q1, q2, mv2, p.out.mv q3 hha hhb, p.low.mv q3, hha, p.hab, hhb⟩ hbig hlim h1 h2 hnum ..
    · simp only [ifB_bool, if_true, blockQ_r, upQ_r, ret83]
      exact h _ _ _ (p.but.trans q1) q2 mv2 ((p.out.mv q3 hha hhb).srt (q4 rfl))
  · have p3 := pdq3 (k := k) (wb := wb) (wp := wp) ih hn hn' hb hnd p hbig hlim h1 h2 hnum
    cases wb
    · simp only [gdV_bool, show (false == true) = false from rfl, wpg_false, pickV_bool, Bool.false_eq_true, if_false, bd_some, ifB_bool]
      exact p3 ..
    cases wp
    · simp only [gdV_bool, beq_self_eq_true, wpg_true, show (false == true) = false from rfl, wpg_false, pickV_bool, Bool.false_eq_true, if_true, if_false, bd_some, ifB_bool]
      exact p3 ..
    · have hh : ¬ hint = 1 := fun e => hgo ⟨rfl, rfl, e⟩
      simp only [gdV_bool, beq_self_eq_true, wpg_true, pickV_bool, if_true, bd_some, binV_eql, hh, decide_false, ifB_bool, Bool.false_eq_true, if_false]
      exact p3 ..

theorem pdq1 (ih : ∀ m, m < b - a → Pdq m) (hn : L.length = n) (hn' : n < 128) (hb : b ≤ n) (hnd : L.Nodup) (h : SRes H id L a b k) {a' b' lim num : Nat} {wb wp : Bool} {H1 : Heap} {L1 : List IP} (p : DK H id n L a b a' b' H1 L1) (hbig : 12 < b' - a') (hlim : lim ≤ 1000) (hnum : num + (b' - a') = b - a) :
    Wr83_1 (.sl id 0 n n 2) (.int .i64 a') (.int .i64 b') (.int .i64 lim) (.fn 73 []) (.bool wb) (.bool wp) (.int .i64 (b' - a' : Nat)) H1 (blockQ 1 (upQ (b - a) (Sb83_0 (IPdq H id n L a b)) num (blockQ 0 (retQ i83 k)))) := by
  unfold Wr83_1
  intros
  have hl : L1.length = n := by rw [p.mv.len, hn]
  have hha := p.ha
  have hhb := p.hb
  rw [wr83_1]
  simp only [Bool.true_or, true_and]
  refine c90 p.blk hl (by omega) (by omega) (by omega) fun v hint H2 q1 q2 h1 h2 => ?_
  have p2 : DK H id n L a b a' b' H2 L1 := ⟨p.but.trans q1, q2, p.mv, p.out, p.low, hha, p.hab, hhb⟩
  simp only [extV, List.getElem?_cons_zero, List.getElem?_cons_succ, bd_some, binV_eql, ifB_bool, decide_eq_true_eq]
  split
  · try simp only [Bool.true_or, true_and]
    refine c91 q2 hl (by omega) (by omega) (by omega) fun r H3 L3 s1 s2 s3 => ?_
    simp only [binV_sub, bd_some, wi (show (b' : Int) - 1 = ((b' - 1 : Nat) : Int) by omega) (by omega), wi (show (v : Int) - (a' : Int) = ((v - a' : Nat) : Int) by omega) (by omega), wi (show ((b' - 1 : Nat) : Int) - ((v - a' : Nat) : Int) = ((b' - 1 - (v - a') : Nat) : Int) by omega) (by omega)]
    exact pdq2 (wb := wb) (wp := wp) ih hn hn' hb hnd h ⟨p2.but.trans s1, s2, p.mv.trans (s3.mono hha hhb), p.out.mv s3 hha hhb, p.low.mv s3, hha, p.hab, hhb⟩ hbig hlim (by omega) (by omega) hnum ..
  · exact pdq2 (wb := wb) (wp := wp) ih hn hn' hb hnd h p2 hbig hlim h1 h2 hnum ..
end

theorem pdq_all : ∀ m, Pdq m := by
  intro m
  induction m using Nat.strongRecOn with
  | ind m ih =>
    intro H id n L a b lim k hB hn hn' hlim hnd hab hb hm hlow h
    subst hm
    refine Cl.inline (F := i83) rfl rfl ?_
    rw [w83]
    refine ub83_0 (b - a) (IPdq H id n L a b) ?_ 0 (Nat.zero_le _) ⟨rfl, rfl, a, b, lim, true, true, L, rfl, rfl, rfl, rfl, rfl, hlim, by omega, .refl, hB, .refl, fun p q h1 h2 h3 h4 => by omega, hlow, Nat.le_refl _, hab, Nat.le_refl _⟩
    clear hB hlow hlim
    rintro num hnum _ _ _ _ _ _ _ H1 ⟨rfl, rfl, a', b', lim, wb, wp, L1, rfl, rfl, rfl, rfl, rfl, hlim, hnum2, p⟩
    intros
    have hl : L1.length = n := by rw [p.mv.len, hn]
    have hha := p.ha
    have hhb := p.hb
    have hhab := p.hab
    rw [wb83_0]
    simp only [binV_sub, bd_some, wi (show (b' : Int) - (a' : Int) = ((b' - a' : Nat) : Int) by omega) (by omega), binV_leq, ifB_bool, decide_eq_true_eq]
    split
    · simp only [Bool.true_or, true_and]
      refine c87 p.blk hl (by omega) hhab (by omega) fun r H2 L2 q1 q2 q3 q4 => ?_
      simp only [upQ_r, blockQ_r, ret83]
      exact h _ _ _ (p.but.trans q1) q2 (p.mv.trans (q3.mono hha hhb)) ((p.out.mv q3 hha hhb).srt q4)
    rename_i hbig
    simp only [binV_eql, bd_some, ifB_bool, decide_eq_true_eq]
    split
    · simp only [Bool.true_or, true_and]
      refine c88 p.blk hl (by omega) (by omega) (by omega) fun r H2 L2 q1 q2 q3 q4 => ?_
      simp only [upQ_r, blockQ_r, ret83]
      exact h _ _ _ (p.but.trans q1) q2 (p.mv.trans (q3.mono hha hhb)) ((p.out.mv q3 hha hhb).srt q4)
    rename_i hlim0
    simp only [unV_not, bd_some, ifB_bool]
    cases wb
    · simp only [Bool.not_false, if_true, Bool.true_or, true_and]
      refine c89 p.blk hl hn' (by omega) (by omega) fun r H2 L2 q1 q2 q3 => ?_
      simp only [wi (show (lim : Int) - 1 = ((lim - 1 : Nat) : Int) by omega) (by omega)]
      exact pdq1 (wb := false) (wp := wp) ih hn hn' hb hnd h ⟨p.but.trans q1, q2, p.mv.trans (q3.mono hha hhb), p.out.mv q3 hha hhb, p.low.mv q3, hha, hhab, hhb⟩ (by omega) (by omega) hnum2 ..
    · simp only [Bool.not_true, Bool.false_eq_true, if_false]
      exact pdq1 (wb := true) (wp := wp) ih hn hn' hb hnd h p (by omega) hlim hnum2 ..

/-- slices.SortFunc: sorted, and the same pairs -/
theorem c75 {H : Heap} {id n : Nat} {L : List IP} (hB : BlkP H id L) (hn : L.length = n) (hn' : n < 128) (hnd : L.Nodup) {k : V → Heap → Prop}
    (h : ∀ r H' L', But id H H' → BlkP H' id L' → L'.Perm L → Srt ltE 0 n L' → k r H') : Cl G 75 [.sl id 0 n n 2, .fn 73 []] H k := by
  refine Cl.inline (F := i75) rfl rfl ?_
  rw [w75]
  simp only [lensV, bd_some, convV, wu (show 0 ≤ (n : Int) by omega) (show (n : Int) < 18446744073709551616 by omega), Bool.true_or, true_and]
  refine c84 hn' ?_
  have l8 : lenI n ≤ 8 := by
    by_cases e : n = 0
    · simp [lenI, e]
    · exact (len_pow n (by omega) hn').2
  exact pdq_all n H id n L 0 n (lenI n) _ hB hn hn' (by omega) hnd (Nat.zero_le _) (Nat.le_refl _) rfl (.inl rfl) fun r H' L' q1 q2 q3 q4 => h _ H' L' q1 q2 q3.perm q4
end Go.Proofs.Ytoommmeapdkopaa.E
namespace Go.Proofs.Ytoommmeapdkopaa.E
open Go Go.Eng
abbrev tEdge : Ty := .pair (.int .i64) (.int .i64)
theorem edge_at {v : V} {l : List IP} (h : Arr 2 tEdge.R v l) {i : Nat} (hi : i < l.length) : ∃ rest, iadrV 2 v (.int .i64 i) = some (.rptr (.int .i64 l[i].1 :: .int .i64 l[i].2 :: rest)) := by
  obtain ⟨c, r, ⟨_, _, rfl, ⟨rfl, _⟩, rfl, _⟩, _, e⟩ := h.iadr hi
  exact ⟨r, e⟩
theorem edge_arr {v : V} {l : List IP} (hb : l.length ≤ top) (hr : ∀ x ∈ l, (IntKind.i64.min ≤ x.1 ∧ x.1 ≤ IntKind.i64.max) ∧ (IntKind.i64.min ≤ x.2 ∧ x.2 ≤ IntKind.i64.max)) (hv : v = .ro (cellsP l) l.length ∨ (l.length = 0 ∧ (v = .nils ∨ v = .z0 ∨ v = .e0))) : Arr 2 tEdge.R v l := by
  refine ⟨l.map encP, by simp, fun i h h' => ?_, fun c hc => ?_, hb, cellsP_len, hv⟩
  · simp only [List.getElem_map, encP]
    exact ⟨[.int .i64 l[i].1], [.int .i64 l[i].2], rfl, ⟨rfl, (hr _ (List.getElem_mem _)).1⟩, rfl, (hr _ (List.getElem_mem _)).2⟩
  · obtain ⟨a, _, rfl⟩ := List.mem_map.1 hc; rfl
theorem c72 {n x : Int} {H : Heap} {k : V → Heap → Prop} (h : k (.bool (decide (x < 0) || decide (n ≤ x))) H) : Cl G 72 [.int .i64 n, .int .i64 x] H k := by
  refine Cl.mode1 (F := i72) rfl rfl (by simp) ?_
  rw [w72]
  by_cases h1 : x < 0
  · simpa [h1] using h
  by_cases h2 : n ≤ x
  · simpa [h1, h2] using h
  simpa [h1, h2] using h

/-- a row of pairs that this call holds, or nothing -/
def OwnP (H : Heap) (v : V) (L : List IP) : Prop := (L = [] ∧ (v = .nils ∨ v = .z0)) ∨ ∃ id, v = .sl id 0 L.length L.length 2 ∧ BlkP H id L
theorem OwnP.lens {H : Heap} {v : V} {L : List IP} (h : OwnP H v L) : lensV v = some (.int .i64 L.length) := by
  rcases h with ⟨rfl, rfl | rfl⟩ | ⟨id, rfl, _⟩ <;> rfl
theorem OwnP.close {H : Heap} {v : V} {L : List IP} (h : OwnP H v L) {d : Nat} : ∃ v', closeV H (d + 2) v = some v' ∧ (v' = .ro (cellsP L) L.length ∨ (L.length = 0 ∧ (v' = .nils ∨ v' = .z0 ∨ v' = .e0))) := by
  rcases h with ⟨rfl, rfl | rfl⟩ | ⟨id, rfl, hB⟩
  · exact ⟨.nils, rfl, .inr ⟨rfl, .inl rfl⟩⟩
  · exact ⟨.z0, rfl, .inr ⟨rfl, .inr (.inl rfl)⟩⟩
  · refine ⟨.ro (cellsP L) L.length, ?_, .inl rfl⟩
    have hb : H[id]? = some (.cells (cellsP L)) := hB
    rw [closeV_sl hb (by simp), List.drop_zero, List.take_of_length_le (by simp), mapO_cellsP]
    rfl

theorem c74 {x v : V} {E : List IP} {H : Heap} (hx : closeV H closeDepth x = some v) (hv : v = .ro (cellsP E) E.length ∨ (E = [] ∧ (v = .nils ∨ v = .z0 ∨ v = .e0))) (hn : E.length ≤ 1000) {k : V → Heap → Prop}
    (h : ∀ r H', (∀ j, j < H.length → H'[j]? = H[j]?) → H.length ≤ H'.length → OwnP H' r E → (∀ id o m c q, r = .sl id o m c q → H.length ≤ id) → k r H') : Cl G 74 [x] H k := by
  refine Cl.any2 (F := i74) rfl rfl (args' := [v]) (by simp [mapO, hx]) ?_
  rw [w74]
  rcases hv with rfl | ⟨rfl, rfl | rfl | rfl⟩
  · have e0 : bslV 2 0 [.int .i64 0, .int .i64 0] [] ([] : Heap) = some (.z0, []) := rfl
    have es : sliceCells ([] : Heap) (.ro (cellsP E) E.length) 2 = some (cellsP E, E.length) := by
      simp only [sliceCells, cellsP_len, Nat.le_refl, if_true]
      rw [List.take_of_length_le (by simp)]
    simp only [eqnV, eqV, Option.map_some, bd_some, Bool.false_eq_true, if_false, ifB_bool, e0, bd2_some]
    by_cases hz : E = []
    · subst hz
      simp [appV, es, isSlice]
      show lq H k .z0 H
      exact ⟨.inl rfl, h _ _ (fun _ _ => rfl) (Nat.le_refl _) (.inl ⟨rfl, .inr rfl⟩) (fun _ _ _ _ _ e => by cases e)⟩
    · have hl : E.length ≠ 0 := fun e => hz (List.length_eq_zero_iff.1 e)
      have ea : appV 2 16 true ([] : Heap) .z0 (.ro (cellsP E) E.length) = some (.sl 0 0 E.length E.length 2, [.cells (cellsP E)]) := by
        simp only [appV, es, Option.bind_some, hl, if_false]
        rw [if_pos (by unfold room; omega)]
        rfl
      simp only [ea, bd2_some]
      unfold hq handV
      rw [if_neg (by decide)]
      simp only [List.getElem?_cons_zero, cellsP_len, Nat.le_refl, and_self, if_true]
      have e2 : (cellsP E).take (E.length * 2) = cellsP E := List.take_of_length_le (by simp)
      rw [e2, show closeDepth = 11 + 1 from rfl, mapO_cellsP]
      simp only [Option.map_some, bd2_some]
      refine ⟨.inr ?_, h _ _ (fun j hj => List.getElem?_append_left hj) (by simp) (.inr ⟨H.length, rfl, ?_⟩) (fun id o m c q e => by cases e; exact Nat.le_refl _)⟩
      · simp [scalarRow, scalarVs_cellsP]
      · unfold BlkP; simp
  · simp [eqnV, eqV]
    exact ⟨.inl rfl, h _ _ (fun _ _ => rfl) (Nat.le_refl _) (.inl ⟨rfl, .inl rfl⟩) (fun _ _ _ _ _ e => by cases e)⟩
  · simp [eqnV, eqV, bslV, rep, fillV, appV, sliceCells, isSlice]
    exact ⟨.inl rfl, h _ _ (fun _ _ => rfl) (Nat.le_refl _) (.inl ⟨rfl, .inr rfl⟩) (fun _ _ _ _ _ e => by cases e)⟩
  · simp [eqnV, eqV, bslV, rep, fillV, appV, sliceCells, isSlice]
    exact ⟨.inl rfl, h _ _ (fun _ _ => rfl) (Nat.le_refl _) (.inl ⟨rfl, .inr rfl⟩) (fun _ _ _ _ _ e => by cases e)⟩

/-- sorting what OwnP holds -/
theorem sort_own {H : Heap} {v : V} {L : List IP} (hv : OwnP H v L) (hn : L.length < 128) (hnd : L.Nodup) {k : V → Heap → Prop}
    (h : ∀ r H' L', (∀ id o m c q, v = .sl id o m c q → But id H H') → (v = .nils ∨ v = .z0 → H' = H) → OwnP H' v L' → L'.Perm L → Srt ltE 0 L.length L' → k r H') : Cl G 75 [v, .fn 73 []] H k := by
  rcases hv with ⟨rfl, hv⟩ | ⟨id, rfl, hB⟩
  · have hl : lensV v = some (.int .i64 0) := by rcases hv with rfl | rfl <;> rfl
    refine Cl.inline (F := i75) rfl rfl ?_
    rw [w75]
    simp only [hl, bd_some, convV, wu (show (0 : Int) ≤ 0 by omega) (show (0 : Int) < 18446744073709551616 by omega), Bool.true_or, true_and]
    refine c84 (x := 0) (by omega) ?_
    refine Cl.inline (F := i83) rfl rfl ?_
    rw [w83]
    apply Lp.step
    rw [wb83_0]
    simp only [binV_sub, bd_some, Int.sub_self, wz (show (-9223372036854775808 : Int) ≤ 0 by omega) (by omega), binV_leq, show (0 : Int) ≤ 12 by omega, decide_true, ifB_bool, if_true, Bool.true_or, true_and]
    refine Cl.inline (F := i87) rfl rfl ?_
    rw [w87]
    simp only [binV_add, bd_some, Int.zero_add, wz (show (-9223372036854775808 : Int) ≤ 1 by omega) (by omega)]
    apply Lp.step
    rw [wb87_0]
    simp only [binV_lss, bd_some, show ¬ ((1 : Int) < 0) by omega, decide_false, ifB_bool, Bool.false_eq_true, if_false, loopQ_e, blockQ_e, if_true, ret87n, loopQ_r, blockQ_r, ret83]
    exact h _ _ [] (fun id o m c q e => by rcases hv with rfl | rfl <;> cases e) (fun _ => rfl) (.inl ⟨rfl, hv⟩) (.refl _) (fun i j h1 h2 h3 => by simp at h3)
  · refine c75 hB rfl hn hnd fun r H' L' q1 q2 q3 q4 => ?_
    have hl : L'.length = L.length := q3.length_eq
    exact h r H' L' (fun id' o m c q e => by cases e; exact q1) (fun e => by rcases e with e | e <;> cases e) (.inr ⟨id, by rw [hl], q2⟩) q3 q4

theorem eq_flat {x y : IP} : eqnV (.flat [.i, .i]) false (vP x) (vP y) = some (.bool (decide (x = y))) := by
  have : decide (x = y) = (decide (x.1 = y.1) && decide (x.2 = y.2)) := by
    rw [← Bool.decide_and]; exact decide_eq_decide.2 Prod.ext_iff
  rw [this]
  simp only [eqnV, vP, eqV, eqs, eq1, if_true, Option.bind_some, Option.map_some, Bool.false_eq_true, if_false, beq_eq_decide, Bool.and_true]

/-- slices.Compact of different pairs -/
theorem c76 {H : Heap} {v : V} {L : List IP} (hv : OwnP H v L) (hn : L.length ≤ 1000) (hnd : L.Nodup) {k : V → Heap → Prop} (h : k v H) : Cl G 76 [v] H k := by
  refine Cl.inline (F := i76) rfl rfl ?_
  rw [w76]
  simp only [hv.lens, bd_some, binV_lss, ifB_bool, decide_eq_true_eq]
  split
  · exact h
  rename_i h2
  rcases hv with ⟨rfl, _⟩ | ⟨id, rfl, hB⟩
  · simp at h2
  refine ub76_0 L.length (fun m c0 c3 H1 => c0 = .sl id 0 L.length L.length 2 ∧ c3 = .int .i64 m ∧ 1 ≤ m ∧ H1 = H) ?_ 1 (by omega) ⟨rfl, rfl, Nat.le_refl _, rfl⟩
  rintro m hm _ _ _ ⟨rfl, rfl, h1, rfl⟩
  intros
  rw [wb76_0]
  simp only [lensV, bd_some, binV_lss, ifB_bool, decide_eq_true_eq, Int.ofNat_lt]
  split
  · rename_i hlt
    have ne : gt' L m ≠ gt' L (m - 1) := fun e => by have := nodup_gt hnd hlt (by omega) e; omega
    simp only [iadrP hlt, bd_some, hB.ld hlt, binV_sub, wi (show (m : Int) - 1 = ((m - 1 : Nat) : Int) by omega) (by omega), iadrP (show m - 1 < L.length by omega), hB.ld (show m - 1 < L.length by omega), eq_flat, ne, decide_false, ifB_bool, Bool.false_eq_true, if_false, wr76_4, binV_add, wi (show (m : Int) + 1 = ((m + 1 : Nat) : Int) by omega) (by omega), upQ_n, Sb76_0_eq, true_and]
    exact ⟨m + 1, by omega, by omega, rfl, by omega, trivial⟩
  · simp only [upQ_e, blockQ_e, if_true, seqQ_n, wr76_5, ret76]
    exact h
end Go.Proofs.Ytoommmeapdkopaa.E
namespace Go.Proofs.Ytoommmeapdkopaa.E
open Go Go.Eng

/-- all blocks are as they were -/
def Kp (H H' : Heap) : Prop := H.length ≤ H'.length ∧ ∀ j, j < H.length → H'[j]? = H[j]?
theorem Kp.refl {H : Heap} : Kp H H := ⟨Nat.le_refl _, fun _ _ => rfl⟩
theorem Kp.trans {H H' H'' : Heap} (h : Kp H H') (h' : Kp H' H'') : Kp H H'' := ⟨Nat.le_trans h.1 h'.1, fun j hj => (h'.2 j (Nat.lt_of_lt_of_le hj h.1)).trans (h.2 j hj)⟩
theorem Kp.app {H l : Heap} : Kp H (H ++ l) := ⟨by simp, fun j hj => List.getElem?_append_left hj⟩
theorem OwnP.kp {H H' : Heap} {v : V} {L : List IP} (h : OwnP H v L) (k : Kp H H') : OwnP H' v L := by
  rcases h with h | ⟨id, rfl, hB⟩
  · exact .inl h
  · exact .inr ⟨id, rfl, by unfold BlkP; rw [k.2 id hB.lt]; exact hB⟩
theorem frz_new {H : Heap} {cs : List V} (hc : closedVs cs = true) : frzV (H ++ [.cells cs]) (.ptr H.length 0) = some (.rptr cs, H ++ [.dead]) := by
  simp only [frzV]
  rw [List.getElem?_append_right (Nat.le_refl _)]
  simp [hc]
theorem OwnP.elem {H : Heap} {v : V} {L : List IP} (h : OwnP H v L) {i : Nat} (hi : i < L.length) : ∃ p, iadrV 2 v (.int .i64 i) = some p ∧ ldV H p 2 true = some (vP (gt' L i)) := by
  rcases h with ⟨rfl, _⟩ | ⟨id, rfl, hB⟩
  · simp at hi
  · exact ⟨_, iadrP hi, hB.ld hi⟩
/-- both ends are nodes -/
def inG (n : Nat) (E : List IP) : Prop := ∀ e ∈ E, (0 ≤ e.1 ∧ e.1 < n) ∧ (0 ≤ e.2 ∧ e.2 < n)
theorem gt_mem {L : List IP} {i : Nat} (h : i < L.length) : gt' L i ∈ L := by rw [gt_get h]; exact List.getElem_mem h

theorem c62 {H : Heap} {v : V} {E : List IP} {n : Nat} (hv : OwnP H v E) (hE : E.length < 128) (hn : n ≤ 64) (hr : inG n E) (hnd : E.Nodup) {k : V → Heap → Prop}
    (h : ∀ r H' E', Kp H H' → OwnP H' r E' → E'.Perm E → Srt ltE 0 E.length E' → k (.tup [.agg [.int .i64 n, r], .int .i64 0]) H') : Cl G 62 [.int .i64 n, v] H k := by
  refine Cl.inline (F := i62) rfl rfl ?_
  rw [w62]
  have n0 : ¬ ((n : Int) < 0) := by omega
  have n1 : ¬ ((n : Int) > 64) := by omega
  simp only [newB, binV_lss, bd_some, n0, decide_false, gdV_bool, beq_self_eq_true, wpg_true, binV_gtr, n1, pickV_bool, Bool.false_eq_true, if_false, ifB_bool, hv.lens]
  generalize hH0 : H ++ [B.cells [V.int .i64 0, V.nils]] = H0
  have kp0 : Kp H H0 := by rw [← hH0]; exact .app
  have box0 : H0[H.length]? = some (.cells [.int .i64 0, .nils]) := by rw [← hH0]; simp
  refine ub62_0 E.length (fun m c0 c1 c4 c16 c17 c18 H1 => c0 = .int .i64 n ∧ v = c1 ∧ c4 = .ptr H.length 0 ∧ v = c16 ∧ c17 = .int .i64 E.length ∧ c18 = .int .i64 m ∧ Kp H0 H1) ?_ 0 (Nat.zero_le _) ⟨rfl, rfl, rfl, rfl, rfl, rfl, .refl⟩
  rintro m hm _ _ _ _ _ _ H1 ⟨rfl, rfl, rfl, e16, rfl, rfl, kp⟩
  subst e16
  intros
  have hv1 := hv.kp (kp0.trans kp)
  rw [wb62_0]
  simp only [binV_lss, bd_some, ifB_bool, decide_eq_true_eq, Int.ofNat_lt]
  split
  · rename_i hlt
    obtain ⟨p, e1, e2⟩ := hv1.elem hlt
    obtain ⟨⟨r1, r2⟩, r3, r4⟩ := hr _ (gt_mem hlt)
    simp only [e1, bd_some, e2, newB, true_and]
    rw [vP, stV_new (by rfl) (by rfl)]
    simp only [bd_some, frz_new (show closedVs [V.int .i64 (gt' E m).1, V.int .i64 (gt' E m).2] = true from rfl), bd2_some, fadrV_rptr, List.drop_zero, List.drop_succ_cons, ldrV_one, Bool.true_or, true_and]
    refine c72 ?_
    have b1 : (decide ((gt' E m).1 < 0) || decide ((n : Int) ≤ (gt' E m).1)) = false := by simp; omega
    have b2 : (decide ((gt' E m).2 < 0) || decide ((n : Int) ≤ (gt' E m).2)) = false := by simp; omega
    simp only [b1, gdV_bool, beq_self_eq_true, wpg_true]
    try simp only [bd_some, fadrV_rptr, List.drop_zero, List.drop_succ_cons, ldrV_one, Bool.true_or, true_and]
    refine c72 ?_
    simp only [b2, pickV_bool, Bool.false_eq_true, if_false, bd_some, ifB_bool, binV_add, wi (show (m : Int) + 1 = ((m + 1 : Nat) : Int) by omega) (by omega), upQ_n, Sb62_0_eq, true_and]
    exact ⟨m + 1, by omega, by omega, rfl, kp.trans .app⟩
  · simp only [upQ_e, blockQ_e, if_true, seqQ_n, wr62_1, Bool.true_or, true_and]
    have hlH : H.length < H1.length := by have := (List.getElem?_eq_some_iff.1 box0).1; have := kp.1; omega
    obtain ⟨v', hc1, hc2⟩ := hv1.close (d := 10)
    refine c74 (v := v') (E := E) hc1 (hc2.imp (fun h => h) fun ⟨a, b⟩ => ⟨List.length_eq_zero_iff.1 a, b⟩) (by omega) fun r H2 k1 k2 own2 fresh => ?_
    refine sort_own own2 hE hnd fun u H3 E' s1 s2 own3 perm srt => ?_
    have hl : E'.length = E.length := perm.length_eq
    refine c76 own3 (by omega) (perm.nodup_iff.2 hnd) ?_
    have keep : Kp H1 H3 := by
      rcases own2 with ⟨_, e⟩ | ⟨id, e, hB⟩
      · rw [s2 e]; exact ⟨k2, k1⟩
      · have b := s1 _ _ _ _ _ e
        have f := fresh _ _ _ _ _ e
        exact ⟨Nat.le_trans k2 b.1, fun j hj => by rw [b.2 j (by omega) (by omega), k1 j hj]⟩
    have box3 : H3[H.length]? = some (.cells [.int .i64 0, .nils]) := by rw [keep.2 _ hlH, kp.2 _ (by have := (List.getElem?_eq_some_iff.1 box0).1; omega)]; exact box0
    have hb : bldV [.int .i64 0, .nils] [(0, 1, .int .i64 n), (1, 1, r)] = some (.agg [.int .i64 n, r]) := by
      rcases own3 with ⟨_, rfl | rfl⟩ | ⟨id, rfl, _⟩ <;> rfl
    have hst : stV H3 2 (.ptr H.length 0) (.agg [.int .i64 n, r]) = some (H3.set H.length (.cells [.int .i64 n, r])) := by
      simp only [stV, wrt, cellsV, notTup, box3]
      rfl
    simp only [hb, bd_some, hst, true_and, ret62, resultV, mapO, result1]
    have ld : rd (H3.set H.length (.cells [.int .i64 n, r])) (.ptr H.length 0) 2 = some [.int .i64 n, r] := by
      simp only [rd]
      rw [List.getElem?_set_self (by have := keep.1; omega)]
      rfl
    simp only [List.getD_cons_zero, List.getD_cons_succ, ld, Option.bind_some, packV, if_true, Option.map_some, bd_some]
    refine h r _ E' ?_ ?_ perm srt
    · refine ⟨by have := keep.1; have := kp.1; have := kp0.1; simp; omega, fun j hj => ?_⟩
      rw [List.getElem?_set_ne (by omega), keep.2 j (by omega), kp.2 j (by have := kp0.1; omega), kp0.2 j hj]
    · rcases own3 with ⟨a, b⟩ | ⟨id, rfl, hB⟩
      · exact .inl ⟨a, b⟩
      · refine .inr ⟨id, rfl, ?_⟩
        have f := fresh _ _ _ _ _ rfl
        unfold BlkP
        rw [List.getElem?_set_ne (by omega)]
        exact hB

theorem pairs_len {n : Nat} {E : List IP} (hr : inG n E) (hnd : E.Nodup) : E.length ≤ n * n := by
  have := nodup_len (n * n) (E.map fun e => e.1.toNat * n + e.2.toNat) ?_ ?_
  · simpa using this
  · rw [List.Nodup, List.pairwise_map]
    refine hnd.imp_of_mem ?_
    intro x y hx hy hne e
    obtain ⟨⟨x1, x2⟩, x3, x4⟩ := hr x hx
    obtain ⟨⟨y1, y2⟩, y3, y4⟩ := hr y hy
    have hx2 : x.2.toNat < n := by omega
    have hy2 : y.2.toNat < n := by omega
    have hd : (x.1.toNat * n + x.2.toNat) / n = (y.1.toNat * n + y.2.toNat) / n := by rw [e]
    rw [Nat.mul_comm x.1.toNat, Nat.mul_comm y.1.toNat, Nat.mul_add_div (by omega), Nat.mul_add_div (by omega), Nat.div_eq_of_lt hx2, Nat.div_eq_of_lt hy2] at hd
    have e1 : x.1.toNat = y.1.toNat := by omega
    rw [e1] at e
    exact hne (Prod.ext (by omega) (by omega))
  · intro d hd
    obtain ⟨e, he, rfl⟩ := List.mem_map.1 hd
    obtain ⟨⟨x1, x2⟩, x3, x4⟩ := hr e he
    have h1 : e.1.toNat + 1 ≤ n := by omega
    have h2 := Nat.mul_le_mul_right n h1
    rw [Nat.succ_mul] at h2
    omega

theorem c60 {v : V} {E : List IP} (hv : Arr 2 tEdge.R v E) {n : Nat} (hn : n ≤ 64) (hr : inG n E) (hnd : E.Nodup) (hs : Srt ltE 0 E.length E) {H : Heap} {k : V → Heap → Prop} (h : k (.int .i64 0) H) : Cl G 60 [.agg [.int .i64 n, v]] H k := by
  refine Cl.mode1 (F := i60) rfl rfl (by simp [hv.closed]) ?_
  rw [w60]
  have hle := hv.le
  have n0 : ¬ ((n : Int) < 0) := by omega
  have n1 : ¬ ((n : Int) > 64) := by omega
  have hnn : n * n ≤ 64 * 64 := Nat.mul_le_mul hn hn
  have w : IntKind.i64.wrap ((n : Int) * (n : Int)) = ((n * n : Nat) : Int) := wi (by simp) (by omega)
  have hp := pairs_len hr hnd
  have n2 : ¬ ((E.length : Int) > ((n * n : Nat) : Int)) := by omega
  simp only [bxrV_agg, closedVs_cons, closedVs_nil, closedV_int, hv.closed, Bool.and_self, bd_some, fadrV_rptr, List.drop_zero, List.drop_succ_cons, ldV_one, binV_lss, n0, decide_false, gdV_bool, beq_self_eq_true, wpg_true, binV_gtr, n1, pickV_bool, Bool.false_eq_true, if_false, ifB_bool, hv.lens, binV_mul, w, n2]
  refine ub60_0 E.length (fun m c1 c26 c27 c28 H1 => c1 = .rptr [.int .i64 n, v] ∧ v = c26 ∧ c27 = .int .i64 E.length ∧ c28 = .int .i64 m) ?_ 0 (Nat.zero_le _) ⟨rfl, rfl, rfl, rfl⟩
  rintro m hm _ _ _ _ H1 ⟨rfl, rfl, rfl, rfl⟩
  intros
  rw [wb60_0]
  simp only [binV_lss, bd_some, ifB_bool, decide_eq_true_eq, Int.ofNat_lt]
  split
  · rename_i hlt
    obtain ⟨rest, e⟩ := edge_at hv hlt
    obtain ⟨⟨r1, r2⟩, r3, r4⟩ := hr _ (List.getElem_mem hlt)
    simp only [e, bd_some, ldV_s2, newB, true_and]
    rw [stV_new (by rfl) (by rfl)]
    simp only [bd_some, frz_new (show closedVs [V.int .i64 E[m].1, V.int .i64 E[m].2] = true from rfl), bd2_some, fadrV_rptr, List.drop_zero, List.drop_succ_cons, ldrV_one, ldV_one, Bool.true_or, true_and]
    refine c72 ?_
    have b1 : (decide (E[m].1 < 0) || decide ((n : Int) ≤ E[m].1)) = false := by simp; omega
    have b2 : (decide (E[m].2 < 0) || decide ((n : Int) ≤ E[m].2)) = false := by simp; omega
    simp only [b1, gdV_bool, beq_self_eq_true, wpg_true]
    try simp only [bd_some, fadrV_rptr, List.drop_zero, List.drop_succ_cons, ldrV_one, ldV_one, Bool.true_or, true_and]
    refine c72 ?_
    simp only [b2, pickV_bool, Bool.false_eq_true, if_false, bd_some, ifB_bool, binV_add, wi (show (m : Int) + 1 = ((m + 1 : Nat) : Int) by omega) (by omega), upQ_n, Sb60_0_eq, true_and]
    exact ⟨m + 1, by omega, by omega, rfl⟩
  · simp only [upQ_e, blockQ_e, if_true, seqQ_n, wr60_1]
    refine ub60_2 (E.length + 1) (fun m c1 c5 H1 => c1 = .rptr [.int .i64 n, v] ∧ c5 = .int .i64 m ∧ 1 ≤ m) ?_ 1 (by omega) ⟨rfl, rfl, Nat.le_refl _⟩
    rintro m hm _ _ H1 ⟨rfl, rfl, h1⟩
    intros
    rw [wb60_2]
    simp only [fadrV_rptr, List.drop_zero, List.drop_succ_cons, ldV_one, hv.lens, binV_lss, bd_some, ifB_bool, decide_eq_true_eq, Int.ofNat_lt]
    split
    · rename_i hlt
      obtain ⟨rest, e⟩ := edge_at hv hlt
      obtain ⟨rest', e'⟩ := edge_at hv (show m - 1 < E.length by omega)
      simp only [binV_sub, bd_some, wi (show (m : Int) - 1 = ((m - 1 : Nat) : Int) by omega) (by omega), e', e, ldV_s2, Bool.true_or, true_and]
      refine c73 (x := E[m - 1]) (y := E[m]) ?_
      have lt : ordE E[m - 1] E[m] < 0 := by
        have h0 := hs (m - 1) m (Nat.zero_le _) (by omega) hlt
        rw [gt_get hlt, gt_get (show m - 1 < E.length by omega)] at h0
        have : ltE E[m - 1] E[m] = true := by
          cases c : ltE E[m - 1] E[m]
          · have := loE.tot _ _ c h0
            exact absurd this (List.pairwise_iff_getElem.1 hnd (m - 1) m (by omega) hlt (by omega))
          · rfl
        simpa [ltE] using this
      have ge : ¬ (ordE E[m - 1] E[m] ≥ 0) := by omega
      simp only [binV_geq, bd_some, ge, decide_false, ifB_bool, Bool.false_eq_true, if_false, binV_add, wi (show (m : Int) + 1 = ((m + 1 : Nat) : Int) by omega) (by omega), upQ_n, Sb60_2_eq, true_and]
      exact ⟨m + 1, by omega, by omega, rfl, by omega⟩
    · simpa [wr60_3] using h
end Go.Proofs.Ytoommmeapdkopaa.E
namespace Go.Proofs.Ytoommmeapdkopaa.E
open Go Go.Eng

/-- where the edges of k lead -/
def rowE (E : List IP) (k : Nat) : List Int := (E.filter fun e => decide (e.1 = (k : Int))).map Prod.snd
/-- the edges to i from nodes that are not in D -/
def cntE (E : List IP) (D : List Nat) (i : Nat) : Nat := E.countP fun e => decide (e.2 = (i : Int)) && !decide (e.1.toNat ∈ D)
theorem rowE_snoc {E : List IP} {e : IP} {k : Nat} : rowE (E ++ [e]) k = if e.1 = (k : Int) then rowE E k ++ [e.2] else rowE E k := by
  simp only [rowE, List.filter_append, List.map_append]
  by_cases h : e.1 = (k : Int)
  · simp [h]
  · simp [h]
theorem rowE_len {E : List IP} {k : Nat} : (rowE E k).length ≤ E.length := by
  simp only [rowE, List.length_map]; exact List.length_filter_le ..
theorem mem_rowE {E : List IP} {k : Nat} {x : Int} : x ∈ rowE E k ↔ ((k : Int), x) ∈ E := by
  simp only [rowE, List.mem_map, List.mem_filter, decide_eq_true_eq]
  constructor
  · rintro ⟨e, ⟨h1, h2⟩, rfl⟩
    rw [← h2]; exact h1
  · intro h; exact ⟨_, ⟨h, rfl⟩, rfl⟩
theorem cntE_snoc {D : List Nat} {k : Nat} (hk : k ∉ D) : ∀ (E : List IP) (i : Nat), (∀ e ∈ E, 0 ≤ e.1) → cntE E (D ++ [k]) i + (rowE E k).count (i : Int) = cntE E D i
  | [], i, _ => rfl
  | e :: E, i, h => by
    have ih := cntE_snoc hk E i (fun e he => h e (by simp [he]))
    have h0 := h e (by simp)
    simp only [cntE, rowE, List.countP_cons, List.filter_cons] at ih ⊢
    by_cases h1 : e.1 = (k : Int)
    · have hk' : e.1.toNat = k := by omega
      by_cases h2 : e.2 = (i : Int)
      · simp [h1, h2, hk] at ih ⊢; omega
      · simp [h1, h2, hk] at ih ⊢; omega
    · have hk' : ¬ e.1.toNat = k := by omega
      simp [h1, hk'] at ih ⊢; omega

theorem c61 {v : V} {E : List IP} (hv : Arr 2 tEdge.R v E) {n : Nat} (hn : n ≤ 64) (hE : E.length ≤ 1000) (hr : inG n E) (hpos : 0 < n) {H : Heap} {k : V → Heap → Prop} (h : ∀ r, Arr 1 (Ty.R (.sl (.int .i64))) r ((List.range n).map (rowE E)) → k r H) : Cl G 61 [.agg [.int .i64 n, v]] H k := by
  refine Cl.mode1 (F := i61) rfl rfl (by simp [hv.closed]) ?_
  rw [w61]
  have e0 : mksV 1 24 [.nils] [] (.int .i64 n) (.int .i64 n) = some (.sl 0 0 n n 1, [.cells (List.replicate n .nils)]) := by
    have : ¬ ((n : Int) = 0) := by omega
    have r : (n : Int) * (24 : Nat) ≤ (room : Int) := by unfold room; omega
    simp only [mksV, this, if_false, Int.le_refl, true_and, List.length_nil, List.nil_append, Int.toNat_natCast]
    rw [if_pos ⟨by omega, r⟩, rep_one]
  simp only [bxrV_agg, closedVs_cons, closedVs_nil, closedV_int, hv.closed, Bool.and_self, bd_some, fadrV_rptr, List.drop_zero, List.drop_succ_cons, ldV_one, e0, bd2_some, hv.lens]
  refine ub61_0 E.length (fun m c3 c10 c11 c12 H1 => c3 = .sl 0 0 n n 1 ∧ v = c10 ∧ c11 = .int .i64 E.length ∧ c12 = .int .i64 m ∧ RowsG H1 n (rowE (E.take m))) ?_ 0 (Nat.zero_le _)
    ⟨rfl, rfl, rfl, rfl, List.replicate n .nils, by simp, rfl, fun i hi => .inl ⟨by simp [hi], rfl⟩, fun i j id a c b d e => by rw [List.getElem?_replicate] at e; split at e <;> cases e⟩
  rintro m hm _ _ _ _ H1 ⟨rfl, rfl, rfl, rfl, hR⟩
  intros
  rw [wb61_0]
  simp only [binV_lss, bd_some, ifB_bool, decide_eq_true_eq, Int.ofNat_lt]
  split
  · rename_i hlt
    obtain ⟨rest, e⟩ := edge_at hv hlt
    obtain ⟨⟨r1, r2⟩, r3, r4⟩ := hr _ (List.getElem_mem hlt)
    simp only [e, bd_some, ldV_s2, newB, true_and]
    rw [stV_new (by rfl) (by rfl)]
    simp only [bd_some, frz_new (show closedVs [V.int .i64 E[m].1, V.int .i64 E[m].2] = true from rfl), bd2_some, fadrV_rptr, List.drop_zero, List.drop_succ_cons, ldrV_one]
    have hR2 := hR.alloc [B.dead]
    generalize H1 ++ [B.dead] = H2 at hR2
    obtain ⟨a, ha⟩ : ∃ a : Nat, E[m].1 = a := ⟨E[m].1.toNat, by omega⟩
    have han : a < n := by omega
    have hlen := rowE_len (E := E.take m) (k := a)
    obtain ⟨w, w', H3, H4, l1, l2, l3, hR3⟩ := hR2.push han (x := E[m].2) (by simp at hlen; unfold room; omega)
    have ia : iadrV 1 (.sl 0 0 n n 1) (.int .i64 a) = some (.ptr 0 a) := by simp [iadrV, han]
    simp only [ha, ia, bd_some, l1, bslV_one (show oneC (.int .i64 E[m].2) = true from rfl), bd2_some, l2, l3, true_and, binV_add, wi (show (m : Int) + 1 = ((m + 1 : Nat) : Int) by omega) (by omega), upQ_n, Sb61_0_eq]
    refine ⟨m + 1, by omega, by omega, rfl, ?_⟩
    have ef : rowE (E.take (m + 1)) = fun j => if j = a then rowE (E.take m) a ++ [E[m].2] else rowE (E.take m) j := by
      funext j
      rw [tk hlt, rowE_snoc, ha]
      by_cases hj : j = a
      · subst hj; simp
      · have : ¬ (a : Int) = (j : Int) := by omega
        simp [hj, this]
    rw [ef]
    exact hR3
  · rename_i hge
    rw [take_all hge] at hR
    simp only [upQ_e, blockQ_e, if_true, seqQ_n, wr61_1, ret61]
    obtain ⟨r, q1, q2⟩ := hR.close (by unfold top; omega) (fun i hi => by have := rowE_len (E := E) (k := i); unfold top; omega) (fun i hi x hx => by
      obtain ⟨_, x1, x2⟩ := hr _ (mem_rowE.1 hx)
      exact i64_mm (by simp at x1; omega) (by simp at x2; omega)) (d := 9)
    exact hq_some q1 (h r q2)
end Go.Proofs.Ytoommmeapdkopaa.E
namespace Go.Proofs.Ytoommmeapdkopaa.E
open Go Go.Eng

/-- a byte of a name -/
def okB (b : UInt8) : Bool := decide (33 ≤ b.toNat) && decide (b.toNat ≤ 126)
/-- a name -/
def okName (s : List UInt8) : Bool := s.all okB && decide (1 ≤ s.length) && decide (s.length ≤ 40)

theorem c59 {s : List UInt8} (hs : s.length ≤ top) {H : Heap} {k : V → Heap → Prop} (h : k (.bool (okName s)) H) : Cl G 59 [.str s] H k := by
  refine Cl.mode1 (F := i59) rfl rfl (by simp) ?_
  rw [w59]
  refine ub59_0 s.length (fun i a b _ => a = .str s ∧ b = .int .i64 i ∧ (s.take i).all okB = true) ?_ 0 (Nat.zero_le _) (by simp)
  rintro i hi _ _ _ ⟨rfl, rfl, he⟩
  intros
  rw [wb59_0]
  simp only [lentV_str, bd_some, binV_lss, ifB_bool, decide_eq_true_eq, Int.ofNat_lt]
  split
  · rename_i hlt
    have e : sidxV (.str s) (.int .i64 i) = some (.int .u8 s[i].toNat) := by simp [sidxV, hlt]
    have out : okB s[i] = false → okName s = false := fun hf => by
      have : s.all okB = false := by rw [List.all_eq_false]; exact ⟨_, List.getElem_mem hlt, by rw [hf]; exact Bool.false_ne_true⟩
      simp [okName, this]
    by_cases f1 : (s[i].toNat : Int) < 33
    · simpa [e, f1, out (by simp only [okB, Bool.and_eq_false_iff, decide_eq_false_iff_not]; omega)] using h
    by_cases f2 : 126 < (s[i].toNat : Int)
    · simpa [e, f1, f2, out (by simp only [okB, Bool.and_eq_false_iff, decide_eq_false_iff_not]; omega)] using h
    simp [e, f1, f2, wrap_succ (show i + 1 ≤ 9223372036854775807 by unfold top at hs; omega), -List.all_eq_true]
    exact ⟨i + 1, by omega, by omega, by simp, by rw [all_take_succ hlt, he, Bool.true_and]; simp only [okB, Bool.and_eq_true, decide_eq_true_eq]; omega⟩
  · rename_i hge
    rw [take_all hge] at he
    simp only [okName, he, Bool.true_and] at h
    by_cases f1 : 1 ≤ s.length
    case neg =>
      have : ¬ (1 ≤ (s.length : Int)) := by omega
      simpa [wr59_1, this, f1] using h
    have f1' : 1 ≤ (s.length : Int) := by omega
    by_cases f2 : s.length ≤ 40
    case neg =>
      have : ¬ ((s.length : Int) ≤ 40) := by omega
      simpa [wr59_1, this, f1, f1', f2] using h
    have f2' : (s.length : Int) ≤ 40 := by omega
    simpa [wr59_1, f1, f1', f2, f2'] using h

theorem c78 {r : Int} {H : Heap} {k : V → Heap → Prop} (h : k (.bool (decide (r < 33) || decide (126 < r))) H) : Cl G 78 [.int .i32 r] H k := by
  refine Cl.mode1 (F := i78) rfl rfl (by simp) ?_
  rw [w78]
  by_cases f1 : r < 33
  · simpa [f1] using h
  by_cases f2 : 126 < r
  · simpa [f1, f2] using h
  simpa [f1, f2] using h

/-- a rune of one byte, or one beyond -/
theorem decode_small {s : List UInt8} {i : Nat} (hi : i < s.length) (h : s[i].toNat < 128) : decodeAt s i = ((s[i].toNat : Int), 1) := by
  have e : (ByteArray.mk s.toArray).get! i = s[i] := by
    simp [ByteArray.get!, hi]
  simp only [decodeAt, Utf8.decode, Nat.add_zero, e]
  rw [if_pos h]
theorem decode_big {s : List UInt8} {i : Nat} (hi : i < s.length) (h : 128 ≤ s[i].toNat) : 126 < (decodeAt s i).1 := by
  have e : (ByteArray.mk s.toArray).get! i = s[i] := by
    simp [ByteArray.get!, hi]
  simp only [decodeAt, Utf8.decode, Nat.add_zero, e]
  rw [if_neg (by omega)]
  repeat' split
  all_goals (try simp only [Bool.and_eq_true, decide_eq_true_eq] at *)
  all_goals (try simp only [Utf8.runeError])
  all_goals (try omega)

theorem c97 {s : List UInt8} (hs : s.length ≤ top) {H : Heap} {k : V → Heap → Prop} (h : ∀ r : Int, (0 ≤ r ↔ s.all okB = false) → k (.int .i64 r) H) : Cl G 97 [.str s, .fn 78 [], .bool true] H k := by
  refine Cl.mode1 (F := i97) rfl rfl (by simp) ?_
  rw [w97]
  simp only [rngV, bd_some, newB, List.length_nil, List.nil_append]
  refine ub97_0 s.length (fun i a b c H => a = .fn 78 [] ∧ b = .bool true ∧ c = .ptr 0 0 ∧ H = [.siter s i] ∧ (s.take i).all okB = true) ?_ 0 (Nat.zero_le _) (by simp)
  rintro i hi _ _ _ _ ⟨rfl, rfl, rfl, rfl, he⟩
  intros
  rw [wb97_0]
  by_cases hlt : i < s.length
  · have e : nxtV [B.siter s i] (.ptr 0 0) = some (.tup [.bool true, .int .i64 i, .int .i32 (decodeAt s i).1], [.siter s (i + (decodeAt s i).2)]) := by simp [nxtV, hlt]
    simp only [e, bd2_some, extV, List.getElem?_cons_zero, List.getElem?_cons_succ, bd_some, ifB_bool, if_true, callV_fn, Bool.true_or, true_and, List.append_nil]
    refine c78 ?_
    by_cases f : s[i].toNat < 128
    case neg =>
      have := decode_big hlt (by omega)
      simp [this]
      refine h i ⟨fun _ => ?_, fun _ => by omega⟩
      rw [List.all_eq_false]
      exact ⟨_, List.getElem_mem hlt, by simp only [okB, Bool.and_eq_true, decide_eq_true_eq]; omega⟩
    rw [decode_small hlt f]
    by_cases f1 : okB s[i] = true
    case neg =>
      have : (s[i].toNat : Int) < 33 ∨ 126 < (s[i].toNat : Int) := by simp only [okB, Bool.and_eq_true, decide_eq_true_eq] at f1; omega
      simp [this]
      refine h i ⟨fun _ => ?_, fun _ => by omega⟩
      rw [List.all_eq_false]
      exact ⟨_, List.getElem_mem hlt, f1⟩
    have f2 := f1
    simp only [okB, Bool.and_eq_true, decide_eq_true_eq] at f2
    have g1 : ¬ ((s[i].toNat : Int) < 33) := by omega
    have g2 : ¬ (126 < (s[i].toNat : Int)) := by omega
    simp [g1, g2, -List.all_eq_true]
    exact ⟨i + 1, by omega, by omega, by simp, by rw [all_take_succ hlt, he, f1]; rfl⟩
  · have e : nxtV [B.siter s i] (.ptr 0 0) = some (.tup [.bool false], [.siter s i]) := by simp [nxtV, hlt]
    rw [take_all hlt] at he
    simp [e, extV, wr97_1]
    exact h (-1) ⟨fun h => by omega, fun h => by rw [he] at h; cases h⟩

theorem c85 {s : List UInt8} (hs : s.length ≤ top) {H : Heap} {k : V → Heap → Prop} (h : ∀ r : Int, (0 ≤ r ↔ s.all okB = false) → k (.int .i64 r) H) : Cl G 85 [.str s, .fn 78 []] H k := by
  refine Cl.mode1 (F := i85) rfl rfl (by simp) ?_
  rw [w85]
  simp
  exact c97 hs fun r hr => by simpa using h r hr

theorem c77 {s : List UInt8} (hs : s.length ≤ top) {H : Heap} {k : V → Heap → Prop} (h : k (.bool (!s.all okB)) H) : Cl G 77 [.str s, .fn 78 []] H k := by
  refine Cl.mode1 (F := i77) rfl rfl (by simp) ?_
  rw [w77]
  simp
  refine c85 hs fun r hr => ?_
  have : decide (0 ≤ r) = !s.all okB := by
    cases hb : s.all okB
    · simpa [hb] using hr
    · simpa [hb] using hr
  simp [this, -List.all_eq_true]
  simpa using h

theorem c67 {s : List UInt8} (hs : s.length ≤ top) {H : Heap} {k : V → Heap → Prop} (h : k (.bool (okName s)) H) : Cl G 67 [.str s] H k := by
  refine Cl.mode1 (F := i67) rfl rfl (by simp) ?_
  rw [w67]
  by_cases f1 : 1 ≤ s.length
  case neg =>
    have : ¬ (0 < s.length) := by omega
    have e : okName s = false := by simp [okName, f1, -List.all_eq_true]
    simpa [this, e] using h
  have f1' : 0 < s.length := by omega
  by_cases f2 : s.length ≤ 40
  case neg =>
    have : ¬ ((s.length : Int) ≤ 40) := by omega
    have e : okName s = false := by simp [okName, f2, -List.all_eq_true]
    simpa [this, f1', e] using h
  have f2' : (s.length : Int) ≤ 40 := by omega
  have e : okName s = s.all okB := by simp [okName, f1, f2, -List.all_eq_true]
  simp [f1', f2']
  refine c77 hs ?_
  cases hb : s.all okB <;> simpa [e, hb, -List.all_eq_true] using h
end Go.Proofs.Ytoommmeapdkopaa.E
namespace Go.Proofs.Ytoommmeapdkopaa.E
open Go Go.Eng
abbrev tTask : Ty := .pair .str (.pair (.int .i64) (.pair .str (.sl (.int .i64))))
abbrev tStation : Ty := .pair .str (.sl .str)
abbrev tShop : Ty := .pair (.sl tTask) (.sl tStation)

theorem task_at {v : V} {l : List tTask.D} (h : Arr 4 tTask.R v l) {i : Nat} (hi : i < l.length) : ∃ w rest, iadrV 4 v (.int .i64 i) = some (.rptr (.str l[i].1 :: .int .i64 l[i].2.1 :: .str l[i].2.2.1 :: w :: rest)) ∧ Arr 1 tI.R w l[i].2.2.2 := by
  obtain ⟨c, r, ⟨_, _, rfl, ⟨rfl, _⟩, _, _, rfl, ⟨rfl, _⟩, _, _, rfl, ⟨rfl, _⟩, w, rfl, q⟩, _, e⟩ := h.iadr hi
  exact ⟨w, r, e, q⟩
theorem station_at {v : V} {l : List tStation.D} (h : Arr 2 tStation.R v l) {i : Nat} (hi : i < l.length) : ∃ w rest, iadrV 2 v (.int .i64 i) = some (.rptr (.str l[i].1 :: w :: rest)) ∧ Arr 1 (Ty.R .str) w l[i].2 := by
  obtain ⟨c, r, ⟨_, _, rfl, ⟨rfl, _⟩, w, rfl, q⟩, _, e⟩ := h.iadr hi
  exact ⟨w, r, e, q⟩
theorem shop_v {x : tShop.D} {v : V} (h : tShop.V x v) : ∃ a b, v = .agg [a, b] ∧ Arr 4 tTask.R a x.1 ∧ Arr 2 tStation.R b x.2 := by
  obtain ⟨_, rfl, _, _, rfl, ⟨a, rfl, q⟩, b, rfl, p⟩ := h
  exact ⟨a, b, rfl, q, p⟩
end Go.Proofs.Ytoommmeapdkopaa.E
