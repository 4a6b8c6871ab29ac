/- What functions of the program return, proved over the interpreter. Each theorem says its conditions. -/
import Derived.Test.YtoommmeapdkopaaZS1
import Derived.Test.YtoommmeapdkopaaE33
namespace Go.Proofs.Ytoommmeapdkopaa.E
open Go Go.Eng

theorem srt_snoc {a i : Nat} {L : List IP} (h : Srt ltE a i L) (hi : a + 1 ≤ i) (hl : ltE (gt' L i) (gt' L (i - 1)) = false) : Srt ltE a (i + 1) L := fun p q h1 h2 h3 => by
  by_cases e : q = i
  · subst e
    by_cases e2 : p = q - 1
    · rw [e2]; exact hl
    · exact loE.le_trans (h p (q - 1) h1 (by omega) (by omega)) hl
  · exact h p q h1 h2 (by omega)
def Ins (a t j : Nat) (L : List IP) : Prop := ∀ p q, a ≤ p → p < q → q < t → q ≠ j → ltE (gt' L q) (gt' L p) = false
theorem Ins.step {a t j : Nat} {L : List IP} (h : Ins a t j L) (haj : a < j) (hjt : j < t) (ht : t ≤ L.length) (hl : ltE (gt' L j) (gt' L (j - 1)) = true) : Ins a t (j - 1) (swp L j (j - 1)) := fun p q h1 h2 h3 h4 => by
  have hle : ltE (gt' L (j - 1)) (gt' L j) = false := loE.asym hl
  rw [gt_swp (by omega) (by omega), gt_swp (by omega) (by omega), if_neg h4]
  by_cases e1 : q = j
  · rw [if_pos e1]
    by_cases e2 : p = j - 1
    · rw [if_pos e2]; exact hle
    · rw [if_neg e2, if_neg (by omega)]; exact h p (j - 1) h1 (by omega) (by omega) (by omega)
  · rw [if_neg e1]
    by_cases e2 : p = j - 1
    · rw [if_pos e2]; exact h j q (by omega) (by omega) h3 (by omega)
    · rw [if_neg e2]
      by_cases e3 : p = j
      · rw [if_pos e3]; exact h (j - 1) q (by omega) (by omega) h3 (by omega)
      · rw [if_neg e3]; exact h p q h1 h2 h3 e1
theorem Ins.fin {a t j : Nat} {L : List IP} (h : Ins a t j L) (hs : j ≤ a ∨ ltE (gt' L j) (gt' L (j - 1)) = false) : Srt ltE a t L := fun p q h1 h2 h3 => by
  by_cases e : q = j
  · subst e
    have hl := hs.resolve_left (by omega)
    by_cases e2 : p = q - 1
    · rw [e2]; exact hl
    · exact loE.le_trans (h p (q - 1) h1 (by omega) (by omega) (by omega)) hl
  · exact h p q h1 h2 h3 e

section
variable {H : Heap} {id n : Nat} {L : List IP} {a b : Nat} {k : V → Heap → Prop}
structure QK (H : Heap) (id n : Nat) (L : List IP) (a b : Nat) (i : Nat) (H1 : Heap) (L1 : List IP) : Prop where
  but : But id H H1
  blk : BlkP H1 id L1
  mv : Mv a b L L1
  srt : Srt ltE a i L1
  lo : a + 1 ≤ i
  hi : i ≤ b
abbrev IPar (H : Heap) (id n : Nat) (L : List IP) (a b : Nat) : Nat → V → V → V → V → V → V → Heap → Prop := fun m c0 c1 c2 c3 c9 c10 H1 => c0 = .sl id 0 n n 2 ∧ c1 = .int .i64 a ∧ c2 = .int .i64 b ∧ c3 = .fn 73 [] ∧ c10 = .int .i64 m ∧ ∃ (i : Nat) (L1 : List IP), c9 = .int .i64 i ∧ QK H id n L a b i H1 L1
abbrev QRes (H : Heap) (id : Nat) (L : List IP) (a b : Nat) (k : V → Heap → Prop) : Prop := ∀ f H' L', But id H H' → BlkP H' id L' → Mv a b L L' → (f = true → Srt ltE a b L') → k (.bool f) H'

theorem par4 (hn : L.length = n) (hn' : n ≤ 1000000) (hb : b ≤ n) {i num : Nat} {Q : Cont} {H1 : Heap} {L1 : List IP} (p : QK H id n L a b i H1 L1) (hnum : num < 5) :
    Wr92_4 (.sl id 0 n n 2) (.int .i64 a) (.int .i64 b) (.fn 73 []) (.int .i64 i) (.int .i64 num) H1 (blockQ 1 (seqQ G r92_6 (upQ 5 (Sb92_0 (IPar H id n L a b)) num Q))) := by
  unfold Wr92_4
  intros
  have hl := p.mv.len
  have hlo := p.lo
  have hhi := p.hi
  rw [wr92_4]
  simp only [binV_sub, bd_some, wi (show (b : Int) - (i : Int) = ((b - i : Nat) : Int) by omega) (by omega), binV_geq, ge_iff_le, ifB_bool, decide_eq_true_eq]
  split
  case isFalse =>
    simp only [blockQ_n, seqQ_n, wr92_6, binV_add, bd_some, wi (show (num : Int) + 1 = ((num + 1 : Nat) : Int) by omega) (by omega), upQ_n, Sb92_0_eq]
    exact ⟨num + 1, by omega, by omega, rfl, rfl, rfl, rfl, rfl, i, L1, rfl, p⟩
  rename_i h2
  simp only [binV_add, bd_some, wi (show (i : Int) + 1 = ((i + 1 : Nat) : Int) by omega) (by omega)]
  refine ub92_5 b (fun m c0 c1 c2 c3 c9 c10 c12 H2 => c0 = .sl id 0 n n 2 ∧ c1 = .int .i64 a ∧ c2 = .int .i64 b ∧ c3 = .fn 73 [] ∧ c9 = .int .i64 i ∧ c10 = .int .i64 num ∧ c12 = .int .i64 m ∧ i + 1 ≤ m ∧ ∃ L2, QK H id n L a b i H2 L2) ?_ (i + 1) (by omega)
    ⟨rfl, rfl, rfl, rfl, rfl, rfl, rfl, Nat.le_refl _, L1, p⟩
  clear p L1 hl
  rintro m hm _ _ _ _ _ _ _ H2 ⟨rfl, rfl, rfl, rfl, rfl, rfl, rfl, him, L2, p⟩
  intros
  have hl : L2.length = n := by rw [p.mv.len, hn]
  rw [wb92_5]
  simp only [binV_lss, bd_some, ifB_bool, decide_eq_true_eq, Int.ofNat_lt]
  split
  case isFalse =>
    simp only [upQ_e, blockQ_e, show ((6 : Nat) = 6) = True by simp, if_true, blockQ_n, seqQ_n, wr92_6, binV_add, bd_some, wi (show (num : Int) + 1 = ((num + 1 : Nat) : Int) by omega) (by omega), upQ_n, Sb92_0_eq]
    exact ⟨num + 1, by omega, by omega, rfl, rfl, rfl, rfl, rfl, i, L2, rfl, p⟩
  rename_i hmb
  have w1 : IntKind.i64.wrap ((m : Int) - 1) = ((m - 1 : Nat) : Int) := wi (by omega) (by omega)
  simp only [iadrP (show m < n by omega), bd_some, p.blk.ld (show m < L2.length by omega), binV_sub, w1, iadrP (show m - 1 < n by omega), p.blk.ld (show m - 1 < L2.length by omega), callV_fn, Bool.true_or, true_and]
  refine call_ordE ?_
  simp only [binV_lss, bd_some, ltE_lt, unV_not, ifB_bool]
  cases hc : ltE (gt' L2 m) (gt' L2 (m - 1))
  · simp only [Bool.not_false, if_true, upQ_e, blockQ_e, blockQ_n, seqQ_n, wr92_6, binV_add, bd_some, wi (show (num : Int) + 1 = ((num + 1 : Nat) : Int) by omega) (by omega), upQ_n, Sb92_0_eq]
    exact ⟨num + 1, by omega, by omega, rfl, rfl, rfl, rfl, rfl, i, L2, rfl, p⟩
  · obtain ⟨H3, s1, H4, s2, hB4, hbut4⟩ := p.blk.swap (i := m) (j := m - 1) (by omega) (by omega)
    simp only [Bool.not_true, Bool.false_eq_true, if_false, binV_sub, bd_some, w1, iadrP (show m < n by omega), iadrP (show m - 1 < n by omega), p.blk.ld (show m < L2.length by omega), p.blk.ld (show m - 1 < L2.length by omega), s1, s2, true_and, binV_add, wi (show (m : Int) + 1 = ((m + 1 : Nat) : Int) by omega) (by omega), upQ_n, Sb92_5_eq]
    refine ⟨m + 1, by omega, by omega, rfl, by omega, _, p.but.trans hbut4, hB4, p.mv.trans (.swap (by omega) (by omega) (by omega) (by omega) (by omega)), fun u q h1 h2 h3 => ?_, p.lo, p.hi⟩
    rw [gt_swp (by omega) (by omega), gt_swp (by omega) (by omega), if_neg (by omega), if_neg (by omega), if_neg (by omega), if_neg (by omega)]
    exact p.srt u q h1 h2 h3

theorem par2 (hn : L.length = n) (hn' : n ≤ 1000000) (hb : b ≤ n) (hlow : Low ltE a b L) (h : QRes H id L a b k) {i num : Nat} {H1 : Heap} {L1 : List IP} (p : QK H id n L a b i H1 L1) (hnum : num < 5) :
    Wr92_2 (.sl id 0 n n 2) (.int .i64 a) (.int .i64 b) (.fn 73 []) (.int .i64 i) (.int .i64 num) H1 (blockQ 1 (seqQ G r92_6 (upQ 5 (Sb92_0 (IPar H id n L a b)) num (blockQ 0 (seqQ G r92_7 (retQ i92 k)))))) := by
  unfold Wr92_2
  intros
  have hl : L1.length = n := by rw [p.mv.len, hn]
  have hlo := p.lo
  have hhi := p.hi
  rw [wr92_2]
  simp only [binV_eql, bd_some, ifB_bool, decide_eq_true_eq, Int.ofNat_inj]
  split
  · rename_i hib
    subst hib
    simp only [blockQ_r, seqQ_r, upQ_r, ret92]
    exact h _ _ _ p.but p.blk p.mv (fun _ => p.srt)
  rename_i hib
  simp only [binV_sub, bd_some, wi (show (b : Int) - (a : Int) = ((b - a : Nat) : Int) by omega) (by omega), binV_lss, ifB_bool, decide_eq_true_eq]
  split
  · simp only [blockQ_r, seqQ_r, upQ_r, ret92]
    exact h _ _ _ p.but p.blk p.mv (fun h => by cases h)
  have w1 : IntKind.i64.wrap ((i : Int) - 1) = ((i - 1 : Nat) : Int) := wi (by omega) (by omega)
  obtain ⟨H3, s1, H4, s2, hB4, hbut4⟩ := p.blk.swap (i := i) (j := i - 1) (by omega) (by omega)
  have hmv4 : Mv a b L (swp L1 i (i - 1)) := p.mv.trans (.swap (by omega) (by omega) (by omega) (by omega) (by omega))
  simp only [w1, bd_some, iadrP (show i < n by omega), iadrP (show i - 1 < n by omega), p.blk.ld (show i < L1.length by omega), p.blk.ld (show i - 1 < L1.length by omega), s1, s2, true_and, wi (show (i : Int) - (a : Int) = ((i - a : Nat) : Int) by omega) (by omega), binV_geq, ge_iff_le, ifB_bool, decide_eq_true_eq, binV_sub]
  split
  case isFalse h2 =>
    exact par4 hn hn' hb ⟨p.but.trans hbut4, hB4, hmv4, .small (by omega), p.lo, p.hi⟩ hnum ..
  rename_i h2
  have ins0 : Ins a i (i - 1) (swp L1 i (i - 1)) := fun u q h1 h2 h3 h4 => by
    rw [gt_swp (by omega) (by omega), gt_swp (by omega) (by omega), if_neg (by omega), if_neg (by omega), if_neg (by omega), if_neg (by omega)]
    exact p.srt u q h1 h2 h3
  refine ub92_3 i (fun m c0 c1 c2 c3 c9 c10 c11 H2 => c0 = .sl id 0 n n 2 ∧ c1 = .int .i64 a ∧ c2 = .int .i64 b ∧ c3 = .fn 73 [] ∧ c9 = .int .i64 i ∧ c10 = .int .i64 num ∧ ∃ (j : Nat) (L2 : List IP), c11 = .int .i64 j ∧ j + 1 + m = i ∧ a ≤ j ∧ But id H H2 ∧ BlkP H2 id L2 ∧ Mv a b L L2 ∧ Ins a i j L2) ?_ 0 (by omega)
    ⟨rfl, rfl, rfl, rfl, rfl, rfl, i - 1, _, rfl, by omega, by omega, p.but.trans hbut4, hB4, hmv4, ins0⟩
  clear ins0 hmv4 hB4 hbut4 s1 s2 w1 hl p L1
  rintro m hm _ _ _ _ _ _ _ H2 ⟨rfl, rfl, rfl, rfl, rfl, rfl, j, L2, rfl, hjm, haj, hbut, hB2, hmv, hins⟩
  intros
  have hl : L2.length = n := by rw [hmv.len, hn]
  rw [wb92_3]
  simp only [binV_geq, bd_some, ge_iff_le, ifB_bool, decide_eq_true_eq]
  split
  case isFalse h1 =>
    simp only [upQ_e, blockQ_e, show ((4 : Nat) = 4) = True by simp, if_true, seqQ_n]
    exact par4 hn hn' hb ⟨hbut, hB2, hmv, hins.fin (.inl (by omega)), hlo, hhi⟩ hnum ..
  rename_i h1
  have w1 : IntKind.i64.wrap ((j : Int) - 1) = ((j - 1 : Nat) : Int) := wi (by omega) (by omega)
  simp only [iadrP (show j < n by omega), bd_some, hB2.ld (show j < L2.length by omega), binV_sub, w1, iadrP (show j - 1 < n by omega), hB2.ld (show j - 1 < L2.length by omega), callV_fn, Bool.true_or, true_and]
  refine call_ordE ?_
  simp only [binV_lss, bd_some, ltE_lt, unV_not, ifB_bool]
  cases hc : ltE (gt' L2 j) (gt' L2 (j - 1))
  · simp only [Bool.not_false, if_true, upQ_e, blockQ_e, seqQ_n]
    exact par4 hn hn' hb ⟨hbut, hB2, hmv, hins.fin (.inr hc), hlo, hhi⟩ hnum ..
  ·
    have hja : a < j := by
      rcases Nat.lt_or_ge a j with h | h
      · exact h
      · have e : j = a := by omega
        subst e
        rcases hlow.mv hmv with h0 | h0
        · omega
        · have := h0 j (Nat.le_refl _) (by omega); rw [this] at hc; cases hc
    obtain ⟨H3, s1, H4, s2, hB4, hbut4⟩ := hB2.swap (i := j) (j := j - 1) (by omega) (by omega)
    simp only [Bool.not_true, Bool.false_eq_true, if_false, binV_sub, bd_some, w1, iadrP (show j < n by omega), iadrP (show j - 1 < n by omega), hB2.ld (show j < L2.length by omega), hB2.ld (show j - 1 < L2.length by omega), s1, s2, true_and, upQ_n, Sb92_3_eq]
    exact ⟨m + 1, by omega, by omega, j - 1, _, rfl, by omega, by omega, hbut.trans hbut4, hB4, hmv.trans (.swap (by omega) (by omega) (by omega) (by omega) (by omega)), hins.step hja (by omega) (by omega) hc⟩

theorem c92 (hB : BlkP H id L) (hn : L.length = n) (hn' : n ≤ 1000000) (hab : a < b) (hb : b ≤ n) (hlow : Low ltE a b L) (h : QRes H id L a b k) :
    Cl G 92 [.sl id 0 n n 2, .int .i64 a, .int .i64 b, .fn 73 []] H k := by
  refine Cl.inline (F := i92) rfl rfl ?_
  rw [w92]
  simp only [binV_add, bd_some, wi (show (a : Int) + 1 = ((a + 1 : Nat) : Int) by omega) (by omega)]
  refine ub92_0 5 (IPar H id n L a b) ?_ 0 (by omega) ⟨rfl, rfl, rfl, rfl, rfl, a + 1, L, rfl, .refl, hB, .refl, .small (Nat.le_refl _), Nat.le_refl _, hab⟩
  rintro num hi _ _ _ _ _ _ H1 ⟨rfl, rfl, rfl, rfl, rfl, i, L1, rfl, p⟩
  intros
  rw [wb92_0]
  simp only [binV_lss, bd_some, ifB_bool, decide_eq_true_eq]
  split
  case isFalse =>
    simp only [upQ_e, blockQ_e, if_true, seqQ_n, wr92_7, ret92]
    exact h _ _ _ p.but p.blk p.mv (fun h => by cases h)
  rename_i h5
  refine ub92_1 b (fun m c0 c1 c2 c3 c9 c10 H2 => c0 = .sl id 0 n n 2 ∧ c1 = .int .i64 a ∧ c2 = .int .i64 b ∧ c3 = .fn 73 [] ∧ c9 = .int .i64 m ∧ c10 = .int .i64 num ∧ QK H id n L a b m H2 L1) ?_ i p.hi
    ⟨rfl, rfl, rfl, rfl, rfl, rfl, p⟩
  clear p
  rintro m hm _ _ _ _ _ _ H2 ⟨rfl, rfl, rfl, rfl, rfl, rfl, p⟩
  intros
  have hl : L1.length = n := by rw [p.mv.len, hn]
  have hlo := p.lo
  rw [wb92_1]
  by_cases hmb : m < b
  case neg =>
    simp only [binV_lss, bd_some, Int.ofNat_lt, hmb, decide_false, gdV_bool, show (false == true) = false from rfl, wpg_false, pickV_bool, Bool.false_eq_true, if_false, ifB_bool, upQ_e, blockQ_e, if_true, seqQ_n]
    exact par2 hn hn' hb hlow h p (by omega) ..
  have w1 : IntKind.i64.wrap ((m : Int) - 1) = ((m - 1 : Nat) : Int) := wi (by omega) (by omega)
  simp only [binV_lss, bd_some, Int.ofNat_lt, hmb, decide_true, gdV_bool, beq_self_eq_true, wpg_true, iadrP (show m < n by omega), p.blk.ld (show m < L1.length by omega), binV_sub, w1, iadrP (show m - 1 < n by omega), p.blk.ld (show m - 1 < L1.length by omega), callV_fn, Bool.true_or, true_and]
  refine call_ordE ?_
  simp only [binV_lss, bd_some, ltE_lt, unV_not, pickV_bool, if_true, ifB_bool]
  cases hc : ltE (gt' L1 m) (gt' L1 (m - 1))
  · simp only [Bool.not_false, if_true, binV_add, bd_some, wi (show (m : Int) + 1 = ((m + 1 : Nat) : Int) by omega) (by omega), upQ_n, Sb92_1_eq, true_and]
    exact ⟨m + 1, by omega, by omega, rfl, p.but, p.blk, p.mv, srt_snoc p.srt hlo hc, by omega, by omega⟩
  · simp only [Bool.not_true, Bool.false_eq_true, if_false, upQ_e, blockQ_e, if_true, seqQ_n]
    exact par2 hn hn' hb hlow h p (by omega) ..
end
end Go.Proofs.Ytoommmeapdkopaa.E
namespace Go.Proofs.Ytoommmeapdkopaa.E
open Go Go.Eng

def Out (a a' b' b : Nat) (L : List IP) : Prop := ∀ p q, a ≤ p → p < q → q < b → (p < a' ∨ b' ≤ q) → ltE (gt' L q) (gt' L p) = false
theorem Out.mv {a a' b' b : Nat} {L L' : List IP} (ho : Out a a' b' b L) (m : Mv a' b' L L') (ha : a ≤ a') (hb : b' ≤ b) : Out a a' b' b L' := fun p q h1 h2 h3 h4 => by
  rcases h4 with h4 | h4
  · rw [m.out p (.inl h4)]
    by_cases e : a' ≤ q ∧ q < b'
    · obtain ⟨q', q1, q2, q3⟩ := m.into q e.1 e.2
      rw [q3]; exact ho p q' h1 (by omega) (by omega) (.inl h4)
    · rw [m.out q (by omega)]; exact ho p q h1 h2 h3 (.inl h4)
  · rw [m.out q (.inr h4)]
    by_cases e : a' ≤ p ∧ p < b'
    · obtain ⟨p', p1, p2, p3⟩ := m.into p e.1 e.2
      rw [p3]; exact ho p' q (by omega) (by omega) h3 (.inr h4)
    · rw [m.out p (by omega)]; exact ho p q h1 h2 h3 (.inr h4)
theorem Out.srt {a a' b' b : Nat} {L : List IP} (ho : Out a a' b' b L) (hs : Srt ltE a' b' L) : Srt ltE a b L := fun p q h1 h2 h3 => by
  by_cases e : a' ≤ p ∧ q < b'
  · exact hs p q e.1 h2 e.2
  · exact ho p q h1 h2 h3 (by omega)
theorem Out.left {a a' b' b j : Nat} {L2 L3 : List IP} (ho : Out a a' b' b L2) (pe : PEnd a' b' j L2) (m : Mv a' j L2 L3) (s : Srt ltE a' j L3) (ha : a ≤ a') (hb : b' ≤ b) : Out a (j + 1) b' b L3 := fun p q h1 h2 h3 h4 => by
  obtain ⟨e1, e2, e3, e4⟩ := pe
  by_cases old : p < a' ∨ b' ≤ q
  · exact ho.mv (m.mono (Nat.le_refl _) (by omega)) ha hb p q h1 h2 h3 old
  have lo : p < j → ltE (gt' L2 j) (gt' L3 p) = false := fun hp => by
    obtain ⟨p', p1, p2, p3⟩ := m.into p (by omega) hp
    rw [p3]; exact loE.asym (e3 p' p1 p2)
  by_cases hpj : p < j
  · by_cases hqj : q < j
    · exact s p q (by omega) h2 hqj
    · rw [m.out q (by omega)]
      by_cases e : q = j
      · rw [e]; exact lo hpj
      · exact loE.le_trans (lo hpj) (e4 q (by omega) (by omega))
  · have : p = j := by omega
    subst this
    rw [m.out q (by omega), m.out p (by omega)]
    exact e4 q h2 (by omega)
theorem Out.right {a a' b' b j : Nat} {L2 L3 : List IP} (ho : Out a a' b' b L2) (pe : PEnd a' b' j L2) (m : Mv (j + 1) b' L2 L3) (s : Srt ltE (j + 1) b' L3) (ha : a ≤ a') (hb : b' ≤ b) : Out a a' j b L3 := fun p q h1 h2 h3 h4 => by
  obtain ⟨e1, e2, e3, e4⟩ := pe
  by_cases old : p < a' ∨ b' ≤ q
  · exact ho.mv (m.mono (by omega) (Nat.le_refl _)) ha hb p q h1 h2 h3 old
  have hi : j < q → ltE (gt' L3 q) (gt' L2 j) = false := fun hq => by
    obtain ⟨q', q1, q2, q3⟩ := m.into q (by omega) (by omega)
    rw [q3]; exact e4 q' (by omega) q2
  by_cases hpj : p ≤ j
  · rw [m.out p (by omega)]
    by_cases hq : q = j
    · subst hq
      rw [m.out q (by omega)]
      exact loE.asym (e3 p (by omega) h2)
    · by_cases e : p = j
      · rw [e]; exact hi (by omega)
      · exact loE.le_trans (loE.asym (e3 p (by omega) (by omega))) (hi (by omega))
  · exact s p q (by omega) h2 (by omega)

def Pdq (m : Nat) : Prop := ∀ (H : Heap) (id n : Nat) (L : List IP) (a b lim : Nat) (k : V → Heap → Prop), BlkP H id L → L.length = n → n < 128 → lim ≤ 1000 → L.Nodup → a ≤ b → b ≤ n → b - a = m → Low ltE a b L →
  (∀ r H' L', But id H H' → BlkP H' id L' → Mv a b L L' → Srt ltE a b L' → k r H') → Cl G 83 [.sl id 0 n n 2, .int .i64 a, .int .i64 b, .int .i64 lim, .fn 73 []] H k

section
variable {H : Heap} {id n : Nat} {L : List IP} {a b : Nat} {k : V → Heap → Prop}
structure DK (H : Heap) (id n : Nat) (L : List IP) (a b a' b' : Nat) (H1 : Heap) (L1 : List IP) : Prop where
  but : But id H H1
  blk : BlkP H1 id L1
  mv : Mv a b L L1
  out : Out a a' b' b L1
  low : Low ltE a' b' L1
  ha : a ≤ a'
  hab : a' ≤ b'
  hb : b' ≤ b
abbrev IPdq (H : Heap) (id n : Nat) (L : List IP) (a b : Nat) : Nat → V → V → V → V → V → V → V → Heap → Prop := fun m c0 c1 c2 c3 c4 c10 c11 H1 => c0 = .sl id 0 n n 2 ∧ c4 = .fn 73 [] ∧ ∃ (a' b' lim : Nat) (wb wp : Bool) (L1 : List IP), c1 = .int .i64 a' ∧ c2 = .int .i64 b' ∧ c3 = .int .i64 lim ∧ c10 = .bool wb ∧ c11 = .bool wp ∧ lim ≤ 1000 ∧ m + (b' - a') = b - a ∧ DK H id n L a b a' b' H1 L1
abbrev SRes (H : Heap) (id : Nat) (L : List IP) (a b : Nat) (k : V → Heap → Prop) : Prop := ∀ r H' L', But id H H' → BlkP H' id L' → Mv a b L L' → Srt ltE a b L' → k r H'

theorem pdq3 (ih : ∀ m, m < b - a → Pdq m) (hn : L.length = n) (hn' : n < 128) (hb : b ≤ n) (hnd : L.Nodup) {a' b' lim v num : Nat} {wb wp : Bool} {H1 : Heap} {L1 : List IP} (p : DK H id n L a b a' b' H1 L1) (hbig : 12 < b' - a') (hlim : lim ≤ 1000) (h1 : a' ≤ v) (h2 : v < b') (hnum : num + (b' - a') = b - a) :
    Wr83_3 (.sl id 0 n n 2) (.int .i64 a') (.int .i64 b') (.int .i64 lim) (.fn 73 []) (.bool wb) (.bool wp) (.int .i64 (b' - a' : Nat)) (.int .i64 v) H1 (blockQ 1 (upQ (b - a) (Sb83_0 (IPdq H id n L a b)) num (blockQ 0 (retQ i83 k)))) := by
  unfold Wr83_3
  intros
  have hl : L1.length = n := by rw [p.mv.len, hn]
  have hha := p.ha
  have hhb := p.hb
  have hnd1 : L1.Nodup := p.mv.perm.nodup_iff.2 hnd
  rw [wr83_3]

  have part : ∀ (H2 : Heap), H2 = H1 → Cl G 94 [.sl id 0 n n 2, .int .i64 a', .int .i64 b', .int .i64 v, .fn 73 []] H2 (fun a111 h111 => ∃ (j : Nat) (f : Bool), a111 = .tup [.int .i64 j, .bool f] ∧ ∃ (L2 : List IP), But id H h111 ∧ BlkP h111 id L2 ∧ Mv a b L L2 ∧ Mv a' b' L1 L2 ∧ PEnd a' b' j L2) := fun H2 e => by
    subst e
    refine c94 p.blk hl (by omega) h1 h2 (by omega) fun j f H' L' q1 q2 q3 q4 => ?_
    exact ⟨j, f, rfl, L', p.but.trans q1, q2, p.mv.trans (q3.mono hha hhb), q3, q4⟩
  have q8 : binV .quo (.int .i64 ((b' - a' : Nat) : Int)) (.int .i64 8) = some (.int .i64 (((b' - a') / 8 : Nat) : Int)) := by
    simp only [binV, if_true]
    rw [if_neg (by decide), Int.tdiv_eq_ediv_of_nonneg (by omega), wi (n := (b' - a') / 8) (by omega) (by omega)]
  have rest : ∀ (j : Nat) (f : Bool) (H2 : Heap) (L2 : List IP), But id H H2 → BlkP H2 id L2 → Mv a b L L2 → Mv a' b' L1 L2 → PEnd a' b' j L2 →
      (j - a' < b' - j → Cl G 83 [.sl id 0 n n 2, .int .i64 a', .int .i64 j, .int .i64 lim, .fn 73 []] H2 fun _ H3 => ∃ L3, DK H id n L a b (j + 1) b' H3 L3) ∧
      (¬ (j - a' < b' - j) → Cl G 83 [.sl id 0 n n 2, .int .i64 ((j + 1 : Nat) : Int), .int .i64 b', .int .i64 lim, .fn 73 []] H2 fun _ H3 => ∃ L3, DK H id n L a b a' j H3 L3) := fun j f H2 L2 q1 q2 q3 q4 q5 => by
    obtain ⟨e1, e2, e3, e4⟩ := q5
    have hl2 : L2.length = n := by rw [q3.len, hn]
    have hnd2 : L2.Nodup := q3.perm.nodup_iff.2 hnd
    have hout := p.out.mv q4 hha hhb
    have hlow := p.low.mv q4
    have lowj : Low ltE (j + 1) b' L2 := .inr fun i i1 i2 => by rw [Nat.add_sub_cancel]; exact e4 i (by omega) i2
    have lowa : Low ltE a' j L2 := hlow.imp (fun h => h) fun h i i1 i2 => h i i1 (by omega)
    refine ⟨fun _ => ?_, fun _ => ?_⟩
    · refine ih (j - a') (by omega) H2 id n L2 a' j lim _ q2 hl2 hn' hlim hnd2 e1 (by omega) rfl lowa fun r H3 L3 b1 b2 b3 b4 => ?_
      refine ⟨L3, q1.trans b1, b2, q3.trans (b3.mono hha (by omega)), hout.left ⟨e1, e2, e3, e4⟩ b3 b4 hha hhb, .inr fun i i1 i2 => ?_, by omega, by omega, hhb⟩
      rw [Nat.add_sub_cancel, b3.out i (by omega), b3.out j (by omega)]
      exact e4 i (by omega) i2
    · refine ih (b' - (j + 1)) (by omega) H2 id n L2 (j + 1) b' lim _ q2 hl2 hn' hlim hnd2 (by omega) (by omega) rfl lowj fun r H3 L3 b1 b2 b3 b4 => ?_
      exact ⟨L3, q1.trans b1, b2, q3.trans (b3.mono (by omega) hhb), hout.right ⟨e1, e2, e3, e4⟩ b3 b4 hha hhb, lowa.imp (fun h => h) (fun h i i1 i2 => by rw [b3.out i (.inl (by omega)), b3.out (a' - 1) (.inl (by omega))]; exact h i i1 i2), hha, by omega, by omega⟩
  have go : ∀ (H2 : Heap), H2 = H1 → ∀ K : V → Heap → Prop, (∀ (j : Nat) f H3 L2, But id H H3 → BlkP H3 id L2 → Mv a b L L2 → Mv a' b' L1 L2 → PEnd a' b' j L2 → K (.tup [.int .i64 j, .bool f]) H3) → Cl G 94 [.sl id 0 n n 2, .int .i64 a', .int .i64 b', .int .i64 v, .fn 73 []] H2 K := fun H2 e K hK =>
    (part H2 e).mono fun v' H' ⟨j, f, e1, L2, q1, q2, q3, q4, q5⟩ => by rw [e1]; exact hK j f H' L2 q1 q2 q3 q4 q5
  by_cases h0 : 0 < a'
  case neg =>
    have h0' : ¬ ((a' : Int) > 0) := by omega
    simp only [binV_gtr, bd_some, h0', decide_false, gdV_bool, show (false == true) = false from rfl, wpg_false, pickV_bool, Bool.false_eq_true, if_false, ifB_bool, Bool.true_or, true_and]
    refine go H1 rfl _ fun j f H3 L2 q1 q2 q3 q4 q5 => ?_
    obtain ⟨r1, r2⟩ := rest j f H3 L2 q1 q2 q3 q4 q5
    obtain ⟨e1, e2, _, _⟩ := q5
    simp only [extV, List.getElem?_cons_zero, List.getElem?_cons_succ, bd_some, binV_sub, wi (show (j : Int) - (a' : Int) = ((j - a' : Nat) : Int) by omega) (by omega), wi (show (b' : Int) - (j : Int) = ((b' - j : Nat) : Int) by omega) (by omega), q8, binV_lss, Int.ofNat_lt, ifB_bool, decide_eq_true_eq, binV_geq, binV_add, wi (show (j : Int) + 1 = ((j + 1 : Nat) : Int) by omega) (by omega)]
    split
    · rename_i hlt
      try simp only [bd_some, Bool.true_or, true_and]
      refine (r1 hlt).mono fun _ H4 ⟨L3, d⟩ => ?_
      simp only [blockQ_n, upQ_n, Sb83_0_eq, bd_some]
      exact ⟨b - a - (b' - (j + 1)), by omega, by omega, rfl, rfl, j + 1, b', lim, _, f, L3, rfl, rfl, rfl, rfl, rfl, hlim, by omega, d⟩
    · rename_i hlt
      try simp only [bd_some, Bool.true_or, true_and]
      refine (r2 hlt).mono fun _ H4 ⟨L3, d⟩ => ?_
      simp only [blockQ_n, upQ_n, Sb83_0_eq, bd_some]
      exact ⟨b - a - (j - a'), by omega, by omega, rfl, rfl, a', j, lim, _, f, L3, rfl, rfl, rfl, rfl, rfl, hlim, by omega, d⟩
  have h0' : ((a' : Int) > 0) := by omega
  have w1 : IntKind.i64.wrap ((a' : Int) - 1) = ((a' - 1 : Nat) : Int) := wi (by omega) (by omega)
  simp only [binV_gtr, bd_some, h0', decide_true, gdV_bool, beq_self_eq_true, wpg_true, binV_sub, w1, iadrP (show a' - 1 < n by omega), p.blk.ld (show a' - 1 < L1.length by omega), iadrP (show v < n by omega), p.blk.ld (show v < L1.length by omega), callV_fn, Bool.true_or, true_and]
  refine call_ordE ?_
  have hlt : ltE (gt' L1 (a' - 1)) (gt' L1 v) = true := by
    cases e : ltE (gt' L1 (a' - 1)) (gt' L1 v)
    · have le := (p.low.resolve_left (by omega)) v h1 h2
      have := nodup_gt hnd1 (by omega) (by omega) (loE.tot _ _ e le)
      omega
    · rfl
  simp only [binV_lss, bd_some, ltE_lt, hlt, unV_not, Bool.not_true, pickV_bool, if_true, ifB_bool, Bool.false_eq_true, if_false]
  refine go H1 rfl _ fun j f H3 L2 q1 q2 q3 q4 q5 => ?_
  obtain ⟨r1, r2⟩ := rest j f H3 L2 q1 q2 q3 q4 q5
  obtain ⟨e1, e2, _, _⟩ := q5
  simp only [extV, List.getElem?_cons_zero, List.getElem?_cons_succ, bd_some, binV_sub, wi (show (j : Int) - (a' : Int) = ((j - a' : Nat) : Int) by omega) (by omega), wi (show (b' : Int) - (j : Int) = ((b' - j : Nat) : Int) by omega) (by omega), q8, binV_lss, Int.ofNat_lt, ifB_bool, decide_eq_true_eq, binV_geq, binV_add, wi (show (j : Int) + 1 = ((j + 1 : Nat) : Int) by omega) (by omega)]
  split
  · rename_i hlt
    try simp only [bd_some, Bool.true_or, true_and]
    refine (r1 hlt).mono fun _ H4 ⟨L3, d⟩ => ?_
    simp only [blockQ_n, upQ_n, Sb83_0_eq, bd_some]
    exact ⟨b - a - (b' - (j + 1)), by omega, by omega, rfl, rfl, j + 1, b', lim, _, f, L3, rfl, rfl, rfl, rfl, rfl, hlim, by omega, d⟩
  · rename_i hlt
    try simp only [bd_some, Bool.true_or, true_and]
    refine (r2 hlt).mono fun _ H4 ⟨L3, d⟩ => ?_
    simp only [blockQ_n, upQ_n, Sb83_0_eq, bd_some]
    exact ⟨b - a - (j - a'), by omega, by omega, rfl, rfl, a', j, lim, _, f, L3, rfl, rfl, rfl, rfl, rfl, hlim, by omega, d⟩

theorem pdq2 (ih : ∀ m, m < b - a → Pdq m) (hn : L.length = n) (hn' : n < 128) (hb : b ≤ n) (hnd : L.Nodup) (h : SRes H id L a b k) {a' b' lim v num : Nat} {hint : Int} {wb wp : Bool} {H1 : Heap} {L1 : List IP} (p : DK H id n L a b a' b' H1 L1) (hbig : 12 < b' - a') (hlim : lim ≤ 1000) (h1 : a' ≤ v) (h2 : v < b') (hnum : num + (b' - a') = b - a) :
    Wr83_2 (.sl id 0 n n 2) (.int .i64 a') (.int .i64 b') (.int .i64 lim) (.fn 73 []) (.bool wb) (.bool wp) (.int .i64 (b' - a' : Nat)) (.int .i64 v) (.int .i64 hint) H1 (blockQ 1 (upQ (b - a) (Sb83_0 (IPdq H id n L a b)) num (blockQ 0 (retQ i83 k)))) := by
  unfold Wr83_2
  intros
  have hl : L1.length = n := by rw [p.mv.len, hn]
  have hha := p.ha
  have hhb := p.hb
  rw [wr83_2]

  have skip : ∀ x0 x1 x2 x3 : V, True := fun _ _ _ _ => trivial
  by_cases hgo : wb = true ∧ wp = true ∧ hint = 1
  · obtain ⟨rfl, rfl, rfl⟩ := hgo
    simp only [gdV_bool, beq_self_eq_true, wpg_true, pickV_bool, if_true, bd_some, binV_eql, decide_true, ifB_bool, Bool.true_or, true_and]
    refine c92 p.blk hl (by omega) (by omega) (by omega) p.low fun f H2 L2 q1 q2 q3 q4 => ?_
    have mv2 := p.mv.trans (q3.mono hha hhb)
    cases f
    · simp only [ifB_bool, Bool.false_eq_true, if_false]
      exact pdq3 (wb := true) (wp := true) ih hn hn' hb hnd ⟨p.but.trans q1, q2, mv2, p.out.mv q3 hha hhb, p.low.mv q3, hha, p.hab, hhb⟩ hbig hlim h1 h2 hnum ..
    · simp only [ifB_bool, if_true, blockQ_r, upQ_r, ret83]
      exact h _ _ _ (p.but.trans q1) q2 mv2 ((p.out.mv q3 hha hhb).srt (q4 rfl))
  · have p3 := pdq3 (k := k) (wb := wb) (wp := wp) ih hn hn' hb hnd p hbig hlim h1 h2 hnum
    cases wb
    · simp only [gdV_bool, show (false == true) = false from rfl, wpg_false, pickV_bool, Bool.false_eq_true, if_false, bd_some, ifB_bool]
      exact p3 ..
    cases wp
    · simp only [gdV_bool, beq_self_eq_true, wpg_true, show (false == true) = false from rfl, wpg_false, pickV_bool, Bool.false_eq_true, if_true, if_false, bd_some, ifB_bool]
      exact p3 ..
    · have hh : ¬ hint = 1 := fun e => hgo ⟨rfl, rfl, e⟩
      simp only [gdV_bool, beq_self_eq_true, wpg_true, pickV_bool, if_true, bd_some, binV_eql, hh, decide_false, ifB_bool, Bool.false_eq_true, if_false]
      exact p3 ..

theorem pdq1 (ih : ∀ m, m < b - a → Pdq m) (hn : L.length = n) (hn' : n < 128) (hb : b ≤ n) (hnd : L.Nodup) (h : SRes H id L a b k) {a' b' lim num : Nat} {wb wp : Bool} {H1 : Heap} {L1 : List IP} (p : DK H id n L a b a' b' H1 L1) (hbig : 12 < b' - a') (hlim : lim ≤ 1000) (hnum : num + (b' - a') = b - a) :
    Wr83_1 (.sl id 0 n n 2) (.int .i64 a') (.int .i64 b') (.int .i64 lim) (.fn 73 []) (.bool wb) (.bool wp) (.int .i64 (b' - a' : Nat)) H1 (blockQ 1 (upQ (b - a) (Sb83_0 (IPdq H id n L a b)) num (blockQ 0 (retQ i83 k)))) := by
  unfold Wr83_1
  intros
  have hl : L1.length = n := by rw [p.mv.len, hn]
  have hha := p.ha
  have hhb := p.hb
  rw [wr83_1]
  simp only [Bool.true_or, true_and]
  refine c90 p.blk hl (by omega) (by omega) (by omega) fun v hint H2 q1 q2 h1 h2 => ?_
  have p2 : DK H id n L a b a' b' H2 L1 := ⟨p.but.trans q1, q2, p.mv, p.out, p.low, hha, p.hab, hhb⟩
  simp only [extV, List.getElem?_cons_zero, List.getElem?_cons_succ, bd_some, binV_eql, ifB_bool, decide_eq_true_eq]
  split
  · try simp only [Bool.true_or, true_and]
    refine c91 q2 hl (by omega) (by omega) (by omega) fun r H3 L3 s1 s2 s3 => ?_
    simp only [binV_sub, bd_some, wi (show (b' : Int) - 1 = ((b' - 1 : Nat) : Int) by omega) (by omega), wi (show (v : Int) - (a' : Int) = ((v - a' : Nat) : Int) by omega) (by omega), wi (show ((b' - 1 : Nat) : Int) - ((v - a' : Nat) : Int) = ((b' - 1 - (v - a') : Nat) : Int) by omega) (by omega)]
    exact pdq2 (wb := wb) (wp := wp) ih hn hn' hb hnd h ⟨p2.but.trans s1, s2, p.mv.trans (s3.mono hha hhb), p.out.mv s3 hha hhb, p.low.mv s3, hha, p.hab, hhb⟩ hbig hlim (by omega) (by omega) hnum ..
  · exact pdq2 (wb := wb) (wp := wp) ih hn hn' hb hnd h p2 hbig hlim h1 h2 hnum ..
end

theorem pdq_all : ∀ m, Pdq m := by
  intro m
  induction m using Nat.strongRecOn with
  | ind m ih =>
    intro H id n L a b lim k hB hn hn' hlim hnd hab hb hm hlow h
    subst hm
    refine Cl.inline (F := i83) rfl rfl ?_
    rw [w83]
    refine ub83_0 (b - a) (IPdq H id n L a b) ?_ 0 (Nat.zero_le _) ⟨rfl, rfl, a, b, lim, true, true, L, rfl, rfl, rfl, rfl, rfl, hlim, by omega, .refl, hB, .refl, fun p q h1 h2 h3 h4 => by omega, hlow, Nat.le_refl _, hab, Nat.le_refl _⟩
    clear hB hlow hlim
    rintro num hnum _ _ _ _ _ _ _ H1 ⟨rfl, rfl, a', b', lim, wb, wp, L1, rfl, rfl, rfl, rfl, rfl, hlim, hnum2, p⟩
    intros
    have hl : L1.length = n := by rw [p.mv.len, hn]
    have hha := p.ha
    have hhb := p.hb
    have hhab := p.hab
    rw [wb83_0]
    simp only [binV_sub, bd_some, wi (show (b' : Int) - (a' : Int) = ((b' - a' : Nat) : Int) by omega) (by omega), binV_leq, ifB_bool, decide_eq_true_eq]
    split
    · simp only [Bool.true_or, true_and]
      refine c87 p.blk hl (by omega) hhab (by omega) fun r H2 L2 q1 q2 q3 q4 => ?_
      simp only [upQ_r, blockQ_r, ret83]
      exact h _ _ _ (p.but.trans q1) q2 (p.mv.trans (q3.mono hha hhb)) ((p.out.mv q3 hha hhb).srt q4)
    rename_i hbig
    simp only [binV_eql, bd_some, ifB_bool, decide_eq_true_eq]
    split
    · simp only [Bool.true_or, true_and]
      refine c88 p.blk hl (by omega) (by omega) (by omega) fun r H2 L2 q1 q2 q3 q4 => ?_
      simp only [upQ_r, blockQ_r, ret83]
      exact h _ _ _ (p.but.trans q1) q2 (p.mv.trans (q3.mono hha hhb)) ((p.out.mv q3 hha hhb).srt q4)
    rename_i hlim0
    simp only [unV_not, bd_some, ifB_bool]
    cases wb
    · simp only [Bool.not_false, if_true, Bool.true_or, true_and]
      refine c89 p.blk hl hn' (by omega) (by omega) fun r H2 L2 q1 q2 q3 => ?_
      simp only [wi (show (lim : Int) - 1 = ((lim - 1 : Nat) : Int) by omega) (by omega)]
      exact pdq1 (wb := false) (wp := wp) ih hn hn' hb hnd h ⟨p.but.trans q1, q2, p.mv.trans (q3.mono hha hhb), p.out.mv q3 hha hhb, p.low.mv q3, hha, hhab, hhb⟩ (by omega) (by omega) hnum2 ..
    · simp only [Bool.not_true, Bool.false_eq_true, if_false]
      exact pdq1 (wb := true) (wp := wp) ih hn hn' hb hnd h p (by omega) hlim hnum2 ..

theorem c75 {H : Heap} {id n : Nat} {L : List IP} (hB : BlkP H id L) (hn : L.length = n) (hn' : n < 128) (hnd : L.Nodup) {k : V → Heap → Prop}
    (h : ∀ r H' L', But id H H' → BlkP H' id L' → L'.Perm L → Srt ltE 0 n L' → k r H') : Cl G 75 [.sl id 0 n n 2, .fn 73 []] H k := by
  refine Cl.inline (F := i75) rfl rfl ?_
  rw [w75]
  simp only [lensV, bd_some, convV, wu (show 0 ≤ (n : Int) by omega) (show (n : Int) < 18446744073709551616 by omega), Bool.true_or, true_and]
  refine c84 hn' ?_
  have l8 : lenI n ≤ 8 := by
    by_cases e : n = 0
    · simp [lenI, e]
    · exact (len_pow n (by omega) hn').2
  exact pdq_all n H id n L 0 n (lenI n) _ hB hn hn' (by omega) hnd (Nat.zero_le _) (Nat.le_refl _) rfl (.inl rfl) fun r H' L' q1 q2 q3 q4 => h _ H' L' q1 q2 q3.perm q4
end Go.Proofs.Ytoommmeapdkopaa.E
namespace Go.Proofs.Ytoommmeapdkopaa.E
open Go Go.Eng
abbrev tEdge : Ty := .pair (.int .i64) (.int .i64)
theorem edge_at {v : V} {l : List IP} (h : Arr 2 tEdge.R v l) {i : Nat} (hi : i < l.length) : ∃ rest, iadrV 2 v (.int .i64 i) = some (.rptr (.int .i64 l[i].1 :: .int .i64 l[i].2 :: rest)) := by
  obtain ⟨c, r, ⟨_, _, rfl, ⟨rfl, _⟩, rfl, _⟩, _, e⟩ := h.iadr hi
  exact ⟨r, e⟩
theorem edge_arr {v : V} {l : List IP} (hb : l.length ≤ top) (hr : ∀ x ∈ l, (IntKind.i64.min ≤ x.1 ∧ x.1 ≤ IntKind.i64.max) ∧ (IntKind.i64.min ≤ x.2 ∧ x.2 ≤ IntKind.i64.max)) (hv : v = .ro (cellsP l) l.length ∨ (l.length = 0 ∧ (v = .nils ∨ v = .z0 ∨ v = .e0))) : Arr 2 tEdge.R v l := by
  refine ⟨l.map encP, by simp, fun i h h' => ?_, fun c hc => ?_, hb, cellsP_len, hv⟩
  · simp only [List.getElem_map, encP]
    exact ⟨[.int .i64 l[i].1], [.int .i64 l[i].2], rfl, ⟨rfl, (hr _ (List.getElem_mem _)).1⟩, rfl, (hr _ (List.getElem_mem _)).2⟩
  · obtain ⟨a, _, rfl⟩ := List.mem_map.1 hc; rfl
theorem c72 {n x : Int} {H : Heap} {k : V → Heap → Prop} (h : k (.bool (decide (x < 0) || decide (n ≤ x))) H) : Cl G 72 [.int .i64 n, .int .i64 x] H k := by
  refine Cl.mode1 (F := i72) rfl rfl (by simp) ?_
  rw [w72]
  by_cases h1 : x < 0
  · simpa [h1] using h
  by_cases h2 : n ≤ x
  · simpa [h1, h2] using h
  simpa [h1, h2] using h

def OwnP (H : Heap) (v : V) (L : List IP) : Prop := (L = [] ∧ (v = .nils ∨ v = .z0)) ∨ ∃ id, v = .sl id 0 L.length L.length 2 ∧ BlkP H id L
theorem OwnP.lens {H : Heap} {v : V} {L : List IP} (h : OwnP H v L) : lensV v = some (.int .i64 L.length) := by
  rcases h with ⟨rfl, rfl | rfl⟩ | ⟨id, rfl, _⟩ <;> rfl
theorem OwnP.close {H : Heap} {v : V} {L : List IP} (h : OwnP H v L) {d : Nat} : ∃ v', closeV H (d + 2) v = some v' ∧ (v' = .ro (cellsP L) L.length ∨ (L.length = 0 ∧ (v' = .nils ∨ v' = .z0 ∨ v' = .e0))) := by
  rcases h with ⟨rfl, rfl | rfl⟩ | ⟨id, rfl, hB⟩
  · exact ⟨.nils, rfl, .inr ⟨rfl, .inl rfl⟩⟩
  · exact ⟨.z0, rfl, .inr ⟨rfl, .inr (.inl rfl)⟩⟩
  · refine ⟨.ro (cellsP L) L.length, ?_, .inl rfl⟩
    have hb : H[id]? = some (.cells (cellsP L)) := hB
    rw [closeV_sl hb (by simp), List.drop_zero, List.take_of_length_le (by simp), mapO_cellsP]
    rfl

theorem c74 {x v : V} {E : List IP} {H : Heap} (hx : closeV H closeDepth x = some v) (hv : v = .ro (cellsP E) E.length ∨ (E = [] ∧ (v = .nils ∨ v = .z0 ∨ v = .e0))) (hn : E.length ≤ 1000) {k : V → Heap → Prop}
    (h : ∀ r H', (∀ j, j < H.length → H'[j]? = H[j]?) → H.length ≤ H'.length → OwnP H' r E → (∀ id o m c q, r = .sl id o m c q → H.length ≤ id) → k r H') : Cl G 74 [x] H k := by
  refine Cl.any2 (F := i74) rfl rfl (args' := [v]) (by simp [mapO, hx]) ?_
  rw [w74]
  rcases hv with rfl | ⟨rfl, rfl | rfl | rfl⟩
  · have e0 : bslV 2 0 [.int .i64 0, .int .i64 0] [] ([] : Heap) = some (.z0, []) := rfl
    have es : sliceCells ([] : Heap) (.ro (cellsP E) E.length) 2 = some (cellsP E, E.length) := by
      simp only [sliceCells, cellsP_len, Nat.le_refl, if_true]
      rw [List.take_of_length_le (by simp)]
    simp only [eqnV, eqV, Option.map_some, bd_some, Bool.false_eq_true, if_false, ifB_bool, e0, bd2_some]
    by_cases hz : E = []
    · subst hz
      simp [appV, es, isSlice]
      show lq H k .z0 H
      exact ⟨.inl rfl, h _ _ (fun _ _ => rfl) (Nat.le_refl _) (.inl ⟨rfl, .inr rfl⟩) (fun _ _ _ _ _ e => by cases e)⟩
    · have hl : E.length ≠ 0 := fun e => hz (List.length_eq_zero_iff.1 e)
      have ea : appV 2 16 true ([] : Heap) .z0 (.ro (cellsP E) E.length) = some (.sl 0 0 E.length E.length 2, [.cells (cellsP E)]) := by
        simp only [appV, es, Option.bind_some, hl, if_false]
        rw [if_pos (by unfold room; omega)]
        rfl
      simp only [ea, bd2_some]
      unfold hq handV
      rw [if_neg (by decide)]
      simp only [List.getElem?_cons_zero, cellsP_len, Nat.le_refl, and_self, if_true]
      have e2 : (cellsP E).take (E.length * 2) = cellsP E := List.take_of_length_le (by simp)
      rw [e2, show closeDepth = 11 + 1 from rfl, mapO_cellsP]
      simp only [Option.map_some, bd2_some]
      refine ⟨.inr ?_, h _ _ (fun j hj => List.getElem?_append_left hj) (by simp) (.inr ⟨H.length, rfl, ?_⟩) (fun id o m c q e => by cases e; exact Nat.le_refl _)⟩
      · simp [scalarRow, scalarVs_cellsP]
      · unfold BlkP; simp
  · simp [eqnV, eqV]
    exact ⟨.inl rfl, h _ _ (fun _ _ => rfl) (Nat.le_refl _) (.inl ⟨rfl, .inl rfl⟩) (fun _ _ _ _ _ e => by cases e)⟩
  · simp [eqnV, eqV, bslV, rep, fillV, appV, sliceCells, isSlice]
    exact ⟨.inl rfl, h _ _ (fun _ _ => rfl) (Nat.le_refl _) (.inl ⟨rfl, .inr rfl⟩) (fun _ _ _ _ _ e => by cases e)⟩
  · simp [eqnV, eqV, bslV, rep, fillV, appV, sliceCells, isSlice]
    exact ⟨.inl rfl, h _ _ (fun _ _ => rfl) (Nat.le_refl _) (.inl ⟨rfl, .inr rfl⟩) (fun _ _ _ _ _ e => by cases e)⟩

theorem sort_own {H : Heap} {v : V} {L : List IP} (hv : OwnP H v L) (hn : L.length < 128) (hnd : L.Nodup) {k : V → Heap → Prop}
    (h : ∀ r H' L', (∀ id o m c q, v = .sl id o m c q → But id H H') → (v = .nils ∨ v = .z0 → H' = H) → OwnP H' v L' → L'.Perm L → Srt ltE 0 L.length L' → k r H') : Cl G 75 [v, .fn 73 []] H k := by
  rcases hv with ⟨rfl, hv⟩ | ⟨id, rfl, hB⟩
  · have hl : lensV v = some (.int .i64 0) := by rcases hv with rfl | rfl <;> rfl
    refine Cl.inline (F := i75) rfl rfl ?_
    rw [w75]
    simp only [hl, bd_some, convV, wu (show (0 : Int) ≤ 0 by omega) (show (0 : Int) < 18446744073709551616 by omega), Bool.true_or, true_and]
    refine c84 (x := 0) (by omega) ?_
    refine Cl.inline (F := i83) rfl rfl ?_
    rw [w83]
    apply Lp.step
    rw [wb83_0]
    simp only [binV_sub, bd_some, Int.sub_self, wz (show (-9223372036854775808 : Int) ≤ 0 by omega) (by omega), binV_leq, show (0 : Int) ≤ 12 by omega, decide_true, ifB_bool, if_true, Bool.true_or, true_and]
    refine Cl.inline (F := i87) rfl rfl ?_
    rw [w87]
    simp only [binV_add, bd_some, Int.zero_add, wz (show (-9223372036854775808 : Int) ≤ 1 by omega) (by omega)]
    apply Lp.step
    rw [wb87_0]
    simp only [binV_lss, bd_some, show ¬ ((1 : Int) < 0) by omega, decide_false, ifB_bool, Bool.false_eq_true, if_false, loopQ_e, blockQ_e, if_true, ret87n, loopQ_r, blockQ_r, ret83]
    exact h _ _ [] (fun id o m c q e => by rcases hv with rfl | rfl <;> cases e) (fun _ => rfl) (.inl ⟨rfl, hv⟩) (.refl _) (fun i j h1 h2 h3 => by simp at h3)
  · refine c75 hB rfl hn hnd fun r H' L' q1 q2 q3 q4 => ?_
    have hl : L'.length = L.length := q3.length_eq
    exact h r H' L' (fun id' o m c q e => by cases e; exact q1) (fun e => by rcases e with e | e <;> cases e) (.inr ⟨id, by rw [hl], q2⟩) q3 q4

theorem eq_flat {x y : IP} : eqnV (.flat [.i, .i]) false (vP x) (vP y) = some (.bool (decide (x = y))) := by
  have : decide (x = y) = (decide (x.1 = y.1) && decide (x.2 = y.2)) := by
    rw [← Bool.decide_and]; exact decide_eq_decide.2 Prod.ext_iff
  rw [this]
  simp only [eqnV, vP, eqV, eqs, eq1, if_true, Option.bind_some, Option.map_some, Bool.false_eq_true, if_false, beq_eq_decide, Bool.and_true]

theorem c76 {H : Heap} {v : V} {L : List IP} (hv : OwnP H v L) (hn : L.length ≤ 1000) (hnd : L.Nodup) {k : V → Heap → Prop} (h : k v H) : Cl G 76 [v] H k := by
  refine Cl.inline (F := i76) rfl rfl ?_
  rw [w76]
  simp only [hv.lens, bd_some, binV_lss, ifB_bool, decide_eq_true_eq]
  split
  · exact h
  rename_i h2
  rcases hv with ⟨rfl, _⟩ | ⟨id, rfl, hB⟩
  · simp at h2
  refine ub76_0 L.length (fun m c0 c3 H1 => c0 = .sl id 0 L.length L.length 2 ∧ c3 = .int .i64 m ∧ 1 ≤ m ∧ H1 = H) ?_ 1 (by omega) ⟨rfl, rfl, Nat.le_refl _, rfl⟩
  rintro m hm _ _ _ ⟨rfl, rfl, h1, rfl⟩
  intros
  rw [wb76_0]
  simp only [lensV, bd_some, binV_lss, ifB_bool, decide_eq_true_eq, Int.ofNat_lt]
  split
  · rename_i hlt
    have ne : gt' L m ≠ gt' L (m - 1) := fun e => by have := nodup_gt hnd hlt (by omega) e; omega
    simp only [iadrP hlt, bd_some, hB.ld hlt, binV_sub, wi (show (m : Int) - 1 = ((m - 1 : Nat) : Int) by omega) (by omega), iadrP (show m - 1 < L.length by omega), hB.ld (show m - 1 < L.length by omega), eq_flat, ne, decide_false, ifB_bool, Bool.false_eq_true, if_false, wr76_4, binV_add, wi (show (m : Int) + 1 = ((m + 1 : Nat) : Int) by omega) (by omega), upQ_n, Sb76_0_eq, true_and]
    exact ⟨m + 1, by omega, by omega, rfl, by omega, trivial⟩
  · simp only [upQ_e, blockQ_e, if_true, seqQ_n, wr76_5, ret76]
    exact h
end Go.Proofs.Ytoommmeapdkopaa.E
namespace Go.Proofs.Ytoommmeapdkopaa.E
open Go Go.Eng

def Kp (H H' : Heap) : Prop := H.length ≤ H'.length ∧ ∀ j, j < H.length → H'[j]? = H[j]?
theorem Kp.refl {H : Heap} : Kp H H := ⟨Nat.le_refl _, fun _ _ => rfl⟩
theorem Kp.trans {H H' H'' : Heap} (h : Kp H H') (h' : Kp H' H'') : Kp H H'' := ⟨Nat.le_trans h.1 h'.1, fun j hj => (h'.2 j (Nat.lt_of_lt_of_le hj h.1)).trans (h.2 j hj)⟩
theorem Kp.app {H l : Heap} : Kp H (H ++ l) := ⟨by simp, fun j hj => List.getElem?_append_left hj⟩
theorem OwnP.kp {H H' : Heap} {v : V} {L : List IP} (h : OwnP H v L) (k : Kp H H') : OwnP H' v L := by
  rcases h with h | ⟨id, rfl, hB⟩
  · exact .inl h
  · exact .inr ⟨id, rfl, by unfold BlkP; rw [k.2 id hB.lt]; exact hB⟩
theorem frz_new {H : Heap} {cs : List V} (hc : closedVs cs = true) : frzV (H ++ [.cells cs]) (.ptr H.length 0) = some (.rptr cs, H ++ [.dead]) := by
  simp only [frzV]
  rw [List.getElem?_append_right (Nat.le_refl _)]
  simp [hc]
theorem OwnP.elem {H : Heap} {v : V} {L : List IP} (h : OwnP H v L) {i : Nat} (hi : i < L.length) : ∃ p, iadrV 2 v (.int .i64 i) = some p ∧ ldV H p 2 true = some (vP (gt' L i)) := by
  rcases h with ⟨rfl, _⟩ | ⟨id, rfl, hB⟩
  · simp at hi
  · exact ⟨_, iadrP hi, hB.ld hi⟩
def inG (n : Nat) (E : List IP) : Prop := ∀ e ∈ E, (0 ≤ e.1 ∧ e.1 < n) ∧ (0 ≤ e.2 ∧ e.2 < n)
theorem gt_mem {L : List IP} {i : Nat} (h : i < L.length) : gt' L i ∈ L := by rw [gt_get h]; exact List.getElem_mem h

theorem c62 {H : Heap} {v : V} {E : List IP} {n : Nat} (hv : OwnP H v E) (hE : E.length < 128) (hn : n ≤ 64) (hr : inG n E) (hnd : E.Nodup) {k : V → Heap → Prop}
    (h : ∀ r H' E', Kp H H' → OwnP H' r E' → E'.Perm E → Srt ltE 0 E.length E' → k (.tup [.agg [.int .i64 n, r], .int .i64 0]) H') : Cl G 62 [.int .i64 n, v] H k := by
  refine Cl.inline (F := i62) rfl rfl ?_
  rw [w62]
  have n0 : ¬ ((n : Int) < 0) := by omega
  have n1 : ¬ ((n : Int) > 64) := by omega
  simp only [newB, binV_lss, bd_some, n0, decide_false, gdV_bool, beq_self_eq_true, wpg_true, binV_gtr, n1, pickV_bool, Bool.false_eq_true, if_false, ifB_bool, hv.lens]
  generalize hH0 : H ++ [B.cells [V.int .i64 0, V.nils]] = H0
  have kp0 : Kp H H0 := by rw [← hH0]; exact .app
  have box0 : H0[H.length]? = some (.cells [.int .i64 0, .nils]) := by rw [← hH0]; simp
  refine ub62_0 E.length (fun m c0 c1 c4 c16 c17 c18 H1 => c0 = .int .i64 n ∧ v = c1 ∧ c4 = .ptr H.length 0 ∧ v = c16 ∧ c17 = .int .i64 E.length ∧ c18 = .int .i64 m ∧ Kp H0 H1) ?_ 0 (Nat.zero_le _) ⟨rfl, rfl, rfl, rfl, rfl, rfl, .refl⟩
  rintro m hm _ _ _ _ _ _ H1 ⟨rfl, rfl, rfl, e16, rfl, rfl, kp⟩
  subst e16
  intros
  have hv1 := hv.kp (kp0.trans kp)
  rw [wb62_0]
  simp only [binV_lss, bd_some, ifB_bool, decide_eq_true_eq, Int.ofNat_lt]
  split
  · rename_i hlt
    obtain ⟨p, e1, e2⟩ := hv1.elem hlt
    obtain ⟨⟨r1, r2⟩, r3, r4⟩ := hr _ (gt_mem hlt)
    simp only [e1, bd_some, e2, newB, true_and]
    rw [vP, stV_new (by rfl) (by rfl)]
    simp only [bd_some, frz_new (show closedVs [V.int .i64 (gt' E m).1, V.int .i64 (gt' E m).2] = true from rfl), bd2_some, fadrV_rptr, List.drop_zero, List.drop_succ_cons, ldrV_one, Bool.true_or, true_and]
    refine c72 ?_
    have b1 : (decide ((gt' E m).1 < 0) || decide ((n : Int) ≤ (gt' E m).1)) = false := by simp; omega
    have b2 : (decide ((gt' E m).2 < 0) || decide ((n : Int) ≤ (gt' E m).2)) = false := by simp; omega
    simp only [b1, gdV_bool, beq_self_eq_true, wpg_true]
    try simp only [bd_some, fadrV_rptr, List.drop_zero, List.drop_succ_cons, ldrV_one, Bool.true_or, true_and]
    refine c72 ?_
    simp only [b2, pickV_bool, Bool.false_eq_true, if_false, bd_some, ifB_bool, binV_add, wi (show (m : Int) + 1 = ((m + 1 : Nat) : Int) by omega) (by omega), upQ_n, Sb62_0_eq, true_and]
    exact ⟨m + 1, by omega, by omega, rfl, kp.trans .app⟩
  · simp only [upQ_e, blockQ_e, if_true, seqQ_n, wr62_1, Bool.true_or, true_and]
    have hlH : H.length < H1.length := by have := (List.getElem?_eq_some_iff.1 box0).1; have := kp.1; omega
    obtain ⟨v', hc1, hc2⟩ := hv1.close (d := 10)
    refine c74 (v := v') (E := E) hc1 (hc2.imp (fun h => h) fun ⟨a, b⟩ => ⟨List.length_eq_zero_iff.1 a, b⟩) (by omega) fun r H2 k1 k2 own2 fresh => ?_
    refine sort_own own2 hE hnd fun u H3 E' s1 s2 own3 perm srt => ?_
    have hl : E'.length = E.length := perm.length_eq
    refine c76 own3 (by omega) (perm.nodup_iff.2 hnd) ?_
    have keep : Kp H1 H3 := by
      rcases own2 with ⟨_, e⟩ | ⟨id, e, hB⟩
      · rw [s2 e]; exact ⟨k2, k1⟩
      · have b := s1 _ _ _ _ _ e
        have f := fresh _ _ _ _ _ e
        exact ⟨Nat.le_trans k2 b.1, fun j hj => by rw [b.2 j (by omega) (by omega), k1 j hj]⟩
    have box3 : H3[H.length]? = some (.cells [.int .i64 0, .nils]) := by rw [keep.2 _ hlH, kp.2 _ (by have := (List.getElem?_eq_some_iff.1 box0).1; omega)]; exact box0
    have hb : bldV [.int .i64 0, .nils] [(0, 1, .int .i64 n), (1, 1, r)] = some (.agg [.int .i64 n, r]) := by
      rcases own3 with ⟨_, rfl | rfl⟩ | ⟨id, rfl, _⟩ <;> rfl
    have hst : stV H3 2 (.ptr H.length 0) (.agg [.int .i64 n, r]) = some (H3.set H.length (.cells [.int .i64 n, r])) := by
      simp only [stV, wrt, cellsV, notTup, box3]
      rfl
    simp only [hb, bd_some, hst, true_and, ret62, resultV, mapO, result1]
    have ld : rd (H3.set H.length (.cells [.int .i64 n, r])) (.ptr H.length 0) 2 = some [.int .i64 n, r] := by
      simp only [rd]
      rw [List.getElem?_set_self (by have := keep.1; omega)]
      rfl
    simp only [List.getD_cons_zero, List.getD_cons_succ, ld, Option.bind_some, packV, if_true, Option.map_some, bd_some]
    refine h r _ E' ?_ ?_ perm srt
    · refine ⟨by have := keep.1; have := kp.1; have := kp0.1; simp; omega, fun j hj => ?_⟩
      rw [List.getElem?_set_ne (by omega), keep.2 j (by omega), kp.2 j (by have := kp0.1; omega), kp0.2 j hj]
    · rcases own3 with ⟨a, b⟩ | ⟨id, rfl, hB⟩
      · exact .inl ⟨a, b⟩
      · refine .inr ⟨id, rfl, ?_⟩
        have f := fresh _ _ _ _ _ rfl
        unfold BlkP
        rw [List.getElem?_set_ne (by omega)]
        exact hB

theorem pairs_len {n : Nat} {E : List IP} (hr : inG n E) (hnd : E.Nodup) : E.length ≤ n * n := by
  have := nodup_len (n * n) (E.map fun e => e.1.toNat * n + e.2.toNat) ?_ ?_
  · simpa using this
  · rw [List.Nodup, List.pairwise_map]
    refine hnd.imp_of_mem ?_
    intro x y hx hy hne e
    obtain ⟨⟨x1, x2⟩, x3, x4⟩ := hr x hx
    obtain ⟨⟨y1, y2⟩, y3, y4⟩ := hr y hy
    have hx2 : x.2.toNat < n := by omega
    have hy2 : y.2.toNat < n := by omega
    have hd : (x.1.toNat * n + x.2.toNat) / n = (y.1.toNat * n + y.2.toNat) / n := by rw [e]
    rw [Nat.mul_comm x.1.toNat, Nat.mul_comm y.1.toNat, Nat.mul_add_div (by omega), Nat.mul_add_div (by omega), Nat.div_eq_of_lt hx2, Nat.div_eq_of_lt hy2] at hd
    have e1 : x.1.toNat = y.1.toNat := by omega
    rw [e1] at e
    exact hne (Prod.ext (by omega) (by omega))
  · intro d hd
    obtain ⟨e, he, rfl⟩ := List.mem_map.1 hd
    obtain ⟨⟨x1, x2⟩, x3, x4⟩ := hr e he
    have h1 : e.1.toNat + 1 ≤ n := by omega
    have h2 := Nat.mul_le_mul_right n h1
    rw [Nat.succ_mul] at h2
    omega

theorem c60 {v : V} {E : List IP} (hv : Arr 2 tEdge.R v E) {n : Nat} (hn : n ≤ 64) (hr : inG n E) (hnd : E.Nodup) (hs : Srt ltE 0 E.length E) {H : Heap} {k : V → Heap → Prop} (h : k (.int .i64 0) H) : Cl G 60 [.agg [.int .i64 n, v]] H k := by
  refine Cl.mode1 (F := i60) rfl rfl (by simp [hv.closed]) ?_
  rw [w60]
  have hle := hv.le
  have n0 : ¬ ((n : Int) < 0) := by omega
  have n1 : ¬ ((n : Int) > 64) := by omega
  have hnn : n * n ≤ 64 * 64 := Nat.mul_le_mul hn hn
  have w : IntKind.i64.wrap ((n : Int) * (n : Int)) = ((n * n : Nat) : Int) := wi (by simp) (by omega)
  have hp := pairs_len hr hnd
  have n2 : ¬ ((E.length : Int) > ((n * n : Nat) : Int)) := by omega
  simp only [bxrV_agg, closedVs_cons, closedVs_nil, closedV_int, hv.closed, Bool.and_self, bd_some, fadrV_rptr, List.drop_zero, List.drop_succ_cons, ldV_one, binV_lss, n0, decide_false, gdV_bool, beq_self_eq_true, wpg_true, binV_gtr, n1, pickV_bool, Bool.false_eq_true, if_false, ifB_bool, hv.lens, binV_mul, w, n2]
  refine ub60_0 E.length (fun m c1 c26 c27 c28 H1 => c1 = .rptr [.int .i64 n, v] ∧ v = c26 ∧ c27 = .int .i64 E.length ∧ c28 = .int .i64 m) ?_ 0 (Nat.zero_le _) ⟨rfl, rfl, rfl, rfl⟩
  rintro m hm _ _ _ _ H1 ⟨rfl, rfl, rfl, rfl⟩
  intros
  rw [wb60_0]
  simp only [binV_lss, bd_some, ifB_bool, decide_eq_true_eq, Int.ofNat_lt]
  split
  · rename_i hlt
    obtain ⟨rest, e⟩ := edge_at hv hlt
    obtain ⟨⟨r1, r2⟩, r3, r4⟩ := hr _ (List.getElem_mem hlt)
    simp only [e, bd_some, ldV_s2, newB, true_and]
    rw [stV_new (by rfl) (by rfl)]
    simp only [bd_some, frz_new (show closedVs [V.int .i64 E[m].1, V.int .i64 E[m].2] = true from rfl), bd2_some, fadrV_rptr, List.drop_zero, List.drop_succ_cons, ldrV_one, ldV_one, Bool.true_or, true_and]
    refine c72 ?_
    have b1 : (decide (E[m].1 < 0) || decide ((n : Int) ≤ E[m].1)) = false := by simp; omega
    have b2 : (decide (E[m].2 < 0) || decide ((n : Int) ≤ E[m].2)) = false := by simp; omega
    simp only [b1, gdV_bool, beq_self_eq_true, wpg_true]
    try simp only [bd_some, fadrV_rptr, List.drop_zero, List.drop_succ_cons, ldrV_one, ldV_one, Bool.true_or, true_and]
    refine c72 ?_
    simp only [b2, pickV_bool, Bool.false_eq_true, if_false, bd_some, ifB_bool, binV_add, wi (show (m : Int) + 1 = ((m + 1 : Nat) : Int) by omega) (by omega), upQ_n, Sb60_0_eq, true_and]
    exact ⟨m + 1, by omega, by omega, rfl⟩
  · simp only [upQ_e, blockQ_e, if_true, seqQ_n, wr60_1]
    refine ub60_2 (E.length + 1) (fun m c1 c5 H1 => c1 = .rptr [.int .i64 n, v] ∧ c5 = .int .i64 m ∧ 1 ≤ m) ?_ 1 (by omega) ⟨rfl, rfl, Nat.le_refl _⟩
    rintro m hm _ _ H1 ⟨rfl, rfl, h1⟩
    intros
    rw [wb60_2]
    simp only [fadrV_rptr, List.drop_zero, List.drop_succ_cons, ldV_one, hv.lens, binV_lss, bd_some, ifB_bool, decide_eq_true_eq, Int.ofNat_lt]
    split
    · rename_i hlt
      obtain ⟨rest, e⟩ := edge_at hv hlt
      obtain ⟨rest', e'⟩ := edge_at hv (show m - 1 < E.length by omega)
      simp only [binV_sub, bd_some, wi (show (m : Int) - 1 = ((m - 1 : Nat) : Int) by omega) (by omega), e', e, ldV_s2, Bool.true_or, true_and]
      refine c73 (x := E[m - 1]) (y := E[m]) ?_
      have lt : ordE E[m - 1] E[m] < 0 := by
        have h0 := hs (m - 1) m (Nat.zero_le _) (by omega) hlt
        rw [gt_get hlt, gt_get (show m - 1 < E.length by omega)] at h0
        have : ltE E[m - 1] E[m] = true := by
          cases c : ltE E[m - 1] E[m]
          · have := loE.tot _ _ c h0
            exact absurd this (List.pairwise_iff_getElem.1 hnd (m - 1) m (by omega) hlt (by omega))
          · rfl
        simpa [ltE] using this
      have ge : ¬ (ordE E[m - 1] E[m] ≥ 0) := by omega
      simp only [binV_geq, bd_some, ge, decide_false, ifB_bool, Bool.false_eq_true, if_false, binV_add, wi (show (m : Int) + 1 = ((m + 1 : Nat) : Int) by omega) (by omega), upQ_n, Sb60_2_eq, true_and]
      exact ⟨m + 1, by omega, by omega, rfl, by omega⟩
    · simpa [wr60_3] using h
end Go.Proofs.Ytoommmeapdkopaa.E
namespace Go.Proofs.Ytoommmeapdkopaa.E
open Go Go.Eng

def rowE (E : List IP) (k : Nat) : List Int := (E.filter fun e => decide (e.1 = (k : Int))).map Prod.snd
def cntE (E : List IP) (D : List Nat) (i : Nat) : Nat := E.countP fun e => decide (e.2 = (i : Int)) && !decide (e.1.toNat ∈ D)
theorem rowE_snoc {E : List IP} {e : IP} {k : Nat} : rowE (E ++ [e]) k = if e.1 = (k : Int) then rowE E k ++ [e.2] else rowE E k := by
  simp only [rowE, List.filter_append, List.map_append]
  by_cases h : e.1 = (k : Int)
  · simp [h]
  · simp [h]
theorem rowE_len {E : List IP} {k : Nat} : (rowE E k).length ≤ E.length := by
  simp only [rowE, List.length_map]; exact List.length_filter_le ..
theorem mem_rowE {E : List IP} {k : Nat} {x : Int} : x ∈ rowE E k ↔ ((k : Int), x) ∈ E := by
  simp only [rowE, List.mem_map, List.mem_filter, decide_eq_true_eq]
  constructor
  · rintro ⟨e, ⟨h1, h2⟩, rfl⟩
    rw [← h2]; exact h1
  · intro h; exact ⟨_, ⟨h, rfl⟩, rfl⟩
theorem cntE_snoc {D : List Nat} {k : Nat} (hk : k ∉ D) : ∀ (E : List IP) (i : Nat), (∀ e ∈ E, 0 ≤ e.1) → cntE E (D ++ [k]) i + (rowE E k).count (i : Int) = cntE E D i
  | [], i, _ => rfl
  | e :: E, i, h => by
    have ih := cntE_snoc hk E i (fun e he => h e (by simp [he]))
    have h0 := h e (by simp)
    simp only [cntE, rowE, List.countP_cons, List.filter_cons] at ih ⊢
    by_cases h1 : e.1 = (k : Int)
    · have hk' : e.1.toNat = k := by omega
      by_cases h2 : e.2 = (i : Int)
      · simp [h1, h2, hk] at ih ⊢; omega
      · simp [h1, h2, hk] at ih ⊢; omega
    · have hk' : ¬ e.1.toNat = k := by omega
      simp [h1, hk'] at ih ⊢; omega

theorem c61 {v : V} {E : List IP} (hv : Arr 2 tEdge.R v E) {n : Nat} (hn : n ≤ 64) (hE : E.length ≤ 1000) (hr : inG n E) (hpos : 0 < n) {H : Heap} {k : V → Heap → Prop} (h : ∀ r, Arr 1 (Ty.R (.sl (.int .i64))) r ((List.range n).map (rowE E)) → k r H) : Cl G 61 [.agg [.int .i64 n, v]] H k := by
  refine Cl.mode1 (F := i61) rfl rfl (by simp [hv.closed]) ?_
  rw [w61]
  have e0 : mksV 1 24 [.nils] [] (.int .i64 n) (.int .i64 n) = some (.sl 0 0 n n 1, [.cells (List.replicate n .nils)]) := by
    have : ¬ ((n : Int) = 0) := by omega
    have r : (n : Int) * (24 : Nat) ≤ (room : Int) := by unfold room; omega
    simp only [mksV, this, if_false, Int.le_refl, true_and, List.length_nil, List.nil_append, Int.toNat_natCast]
    rw [if_pos ⟨by omega, r⟩, rep_one]
  simp only [bxrV_agg, closedVs_cons, closedVs_nil, closedV_int, hv.closed, Bool.and_self, bd_some, fadrV_rptr, List.drop_zero, List.drop_succ_cons, ldV_one, e0, bd2_some, hv.lens]
  refine ub61_0 E.length (fun m c3 c10 c11 c12 H1 => c3 = .sl 0 0 n n 1 ∧ v = c10 ∧ c11 = .int .i64 E.length ∧ c12 = .int .i64 m ∧ RowsG H1 n (rowE (E.take m))) ?_ 0 (Nat.zero_le _)
    ⟨rfl, rfl, rfl, rfl, List.replicate n .nils, by simp, rfl, fun i hi => .inl ⟨by simp [hi], rfl⟩, fun i j id a c b d e => by rw [List.getElem?_replicate] at e; split at e <;> cases e⟩
  rintro m hm _ _ _ _ H1 ⟨rfl, rfl, rfl, rfl, hR⟩
  intros
  rw [wb61_0]
  simp only [binV_lss, bd_some, ifB_bool, decide_eq_true_eq, Int.ofNat_lt]
  split
  · rename_i hlt
    obtain ⟨rest, e⟩ := edge_at hv hlt
    obtain ⟨⟨r1, r2⟩, r3, r4⟩ := hr _ (List.getElem_mem hlt)
    simp only [e, bd_some, ldV_s2, newB, true_and]
    rw [stV_new (by rfl) (by rfl)]
    simp only [bd_some, frz_new (show closedVs [V.int .i64 E[m].1, V.int .i64 E[m].2] = true from rfl), bd2_some, fadrV_rptr, List.drop_zero, List.drop_succ_cons, ldrV_one]
    have hR2 := hR.alloc [B.dead]
    generalize H1 ++ [B.dead] = H2 at hR2
    obtain ⟨a, ha⟩ : ∃ a : Nat, E[m].1 = a := ⟨E[m].1.toNat, by omega⟩
    have han : a < n := by omega
    have hlen := rowE_len (E := E.take m) (k := a)
    obtain ⟨w, w', H3, H4, l1, l2, l3, hR3⟩ := hR2.push han (x := E[m].2) (by simp at hlen; unfold room; omega)
    have ia : iadrV 1 (.sl 0 0 n n 1) (.int .i64 a) = some (.ptr 0 a) := by simp [iadrV, han]
    simp only [ha, ia, bd_some, l1, bslV_one (show oneC (.int .i64 E[m].2) = true from rfl), bd2_some, l2, l3, true_and, binV_add, wi (show (m : Int) + 1 = ((m + 1 : Nat) : Int) by omega) (by omega), upQ_n, Sb61_0_eq]
    refine ⟨m + 1, by omega, by omega, rfl, ?_⟩
    have ef : rowE (E.take (m + 1)) = fun j => if j = a then rowE (E.take m) a ++ [E[m].2] else rowE (E.take m) j := by
      funext j
      rw [tk hlt, rowE_snoc, ha]
      by_cases hj : j = a
      · subst hj; simp
      · have : ¬ (a : Int) = (j : Int) := by omega
        simp [hj, this]
    rw [ef]
    exact hR3
  · rename_i hge
    rw [take_all hge] at hR
    simp only [upQ_e, blockQ_e, if_true, seqQ_n, wr61_1, ret61]
    obtain ⟨r, q1, q2⟩ := hR.close (by unfold top; omega) (fun i hi => by have := rowE_len (E := E) (k := i); unfold top; omega) (fun i hi x hx => by
      obtain ⟨_, x1, x2⟩ := hr _ (mem_rowE.1 hx)
      exact i64_mm (by simp at x1; omega) (by simp at x2; omega)) (d := 9)
    exact hq_some q1 (h r q2)
end Go.Proofs.Ytoommmeapdkopaa.E
namespace Go.Proofs.Ytoommmeapdkopaa.E
open Go Go.Eng

def okB (b : UInt8) : Bool := decide (33 ≤ b.toNat) && decide (b.toNat ≤ 126)
def okName (s : List UInt8) : Bool := s.all okB && decide (1 ≤ s.length) && decide (s.length ≤ 40)

theorem c59 {s : List UInt8} (hs : s.length ≤ top) {H : Heap} {k : V → Heap → Prop} (h : k (.bool (okName s)) H) : Cl G 59 [.str s] H k := by
  refine Cl.mode1 (F := i59) rfl rfl (by simp) ?_
  rw [w59]
  refine ub59_0 s.length (fun i a b _ => a = .str s ∧ b = .int .i64 i ∧ (s.take i).all okB = true) ?_ 0 (Nat.zero_le _) (by simp)
  rintro i hi _ _ _ ⟨rfl, rfl, he⟩
  intros
  rw [wb59_0]
  simp only [lentV_str, bd_some, binV_lss, ifB_bool, decide_eq_true_eq, Int.ofNat_lt]
  split
  · rename_i hlt
    have e : sidxV (.str s) (.int .i64 i) = some (.int .u8 s[i].toNat) := by simp [sidxV, hlt]
    have out : okB s[i] = false → okName s = false := fun hf => by
      have : s.all okB = false := by rw [List.all_eq_false]; exact ⟨_, List.getElem_mem hlt, by rw [hf]; exact Bool.false_ne_true⟩
      simp [okName, this]
    by_cases f1 : (s[i].toNat : Int) < 33
    · simpa [e, f1, out (by simp only [okB, Bool.and_eq_false_iff, decide_eq_false_iff_not]; omega)] using h
    by_cases f2 : 126 < (s[i].toNat : Int)
    · simpa [e, f1, f2, out (by simp only [okB, Bool.and_eq_false_iff, decide_eq_false_iff_not]; omega)] using h
    simp [e, f1, f2, wrap_succ (show i + 1 ≤ 9223372036854775807 by unfold top at hs; omega), -List.all_eq_true]
    exact ⟨i + 1, by omega, by omega, by simp, by rw [all_take_succ hlt, he, Bool.true_and]; simp only [okB, Bool.and_eq_true, decide_eq_true_eq]; omega⟩
  · rename_i hge
    rw [take_all hge] at he
    simp only [okName, he, Bool.true_and] at h
    by_cases f1 : 1 ≤ s.length
    case neg =>
      have : ¬ (1 ≤ (s.length : Int)) := by omega
      simpa [wr59_1, this, f1] using h
    have f1' : 1 ≤ (s.length : Int) := by omega
    by_cases f2 : s.length ≤ 40
    case neg =>
      have : ¬ ((s.length : Int) ≤ 40) := by omega
      simpa [wr59_1, this, f1, f1', f2] using h
    have f2' : (s.length : Int) ≤ 40 := by omega
    simpa [wr59_1, f1, f1', f2, f2'] using h

theorem c78 {r : Int} {H : Heap} {k : V → Heap → Prop} (h : k (.bool (decide (r < 33) || decide (126 < r))) H) : Cl G 78 [.int .i32 r] H k := by
  refine Cl.mode1 (F := i78) rfl rfl (by simp) ?_
  rw [w78]
  by_cases f1 : r < 33
  · simpa [f1] using h
  by_cases f2 : 126 < r
  · simpa [f1, f2] using h
  simpa [f1, f2] using h

theorem decode_small {s : List UInt8} {i : Nat} (hi : i < s.length) (h : s[i].toNat < 128) : decodeAt s i = ((s[i].toNat : Int), 1) := by
  have e : (ByteArray.mk s.toArray).get! i = s[i] := by
    simp [ByteArray.get!, hi]
  simp only [decodeAt, Utf8.decode, Nat.add_zero, e]
  rw [if_pos h]
theorem decode_big {s : List UInt8} {i : Nat} (hi : i < s.length) (h : 128 ≤ s[i].toNat) : 126 < (decodeAt s i).1 := by
  have e : (ByteArray.mk s.toArray).get! i = s[i] := by
    simp [ByteArray.get!, hi]
  simp only [decodeAt, Utf8.decode, Nat.add_zero, e]
  rw [if_neg (by omega)]
  repeat' split
  all_goals (try simp only [Bool.and_eq_true, decide_eq_true_eq] at *)
  all_goals (try simp only [Utf8.runeError])
  all_goals (try omega)

theorem c97 {s : List UInt8} (hs : s.length ≤ top) {H : Heap} {k : V → Heap → Prop} (h : ∀ r : Int, (0 ≤ r ↔ s.all okB = false) → k (.int .i64 r) H) : Cl G 97 [.str s, .fn 78 [], .bool true] H k := by
  refine Cl.mode1 (F := i97) rfl rfl (by simp) ?_
  rw [w97]
  simp only [rngV, bd_some, newB, List.length_nil, List.nil_append]
  refine ub97_0 s.length (fun i a b c H => a = .fn 78 [] ∧ b = .bool true ∧ c = .ptr 0 0 ∧ H = [.siter s i] ∧ (s.take i).all okB = true) ?_ 0 (Nat.zero_le _) (by simp)
  rintro i hi _ _ _ _ ⟨rfl, rfl, rfl, rfl, he⟩
  intros
  rw [wb97_0]
  by_cases hlt : i < s.length
  · have e : nxtV [B.siter s i] (.ptr 0 0) = some (.tup [.bool true, .int .i64 i, .int .i32 (decodeAt s i).1], [.siter s (i + (decodeAt s i).2)]) := by simp [nxtV, hlt]
    simp only [e, bd2_some, extV, List.getElem?_cons_zero, List.getElem?_cons_succ, bd_some, ifB_bool, if_true, callV_fn, Bool.true_or, true_and, List.append_nil]
    refine c78 ?_
    by_cases f : s[i].toNat < 128
    case neg =>
      have := decode_big hlt (by omega)
      simp [this]
      refine h i ⟨fun _ => ?_, fun _ => by omega⟩
      rw [List.all_eq_false]
      exact ⟨_, List.getElem_mem hlt, by simp only [okB, Bool.and_eq_true, decide_eq_true_eq]; omega⟩
    rw [decode_small hlt f]
    by_cases f1 : okB s[i] = true
    case neg =>
      have : (s[i].toNat : Int) < 33 ∨ 126 < (s[i].toNat : Int) := by simp only [okB, Bool.and_eq_true, decide_eq_true_eq] at f1; omega
      simp [this]
      refine h i ⟨fun _ => ?_, fun _ => by omega⟩
      rw [List.all_eq_false]
      exact ⟨_, List.getElem_mem hlt, f1⟩
    have f2 := f1
    simp only [okB, Bool.and_eq_true, decide_eq_true_eq] at f2
    have g1 : ¬ ((s[i].toNat : Int) < 33) := by omega
    have g2 : ¬ (126 < (s[i].toNat : Int)) := by omega
    simp [g1, g2, -List.all_eq_true]
    exact ⟨i + 1, by omega, by omega, by simp, by rw [all_take_succ hlt, he, f1]; rfl⟩
  · have e : nxtV [B.siter s i] (.ptr 0 0) = some (.tup [.bool false], [.siter s i]) := by simp [nxtV, hlt]
    rw [take_all hlt] at he
    simp [e, extV, wr97_1]
    exact h (-1) ⟨fun h => by omega, fun h => by rw [he] at h; cases h⟩

theorem c85 {s : List UInt8} (hs : s.length ≤ top) {H : Heap} {k : V → Heap → Prop} (h : ∀ r : Int, (0 ≤ r ↔ s.all okB = false) → k (.int .i64 r) H) : Cl G 85 [.str s, .fn 78 []] H k := by
  refine Cl.mode1 (F := i85) rfl rfl (by simp) ?_
  rw [w85]
  simp
  exact c97 hs fun r hr => by simpa using h r hr

theorem c77 {s : List UInt8} (hs : s.length ≤ top) {H : Heap} {k : V → Heap → Prop} (h : k (.bool (!s.all okB)) H) : Cl G 77 [.str s, .fn 78 []] H k := by
  refine Cl.mode1 (F := i77) rfl rfl (by simp) ?_
  rw [w77]
  simp
  refine c85 hs fun r hr => ?_
  have : decide (0 ≤ r) = !s.all okB := by
    cases hb : s.all okB
    · simpa [hb] using hr
    · simpa [hb] using hr
  simp [this, -List.all_eq_true]
  simpa using h

theorem c67 {s : List UInt8} (hs : s.length ≤ top) {H : Heap} {k : V → Heap → Prop} (h : k (.bool (okName s)) H) : Cl G 67 [.str s] H k := by
  refine Cl.mode1 (F := i67) rfl rfl (by simp) ?_
  rw [w67]
  by_cases f1 : 1 ≤ s.length
  case neg =>
    have : ¬ (0 < s.length) := by omega
    have e : okName s = false := by simp [okName, f1, -List.all_eq_true]
    simpa [this, e] using h
  have f1' : 0 < s.length := by omega
  by_cases f2 : s.length ≤ 40
  case neg =>
    have : ¬ ((s.length : Int) ≤ 40) := by omega
    have e : okName s = false := by simp [okName, f2, -List.all_eq_true]
    simpa [this, f1', e] using h
  have f2' : (s.length : Int) ≤ 40 := by omega
  have e : okName s = s.all okB := by simp [okName, f1, f2, -List.all_eq_true]
  simp [f1', f2']
  refine c77 hs ?_
  cases hb : s.all okB <;> simpa [e, hb, -List.all_eq_true] using h
end Go.Proofs.Ytoommmeapdkopaa.E
namespace Go.Proofs.Ytoommmeapdkopaa.E
open Go Go.Eng
abbrev tTask : Ty := .pair .str (.pair (.int .i64) (.pair .str (.sl (.int .i64))))
abbrev tStation : Ty := .pair .str (.sl .str)
abbrev tShop : Ty := .pair (.sl tTask) (.sl tStation)

theorem task_at {v : V} {l : List tTask.D} (h : Arr 4 tTask.R v l) {i : Nat} (hi : i < l.length) : ∃ w rest, iadrV 4 v (.int .i64 i) = some (.rptr (.str l[i].1 :: .int .i64 l[i].2.1 :: .str l[i].2.2.1 :: w :: rest)) ∧ Arr 1 tI.R w l[i].2.2.2 := by
  obtain ⟨c, r, ⟨_, _, rfl, ⟨rfl, _⟩, _, _, rfl, ⟨rfl, _⟩, _, _, rfl, ⟨rfl, _⟩, w, rfl, q⟩, _, e⟩ := h.iadr hi
  exact ⟨w, r, e, q⟩
theorem station_at {v : V} {l : List tStation.D} (h : Arr 2 tStation.R v l) {i : Nat} (hi : i < l.length) : ∃ w rest, iadrV 2 v (.int .i64 i) = some (.rptr (.str l[i].1 :: w :: rest)) ∧ Arr 1 (Ty.R .str) w l[i].2 := by
  obtain ⟨c, r, ⟨_, _, rfl, ⟨rfl, _⟩, w, rfl, q⟩, _, e⟩ := h.iadr hi
  exact ⟨w, r, e, q⟩
theorem shop_v {x : tShop.D} {v : V} (h : tShop.V x v) : ∃ a b, v = .agg [a, b] ∧ Arr 4 tTask.R a x.1 ∧ Arr 2 tStation.R b x.2 := by
  obtain ⟨_, rfl, _, _, rfl, ⟨a, rfl, q⟩, b, rfl, p⟩ := h
  exact ⟨a, b, rfl, q, p⟩
theorem stV_fill {H : Heap} {zs c : List V} {k : Nat} (hz : zs.length = k) (hc : c.length = k) : stV (H ++ [.cells zs]) k (.ptr H.length 0) (.agg c) = some (H ++ [.cells c]) := stV_new hz hc

theorem c32 {x y : tTask.D} {w w' : V} (hx : Arr 1 tI.R w x.2.2.2) (hy : Arr 1 tI.R w' y.2.2.2) {H : Heap} {k : V → Heap → Prop} (h : k (.bool (decide (x = y))) H) :
    Cl G 32 [.agg [.str x.1, .int .i64 x.2.1, .str x.2.2.1, w], .agg [.str y.1, .int .i64 y.2.1, .str y.2.2.1, w']] H k := by
  refine Cl.mode1 (F := i32) rfl rfl (by simp [hx.closed, hy.closed]) ?_
  rw [w32]
  have e : (x = y) ↔ x.1 = y.1 ∧ x.2.1 = y.2.1 ∧ x.2.2.1 = y.2.2.1 ∧ x.2.2.2 = y.2.2.2 := by simp [Prod.ext_iff]
  simp only [e] at h
  by_cases h1 : x.1 = y.1
  case neg => simpa [hx.closed, hy.closed, h1] using h
  by_cases h2 : x.2.1 = y.2.1
  case neg => simpa [hx.closed, hy.closed, h1, h2] using h
  by_cases h3 : x.2.2.1 = y.2.2.1
  case neg => simpa [hx.closed, hy.closed, h1, h2, h3] using h
  simp [hx.closed, hy.closed, h1, h2, h3]
  refine c33 (hx.sh _) (hy.sh _) ?_
  simpa [h1, h2, h3] using h

theorem c35 {x y : tStation.D} {w w' : V} (hx : Arr 1 (Ty.R .str) w x.2) (hy : Arr 1 (Ty.R .str) w' y.2) {H : Heap} {k : V → Heap → Prop} (h : k (.bool (decide (x = y))) H) :
    Cl G 35 [.agg [.str x.1, w], .agg [.str y.1, w']] H k := by
  refine Cl.mode1 (F := i35) rfl rfl (by simp [hx.closed, hy.closed]) ?_
  rw [w35]
  have e : (x = y) ↔ x.1 = y.1 ∧ x.2 = y.2 := by simp [Prod.ext_iff]
  simp only [e] at h
  by_cases h1 : x.1 = y.1
  case neg => simpa [hx.closed, hy.closed, h1] using h
  simp [hx.closed, hy.closed, h1]
  refine c36 (hx.sh _) (hy.sh _) ?_
  simpa [h1] using h

theorem c31 {x y : V} {l1 l2 : List tTask.D} (hx : Arr 4 tTask.R x l1) (hy : Arr 4 tTask.R y l2) {H : Heap} {k : V → Heap → Prop} (h : k (.bool (decide (l1 = l2))) H) : Cl G 31 [x, y, .fn 32 []] H k := by
  refine Cl.mode1 (F := i31) rfl rfl (by simp [hx.closed, hy.closed]) ?_
  rw [w31]
  have hle := hx.le
  simp only [hx.lens, hy.lens, bd_some, binV_neq, ifB_bool, Bool.not_eq_true', decide_eq_false_iff_not, Int.ofNat_inj, ite_not]
  split
  case isFalse hne => simpa [show l1 ≠ l2 from fun e => hne (by rw [e])] using h
  case isTrue hln =>
  refine ub31_0 l1.length (fun i a b c d e _ => a = y ∧ b = .fn 32 [] ∧ c = x ∧ d = .int .i64 l1.length ∧ e = .int .i64 i ∧ l1.take i = l2.take i) ?_ 0 (Nat.zero_le _) (by simp)
  rintro i hi _ _ _ _ _ H1 ⟨rfl, rfl, rfl, rfl, rfl, he⟩
  intros
  rw [wb31_0]
  simp only [bd_some, binV_lss, ifB_bool, decide_eq_true_eq, Int.ofNat_lt]
  split
  · rename_i hlt
    obtain ⟨w, r, e, q⟩ := task_at hx hlt
    obtain ⟨w', r', e', q'⟩ := task_at hy (show i < l2.length by omega)
    simp only [e, e', bd_some, ldV_s4, newB, true_and]
    rw [stV_new (by rfl) (by rfl)]
    simp only [bd_some, ldV_s4]
    rw [stV_new (by rfl) (by rfl)]
    simp only [bd_some]
    rw [ldV_prev (by rfl)]
    simp only [bd_some]
    rw [ldV_last (by rfl)]
    simp only [bd_some, callV_fn, Bool.true_or, true_and, List.append_nil]
    refine c32 q q' ?_
    simp only [unV_not, bd_some, ifB_bool, Bool.not_eq_true', decide_eq_false_iff_not, ite_not]
    split
    · rename_i heq
      simp only [binV_add, bd_some, wrap_succ (show i + 1 ≤ 9223372036854775807 by unfold top at hle; omega), upQ_n, Sb31_0_eq, true_and]
      exact ⟨i + 1, by omega, by omega, rfl, (agree_succ hlt (by omega)).2 ⟨he, heq⟩⟩
    · rename_i hne
      simpa [show l1 ≠ l2 from fun e => hne (by subst e; rfl)] using h
  · rename_i hge
    simpa [agree_all hge hln he, wr31_1] using h

theorem c34 {x y : V} {l1 l2 : List tStation.D} (hx : Arr 2 tStation.R x l1) (hy : Arr 2 tStation.R y l2) {H : Heap} {k : V → Heap → Prop} (h : k (.bool (decide (l1 = l2))) H) : Cl G 34 [x, y, .fn 35 []] H k := by
  refine Cl.mode1 (F := i34) rfl rfl (by simp [hx.closed, hy.closed]) ?_
  rw [w34]
  have hle := hx.le
  simp only [hx.lens, hy.lens, bd_some, binV_neq, ifB_bool, Bool.not_eq_true', decide_eq_false_iff_not, Int.ofNat_inj, ite_not]
  split
  case isFalse hne => simpa [show l1 ≠ l2 from fun e => hne (by rw [e])] using h
  case isTrue hln =>
  refine ub34_0 l1.length (fun i a b c d e _ => a = y ∧ b = .fn 35 [] ∧ c = x ∧ d = .int .i64 l1.length ∧ e = .int .i64 i ∧ l1.take i = l2.take i) ?_ 0 (Nat.zero_le _) (by simp)
  rintro i hi _ _ _ _ _ H1 ⟨rfl, rfl, rfl, rfl, rfl, he⟩
  intros
  rw [wb34_0]
  simp only [bd_some, binV_lss, ifB_bool, decide_eq_true_eq, Int.ofNat_lt]
  split
  · rename_i hlt
    obtain ⟨w, r, e, q⟩ := station_at hx hlt
    obtain ⟨w', r', e', q'⟩ := station_at hy (show i < l2.length by omega)
    simp only [e, e', bd_some, ldV_s2, newB, true_and]
    rw [stV_new (by rfl) (by rfl)]
    simp only [bd_some, ldV_s2]
    rw [stV_new (by rfl) (by rfl)]
    simp only [bd_some]
    rw [ldV_prev (by rfl)]
    simp only [bd_some]
    rw [ldV_last (by rfl)]
    simp only [bd_some, callV_fn, Bool.true_or, true_and, List.append_nil]
    refine c35 q q' ?_
    simp only [unV_not, bd_some, ifB_bool, Bool.not_eq_true', decide_eq_false_iff_not, ite_not]
    split
    · rename_i heq
      simp only [binV_add, bd_some, wrap_succ (show i + 1 ≤ 9223372036854775807 by unfold top at hle; omega), upQ_n, Sb34_0_eq, true_and]
      exact ⟨i + 1, by omega, by omega, rfl, (agree_succ hlt (by omega)).2 ⟨he, heq⟩⟩
    · rename_i hne
      simpa [show l1 ≠ l2 from fun e => hne (by subst e; rfl)] using h
  · rename_i hge
    simpa [agree_all hge hln he, wr34_1] using h

theorem c12 {x y : tShop.D} {v w : V} (hx : tShop.V x v) (hy : tShop.V y w) {H : Heap} {k : V → Heap → Prop} (h : k (.bool (decide (x = y))) H) : Cl G 12 [v, w] H k := by
  obtain ⟨a, b, rfl, h1, h2⟩ := shop_v hx
  obtain ⟨a', b', rfl, h1', h2'⟩ := shop_v hy
  refine Cl.mode1 (F := i12) rfl rfl (by simp [h1.closed, h2.closed, h1'.closed, h2'.closed]) ?_
  rw [w12]
  have e : (x = y) ↔ x.1 = y.1 ∧ x.2 = y.2 := by simp [Prod.ext_iff]
  simp only [e] at h
  simp [h1.closed, h2.closed, h1'.closed, h2'.closed]
  refine c31 h1 h1' ?_
  by_cases e1 : x.1 = y.1
  case neg => simpa [e1] using h
  simp [e1]
  refine c34 h2 h2' ?_
  simpa [e1] using h

end Go.Proofs.Ytoommmeapdkopaa.E
