/- What functions of the program return, proved over the interpreter. Each theorem says its conditions. -/
import Derived.Test.YtoommmeapdkopaaZS3
import Derived.Test.YtoommmeapdkopaaE31
import Derived.Test.YtoommmeapdkopaaZS2
import Derived.Test.YtoommmeapdkopaaZD2
import Derived.Test.YtoommmeapdkopaaZK
import Derived.Test.YtoommmeapdkopaaE34
import Derived.Test.YtoommmeapdkopaaE35
namespace Go.Proofs.Ytoommmeapdkopaa.E
open Go Go.Eng

def toolsOk (S : List tStation.D) : Prop := ∀ s ∈ S, s.2.Nodup ∧ [] ∉ s.2

theorem range_succ_filter {p : Nat → Bool} {i : Nat} : (List.range (i + 1)).filter p = (List.range i).filter p ++ (if p i = true then [i] else []) := by
  rw [List.range_succ, List.filter_append]
  by_cases h : p i = true <;> simp [h]
def hasAt (S : List tStation.D) (t : List UInt8) (k : Nat) : Bool := match S[k]? with | some s => hasTool s t | none => false
theorem hasAt_of {S : List tStation.D} {t : List UInt8} {i : Nat} (h : i < S.length) : hasAt S t i = hasTool S[i] t := by simp [hasAt, h]
def fT (S : List tStation.D) (i : Nat) (x : List (List UInt8)) (t : List UInt8) : List Int := ofN ((List.range i).filter (hasAt S t) ++ if t ∈ x then [i] else [])
theorem fT_len {S : List tStation.D} {i : Nat} {x : List (List UInt8)} {t : List UInt8} : (fT S i x t).length ≤ i + 1 := by
  have := filter_range_len (p := hasAt S t) (n := i)
  simp only [fT, ofN_len, List.length_append]
  split <;> simp <;> omega
theorem fT_next {S : List tStation.D} {i : Nat} {x : List (List UInt8)} {t : List UInt8} (h : t ∉ x) : (fun t' => if t = t' then fT S i x t ++ [(i : Int)] else fT S i x t') = fT S i (x ++ [t]) := by
  funext t'
  by_cases e : t = t'
  · subst e; simp [fT, h]
  · have : ¬ t' = t := fun h => e h.symm
    simp [fT, e, this]
theorem fT_up {S : List tStation.D} {i : Nat} (h : i < S.length) : fT S i ([[]] ++ S[i].2) = fT S (i + 1) [] := by
  funext t
  simp only [fT, range_succ_filter, hasAt_of h, hasTool]
  have : (t ∈ [[]] ++ S[i].2) ↔ ((S[i].2.any fun y => decide (y = t)) || decide (t = [])) = true := by simp; exact or_comm
  by_cases hm : t ∈ [[]] ++ S[i].2
  · rw [if_pos hm, if_pos (this.1 hm)]; simp
  · rw [if_neg hm, if_neg (fun h => hm (this.2 h))]; simp

theorem c53 {x : tShop.D} {v : V} (hx : tShop.V x v) (hn : x.2.length ≤ 1000) (hok : toolsOk x.2) {H : Heap} {k : V → Heap → Prop} (h : ∀ m H', MapC H' m (fun t => ofN (ableL x.2 t)) → k m H') : Cl G 53 [v] H k := by
  obtain ⟨a, b, rfl, h1, h2⟩ := shop_v hx
  refine Cl.mode2 (F := i53) rfl rfl (by simp [h1.closed, h2.closed]) ?_
  rw [w53]
  simp only [bxrV_agg, closedVs_cons, closedVs_nil, h1.closed, h2.closed, Bool.and_self, bd_some, fadrV_rptr, List.drop_zero, List.drop_succ_cons, ldV_one, h2.lens, newM, List.length_nil, List.nil_append]
  refine ub53_0 x.2.length (fun i c3 c10 c11 c12 H => c3 = .map 0 ∧ b = c10 ∧ c11 = .int .i64 x.2.length ∧ c12 = .int .i64 i ∧ ∃ A, MapR H A (fT x.2 i []) ∧ (A.map Prod.fst).Nodup) ?_ 0 (Nat.zero_le _)
    ⟨rfl, rfl, rfl, rfl, [], ⟨rfl, fun t => .inl ⟨rfl, rfl⟩, fun t t' id n m c d e => by simp [AL.look] at e⟩, by simp⟩
  rintro i hi _ _ _ _ H1 ⟨rfl, rfl, rfl, rfl, A, hA, hnd⟩
  intros
  rw [wb53_0]
  simp only [bd_some, binV_lss, ifB_bool, decide_eq_true_eq, Int.ofNat_lt]
  split
  · rename_i hlt
    obtain ⟨w, r, e, q⟩ := station_at h2 hlt
    have hle : x.2[i].2.length ≤ 9223372036854775807 := q.le
    obtain ⟨tnd, tne⟩ := hok _ (List.getElem_mem hlt)
    simp only [e, bd_some, ldV_s2, newB, true_and]
    rw [stV_new (by rfl) (by rfl)]
    have hA1 := hA.alloc [B.cells [.str x.2[i].1, w]]
    have fb : ∀ x' t, ((fT x.2 i x' t).length + 1) * 8 ≤ room := fun x' t => by have := fT_len (S := x.2) (i := i) (x := x') (t := t); unfold room; omega
    obtain ⟨v1, v2, H2, H3, l1, l2, l3, hA2, fr⟩ := hA1.push (t := []) (x := (i : Int)) (fb _ _)
    rw [fT_next (by simp)] at hA2
    simp only [bd_some, l1, bslV_one (show oneC (.int .i64 i) = true from rfl), bd2_some, l2, l3, fadrV_ptr, Nat.zero_add]

    have box : ldV H3 (.ptr H1.length 1) 1 false = some w := by
      have hne : 0 < H1.length := (List.getElem?_eq_some_iff.1 hA.1).1
      have := fr H1.length hne (by simp) (fun t n c e => by
        rcases hA.2.1 t with ⟨a', _⟩ | ⟨id, _, a', c'⟩
        · rw [a'] at e; cases e
        · rw [a'] at e
          injection e with e
          injection e with e1
          rw [e1] at c'
          have := (List.getElem?_eq_some_iff.1 c').1
          omega)
      refine ldV_own (cs := [.str x.2[i].1, w]) ?_ rfl
      rw [this, List.getElem?_append_right (Nat.le_refl _)]
      simp
    simp only [box, bd_some, q.lens]
    refine ub53_1 x.2[i].2.length (fun j c3 c4 c10 c11 c12 c24 c25 c26 H => c3 = .map 0 ∧ c4 = .int .i64 i ∧ b = c10 ∧ c11 = .int .i64 x.2.length ∧ c12 = .int .i64 i ∧ w = c24 ∧ c25 = .int .i64 x.2[i].2.length ∧ c26 = .int .i64 j ∧ ∃ A, MapR H A (fT x.2 i ([[]] ++ x.2[i].2.take j)) ∧ (A.map Prod.fst).Nodup) ?_ 0 (Nat.zero_le _)
      ⟨rfl, rfl, rfl, rfl, rfl, rfl, rfl, rfl, _, by simpa using hA2, AL.put_nodup hnd⟩
    rintro j hj _ _ _ _ _ _ _ _ H4 ⟨rfl, rfl, rfl, rfl, rfl, rfl, rfl, rfl, A2, hB, hnd2⟩
    intros
    rw [wb53_1]
    simp only [bd_some, binV_lss, ifB_bool, decide_eq_true_eq, Int.ofNat_lt]
    split
    · rename_i hlt2
      obtain ⟨s, e2⟩ := q.str1 hlt2
      obtain ⟨v1, v2, H5, H6, l1, l2, l3, hC, _⟩ := hB.push (t := x.2[i].2[j]) (x := (i : Int)) (fb _ _)
      have hnot : x.2[i].2[j] ∉ [[]] ++ x.2[i].2.take j := by
        simp only [List.singleton_append, List.mem_cons, not_or]
        refine ⟨fun e => tne (e ▸ List.getElem_mem hlt2), fun hm => ?_⟩
        obtain ⟨m, hm1, hm2⟩ := List.mem_iff_getElem.1 hm
        simp only [List.length_take] at hm1
        simp only [List.getElem_take] at hm2
        exact List.pairwise_iff_getElem.1 tnd m j (by omega) hlt2 (by omega) hm2
      rw [fT_next hnot] at hC
      simp only [e2, bd_some, ldV_one, l1, bslV_one (show oneC (.int .i64 i) = true from rfl), bd2_some, l2, l3, true_and, binV_add, wrap_succ (show j + 1 ≤ 9223372036854775807 by omega), upQ_n, Sb53_1_eq]
      refine ⟨j + 1, by omega, by omega, rfl, A2.put x.2[i].2[j] v2, ?_, AL.put_nodup hnd2⟩
      rw [tk hlt2, ← List.append_assoc]
      exact hC
    · rename_i hge2
      rw [take_all hge2] at hB
      simp only [upQ_e, upQ_n, blockQ_e, blockQ_n, seqQ_n, wr53_2, binV_add, bd_some, wrap_succ (show i + 1 ≤ 9223372036854775807 by omega), if_true, Sb53_0_eq, true_and]
      exact ⟨i + 1, by omega, by omega, rfl, A2, by rw [← fT_up hlt]; exact hB, hnd2⟩
  · rename_i hge
    have : i = x.2.length := by omega
    subst this
    simp only [upQ_e, blockQ_e, if_true, seqQ_n, wr53_3, ret53]
    have ef : fT x.2 x.2.length [] = fun t => ofN (ableL x.2 t) := by funext t; simp [fT, ableL]; rfl
    refine hq2_map hA hnd (fun t => by have := fT_len (S := x.2) (i := x.2.length) (x := []) (t := t); unfold top; omega) (fun t y hy => ?_) (fun m H' hm _ _ => h m H' (by rw [← ef]; exact hm))
    rw [ef] at hy
    exact ofN_rng (n := x.2.length) (fun a ha => Nat.le_of_lt (ableL_le a ha)) (by omega) y hy
end Go.Proofs.Ytoommmeapdkopaa.E
namespace Go.Proofs.Ytoommmeapdkopaa.E
open Go Go.Eng

def taskErrAt (T : List tTask.D) (i : Nat) : Int := match T[i]? with | some t => taskErr T i t | none => 0
def stationErrAt (S : List tStation.D) (i : Nat) : Int := match S[i]? with | some s => stationErr S i s | none => 0
theorem taskErrAt_of {T : List tTask.D} {i : Nat} (h : i < T.length) : taskErrAt T i = taskErr T i T[i] := by simp [taskErrAt, h]
theorem stationErrAt_of {S : List tStation.D} {i : Nat} (h : i < S.length) : stationErrAt S i = stationErr S i S[i] := by simp [stationErrAt, h]
def tasksErr (T : List tTask.D) : Int := firstErr (taskErrAt T) T.length
def stationsErr (S : List tStation.D) : Int := firstErr (stationErrAt S) S.length
def shopErr (x : tShop.D) (cyc : Bool) : Int :=
  if 24 < x.1.length ∨ 8 < x.2.length then 6 else if tasksErr x.1 ≠ 0 then tasksErr x.1 else if cyc = true then 30 else if stationsErr x.2 ≠ 0 then stationsErr x.2
  else if x.1.any (fun t => (ableL x.2 t.2.2.1).isEmpty) = true then 10 else 0

theorem aErr_zero {n i : Int} {l : List Int} {j : Nat} (h : aErr n i l j = 0) : 0 ≤ l.getD j 0 ∧ l.getD j 0 < n ∧ l.getD j 0 ≠ i ∧ (0 < j → l.getD (j - 1) 0 < l.getD j 0) := by
  unfold aErr at h
  split at h
  · omega
  split at h
  · omega
  split at h
  · omega
  · exact ⟨by omega, by omega, by omega, by omega⟩
theorem taskErr_zero {T : List tTask.D} {i : Nat} {t : tTask.D} (h : taskErr T i t = 0) : okName t.1 = true ∧ (T.take i).any (fun y => decide (y.1 = t.1)) = false ∧ 1 ≤ t.2.1 ∧ t.2.1 ≤ 1048576 ∧ (t.2.2.1 = [] ∨ okName t.2.2.1 = true) ∧ ∀ j, j < t.2.2.2.length → aErr T.length i t.2.2.2 j = 0 := by
  unfold taskErr at h
  split at h
  · omega
  rename_i h1
  split at h
  · omega
  rename_i h2
  split at h
  · omega
  rename_i h3
  split at h
  · omega
  rename_i h4
  refine ⟨by simpa using h1, by simpa only [Bool.not_eq_true] using h2, Int.not_lt.1 (not_or.1 h3).1, Int.not_lt.1 (not_or.1 h3).2, ?_, firstErr_zero.1 h⟩
  by_cases e : t.2.2.1 = []
  · exact .inl e
  · right
    cases e2 : okName t.2.2.1
    · exact absurd ⟨e, e2⟩ h4
    · rfl
theorem tasksErr_zero {T : List tTask.D} (h : tasksErr T = 0) {i : Nat} (hi : i < T.length) : taskErr T i T[i] = 0 := by
  have := firstErr_zero.1 h i hi
  rwa [taskErrAt_of hi] at this
theorem inRange_of {T : List tTask.D} (h : tasksErr T = 0) : inRange T := by
  intro i hi a ha
  rw [aft_of hi] at ha
  obtain ⟨j, hj, rfl⟩ := List.mem_iff_getElem.1 ha
  have := aErr_zero ((taskErr_zero (tasksErr_zero h hi)).2.2.2.2.2 j hj)
  rw [getD_of hj] at this
  exact ⟨this.1, this.2.1⟩

theorem less_irrefl : ∀ a : List UInt8, Op.bytesLess a a = false
  | [] => rfl
  | a :: as => by simp [Op.bytesLess, less_irrefl as]
theorem less_trans : ∀ a b c : List UInt8, Op.bytesLess a b = true → Op.bytesLess b c = true → Op.bytesLess a c = true
  | _, _, [], _, h => by simp [Op.bytesLess] at h
  | _, [], _ :: _, h, _ => by cases ‹List UInt8› <;> simp [Op.bytesLess] at h
  | [], _ :: _, _ :: _, _, _ => rfl
  | a :: as, b :: bs, c :: cs, h1, h2 => by
    simp only [Op.bytesLess, Bool.or_eq_true, decide_eq_true_eq, Bool.and_eq_true, beq_iff_eq] at h1 h2 ⊢
    rcases h1 with h1 | ⟨rfl, h1⟩
    · rcases h2 with h2 | ⟨rfl, h2⟩
      · exact .inl (UInt8.lt_trans h1 h2)
      · exact .inl h1
    · rcases h2 with h2 | ⟨rfl, h2⟩
      · exact .inl h2
      · exact .inr ⟨rfl, less_trans as bs cs h1 h2⟩
theorem sorted_less {l : List (List UInt8)} (h : ∀ j, j + 1 < l.length → Op.bytesLess (l.getD j []) (l.getD (j + 1) []) = true) : ∀ d i, i + d + 1 < l.length → Op.bytesLess (l.getD i []) (l.getD (i + d + 1) []) = true
  | 0, i, hi => h i hi
  | d + 1, i, hi => less_trans _ _ _ (sorted_less h d i (by omega)) (h (i + d + 1) (by omega))
theorem toolsOk_of {S : List tStation.D} (h : stationsErr S = 0) : toolsOk S := by
  intro s hs
  obtain ⟨i, hi, rfl⟩ := List.mem_iff_getElem.1 hs
  have h1 := firstErr_zero.1 h i hi
  rw [stationErrAt_of hi] at h1
  unfold stationErr at h1
  split at h1
  · omega
  split at h1
  · omega
  split at h1
  · omega
  have h2 := firstErr_zero.1 h1
  have ok : ∀ j, j < S[i].2.length → okName (S[i].2.getD j []) = true ∧ (0 < j → Op.bytesLess (S[i].2.getD (j - 1) []) (S[i].2.getD j []) = true) := fun j hj => by
    have := h2 j hj
    unfold tErr at this
    split at this
    · omega
    rename_i n1
    split at this
    · omega
    rename_i n2
    refine ⟨by simpa using n1, fun hp => ?_⟩
    cases e : Op.bytesLess (S[i].2.getD (j - 1) []) (S[i].2.getD j [])
    · exact absurd ⟨hp, e⟩ n2
    · rfl
  refine ⟨List.pairwise_iff_getElem.2 fun a b ha hb hab e => ?_, fun hm => ?_⟩
  · have := sorted_less (l := S[i].2) (fun j hj => (ok (j + 1) hj).2 (by omega)) (b - a - 1) a (by omega)
    rw [show a + (b - a - 1) + 1 = b by omega, getD_of ha, getD_of hb, e, less_irrefl] at this
    cases this
  · obtain ⟨j, hj, e⟩ := List.mem_iff_getElem.1 hm
    have := (ok j hj).1
    rw [getD_of hj, e] at this
    simp [okName] at this

theorem lp_check4 {x : tShop.D} {a : V} (h1 : Arr 4 tTask.R a x.1) {m : V} {H1 : Heap} (hm : MapC H1 m (fun t => ofN (ableL x.2 t))) {H : Heap} {k : V → Heap → Prop}
    (h : k (.int .i64 (if x.1.any (fun t => (ableL x.2 t.2.2.1).isEmpty) = true then 10 else 0)) H) :
    Lb29_4 m a (.int .i64 x.1.length) (.int .i64 0) H1 (blockQ 4 (seqQ G r29_5 (retQ i29 (hq 1 H k)))) := by
  unfold Lb29_4
  intros
  have hle : x.1.length ≤ 9223372036854775807 := h1.le
  refine ub29_4 x.1.length (fun j c7 c56 c57 c58 H => c7 = m ∧ c56 = a ∧ c57 = .int .i64 x.1.length ∧ c58 = .int .i64 j ∧ MapC H m (fun t => ofN (ableL x.2 t)) ∧ (x.1.take j).any (fun t => (ableL x.2 t.2.2.1).isEmpty) = false) ?_ 0 (Nat.zero_le _) ⟨rfl, rfl, rfl, rfl, hm, rfl⟩
  rintro j hj _ _ _ _ H2 ⟨rfl, rfl, rfl, rfl, hm2, he⟩
  intros
  rw [wb29_4]
  simp only [bd_some, binV_lss, ifB_bool, decide_eq_true_eq, Int.ofNat_lt]
  split
  · rename_i hlt
    obtain ⟨w, r, e, q⟩ := task_at h1 hlt
    simp only [e, bd_some, ldV_s4, newB, true_and]
    rw [stV_new (by rfl) (by rfl)]
    have hm3 := hm2.app [B.cells [.str x.1[j].1, .int .i64 x.1[j].2.1, .str x.1[j].2.2.1, w]]
    obtain ⟨v, l1, l2⟩ := hm3.look x.1[j].2.2.1
    simp only [bd_some, fadrV_ptr, Nat.zero_add]
    rw [ldV_last1 (x := .str x.1[j].2.2.1) (by rfl)]
    simp only [bd_some, l1, l2.lens, binV_eql, ifB_bool, ofN_len, decide_eq_true_eq]
    split
    · rename_i h0
      have h0 : (ableL x.2 x.1[j].2.2.1).isEmpty = true := by rw [List.isEmpty_iff]; exact List.length_eq_zero_iff.1 (by omega)
      have : x.1.any (fun t => (ableL x.2 t.2.2.1).isEmpty) = true := List.any_eq_true.2 ⟨_, List.getElem_mem hlt, h0⟩
      rw [if_pos this] at h
      simpa using h
    · rename_i h0
      have h0 : (ableL x.2 x.1[j].2.2.1).isEmpty = false := by
        cases e : ableL x.2 x.1[j].2.2.1 with
        | nil => rw [e] at h0; simp at h0
        | cons => rfl
      simp only [binV_add, bd_some, wrap_succ (show j + 1 ≤ 9223372036854775807 by omega), upQ_n, Sb29_4_eq, true_and]
      exact ⟨j + 1, by omega, by omega, rfl, hm3, by rw [any_take_succ hlt, he, h0]; rfl⟩
  · rename_i hge
    rw [take_all hge] at he
    simp only [he, Bool.false_eq_true, if_false] at h
    simpa [wr29_5] using h

theorem lp_check2 {x : tShop.D} {a b : V} (hx : tShop.V x (.agg [a, b])) (h1 : Arr 4 tTask.R a x.1) (h2 : Arr 2 tStation.R b x.2) (hn : x.2.length ≤ 1000) {H1 : Heap} {H : Heap} {k : V → Heap → Prop}
    (h : k (.int .i64 (if stationsErr x.2 ≠ 0 then stationsErr x.2 else if x.1.any (fun t => (ableL x.2 t.2.2.1).isEmpty) = true then 10 else 0)) H) :
    Lb29_2 (.rptr [a, b]) (.int .i64 x.2.length) (.int .i64 0) H1 (blockQ 2 (seqQ G r29_3 (retQ i29 (hq 1 H k)))) := by
  unfold Lb29_2
  intros
  refine ub29_2 x.2.length (fun j c1 c2 c3 H => c1 = .rptr [a, b] ∧ c2 = .int .i64 x.2.length ∧ c3 = .int .i64 j ∧ firstErr (stationErrAt x.2) j = 0) ?_ 0 (Nat.zero_le _) ⟨rfl, rfl, rfl, rfl⟩
  rintro j hj _ _ _ H2 ⟨rfl, rfl, rfl, he⟩
  intros
  rw [wb29_2]
  simp only [bd_some, binV_lss, ifB_bool, decide_eq_true_eq, Int.ofNat_lt]
  split
  · rename_i hlt
    simp only [ldV_s2, bd_some, Bool.true_or, true_and]
    refine c58 hx hlt ?_
    simp only [binV_neq, bd_some, ifB_bool, Bool.not_eq_true', decide_eq_false_iff_not]
    have e1 : stationErrAt x.2 j = stationErr x.2 j x.2[j] := stationErrAt_of hlt
    split
    · rename_i hne
      have : stationsErr x.2 = stationErr x.2 j x.2[j] := by rw [← e1]; exact firstErr_stop he (by rw [e1]; exact hne) _ hlt
      rw [this, if_pos hne] at h
      simpa using h
    · rename_i hne
      have hz : stationErr x.2 j x.2[j] = 0 := by simpa using hne
      simp only [binV_add, bd_some, wrap_succ (show j + 1 ≤ 9223372036854775807 by omega), upQ_n, Sb29_2_eq, true_and]
      exact ⟨j + 1, by omega, by omega, rfl, firstErr_next he (by rw [e1]; exact hz)⟩
  · rename_i hge
    have : j = x.2.length := by omega
    subst this
    have hz : stationsErr x.2 = 0 := he
    simp only [hz, ne_eq, not_true, if_false] at h
    simp only [upQ_e, blockQ_e, if_true, seqQ_n, wr29_3, ldV_s2, bd_some, Bool.true_or, true_and]
    refine c53 hx hn (toolsOk_of hz) fun m H' hm => ?_
    simp only [fadrV_rptr, List.drop_zero, bd_some, ldV_one, h1.lens]
    exact lp_check4 h1 hm h ..

theorem c29 {x : tShop.D} {v : V} (hx : tShop.V x v) {H : Heap} {k : V → Heap → Prop} (h : k (.int .i64 (shopErr x (decide ((orderL x.1).length < x.1.length)))) H) : Cl G 29 [v] H k := by
  obtain ⟨a, b, rfl, h1, h2⟩ := shop_v hx
  refine Cl.mode1 (F := i29) rfl rfl (by simp [h1.closed, h2.closed]) ?_
  rw [w29]
  unfold shopErr at h
  by_cases n1 : 24 < x.1.length
  · have n1' : 24 < (x.1.length : Int) := by omega
    rw [if_pos (.inl n1)] at h
    simpa [h1.closed, h2.closed, h1.lens, h2.lens, n1'] using h
  have n1' : ¬ (24 < (x.1.length : Int)) := by omega
  by_cases n2 : 8 < x.2.length
  · have n2' : 8 < (x.2.length : Int) := by omega
    rw [if_pos (.inr n2)] at h
    simpa [h1.closed, h2.closed, h1.lens, h2.lens, n1', n2'] using h
  have n2' : ¬ (8 < (x.2.length : Int)) := by omega
  rw [if_neg (by omega)] at h
  simp only [bxrV_agg, closedVs_cons, closedVs_nil, h1.closed, h2.closed, Bool.and_self, bd_some, fadrV_rptr, List.drop_zero, List.drop_succ_cons, ldV_one, h1.lens, h2.lens, binV_gtr, gt_iff_lt, n1', n2', decide_false, gdV_bool, beq_self_eq_true, wpg_true, pickV_bool, Bool.false_eq_true, if_false, ifB_bool]
  refine ub29_0 x.1.length (fun j c1 c2 c3 H => c1 = .rptr [a, b] ∧ c2 = .int .i64 x.1.length ∧ c3 = .int .i64 j ∧ firstErr (taskErrAt x.1) j = 0) ?_ 0 (Nat.zero_le _) ⟨rfl, rfl, rfl, rfl⟩
  rintro j hj _ _ _ H2 ⟨rfl, rfl, rfl, he⟩
  intros
  rw [wb29_0]
  simp only [bd_some, binV_lss, ifB_bool, decide_eq_true_eq, Int.ofNat_lt]
  split
  · rename_i hlt
    simp only [ldV_s2, bd_some, Bool.true_or, true_and]
    refine c57 hx hlt ?_
    simp only [binV_neq, bd_some, ifB_bool, Bool.not_eq_true', decide_eq_false_iff_not]
    have e1 : taskErrAt x.1 j = taskErr x.1 j x.1[j] := taskErrAt_of hlt
    split
    · rename_i hne
      have : tasksErr x.1 = taskErr x.1 j x.1[j] := by rw [← e1]; exact firstErr_stop he (by rw [e1]; exact hne) _ hlt
      rw [this, if_pos hne] at h
      simpa using h
    · rename_i hne
      have hz : taskErr x.1 j x.1[j] = 0 := by simpa using hne
      simp only [binV_add, bd_some, wrap_succ (show j + 1 ≤ 9223372036854775807 by omega), upQ_n, Sb29_0_eq, true_and]
      exact ⟨j + 1, by omega, by omega, rfl, firstErr_next he (by rw [e1]; exact hz)⟩
  · rename_i hge
    have : j = x.1.length := by omega
    subst this
    have hz : tasksErr x.1 = 0 := he
    simp only [hz, ne_eq, not_true, if_false] at h
    simp only [upQ_e, blockQ_e, if_true, seqQ_n, wr29_1, ldV_s2, bd_some, pur56, Bool.or_true, true_and]
    refine c56 hx (by omega) (inRange_of hz) fun r H' hr => ?_
    simp only [hr.lens, bd_some, fadrV_rptr, List.drop_zero, List.drop_succ_cons, ldV_one, h1.lens, h2.lens, binV_lss, ifB_bool, Int.ofNat_lt]
    by_cases hc : (orderL x.1).length < x.1.length
    · simp only [hc, decide_true, if_true] at h ⊢
      simpa using h
    · simp only [hc, decide_false, Bool.false_eq_true, if_false] at h ⊢
      exact lp_check2 hx h1 h2 (by omega) h ..
end Go.Proofs.Ytoommmeapdkopaa.E
namespace Go.Proofs.Ytoommmeapdkopaa.E
open Go Go.Eng

def fewTask (t : tTask.D) : Bool := decide (t.2.2.2.length ≤ 10) && decide (t.1.length ≤ 50) && decide (t.2.2.1.length ≤ 50)
def fewStation (s : tStation.D) : Bool := decide (s.2.length ≤ 5) && decide (s.1.length ≤ 50) && s.2.all fun t => decide (t.length ≤ 50)
def few (x : tShop.D) : Bool := decide (x.1.length ≤ 8) && decide (x.2.length ≤ 4) && x.1.all fewTask && x.2.all fewStation

theorem c11 {x : tShop.D} {v : V} (hx : tShop.V x v) {H : Heap} {k : V → Heap → Prop} (h : k (.bool (few x)) H) : Cl G 11 [v] H k := by
  obtain ⟨a, b, rfl, h1, h2⟩ := shop_v hx
  refine Cl.mode1 (F := i11) rfl rfl (by simp [h1.closed, h2.closed]) ?_
  rw [w11]
  have hle := h1.le
  have hle2 := h2.le
  by_cases n1 : x.1.length ≤ 8
  case neg =>
    have : 8 < (x.1.length : Int) := by omega
    simpa [h1.closed, h2.closed, h1.lens, h2.lens, few, n1, this] using h
  by_cases n2 : x.2.length ≤ 4
  case neg =>
    have q2 : 4 < (x.2.length : Int) := by omega
    have q1 : ¬ (8 < (x.1.length : Int)) := by omega
    simpa [h1.closed, h2.closed, h1.lens, h2.lens, few, n1, n2, q1, q2] using h
  have m1 : ¬ ((x.1.length : Int) > 8) := by omega
  have m2 : ¬ ((x.2.length : Int) > 4) := by omega
  simp only [bxrV_agg, closedVs_cons, closedVs_nil, h1.closed, h2.closed, Bool.and_self, bd_some, fadrV_rptr, List.drop_zero, List.drop_succ_cons, ldV_one, h1.lens, h2.lens, binV_gtr, m1, m2, decide_false, gdV_bool, beq_self_eq_true, wpg_true, pickV_bool, Bool.false_eq_true, if_false, ifB_bool]
  refine ub11_0 x.1.length (fun i p d _ => p = .rptr [a, b] ∧ d = .int .i64 i ∧ (x.1.take i).all fewTask = true) ?_ 0 (Nat.zero_le _) (by simp)
  rintro i hi _ _ H1 ⟨rfl, rfl, he⟩
  intros
  rw [wb11_0]
  simp only [h1.lens, bd_some, fadrV_rptr, List.drop_zero, ldV_one, binV_lss, ifB_bool, decide_eq_true_eq, Int.ofNat_lt]
  split
  · rename_i hlt
    obtain ⟨w, r, e, q⟩ := task_at h1 hlt
    have out : fewTask x.1[i] = false → few x = false := fun hf => by
      have : x.1.all fewTask = false := by rw [List.all_eq_false]; exact ⟨_, List.getElem_mem hlt, by rw [hf]; exact Bool.false_ne_true⟩
      simp [few, this]
    by_cases f1 : 10 < (x.1[i].2.2.2.length : Int)
    · simpa [e, q.lens, f1, out (by simp only [fewTask, Bool.and_eq_false_iff, decide_eq_false_iff_not]; omega)] using h
    by_cases f2 : 50 < (x.1[i].1.length : Int)
    · simpa [e, q.lens, f1, f2, out (by simp only [fewTask, Bool.and_eq_false_iff, decide_eq_false_iff_not]; omega)] using h
    by_cases f3 : 50 < (x.1[i].2.2.1.length : Int)
    · simpa [e, q.lens, f1, f2, f3, out (by simp only [fewTask, Bool.and_eq_false_iff, decide_eq_false_iff_not]; omega)] using h
    simp [e, q.lens, f1, f2, f3, wrap_succ (show i + 1 ≤ 9223372036854775807 by omega), -List.all_eq_true]
    exact ⟨i + 1, by omega, by omega, by simp, by rw [all_take_succ hlt, he, Bool.true_and]; simp only [fewTask, Bool.and_eq_true, decide_eq_true_eq]; omega⟩
  · rename_i hge
    rw [take_all hge] at he
    simp only [upQ_e, blockQ_e, if_true, seqQ_n, wr11_1]
    refine ub11_2 x.2.length (fun i p d _ => p = .rptr [a, b] ∧ d = .int .i64 i ∧ (x.2.take i).all fewStation = true) ?_ 0 (Nat.zero_le _) (by simp)
    rintro i hi _ _ H1 ⟨rfl, rfl, he2⟩
    intros
    rw [wb11_2]
    simp only [h2.lens, bd_some, fadrV_rptr, List.drop_succ_cons, List.drop_zero, ldV_one, binV_lss, ifB_bool, decide_eq_true_eq, Int.ofNat_lt]
    split
    · rename_i hlt
      obtain ⟨w, r, e, q⟩ := station_at h2 hlt
      have out : fewStation x.2[i] = false → few x = false := fun hf => by
        have : x.2.all fewStation = false := by rw [List.all_eq_false]; exact ⟨_, List.getElem_mem hlt, by rw [hf]; exact Bool.false_ne_true⟩
        simp [few, this]
      by_cases f1 : 5 < (x.2[i].2.length : Int)
      · simpa [e, q.lens, f1, out (by simp only [fewStation, Bool.and_eq_false_iff, decide_eq_false_iff_not]; omega)] using h
      by_cases f2 : 50 < (x.2[i].1.length : Int)
      · simpa [e, q.lens, f1, f2, out (by simp only [fewStation, Bool.and_eq_false_iff, decide_eq_false_iff_not]; omega)] using h
      simp [e, q.lens, f1, f2, -List.all_eq_true]
      refine ub11_3 x.2[i].2.length (fun j p d d' _ => p = .rptr [a, b] ∧ d = .int .i64 i ∧ d' = .int .i64 j ∧ (x.2[i].2.take j).all (fun t => decide (t.length ≤ 50)) = true) ?_ 0 (Nat.zero_le _) (by simp)
      rintro j hj _ _ _ H1 ⟨rfl, rfl, rfl, he3⟩
      intros
      rw [wb11_3]
      simp only [h2.lens, bd_some, fadrV_rptr, List.drop_succ_cons, List.drop_zero, ldV_one, e, q.lens, binV_lss, ifB_bool, decide_eq_true_eq, Int.ofNat_lt]
      split
      · rename_i hlt2
        obtain ⟨s, e2⟩ := q.str1 hlt2
        by_cases f3 : 50 < (x.2[i].2[j].length : Int)
        · have : (x.2[i].2.all fun t => decide (t.length ≤ 50)) = false := by rw [List.all_eq_false]; exact ⟨_, List.getElem_mem hlt2, by simp; omega⟩
          simpa [e2, f3, out (by simp [fewStation, this])] using h
        simp [e2, f3, wrap_succ (show j + 1 ≤ 9223372036854775807 by omega), -List.all_eq_true]
        exact ⟨j + 1, by omega, by omega, by simp, by rw [all_take_succ hlt2, he3, Bool.true_and, decide_eq_true_eq]; omega⟩
      · rename_i hge2
        rw [take_all hge2] at he3
        simp [wr11_4, wrap_succ (show i + 1 ≤ 9223372036854775807 by omega), -List.all_eq_true]
        exact ⟨i + 1, by omega, by omega, by simp, by rw [all_take_succ hlt, he2, Bool.true_and]; simp only [fewStation, he3, Bool.and_true, Bool.and_eq_true, decide_eq_true_eq]; omega⟩
    · rename_i hge2
      rw [take_all hge2] at he2
      simpa [wr11_5, few, n1, n2, he, he2, -List.all_eq_true] using h

end Go.Proofs.Ytoommmeapdkopaa.E
namespace Go.Proofs.Ytoommmeapdkopaa.E
open Go Go.Eng

def edgesUp (T : List tTask.D) (i : Nat) : List IP := (List.range i).flatMap fun j => (aft T j).map fun a => (a, (j : Int))
def edgesL (T : List tTask.D) : List IP := edgesUp T T.length
theorem edgesUp_succ {T : List tTask.D} {i : Nat} : edgesUp T (i + 1) = edgesUp T i ++ (aft T i).map fun a => (a, (i : Int)) := by
  simp [edgesUp, List.range_succ]
theorem mem_edgesUp {T : List tTask.D} {i : Nat} {e : IP} : e ∈ edgesUp T i ↔ ∃ j : Nat, j < i ∧ e.2 = j ∧ e.1 ∈ aft T j := by
  simp only [edgesUp, List.mem_flatMap, List.mem_range, List.mem_map]
  constructor
  · rintro ⟨j, hj, a, ha, rfl⟩; exact ⟨j, hj, rfl, ha⟩
  · rintro ⟨j, hj, h1, h2⟩; exact ⟨j, hj, e.1, h2, by rw [← h1]⟩
theorem edgesUp_len {T : List tTask.D} (hf : ∀ j, (aft T j).length ≤ 10) : ∀ i, (edgesUp T i).length ≤ i * 10
  | 0 => by simp [edgesUp]
  | i + 1 => by
    rw [edgesUp_succ]
    have := edgesUp_len hf i
    have := hf i
    simp; omega

theorem aft_inc {T : List tTask.D} (h : tasksErr T = 0) (i : Nat) : (aft T i).Pairwise (· < ·) := by
  by_cases hi : i < T.length
  case neg => simp [aft, show T[i]? = none from List.getElem?_eq_none (by omega)]
  rw [aft_of hi]
  have hz := (taskErr_zero (tasksErr_zero h hi)).2.2.2.2.2
  generalize T[i].2.2.2 = l at hz
  have step : ∀ j, j + 1 < l.length → l.getD j 0 < l.getD (j + 1) 0 := fun j hj => by
    have := (aErr_zero (hz (j + 1) hj)).2.2.2 (by omega)
    simpa using this
  have far : ∀ d j, j + d + 1 < l.length → l.getD j 0 < l.getD (j + d + 1) 0 := by
    intro d
    induction d with
    | zero => intro j hj; exact step j hj
    | succ d ih => intro j hj; exact Int.lt_trans (ih j (by omega)) (step (j + d + 1) (by omega))
  rw [List.pairwise_iff_getElem]
  intro a b ha hb hab
  have := far (b - a - 1) a (by omega)
  rwa [show a + (b - a - 1) + 1 = b by omega, getD_of ha, getD_of hb] at this
theorem edgesUp_nodup {T : List tTask.D} (h : tasksErr T = 0) : ∀ i, (edgesUp T i).Nodup
  | 0 => by simp [edgesUp]
  | i + 1 => by
    rw [edgesUp_succ, List.nodup_append]
    refine ⟨edgesUp_nodup h i, ?_, fun a ha b hb e => ?_⟩
    · rw [List.Nodup, List.pairwise_map]
      exact (aft_inc h i).imp fun hlt e => by
        have := congrArg Prod.fst e
        simp at this; omega
    · obtain ⟨j, hj, q1, _⟩ := mem_edgesUp.1 ha
      obtain ⟨c, _, rfl⟩ := List.mem_map.1 hb
      subst e
      simp at q1; omega
theorem edgesL_in {T : List tTask.D} (h : tasksErr T = 0) : inG T.length (edgesL T) := fun e he => by
  obtain ⟨j, hj, q1, q2⟩ := mem_edgesUp.1 he
  obtain ⟨r1, r2⟩ := inRange_of h j hj e.1 q2
  exact ⟨⟨r1, r2⟩, by omega, by omega⟩
theorem rd_eq {T : List tTask.D} (h : tasksErr T = 0) {E : List IP} (hE : E.Perm (edgesL T)) (D : List Nat) {i : Nat} (hi : i < T.length) : rdG E D i = rdT T D i := by
  have : (0 < cntE E D i) ↔ ((aft T i).any fun a => !decide (a.toNat ∈ D)) = true := by
    rw [cntE, List.countP_pos_iff, List.any_eq_true]
    constructor
    · rintro ⟨e, he, hp⟩
      obtain ⟨j, hj, q1, q2⟩ := mem_edgesUp.1 (hE.mem_iff.1 he)
      simp only [Bool.and_eq_true, decide_eq_true_eq, Bool.not_eq_true', decide_eq_false_iff_not] at hp
      have : j = i := by omega
      subst this
      exact ⟨e.1, q2, by simpa using hp.2⟩
    · rintro ⟨a, ha, hp⟩
      refine ⟨(a, (i : Int)), hE.mem_iff.2 (mem_edgesUp.2 ⟨i, hi, rfl, ha⟩), ?_⟩
      simpa using hp
  simp only [rdG, rdT]
  congr 2
  by_cases c : 0 < cntE E D i
  · rw [this.1 c]; simp [c]
  · have c' : ((aft T i).any fun a => !decide (a.toNat ∈ D)) = false := by
      cases e : ((aft T i).any fun a => !decide (a.toNat ∈ D))
      · rfl
      · exact absurd (this.2 e) c
    rw [c']; simp [c]
theorem greedy_congr {n : Nat} {rd rd' : List Nat → Nat → Bool} (h : ∀ D i, i < n → rd D i = rd' D i) : ∀ f D, greedy n rd f D = greedy n rd' f D
  | 0, _ => rfl
  | f + 1, D => by
    have : (List.range n).find? (rd D) = (List.range n).find? (rd' D) := by
      have : ∀ l : List Nat, (∀ i ∈ l, i < n) → l.find? (rd D) = l.find? (rd' D) := by
        intro l
        induction l with
        | nil => intro _; rfl
        | cons x l ih => intro hl; simp only [List.find?_cons, h D x (hl x (by simp)), ih (fun i hi => hl i (by simp [hi]))]
      exact this _ (fun i hi => by simpa using hi)
    simp only [greedy, this]
    split
    · rfl
    · exact greedy_congr h f _
theorem orderG_eq {T : List tTask.D} (h : tasksErr T = 0) {E : List IP} (hE : E.Perm (edgesL T)) : orderG T.length E = orderL T := greedy_congr (fun D i hi => rd_eq h hE D hi) _ _

theorem Gr.own {F H : Heap} {v : V} {E : List IP} (h : Gr 2 F H v (cellsP E) E.length) : OwnP H v E := by
  obtain ⟨_, _, _, ⟨a, b⟩ | ⟨id, _, b, c⟩⟩ := h
  · exact .inl ⟨List.length_eq_zero_iff.1 a, .inl b⟩
  · exact .inr ⟨id, b, c⟩

theorem c40 {x : tShop.D} {v : V} (hx : tShop.V x v) (hn : x.1.length ≤ 8) (hf : ∀ j, (aft x.1 j).length ≤ 10) (hz : tasksErr x.1 = 0) {H : Heap} {k : V → Heap → Prop}
    (h : ∀ v' E', Arr 2 tEdge.R v' E' → E'.Perm (edgesL x.1) → Srt ltE 0 E'.length E' → k (.agg [.int .i64 x.1.length, v']) H) : Cl G 40 [v] H k := by
  obtain ⟨a, b, rfl, h1, h2⟩ := shop_v hx
  refine Cl.mode1 (F := i40) rfl rfl (by simp [h1.closed, h2.closed]) ?_
  rw [w40]
  simp only [bxrV_agg, closedVs_cons, closedVs_nil, h1.closed, h2.closed, Bool.and_self, bd_some, newB, List.length_nil, List.nil_append]
  refine ub40_0 x.1.length (fun i c1 c2 c3 c4 H1 => c1 = .rptr [a, b] ∧ c2 = .ptr 0 0 ∧ c4 = .int .i64 i ∧ Gr 2 [.cells [.int .i64 0, .nils]] H1 c3 (cellsP (edgesUp x.1 i)) (edgesUp x.1 i).length) ?_ 0 (Nat.zero_le _)
    ⟨rfl, rfl, rfl, by simpa [edgesUp, cellsP] using Gr.nil (k := 2) (F := [.cells [.int .i64 0, .nils]])⟩
  rintro i hi _ _ l _ H1 ⟨rfl, rfl, rfl, hg⟩
  intros
  rw [wb40_0]
  have hlen := edgesUp_len hf i
  simp only [fadrV_rptr, List.drop_zero, ldV_one, h1.lens, bd_some, binV_lss, ifB_bool, decide_eq_true_eq, Int.ofNat_lt]
  split
  · rename_i hlt
    obtain ⟨w, r, e, q⟩ := task_at h1 hlt
    have hq : (x.1[i].2.2.2).length ≤ 10 := by have := hf i; rwa [aft_of hlt] at this
    simp only [e, bd_some, fadrV_rptr, List.drop_succ_cons, List.drop_zero, ldV_one, q.lens]
    refine ub40_1 x.1[i].2.2.2.length (fun j c1 c2 c3 c4 c21 c22 c23 H1 => c1 = .rptr [a, b] ∧ c2 = .ptr 0 0 ∧ c4 = .int .i64 i ∧ w = c21 ∧ c22 = .int .i64 x.1[i].2.2.2.length ∧ c23 = .int .i64 j ∧ Gr 2 [.cells [.int .i64 0, .nils]] H1 c3 (cellsP (edgesUp x.1 i ++ (x.1[i].2.2.2.take j).map fun a => (a, (i : Int)))) (edgesUp x.1 i ++ (x.1[i].2.2.2.take j).map fun a => (a, (i : Int))).length) ?_ 0 (Nat.zero_le _)
      ⟨rfl, rfl, rfl, rfl, rfl, rfl, by simpa using hg⟩
    clear hg l
    rintro j hj _ _ l _ _ _ _ H2 ⟨rfl, rfl, rfl, rfl, rfl, rfl, hg⟩
    intros
    rw [wb40_1]
    simp only [binV_lss, bd_some, ifB_bool, decide_eq_true_eq, Int.ofNat_lt]
    split
    · rename_i hlt2
      obtain ⟨r2, e2⟩ := q.int1 hlt2
      have eb : bldV [V.int .i64 0, .int .i64 0] [(0, 1, .int .i64 x.1[i].2.2.2[j]), (1, 1, .int .i64 i)] = some (.agg [.int .i64 x.1[i].2.2.2[j], .int .i64 i]) := rfl
      have es : bslV 2 1 [V.int .i64 0, .int .i64 0] [(0, 2, .agg [.int .i64 x.1[i].2.2.2[j], .int .i64 i])] H2 = some (.sl H2.length 0 1 1 2, H2 ++ [B.cells [.int .i64 x.1[i].2.2.2[j], .int .i64 i]]) := rfl
      have hl2 : (edgesUp x.1 i ++ (x.1[i].2.2.2.take j).map fun a => (a, (i : Int))).length ≤ 100 := by
        have : (x.1[i].2.2.2.take j).length ≤ 10 := by simp; omega
        rw [List.length_append, List.length_map]; omega
      obtain ⟨v', H', p1, p2⟩ := hg.push (xs := [.int .i64 x.1[i].2.2.2[j], .int .i64 i]) rfl (by omega) (bytes := 16) (by unfold room; omega)
      simp only [e2, bd_some, ldV_one, eb, es, bd2_some, p1, binV_add, wi (show (j : Int) + 1 = ((j + 1 : Nat) : Int) by omega) (by omega), upQ_n, Sb40_1_eq, true_and]
      refine ⟨j + 1, by omega, by omega, rfl, ?_⟩
      have ec : cellsP (edgesUp x.1 i ++ (x.1[i].2.2.2.take (j + 1)).map fun a => (a, (i : Int))) = cellsP (edgesUp x.1 i ++ (x.1[i].2.2.2.take j).map fun a => (a, (i : Int))) ++ [.int .i64 x.1[i].2.2.2[j], .int .i64 i] := by
        rw [tk hlt2, List.map_append, ← List.append_assoc]
        simp only [cellsP, List.map_append, List.flatten_append, List.map_cons, List.map_nil, List.flatten_cons, List.flatten_nil, List.append_nil]
        rfl
      have el : (edgesUp x.1 i ++ (x.1[i].2.2.2.take (j + 1)).map fun a => (a, (i : Int))).length = (edgesUp x.1 i ++ (x.1[i].2.2.2.take j).map fun a => (a, (i : Int))).length + 1 := by
        rw [tk hlt2]; simp; omega
      rw [ec, el]
      exact p2
    · rename_i hge2
      rw [take_all hge2] at hg
      simp only [upQ_e, blockQ_e, if_true, blockQ_n, seqQ_n, wr40_2, binV_add, bd_some, wi (show (i : Int) + 1 = ((i + 1 : Nat) : Int) by omega) (by omega), upQ_n, Sb40_0_eq, true_and]
      refine ⟨i + 1, by omega, by omega, rfl, ?_⟩
      rw [edgesUp_succ, aft_of hlt]
      exact hg
  · rename_i hge
    have ei : i = x.1.length := by omega
    subst ei
    simp only [upQ_e, blockQ_e, if_true, seqQ_n, wr40_3, fadrV_rptr, List.drop_zero, bd_some, ldV_one, h1.lens, Bool.true_or, true_and]
    refine c62 (E := edgesUp x.1 x.1.length) (Gr.own hg) (by omega) (by omega) (edgesL_in hz) (edgesUp_nodup hz _) fun r H2 E' kp own perm srt => ?_
    have box : H2[0]? = some (.cells [.int .i64 0, .nils]) := by
      rw [kp.2 0 (by have := hg.2.1; simp at this; omega)]; exact hg.get rfl
    have hl0 : 0 < H2.length := (List.getElem?_eq_some_iff.1 box).1
    have o1 : oneC r = true := by rcases own with ⟨_, rfl | rfl⟩ | ⟨id, rfl, _⟩ <;> rfl
    simp only [extV, List.getElem?_cons_zero, List.getElem?_cons_succ, bd_some, newB]
    rw [stV_new (by rfl) (by rfl)]
    simp only [bd_some, ldV_last (show [V.int .i64 x.1.length, r].length = 2 from rfl), true_and]
    have hst : stV (H2 ++ [B.cells [.int .i64 x.1.length, r]]) 2 (.ptr 0 0) (.agg [.int .i64 x.1.length, r]) = some ((H2 ++ [B.cells [.int .i64 x.1.length, r]]).set 0 (B.cells [.int .i64 x.1.length, r])) := by
      simp only [stV, wrt, cellsV, notTup]
      rw [List.getElem?_append_left hl0, box]
      rfl
    have ld : rd ((H2 ++ [B.cells [.int .i64 x.1.length, r]]).set 0 (B.cells [.int .i64 x.1.length, r])) (.ptr 0 0) 2 = some [.int .i64 x.1.length, r] := by
      simp only [rd]
      rw [List.getElem?_set_self (by simp)]
      rfl
    simp only [hst, bd_some, true_and, ret40, resultV, mapO, result1, List.getD_cons_zero, List.getD_cons_succ, ld, Option.bind_some, packV, if_true, Option.map_some]
    have own2 : OwnP ((H2 ++ [B.cells [.int .i64 x.1.length, r]]).set 0 (B.cells [.int .i64 x.1.length, r])) r E' := by
      rcases own with o | ⟨id, rfl, hB⟩
      · exact .inl o
      · refine .inr ⟨id, rfl, ?_⟩
        have ne : 0 ≠ id := fun e => by subst e; unfold BlkP at hB; rw [box] at hB; have := Option.some.inj hB; injection this with this; cases E' with
          | nil => simp [cellsP] at this
          | cons e E' =>
            simp only [cellsP, List.map_cons, List.flatten_cons, encP, List.cons_append, List.nil_append] at this
            injection this with _ this
            injection this with this _
            cases this
        unfold BlkP
        rw [List.getElem?_set_ne ne, List.getElem?_append_left hB.lt]
        exact hB
    obtain ⟨v', c1, c2⟩ := own2.close (d := 9)
    have hE' : ∀ e ∈ E', (0 ≤ e.1 ∧ e.1 < x.1.length) ∧ (0 ≤ e.2 ∧ e.2 < x.1.length) := fun e he => edgesL_in hz e (perm.mem_iff.1 he)
    have hl' : E'.length ≤ 100 := by rw [perm.length_eq]; omega
    refine hq_some (v' := .agg [.int .i64 x.1.length, v']) ?_ (h v' E' (edge_arr (by unfold top; omega) (fun e he => ⟨i64_mm (by have := (hE' e he).1.1; omega) (by have := (hE' e he).1.2; omega), i64_mm (by have := (hE' e he).2.1; omega) (by have := (hE' e he).2.2; omega)⟩) c2) perm (by rw [perm.length_eq]; exact srt))
    rw [show closeDepth = 11 + 1 from rfl, closeV_agg]
    simp only [mapO, c1, closeV_int, Option.bind_some, Option.map_some]
end Go.Proofs.Ytoommmeapdkopaa.E
namespace Go.Proofs.Ytoommmeapdkopaa.E
open Go Go.Eng

theorem greedy_le {n : Nat} {rd : List Nat → Nat → Bool} : ∀ (f : Nat) (D : List Nat), (greedy n rd f D).length ≤ D.length + f
  | 0, D => Nat.le_refl _
  | f + 1, D => by
    simp only [greedy]
    split
    · omega
    · have := greedy_le (n := n) (rd := rd) f (D ++ [‹Nat›])
      simp at this; omega
theorem orderL_len {T : List tTask.D} : (orderL T).length ≤ T.length := by
  have := greedy_le (n := T.length) (rd := rdT T) T.length []
  simpa [orderL] using this

theorem few_all {x : tShop.D} (h : few x = true) : x.1.length ≤ 8 ∧ x.2.length ≤ 4 ∧ (∀ t ∈ x.1, fewTask t = true) ∧ ∀ s ∈ x.2, fewStation s = true := by
  simp only [few, Bool.and_eq_true, decide_eq_true_eq, List.all_eq_true] at h
  exact ⟨h.1.1.1, h.1.1.2, h.1.2, h.2⟩
theorem few_aft {x : tShop.D} (h : few x = true) (j : Nat) : (aft x.1 j).length ≤ 10 := by
  by_cases hj : j < x.1.length
  · rw [aft_of hj]
    have := (few_all h).2.2.1 _ (List.getElem_mem hj)
    simp only [fewTask, Bool.and_eq_true, decide_eq_true_eq] at this
    exact this.1.1
  · simp [aft, show x.1[j]? = none from List.getElem?_eq_none (by omega)]

theorem cNext0 {v : V} (hv : Arr 2 tEdge.R v []) {H : Heap} {k : V → Heap → Prop} (h : k .z0 H) : Cl G 61 [.agg [.int .i64 0, v]] H k := by
  refine Cl.mode1 (F := i61) rfl rfl (by simp [hv.closed]) ?_
  rw [w61]
  have hl : lensV v = some (.int .i64 0) := hv.lens
  have m0 : mksV 1 24 [.nils] [] (.int .i64 0) (.int .i64 0) = some (.z0, []) := by simp [mksV, room]
  simp only [bxrV_agg, closedVs_cons, closedVs_nil, closedV_int, hv.closed, Bool.and_self, bd_some, fadrV_rptr, List.drop_zero, List.drop_succ_cons, ldV_one, m0, bd2_some, hl]
  refine ub61_0 0 (fun m c3 c10 c11 c12 H1 => c3 = .z0 ∧ v = c10 ∧ c11 = .int .i64 0 ∧ c12 = .int .i64 m) ?_ 0 (Nat.zero_le _) ⟨rfl, rfl, rfl, rfl⟩
  rintro m hm _ _ _ _ H1 ⟨rfl, rfl, rfl, rfl⟩
  intros
  have e : m = 0 := by omega
  subst e
  rw [wb61_0]
  simp [wr61_1]
  exact h

theorem cOrderAll {v : V} {E : List IP} (hv : Arr 2 tEdge.R v E) {n : Nat} (hn : n ≤ 64) (hE : E.length ≤ 1000) (hr : inG n E) (hnd : E.Nodup) (hs : Srt ltE 0 E.length E) {H : Heap} {k : V → Heap → Prop}
    (h : ∀ r, k (.tup [r, .int .i64 (if (orderG n E).length = n then 0 else 30)]) H) : Cl G 39 [.agg [.int .i64 n, v]] H k := by
  by_cases hpos : 0 < n
  · exact c39 hv hn hE hr hnd hs hpos h
  obtain rfl : n = 0 := by omega
  have hE0 : E = [] := by
    cases E with
    | nil => rfl
    | cons e E => have := (hr e (by simp)).1; omega
  subst hE0
  have h := h .nils
  rw [if_pos (show (orderG 0 []).length = 0 from rfl)] at h
  refine Cl.mode1 (F := i39) rfl rfl (by simp [hv.closed]) ?_
  rw [w39]
  have hl : lensV v = some (.int .i64 0) := hv.lens
  simp only [bxrV_agg, closedVs_cons, closedVs_nil, closedV_int, hv.closed, Bool.and_self, bd_some, ldV_s2, Bool.true_or, true_and]
  refine c60 hv hn hr hnd hs ?_
  have m8 : mksV 1 8 [.int .i64 0] [] (.int .i64 (0 : Nat)) (.int .i64 (0 : Nat)) = some (.z0, []) := by simp [mksV, room]
  have m1 : mksV 1 1 [.bool false] [] (.int .i64 (0 : Nat)) (.int .i64 (0 : Nat)) = some (.z0, []) := by simp [mksV, room]
  simp only [binV_neq, bd_some, decide_true, Bool.not_true, ifB_bool, Bool.false_eq_true, if_false, fadrV_rptr, List.drop_zero, List.drop_succ_cons, ldV_one, m8, bd2_some, m1, hl]
  refine ub39_0 0 (fun m c1 c5 c6 c26 c27 c28 H1 => c1 = .rptr [.int .i64 (0 : Nat), v] ∧ c5 = .z0 ∧ c6 = .z0 ∧ v = c26 ∧ c27 = .int .i64 0 ∧ c28 = .int .i64 m) ?_ 0 (Nat.zero_le _)
    ⟨rfl, rfl, rfl, rfl, rfl, rfl⟩
  rintro m hm _ _ _ _ _ _ H1 ⟨rfl, rfl, rfl, rfl, rfl, rfl⟩
  intros
  have e : m = 0 := by omega
  subst e
  rw [wb39_0]
  simp only [binV_lss, bd_some, ifB_bool, decide_eq_true_eq, show ¬ (((0 : Nat) : Int) < 0) by omega, if_false]
  simp only [upQ_e, blockQ_e, if_true, seqQ_n, wr39_1, ldV_s2, bd_some, Bool.true_or, true_and]
  refine cNext0 hv ?_
  simp only [fadrV_rptr, List.drop_zero, bd_some, ldV_one]
  refine ub39_2 0 (fun m c1 c5 c6 c9 c10 c43 c44 H1 => c1 = .rptr [.int .i64 (0 : Nat), v] ∧ c5 = .z0 ∧ c6 = .z0 ∧ c9 = .z0 ∧ c10 = .nils ∧ c43 = .int .i64 (0 : Nat) ∧ c44 = .int .i64 m) ?_ 0 (Nat.zero_le _)
    ⟨rfl, rfl, rfl, rfl, rfl, rfl, rfl⟩
  rintro m hm _ _ _ _ _ _ _ H1 ⟨rfl, rfl, rfl, rfl, rfl, rfl, rfl⟩
  intros
  have e : m = 0 := by omega
  subst e
  rw [wb39_2]
  simp only [binV_lss, bd_some, ifB_bool, decide_eq_true_eq, Int.lt_irrefl, if_false]
  simp only [upQ_e, blockQ_e, if_true, seqQ_n, wr39_7, ret39]
  exact hq_some (v' := .tup [.nils, .int .i64 0]) rfl h

theorem c14 {x : tShop.D} {v : V} (hx : tShop.V x v) (hn : x.1.length ≤ 8) (hf : ∀ j, (aft x.1 j).length ≤ 10) {H : Heap} {k : V → Heap → Prop}
    (h : k (.int .i64 (shopErr x (decide ((orderL x.1).length < x.1.length)))) H) : Cl G 14 [v] H k := by
  obtain ⟨a, b, rfl, h1, h2⟩ := shop_v hx
  refine Cl.mode1 (F := i14) rfl rfl (by simp [h1.closed, h2.closed]) ?_
  rw [w14]
  unfold shopErr at h
  have n1 : ¬ (24 < x.1.length) := by omega
  have n1' : ¬ (24 < (x.1.length : Int)) := by omega
  by_cases n2 : 8 < x.2.length
  · have n2' : 8 < (x.2.length : Int) := by omega
    rw [if_pos (.inr n2)] at h
    simpa [h1.closed, h2.closed, h1.lens, h2.lens, n1', n2'] using h
  have n2' : ¬ (8 < (x.2.length : Int)) := by omega
  rw [if_neg (by omega)] at h
  simp only [bxrV_agg, closedVs_cons, closedVs_nil, h1.closed, h2.closed, Bool.and_self, bd_some, fadrV_rptr, List.drop_zero, List.drop_succ_cons, ldV_one, h1.lens, h2.lens, binV_gtr, gt_iff_lt, n1', n2', decide_false, gdV_bool, beq_self_eq_true, wpg_true, pickV_bool, Bool.false_eq_true, if_false, ifB_bool]
  refine ub14_0 x.1.length (fun j c1 c3 H => c1 = .rptr [a, b] ∧ c3 = .int .i64 j ∧ firstErr (taskErrAt x.1) j = 0) ?_ 0 (Nat.zero_le _) ⟨rfl, rfl, rfl⟩
  rintro j hj _ _ H2 ⟨rfl, rfl, he⟩
  intros
  rw [wb14_0]
  simp only [fadrV_rptr, List.drop_zero, ldV_one, h1.lens, bd_some, binV_lss, ifB_bool, decide_eq_true_eq, Int.ofNat_lt]
  split
  · rename_i hlt
    simp only [ldV_s2, bd_some, Bool.true_or, true_and]
    refine c38 hx hlt ?_
    simp only [binV_neq, bd_some, ifB_bool, Bool.not_eq_true', decide_eq_false_iff_not]
    have e1 : taskErrAt x.1 j = taskErr x.1 j x.1[j] := taskErrAt_of hlt
    split
    · rename_i hne
      have : tasksErr x.1 = taskErr x.1 j x.1[j] := by rw [← e1]; exact firstErr_stop he (by rw [e1]; exact hne) _ hlt
      rw [this, if_pos hne] at h
      simpa using h
    · rename_i hne
      have hz : taskErr x.1 j x.1[j] = 0 := by simpa using hne
      simp only [binV_add, bd_some, wrap_succ (show j + 1 ≤ 9223372036854775807 by omega), upQ_n, Sb14_0_eq, true_and]
      exact ⟨j + 1, by omega, by omega, rfl, firstErr_next he (by rw [e1]; exact hz)⟩
  rename_i hge
  have : j = x.1.length := by omega
  subst this
  have hz : tasksErr x.1 = 0 := he
  simp only [hz, ne_eq, not_true, if_false] at h
  simp only [upQ_e, blockQ_e, if_true, seqQ_n, wr14_1, ldV_s2, bd_some, Bool.true_or, true_and]
  refine c40 hx hn hf hz fun v' E' ha perm srt => ?_
  have hl : E'.length ≤ 80 := by rw [perm.length_eq]; have := edgesUp_len hf x.1.length; unfold edgesL; omega
  refine cOrderAll ha (by omega) (by omega) (fun e he => edgesL_in hz e (perm.mem_iff.1 he)) (perm.nodup_iff.2 (edgesUp_nodup hz _)) srt fun r => ?_
  rw [orderG_eq hz perm]
  have ho := orderL_len (T := x.1)
  simp only [extV, List.getElem?_cons_zero, List.getElem?_cons_succ, bd_some, binV_neq, ifB_bool]
  by_cases hc : (orderL x.1).length < x.1.length
  · have : ¬ ((orderL x.1).length = x.1.length) := by omega
    simp only [this, if_false, hc, decide_true, if_true] at h ⊢
    simpa [wr14_1] using h
  have : (orderL x.1).length = x.1.length := by omega
  simp only [this, Nat.lt_irrefl, if_true, decide_false, Bool.false_eq_true, if_false, decide_true, Bool.not_true] at h ⊢
  refine ub14_2 x.2.length (fun j c1 c7 H => c1 = .rptr [a, b] ∧ c7 = .int .i64 j ∧ firstErr (stationErrAt x.2) j = 0) ?_ 0 (Nat.zero_le _) ⟨rfl, rfl, rfl⟩
  clear hj he hge H2
  rintro j hj _ _ H2 ⟨rfl, rfl, he⟩
  intros
  rw [wb14_2]
  simp only [fadrV_rptr, List.drop_succ_cons, List.drop_zero, ldV_one, h2.lens, bd_some, binV_lss, ifB_bool, decide_eq_true_eq, Int.ofNat_lt]
  split
  · rename_i hlt
    simp only [ldV_s2, bd_some, Bool.true_or, true_and]
    refine c41 hx hlt ?_
    simp only [binV_neq, bd_some, ifB_bool, Bool.not_eq_true', decide_eq_false_iff_not]
    have e1 : stationErrAt x.2 j = stationErr x.2 j x.2[j] := stationErrAt_of hlt
    split
    · rename_i hne
      have : stationsErr x.2 = stationErr x.2 j x.2[j] := by rw [← e1]; exact firstErr_stop he (by rw [e1]; exact hne) _ hlt
      rw [this, if_pos hne] at h
      simpa using h
    · rename_i hne
      have hz : stationErr x.2 j x.2[j] = 0 := by simpa using hne
      simp only [binV_add, bd_some, wrap_succ (show j + 1 ≤ 9223372036854775807 by omega), upQ_n, Sb14_2_eq, true_and]
      exact ⟨j + 1, by omega, by omega, rfl, firstErr_next he (by rw [e1]; exact hz)⟩
  rename_i hge
  have : j = x.2.length := by omega
  subst this
  have hz2 : stationsErr x.2 = 0 := he
  simp only [hz2, ne_eq, not_true, if_false] at h
  simp only [upQ_e, blockQ_e, if_true, seqQ_n, wr14_3]
  refine ub14_4 x.1.length (fun j c1 c9 H => c1 = .rptr [a, b] ∧ c9 = .int .i64 j ∧ (x.1.take j).any (fun t => (ableL x.2 t.2.2.1).isEmpty) = false) ?_ 0 (Nat.zero_le _) ⟨rfl, rfl, rfl⟩
  clear hj he hge H2
  rintro j hj _ _ H2 ⟨rfl, rfl, he⟩
  intros
  rw [wb14_4]
  simp only [fadrV_rptr, List.drop_zero, ldV_one, h1.lens, bd_some, binV_lss, ifB_bool, decide_eq_true_eq, Int.ofNat_lt]
  split
  · rename_i hlt
    simp only [ldV_s2, bd_some, Bool.true_or, true_and]
    refine c24 hx (by omega) hlt fun r hr => ?_
    simp only [hr.lens, bd_some, binV_eql, ifB_bool, decide_eq_true_eq]
    split
    · rename_i hp
      have hm : (ableL x.2 x.1[j].2.2.1).isEmpty = true := by
        have : (ofN (ableL x.2 x.1[j].2.2.1)).length = 0 := by omega
        simpa [orderL] using this
      have : (x.1.any fun t => (ableL x.2 t.2.2.1).isEmpty) = true := List.any_eq_true.2 ⟨_, List.getElem_mem hlt, hm⟩
      rw [if_pos this] at h
      simpa using h
    · rename_i hp
      have hm : (ableL x.2 x.1[j].2.2.1).isEmpty = false := by
        have : (ofN (ableL x.2 x.1[j].2.2.1)).length ≠ 0 := by omega
        cases e : ableL x.2 x.1[j].2.2.1
        · simp [e] at this
        · rfl
      simp only [binV_add, bd_some, wrap_succ (show j + 1 ≤ 9223372036854775807 by omega), upQ_n, Sb14_4_eq, true_and]
      exact ⟨j + 1, by omega, by omega, rfl, by rw [any_take_succ hlt, he, hm]; rfl⟩
  · rename_i hge
    rw [take_all hge] at he
    rw [he] at h
    simpa [wr14_5] using h
end Go.Proofs.Ytoommmeapdkopaa.E
namespace Go.Proofs.Ytoommmeapdkopaa.E
open Go Go.Eng

theorem c64 {v : V} {l : List Int} (hx : Arr 1 tI.R v l) {n : Int} {H : Heap} {k : V → Heap → Prop} (h : ∀ r : Int, (0 ≤ r ↔ n ∈ l) → k (.int .i64 r) H) : Cl G 64 [v, .int .i64 n] H k := by
  refine Cl.mode1 (F := i64) rfl rfl (by simp [hx.closed]) ?_
  rw [w64]
  have hle : l.length ≤ 9223372036854775807 := hx.le
  simp only [hx.lens, bd_some]
  refine ub64_0 l.length (fun i c0 c1 c7 c8 _ => v = c0 ∧ c1 = .int .i64 n ∧ c7 = .int .i64 l.length ∧ c8 = .int .i64 i ∧ n ∉ l.take i) ?_ 0 (Nat.zero_le _) ⟨rfl, rfl, rfl, rfl, by simp⟩
  rintro i hi _ _ _ _ _ ⟨rfl, rfl, rfl, rfl, hn⟩
  intros
  rw [wb64_0]
  simp only [bd_some, binV_lss, ifB_bool, decide_eq_true_eq, Int.ofNat_lt]
  split
  · rename_i hlt
    obtain ⟨r, e⟩ := hx.int1 hlt
    simp only [e, bd_some, ldV_one, binV_eql, ifB_bool, decide_eq_true_eq]
    split
    · rename_i heq
      have := h (i : Int) ⟨fun _ => heq ▸ List.getElem_mem _, fun _ => by omega⟩
      simpa using this
    · rename_i hne
      simp only [binV_add, bd_some, wrap_succ (show i + 1 ≤ 9223372036854775807 by omega), upQ_n, Sb64_0_eq, true_and]
      exact ⟨i + 1, by omega, by omega, rfl, by simp [mem_take_succ hlt, hn, hne]⟩
  · rename_i hge
    rw [take_all hge] at hn
    have := h (-1) ⟨fun h => by omega, fun h => absurd h hn⟩
    simpa [wr64_1] using this
theorem c45 {v : V} {l : List Int} (hx : Arr 1 tI.R v l) {n : Int} {H : Heap} {k : V → Heap → Prop} (h : k (.bool (decide (n ∈ l))) H) : Cl G 45 [v, .int .i64 n] H k := by
  refine Cl.mode1 (F := i45) rfl rfl (by simp [hx.closed]) ?_
  rw [w45]
  simp only [Bool.true_or, true_and]
  refine c64 hx fun r hr => ?_
  have : decide (r ≥ 0) = decide (n ∈ l) := decide_eq_decide.2 hr
  simp only [binV_geq, bd_some, this, hq_bool]
  exact h
theorem shopErr_zero {x : tShop.D} {c : Bool} (h : shopErr x c = 0) : x.1.length ≤ 24 ∧ x.2.length ≤ 8 ∧ tasksErr x.1 = 0 ∧ stationsErr x.2 = 0 := by
  unfold shopErr at h
  split at h
  · omega
  split at h
  · omega
  split at h
  · omega
  split at h
  · omega
  exact ⟨by omega, by omega, by omega, by omega⟩

end Go.Proofs.Ytoommmeapdkopaa.E
namespace Go.Proofs.Ytoommmeapdkopaa.E
open Go Go.Eng

theorem greedy_lt {n : Nat} {rd : List Nat → Nat → Bool} : ∀ (f : Nat) (D : List Nat), (∀ d ∈ D, d < n) → ∀ d ∈ greedy n rd f D, d < n
  | 0, D, h => h
  | f + 1, D, h => by
    simp only [greedy]
    split
    · exact h
    · rename_i i hi
      refine greedy_lt f _ fun d hd => ?_
      rcases List.mem_append.1 hd with hd | hd
      · exact h d hd
      · rw [List.mem_singleton.1 hd]
        simpa using List.mem_of_find?_eq_some hi
theorem orderL_lt {T : List tTask.D} : ∀ d ∈ orderL T, d < T.length := greedy_lt _ _ (by simp)

section
variable {x : tShop.D} {v : V} {H : Heap} {k : V → Heap → Prop}
theorem ok_Order (hx : tShop.V x v) (he : shopErr x (decide ((orderL x.1).length < x.1.length)) = 0)
    (h : ∀ r, Arr 1 tI.R r (ofN (orderL x.1)) → k (.tup [r, .int .i64 0]) H) : Cl G 25 [v] H k := by
  obtain ⟨a, b, rfl, g1, g2⟩ := shop_v hx
  obtain ⟨z1, z2, z3, z4⟩ := shopErr_zero he
  refine Cl.mode1 (F := i25) rfl rfl (by simp [g1.closed, g2.closed]) ?_
  rw [w25]
  simp only [bxrV_agg, closedVs_cons, closedVs_nil, g1.closed, g2.closed, Bool.and_self, bd_some, ldV_s2, Bool.true_or, true_and]
  refine c29 hx ?_
  rw [he]
  simp only [binV_neq, decide_true, Bool.not_true, bd_some, ifB_bool, Bool.false_eq_true, if_false, ldV_s2, pur56, Bool.or_true, true_and]
  refine c56 hx (by omega) (inRange_of z3) fun r H' hr => ?_
  have ho := orderL_len (T := x.1)
  obtain ⟨u, c1, c2⟩ := Gr.ints (l := ofN (orderL x.1)) (d := 9) (by simpa using hr) (by simp; unfold top; omega) (ofN_rng (n := 1000) (fun a ha => by have := orderL_lt a ha; omega) (by omega))
  refine hq_some (v' := .tup [u, .int .i64 0]) ?_ (h u c2)
  rw [show closeDepth = 11 + 1 from rfl, closeV_tup]
  simp only [mapO, c1, closeV_int, Option.bind_some, Option.map_some]
end
end Go.Proofs.Ytoommmeapdkopaa.E
namespace Go.Proofs.Ytoommmeapdkopaa.E
open Go Go.Eng

inductive Rch (T : List tTask.D) : Nat → Nat → Prop
  | base {i a : Nat} : (a : Int) ∈ aft T i → Rch T i a
  | step {i a b : Nat} : (a : Int) ∈ aft T i → Rch T a b → Rch T i b
noncomputable def rchB (T : List tTask.D) (i k : Nat) : Bool := @decide (Rch T i k) (Classical.propDecidable _)
theorem rchB_iff {T : List tTask.D} {i k : Nat} : rchB T i k = true ↔ Rch T i k := by
  unfold rchB; exact @decide_eq_true_iff (Rch T i k) (Classical.propDecidable _)
theorem rch_iff {T : List tTask.D} {i k : Nat} : Rch T i k ↔ ∃ a : Nat, (a : Int) ∈ aft T i ∧ (a = k ∨ Rch T a k) := by
  constructor
  · intro h
    cases h with
    | base h => exact ⟨k, h, .inl rfl⟩
    | step h h2 => exact ⟨_, h, .inr h2⟩
  · rintro ⟨a, h, rfl | h2⟩
    · exact .base h
    · exact .step h h2

noncomputable def gB (T : List tTask.D) (i j k : Nat) : Bool := @decide (∃ a : Nat, (a : Int) ∈ (aft T i).take j ∧ (a = k ∨ Rch T a k)) (Classical.propDecidable _)
theorem gB_iff {T : List tTask.D} {i j k : Nat} : gB T i j k = true ↔ ∃ a : Nat, (a : Int) ∈ (aft T i).take j ∧ (a = k ∨ Rch T a k) := by
  unfold gB; exact @decide_eq_true_iff _ (Classical.propDecidable _)
theorem gB_zero {T : List tTask.D} {i k : Nat} : gB T i 0 k = false := by
  rw [Bool.eq_false_iff]; intro h; obtain ⟨a, h, _⟩ := gB_iff.1 h; simp at h
theorem gB_all {T : List tTask.D} {i j k : Nat} (h : (aft T i).length ≤ j) : gB T i j k = rchB T i k := by
  rw [Bool.eq_iff_iff, gB_iff, rchB_iff, rch_iff, List.take_of_length_le h]
theorem gB_succ {T : List tTask.D} {i j k a : Nat} (h : j < (aft T i).length) (ha : (aft T i)[j] = (a : Int)) : gB T i (j + 1) k = ((gB T i j k || decide (k = a)) || rchB T a k) := by
  rw [Bool.eq_iff_iff, Bool.or_eq_true, Bool.or_eq_true, gB_iff, gB_iff, rchB_iff, decide_eq_true_eq, tk h]
  constructor
  · rintro ⟨b, hb, hk⟩
    rcases List.mem_append.1 hb with hb | hb
    · exact .inl (.inl ⟨b, hb, hk⟩)
    · rw [List.mem_singleton, ha] at hb
      have : b = a := by omega
      subst this
      rcases hk with rfl | hk
      · exact .inl (.inr rfl)
      · exact .inr hk
  · rintro ((⟨b, hb, hk⟩ | rfl) | hk)
    · exact ⟨b, List.mem_append_left _ hb, hk⟩
    · exact ⟨_, List.mem_append_right _ (by rw [List.mem_singleton, ha]), .inl rfl⟩
    · exact ⟨a, List.mem_append_right _ (by rw [List.mem_singleton, ha]), .inr hk⟩

def okO (T : List tTask.D) (D : List Nat) : Prop := D.Nodup ∧ ∀ m (h : m < D.length), ∀ a ∈ aft T D[m], a.toNat ∈ D.take m
theorem okO_snoc {T : List tTask.D} {D : List Nat} {i : Nat} (h : okO T D) (hr : rdT T D i = true) : okO T (D ++ [i]) := by
  simp only [rdT, Bool.and_eq_true, Bool.not_eq_true', decide_eq_false_iff_not, List.any_eq_false, decide_eq_true_eq, Bool.not_eq_true, Bool.not_eq_false'] at hr
  obtain ⟨h1, h2⟩ := hr
  refine ⟨?_, fun m hm a ha => ?_⟩
  · rw [List.nodup_append]; exact ⟨h.1, by simp, fun a ha b hb e' => h1 (by rw [← List.mem_singleton.1 hb, ← e']; exact ha)⟩
  · by_cases e : m < D.length
    · rw [List.getElem_append_left e] at ha
      rw [List.take_append_of_le_length (by omega)]
      exact h.2 m e a ha
    · have e2 : m = D.length := by simp at hm; omega
      subst e2
      rw [List.getElem_append_right (Nat.le_refl _)] at ha
      simp only [Nat.sub_self, List.getElem_cons_zero] at ha
      rw [List.take_append_of_le_length (Nat.le_refl _), List.take_length]
      simpa using h2 a ha
theorem greedy_ok {T : List tTask.D} {n : Nat} : ∀ (f : Nat) (D : List Nat), okO T D → okO T (greedy n (rdT T) f D)
  | 0, _, h => h
  | f + 1, D, h => by
    simp only [greedy]
    split
    · exact h
    · rename_i i hi
      exact greedy_ok f _ (okO_snoc h (List.find?_some hi))
theorem orderL_ok {T : List tTask.D} : okO T (orderL T) := greedy_ok _ _ ⟨by simp, by simp⟩
end Go.Proofs.Ytoommmeapdkopaa.E
namespace Go.Proofs.Ytoommmeapdkopaa.E
open Go Go.Eng

theorem shopErr_order {x : tShop.D} (h : shopErr x (decide ((orderL x.1).length < x.1.length)) = 0) : (orderL x.1).length = x.1.length := by
  have hl := orderL_len (T := x.1)
  by_cases hc : (orderL x.1).length < x.1.length
  · unfold shopErr at h
    split at h
    · omega
    split at h
    · omega
    simp [hc] at h
  · omega

theorem c46 {x : tShop.D} {v : V} (hx : tShop.V x v) (hpos : 0 < x.1.length) (he : shopErr x (decide ((orderL x.1).length < x.1.length)) = 0) {H : Heap} {k : V → Heap → Prop}
    (h : ∀ r, Arr 1 (Ty.R (.sl .bool)) r ((List.range x.1.length).map fun i => btab x.1.length (rchB x.1 i)) → k r H) : Cl G 46 [v] H k := by
  obtain ⟨a, b, rfl, h1, h2⟩ := shop_v hx
  obtain ⟨z1, z2, z3, z4⟩ := shopErr_zero he
  have hlen := shopErr_order he
  have hok := orderL_ok (T := x.1)
  have hlt0 := orderL_lt (T := x.1)
  have hrg := inRange_of z3
  refine Cl.mode1 (F := i46) rfl rfl (by simp [h1.closed, h2.closed]) ?_
  rw [w46]
  have e0 : mksV 1 24 [.nils] [] (.int .i64 x.1.length) (.int .i64 x.1.length) = some (.sl 0 0 x.1.length x.1.length 1, [.cells (List.replicate x.1.length .nils)]) := by
    have : ¬ ((x.1.length : Int) = 0) := by omega
    have r : (x.1.length : Int) * (24 : Nat) ≤ (room : Int) := by unfold room; omega
    simp only [mksV, this, if_false, Int.le_refl, true_and, List.length_nil, List.nil_append, Int.toNat_natCast]
    rw [if_pos ⟨by omega, r⟩, rep_one]
  simp only [bxrV_agg, closedVs_cons, closedVs_nil, h1.closed, h2.closed, Bool.and_self, bd_some, fadrV_rptr, List.drop_zero, ldV_one, h1.lens, e0, bd2_some, ldV_s2, pur56, Bool.or_true, Bool.true_or, true_and]
  refine c56 hx (by omega) hrg fun r H' hr => ?_
  obtain ⟨hr1, hr2, hr3, ⟨q, _⟩ | ⟨o, ho, rfl, hB⟩⟩ := hr
  · omega
  have n0 : x.1.length = (orderL x.1).length := hlen.symm
  have ini : RowsM H' o (.cells ((ofN (orderL x.1)).map (V.int .i64))) x.1.length ((orderL x.1).take 0) (rchB x.1) := by
    refine ⟨⟨by simp at ho; omega, hB⟩, List.replicate x.1.length .nils, by simp, ?_, fun i hi => .inl ⟨by simp, by simp [hi]⟩, fun i j id c1 c2 => ?_, fun i c1 => ?_⟩
    · rw [hr3 0 (by simp)]; rfl
    · rw [List.getElem?_replicate] at c1; split at c1 <;> cases c1
    · rw [List.getElem?_replicate] at c1; split at c1 <;> cases c1
  generalize hO : orderL x.1 = O at *
  simp only [lensV, bd_some]
  refine ub46_0 x.1.length (fun m c1 c3 c15 c16 c17 H => c1 = .rptr [a, b] ∧ c3 = .sl 0 0 x.1.length x.1.length 1 ∧ c15 = .sl o 0 O.length O.length 1 ∧ c16 = .int .i64 O.length ∧ c17 = .int .i64 m ∧ RowsM H o (.cells ((ofN O).map (V.int .i64))) x.1.length (O.take m) (rchB x.1)) ?_ 0 (Nat.zero_le _) ⟨rfl, rfl, rfl, rfl, rfl, ini⟩
  clear ini hr1 hr2 hr3 hB
  rintro m hm _ _ _ _ _ H2 ⟨rfl, rfl, rfl, rfl, rfl, hM⟩
  intros
  rw [wb46_0]
  simp only [bd_some, binV_lss, ifB_bool, decide_eq_true_eq, Int.ofNat_lt]
  split
  · rename_i hlt
    obtain ⟨i, hi⟩ : ∃ i, O[m] = i := ⟨_, rfl⟩
    have hin : i < x.1.length := hi ▸ hlt0 _ (List.getElem_mem hlt)
    have hnot : i ∉ O.take m := fun hmem => by
      obtain ⟨j, hj, e⟩ := List.mem_iff_getElem.1 hmem
      have hj' : j < m := by simp at hj; omega
      rw [List.getElem_take] at e
      exact List.pairwise_iff_getElem.1 hok.1 j m (by omega) hlt hj' (by rw [e, hi])
    have io : iadrV 1 (.sl o 0 O.length O.length 1) (.int .i64 m) = some (.ptr o m) := by simp [iadrV, hlt]
    have lo : ldV H2 (.ptr o m) 1 false = some (.int .i64 i) := ldV_own hM.1.2 (by simp [ofN, hlt, hi])
    have m1 : mksV 1 1 [.bool false] H2 (.int .i64 x.1.length) (.int .i64 x.1.length) = some (.sl H2.length 0 x.1.length x.1.length 1, H2 ++ [.cells ((btab x.1.length fun _ => false).map V.bool)]) := by
      have : ¬ ((x.1.length : Int) = 0) := by omega
      have r : (x.1.length : Int) * (1 : Nat) ≤ (room : Int) := by unfold room; omega
      simp only [mksV, this, if_false, Int.le_refl, true_and, Int.toNat_natCast]
      rw [if_pos ⟨by omega, r⟩, rep_one]
      simp [btab, List.map_const']
    have i3 : iadrV 1 (.sl 0 0 x.1.length x.1.length 1) (.int .i64 i) = some (.ptr 0 i) := by simp [iadrV, hin]
    obtain ⟨H3, s3, hM3⟩ := hM.fresh hin hnot
    obtain ⟨w, r, e, q⟩ := task_at h1 hin
    simp only [io, bd_some, lo, fadrV_rptr, List.drop_zero, List.drop_succ_cons, ldV_one, h1.lens, m1, bd2_some, i3, s3, e, q.lens, true_and]
    have hal : aft x.1 i = x.1[i].2.2.2 := aft_of hin
    have hll : x.1[i].2.2.2.length ≤ top := q.le
    have hM4 : RowsM H3 o (.cells ((ofN O).map (V.int .i64))) x.1.length (O.take m ++ [i]) (fun r => if r = i then gB x.1 i 0 else rchB x.1 r) := hM3.congr fun r _ _ l _ => by
      by_cases e : r = i
      · simp [e, gB_zero]
      · simp [e]
    clear hM3 s3 m1 lo io hM
    refine ub46_1 x.1[i].2.2.2.length (fun j c1 c3 c5 c15 c16 c17 c33 c34 c35 H => c1 = .rptr [a, b] ∧ c3 = .sl 0 0 x.1.length x.1.length 1 ∧ c5 = .int .i64 i ∧ c15 = .sl o 0 O.length O.length 1 ∧ c16 = .int .i64 O.length ∧ c17 = .int .i64 m ∧ w = c33 ∧ c34 = .int .i64 x.1[i].2.2.2.length ∧ c35 = .int .i64 j ∧ RowsM H o (.cells ((ofN O).map (V.int .i64))) x.1.length (O.take m ++ [i]) (fun r => if r = i then gB x.1 i j else rchB x.1 r)) ?_ 0 (Nat.zero_le _) ⟨rfl, rfl, rfl, rfl, rfl, rfl, rfl, rfl, rfl, hM4⟩
    clear hM4
    rintro j hj _ _ _ _ _ _ _ _ _ H4 ⟨rfl, rfl, rfl, rfl, rfl, rfl, rfl, rfl, rfl, hM⟩
    intros
    rw [wb46_1]
    simp only [bd_some, binV_lss, ifB_bool, decide_eq_true_eq, Int.ofNat_lt]
    split
    · rename_i hlt2
      obtain ⟨rest, e2⟩ := q.int1 hlt2
      have hmem : x.1[i].2.2.2[j] ∈ aft x.1 i := by rw [hal]; exact List.getElem_mem hlt2
      obtain ⟨u1, u2⟩ := hrg i hin _ hmem
      obtain ⟨c, hc⟩ : ∃ c : Nat, x.1[i].2.2.2[j] = c := ⟨(x.1[i].2.2.2[j]).toNat, (Int.toNat_of_nonneg u1).symm⟩
      rw [hc] at u1 u2 hmem
      have hcn : c < x.1.length := by omega
      have hcD : c ∈ O.take m := by have := hok.2 m hlt c (by rw [hi]; exact hmem); simpa using this
      have hci : c ≠ i := fun h => hnot (h ▸ hcD)
      have hcD2 : c ∈ O.take m ++ [i] := List.mem_append_left _ hcD
      have hiD2 : i ∈ O.take m ++ [i] := by simp
      obtain ⟨id, _, g1, g2, g3⟩ := hM.get hin hiD2
      obtain ⟨H5, s5, _, hM5⟩ := g3 c hcn true
      obtain ⟨id2, ⟨vs, v1, v2⟩, k1, k2, k3⟩ := hM5.get hcn hcD2
      have i3 : iadrV 1 (.sl 0 0 x.1.length x.1.length 1) (.int .i64 i) = some (.ptr 0 i) := by simp [iadrV, hin]
      have i4 : iadrV 1 (.sl id 0 x.1.length x.1.length 1) (.int .i64 c) = some (.ptr id c) := by simp [iadrV, hcn]
      have i5 : iadrV 1 (.sl 0 0 x.1.length x.1.length 1) (.int .i64 c) = some (.ptr 0 c) := by simp [iadrV, hcn]
      have ls : lensV (.sl id2 0 x.1.length x.1.length 1) = some (.int .i64 x.1.length) := rfl
      simp only [e2, bd_some, ldV_one, hc, i3, g1, i4, s5, i5, k1, ls, true_and]
      refine ub46_2 x.1.length (fun t c1 c3 c5 c15 c16 c17 c33 c34 c35 c48 c49 c50 H => c1 = .rptr [a, b] ∧ c3 = .sl 0 0 x.1.length x.1.length 1 ∧ c5 = .int .i64 i ∧ c15 = .sl o 0 O.length O.length 1 ∧ c16 = .int .i64 O.length ∧ c17 = .int .i64 m ∧ w = c33 ∧ c34 = .int .i64 x.1[i].2.2.2.length ∧ c35 = .int .i64 j ∧ c48 = .sl id2 0 x.1.length x.1.length 1 ∧ c49 = .int .i64 x.1.length ∧ c50 = .int .i64 t ∧ H[0]? = some (.cells vs) ∧ RowsM H o (.cells ((ofN O).map (V.int .i64))) x.1.length (O.take m ++ [i]) (fun r => if r = i then (fun l => (gB x.1 i j l || decide (l = c)) || (decide (l < t) && rchB x.1 c l)) else rchB x.1 r)) ?_ 0 (Nat.zero_le _)
        ⟨rfl, rfl, rfl, rfl, rfl, rfl, rfl, rfl, rfl, rfl, rfl, rfl, v1, hM5.congr fun r _ _ l _ => by
          by_cases e : r = i
          · by_cases e' : l = c <;> simp [e, e']
          · simp [e]⟩
      clear k1 k2 k3 s5 hM5 g1 g2 g3 hM
      rintro t ht _ _ _ _ _ _ _ _ _ _ _ _ H6 ⟨rfl, rfl, rfl, rfl, rfl, rfl, rfl, rfl, rfl, rfl, rfl, rfl, v3, hM⟩
      intros
      rw [wb46_2]
      simp only [bd_some, binV_lss, ifB_bool, decide_eq_true_eq, Int.ofNat_lt]
      split
      · rename_i hlt3
        obtain ⟨id, _, g1, g2, g3⟩ := hM.get hin hiD2
        obtain ⟨id3, _, k1, k2, k3⟩ := hM.get hcn hcD2
        have : ldV H6 (.ptr 0 c) 1 false = some (.sl id2 0 x.1.length x.1.length 1) := ldV_own v3 v2
        rw [this] at k1
        injection k1 with k1
        injection k1 with k1
        subst k1
        have i6 : iadrV 1 (.sl id2 0 x.1.length x.1.length 1) (.int .i64 t) = some (.ptr id2 t) := by simp [iadrV, hlt3]
        have i7 : iadrV 1 (.sl id 0 x.1.length x.1.length 1) (.int .i64 t) = some (.ptr id t) := by simp [iadrV, hlt3]
        have lc := k2 t hlt3
        have li := g2 t hlt3
        simp only [hci, if_false] at lc
        simp only [if_true, Nat.lt_irrefl, decide_false, Bool.false_and, Bool.or_false] at li
        simp only [i6, bd_some, lc, i3, g1, i7, li]
        obtain ⟨H7, s7, y7, hM7⟩ := g3 t hlt3 ((gB x.1 i j t || decide (t = c)) || rchB x.1 c t)
        have fin : RowsM H7 o (.cells ((ofN O).map (V.int .i64))) x.1.length (O.take m ++ [i]) (fun r => if r = i then (fun l => (gB x.1 i j l || decide (l = c)) || (decide (l < t + 1) && rchB x.1 c l)) else rchB x.1 r) := hM7.congr fun r _ _ l _ => by
          by_cases e : r = i
          · by_cases e' : l = t
            · simp [e, e']
            · have : (l < t + 1) ↔ (l < t) := by omega
              simp [e, e', this]
          · simp [e]
        cases hb : (gB x.1 i j t || decide (t = c))
        · rw [hb, Bool.false_or] at s7
          simp only [gdV_bool, beq_self_eq_true, wpg_true, pickV_bool, Bool.false_eq_true, if_false, bd_some, i7, s7, binV_add, wi (show (t : Int) + 1 = ((t + 1 : Nat) : Int) by omega) (by omega), upQ_n, Sb46_2_eq, true_and]
          exact ⟨t + 1, by omega, by omega, rfl, y7.trans v3, fin⟩
        · rw [hb, Bool.true_or] at s7
          simp only [gdV_bool, show (true == false) = false from rfl, wpg_false, pickV_bool, if_true, bd_some, i7, s7, binV_add, wi (show (t : Int) + 1 = ((t + 1 : Nat) : Int) by omega) (by omega), upQ_n, Sb46_2_eq, true_and]
          exact ⟨t + 1, by omega, by omega, rfl, y7.trans v3, fin⟩
      · rename_i hge3
        have et : t = x.1.length := by omega
        subst et
        simp only [upQ_e, blockQ_e, if_true, blockQ_n, seqQ_n, wr46_3, binV_add, bd_some, wi (show (j : Int) + 1 = ((j + 1 : Nat) : Int) by omega) (by unfold top at hll; omega), upQ_n, Sb46_1_eq, true_and]
        refine ⟨j + 1, by omega, by omega, rfl, hM.congr fun r _ _ l hl => ?_⟩
        by_cases e : r = i
        · simp only [e, if_true, hl, decide_true, Bool.true_and]
          exact (gB_succ (by rw [hal]; exact hlt2) (by simp only [hal]; exact hc)).symm
        · simp [e]
    · rename_i hge2
      have ej : j = x.1[i].2.2.2.length := by omega
      simp only [upQ_e, blockQ_e, if_true, blockQ_n, seqQ_n, wr46_4, binV_add, bd_some, wi (show (m : Int) + 1 = ((m + 1 : Nat) : Int) by omega) (by omega), upQ_n, Sb46_0_eq, true_and]
      refine ⟨m + 1, by omega, by omega, rfl, ?_⟩
      have : O.take (m + 1) = O.take m ++ [i] := by rw [tk hlt, hi]
      rw [this]
      exact hM.congr fun r _ _ l _ => by
        by_cases e : r = i
        · simp only [e, if_true]; exact gB_all (by rw [hal]; omega)
        · simp [e]
  · rename_i hge
    have em : m = O.length := by omega
    subst em
    rw [List.take_length] at hM
    simp only [upQ_e, blockQ_e, if_true, seqQ_n, wr46_5, ret46]
    have hall : ∀ i, i < x.1.length → i ∈ O := fun i hi => by
      refine Classical.byContradiction fun hno => ?_
      have := nodup_len x.1.length (i :: O) (List.nodup_cons.2 ⟨hno, hok.1⟩) (fun d hd => by
        rcases List.mem_cons.1 hd with rfl | hd
        · exact hi
        · exact hlt0 d hd)
      simp at this; omega
    obtain ⟨u, c1, c2⟩ := hM.close hall (by unfold top; omega) (d := 9)
    exact hq_some c1 (h u c2)
end Go.Proofs.Ytoommmeapdkopaa.E
namespace Go.Proofs.Ytoommmeapdkopaa.E
open Go Go.Eng

noncomputable def befL (T : List tTask.D) (i : Nat) : List Nat := (List.range T.length).filter fun k => rchB T i k

theorem bool1 {v : V} {l : List Bool} (h : Arr 1 (Ty.R .bool) v l) {i : Nat} (hi : i < l.length) : ∃ rest, iadrV 1 v (.int .i64 i) = some (.rptr (.bool l[i] :: rest)) := by
  obtain ⟨c, rr, hR, hl, e⟩ := h.iadr hi
  obtain rfl := (hR : c = [.bool l[i]])
  exact ⟨rr, e⟩

theorem ok_Before {x : tShop.D} {v : V} (hx : tShop.V x v) (hpos : 0 < x.1.length) (he : shopErr x (decide ((orderL x.1).length < x.1.length)) = 0) {H : Heap} {k : V → Heap → Prop}
    (h : ∀ r, Arr 1 (Ty.R (.sl (.int .i64))) r ((List.range x.1.length).map fun i => ofN (befL x.1 i)) → k (.tup [r, .int .i64 0]) H) : Cl G 26 [v] H k := by
  obtain ⟨a, b, rfl, h1, h2⟩ := shop_v hx
  obtain ⟨z1, z2, z3, z4⟩ := shopErr_zero he
  refine Cl.mode1 (F := i26) rfl rfl (by simp [h1.closed, h2.closed]) ?_
  rw [w26]
  simp only [bxrV_agg, closedVs_cons, closedVs_nil, h1.closed, h2.closed, Bool.and_self, bd_some, ldV_s2, Bool.true_or, true_and]
  refine c29 hx ?_
  rw [he]
  simp only [binV_neq, decide_true, Bool.not_true, bd_some, ifB_bool, Bool.false_eq_true, if_false, ldV_s2, Bool.true_or, true_and]
  refine c46 hx hpos he fun r hr => ?_
  have hrl : lensV r = some (.int .i64 x.1.length) := by have := hr.lens; simpa using this
  simp only [hrl, bd_some]
  refine ub26_0 x.1.length (fun m c5 c17 c18 c19 H => r = c17 ∧ c18 = .int .i64 x.1.length ∧ c19 = .int .i64 m ∧ RowsA H c5 ((List.range m).map fun i => ofN (befL x.1 i))) ?_ 0 (Nat.zero_le _) ⟨rfl, rfl, rfl, .inl ⟨rfl, rfl⟩⟩
  rintro m hm c5 _ _ _ H2 ⟨rfl, rfl, rfl, hA⟩
  intros
  rw [wb26_0]
  simp only [bd_some, binV_lss, ifB_bool, decide_eq_true_eq, Int.ofNat_lt]
  split
  · rename_i hlt
    obtain ⟨_, rr, ⟨row, rfl, q⟩, _, er⟩ := hr.iadr (i := m) (by simpa using hlt)
    simp only [List.getElem_map, List.getElem_range] at q
    have ql : lensV row = some (.int .i64 x.1.length) := by have := q.lens; simpa using this
    simp only [er, bd_some, List.singleton_append, ldV_one, ql]
    refine ub26_1 x.1.length (fun t c5' c8 c17 c18 c19 c23 c24 c25 H => c5 = c5' ∧ r = c17 ∧ c18 = .int .i64 x.1.length ∧ c19 = .int .i64 m ∧ row = c23 ∧ c24 = .int .i64 x.1.length ∧ c25 = .int .i64 t ∧ Gr 1 H2 H c8 ((ofN ((List.range t).filter fun k => rchB x.1 m k)).map (V.int .i64)) ((List.range t).filter fun k => rchB x.1 m k).length) ?_ 0 (Nat.zero_le _) ⟨rfl, rfl, rfl, rfl, rfl, rfl, rfl, by simpa using Gr.nil (k := 1) (F := H2)⟩
    rintro t ht _ c8 _ _ _ _ _ _ H3 ⟨rfl, rfl, rfl, rfl, rfl, rfl, rfl, hg⟩
    intros
    rw [wb26_1]
    simp only [bd_some, binV_lss, ifB_bool, decide_eq_true_eq, Int.ofNat_lt]
    split
    · rename_i hlt2
      obtain ⟨r2, e2⟩ := bool1 q (i := t) (by simpa using hlt2)
      have gv : (btab x.1.length (rchB x.1 m))[t]'(by simpa using hlt2) = rchB x.1 m t := by simp [btab]
      rw [gv] at e2
      have wt : IntKind.i64.wrap ((t : Int) + 1) = ((t + 1 : Nat) : Int) := wi (by omega) (by omega)
      simp only [e2, bd_some, ldV_one, ifB_bool]
      split
      · rename_i hb
        have hfl : ((List.range t).filter fun k => rchB x.1 m k).length ≤ t := filter_range_len
        obtain ⟨v', H', g1, g2⟩ := hg.push (xs := [.int .i64 t]) rfl (by omega) (bytes := 8) (by unfold room; omega)
        simp only [bslV_one (show oneC (.int .i64 t) = true from rfl), bd2_some, g1, wr26_2, binV_add, bd_some, wt, upQ_n, Sb26_1_eq, true_and]
        refine ⟨t + 1, by omega, by omega, rfl, ?_⟩
        have : ((List.range (t + 1)).filter fun k => rchB x.1 m k) = ((List.range t).filter fun k => rchB x.1 m k) ++ [t] := by rw [List.range_succ, List.filter_append]; simp [hb]
        rw [this]
        simpa using g2
      · rename_i hb
        simp only [wr26_2, binV_add, bd_some, wt, upQ_n, Sb26_1_eq, true_and]
        refine ⟨t + 1, by omega, by omega, rfl, ?_⟩
        have : ((List.range (t + 1)).filter fun k => rchB x.1 m k) = ((List.range t).filter fun k => rchB x.1 m k) := by rw [List.range_succ, List.filter_append]; simp [hb]
        rw [this]
        exact hg
    · rename_i hge2
      have et : t = x.1.length := by omega
      subst et
      have hl : ((List.range x.1.length).filter fun k => rchB x.1 m k).length ≤ x.1.length := filter_range_len
      have o1 : oneC c8 = true := by rcases hg.2.2.2 with ⟨_, rfl⟩ | ⟨_, _, rfl, _⟩ <;> rfl
      have hA3 := hA.keep (H' := H3) hg.2.2.1
      have row : ∀ o, (∀ id, H2.length ≤ id → id < H3.length → id ≠ o) → RowC H3 o c8 (ofN (befL x.1 m)) := fun o ho => by
        rcases hg.2.2.2 with ⟨c1, c2⟩ | ⟨id, c1, c2, c3⟩
        · exact .inl ⟨c2, by simp [befL, List.length_eq_zero_iff.1 c1]⟩
        · exact .inr ⟨id, ho id c1 (List.getElem?_eq_some_iff.1 c3).1, by rw [c2]; simp [befL], c3⟩
      obtain ⟨v', H', p1, p2⟩ := hA3.push (w := c8) (l := ofN (befL x.1 m)) (fun o ⟨n, hn⟩ => row o fun id hi _ => by
        rcases hA with ⟨_, c⟩ | ⟨o', vs, c, d, _⟩
        · rw [c] at hn; cases hn
        · rw [c] at hn; injection hn with hn; subst hn; have := (List.getElem?_eq_some_iff.1 d).1; omega) (row _ fun id _ hi => by omega) (by simp; unfold room; omega) o1
      simp only [upQ_e, blockQ_e, if_true, blockQ_n, seqQ_n, wr26_3, bslV_one o1, bd2_some, p1, wr26_4, binV_add, bd_some, wi (show (m : Int) + 1 = ((m + 1 : Nat) : Int) by omega) (by omega), upQ_n, Sb26_0_eq, true_and]
      refine ⟨m + 1, by omega, by omega, rfl, ?_⟩
      rw [List.range_succ, List.map_append]
      exact p2
  · rename_i hge
    have em : m = x.1.length := by omega
    subst em
    simp only [upQ_e, blockQ_e, if_true, seqQ_n, wr26_5, ret26]
    have hl : ∀ l ∈ (List.range x.1.length).map (fun i => ofN (befL x.1 i)), l.length ≤ top ∧ ∀ y ∈ l, IntKind.i64.min ≤ y ∧ y ≤ IntKind.i64.max := fun l hl => by
      obtain ⟨i, _, rfl⟩ := List.mem_map.1 hl
      have : (befL x.1 i).length ≤ x.1.length := filter_range_len
      exact ⟨by simp; unfold top; omega, ofN_rng (n := 1000) (fun a ha => by have := (List.mem_filter.1 ha).1; simp at this; omega) (by omega)⟩
    obtain ⟨u, c1, c2⟩ := hA.close (d := 8) (by simp; unfold top; omega) (fun l h => (hl l h).1) (fun l h => (hl l h).2)
    refine hq_some (v' := .tup [u, .int .i64 0]) ?_ (h u c2)
    rw [show closeDepth = 11 + 1 from rfl, closeV_tup]
    simp only [mapO, c1, closeV_int, Option.bind_some, Option.map_some]
end Go.Proofs.Ytoommmeapdkopaa.E
namespace Go.Proofs.Ytoommmeapdkopaa.E
open Go Go.Eng

end Go.Proofs.Ytoommmeapdkopaa.E
