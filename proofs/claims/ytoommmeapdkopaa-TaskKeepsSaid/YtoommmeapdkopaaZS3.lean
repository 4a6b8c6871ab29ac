/- What functions of the program return, proved over the interpreter. Each theorem says its conditions. -/
import Derived.Test.YtoommmeapdkopaaZS2
import Derived.Test.YtoommmeapdkopaaZD2
import Derived.Test.YtoommmeapdkopaaE29
import Derived.Test.YtoommmeapdkopaaE30
namespace Go.Proofs.Ytoommmeapdkopaa.E
open Go Go.Eng

theorem c79 {v : V} {l : List tTask.D} (hx : Arr 4 tTask.R v l) {f : FuncId} {caps : List V} (hcap : closedVs caps = true) (hpur : G.pur f = true) (p : tTask.D → Bool)
    (hf : ∀ t ∈ l, ∀ w, Arr 1 tI.R w t.2.2.2 → ∀ (H : Heap) (k : V → Heap → Prop), k (.bool (p t)) H → Cl G f (.agg [.str t.1, .int .i64 t.2.1, .str t.2.2.1, w] :: caps) H k)
    {H : Heap} {k : V → Heap → Prop} (h : ∀ r : Int, (0 ≤ r ↔ l.any p = true) → k (.int .i64 r) H) : Cl G 79 [v, .fn f caps] H k := by
  refine Cl.mode1 (F := i79) rfl rfl (by simp [hx.closed, hcap]) ?_
  rw [w79]
  have hle := hx.le
  simp only [hx.lens, bd_some]
  refine ub79_0 l.length (fun i a b c d _ => a = v ∧ b = .fn f caps ∧ c = .int .i64 l.length ∧ d = .int .i64 i ∧ (l.take i).any p = false) ?_ 0 (Nat.zero_le _) (by simp)
  rintro i hi _ _ _ _ _ ⟨rfl, rfl, rfl, rfl, he⟩
  intros
  rw [wb79_0]
  simp only [bd_some, binV_lss, ifB_bool, decide_eq_true_eq, Int.ofNat_lt]
  split
  · rename_i hlt
    obtain ⟨w, r, e, q⟩ := task_at hx hlt
    simp only [e, ldV_s4, bd_some, callV_fn, Bool.true_or, true_and, List.singleton_append]
    refine hf l[i] (List.getElem_mem hlt) w q _ _ ?_
    simp only [ifB_bool]
    split
    · rename_i hp
      have : l.any p = true := List.any_eq_true.2 ⟨_, List.getElem_mem hlt, hp⟩
      simpa [this, -List.any_eq_true] using h i (by simp [this, -List.any_eq_true]) 
    · rename_i hp
      simp only [binV_add, bd_some, wrap_succ (show i + 1 ≤ 9223372036854775807 by unfold top at hle; omega), upQ_n, Sb79_0_eq, true_and]
      exact ⟨i + 1, by omega, by omega, rfl, by rw [any_take_succ hlt, he]; simpa using hp⟩
  · rename_i hge
    rw [take_all hge] at he
    simp only [upQ_e, blockQ_e, if_true, seqQ_n, wr79_1, ret79, hq_int]
    exact h (-1) (by simp [he, -List.any_eq_true, -List.any_eq_false])

theorem c68 {x : V} {l : List tTask.D} {H : Heap} (hx : Sh H 4 tTask.R x l) {f : FuncId} {caps caps' : List V} (hcl : closeV H closeDepth (.fn f caps) = some (.fn f caps')) (hcap : closedVs caps' = true) (hpur : G.pur f = true) (p : tTask.D → Bool)
    (hf : ∀ t ∈ l, ∀ w, Arr 1 tI.R w t.2.2.2 → ∀ (H : Heap) (k : V → Heap → Prop), k (.bool (p t)) H → Cl G f (.agg [.str t.1, .int .i64 t.2.1, .str t.2.2.1, w] :: caps') H k)
    {k : V → Heap → Prop} (h : k (.bool (l.any p)) H) : Cl G 68 [x, .fn f caps] H k := by
  obtain ⟨v, hv, hx⟩ := hx
  refine Cl.any (F := i68) rfl rfl (args' := [v, .fn f caps']) (by simp [mapO, hv, hcl]) ?_
  rw [w68]
  simp only [Bool.true_or, true_and]
  refine c79 hx hcap hpur p hf fun r hr => ?_
  simp only [binV_geq, bd_some]
  have : decide (r ≥ 0) = l.any p := by
    cases hb : l.any p
    · simpa [hb] using hr
    · simpa [hb] using hr
  rw [this, hq_bool, lq_bool]
  exact h

theorem c80 {v : V} {l : List tStation.D} (hx : Arr 2 tStation.R v l) {f : FuncId} {caps : List V} (hcap : closedVs caps = true) (hpur : G.pur f = true) (p : tStation.D → Bool)
    (hf : ∀ t ∈ l, ∀ w, Arr 1 (Ty.R .str) w t.2 → ∀ (H : Heap) (k : V → Heap → Prop), k (.bool (p t)) H → Cl G f (.agg [.str t.1, w] :: caps) H k)
    {H : Heap} {k : V → Heap → Prop} (h : ∀ r : Int, (0 ≤ r ↔ l.any p = true) → k (.int .i64 r) H) : Cl G 80 [v, .fn f caps] H k := by
  refine Cl.mode1 (F := i80) rfl rfl (by simp [hx.closed, hcap]) ?_
  rw [w80]
  have hle := hx.le
  simp only [hx.lens, bd_some]
  refine ub80_0 l.length (fun i a b c d _ => a = v ∧ b = .fn f caps ∧ c = .int .i64 l.length ∧ d = .int .i64 i ∧ (l.take i).any p = false) ?_ 0 (Nat.zero_le _) (by simp)
  rintro i hi _ _ _ _ _ ⟨rfl, rfl, rfl, rfl, he⟩
  intros
  rw [wb80_0]
  simp only [bd_some, binV_lss, ifB_bool, decide_eq_true_eq, Int.ofNat_lt]
  split
  · rename_i hlt
    obtain ⟨w, r, e, q⟩ := station_at hx hlt
    simp only [e, ldV_s2, bd_some, callV_fn, Bool.true_or, true_and, List.singleton_append]
    refine hf l[i] (List.getElem_mem hlt) w q _ _ ?_
    simp only [ifB_bool]
    split
    · rename_i hp
      have : l.any p = true := List.any_eq_true.2 ⟨_, List.getElem_mem hlt, hp⟩
      simpa [this, -List.any_eq_true] using h i (by simp [this, -List.any_eq_true]) 
    · rename_i hp
      simp only [binV_add, bd_some, wrap_succ (show i + 1 ≤ 9223372036854775807 by unfold top at hle; omega), upQ_n, Sb80_0_eq, true_and]
      exact ⟨i + 1, by omega, by omega, rfl, by rw [any_take_succ hlt, he]; simpa using hp⟩
  · rename_i hge
    rw [take_all hge] at he
    simp only [upQ_e, blockQ_e, if_true, seqQ_n, wr80_1, ret80, hq_int]
    exact h (-1) (by simp [he, -List.any_eq_true, -List.any_eq_false])

theorem c70 {x : V} {l : List tStation.D} {H : Heap} (hx : Sh H 2 tStation.R x l) {f : FuncId} {caps caps' : List V} (hcl : closeV H closeDepth (.fn f caps) = some (.fn f caps')) (hcap : closedVs caps' = true) (hpur : G.pur f = true) (p : tStation.D → Bool)
    (hf : ∀ t ∈ l, ∀ w, Arr 1 (Ty.R .str) w t.2 → ∀ (H : Heap) (k : V → Heap → Prop), k (.bool (p t)) H → Cl G f (.agg [.str t.1, w] :: caps') H k)
    {k : V → Heap → Prop} (h : k (.bool (l.any p)) H) : Cl G 70 [x, .fn f caps] H k := by
  obtain ⟨v, hv, hx⟩ := hx
  refine Cl.any (F := i70) rfl rfl (args' := [v, .fn f caps']) (by simp [mapO, hv, hcl]) ?_
  rw [w70]
  simp only [Bool.true_or, true_and]
  refine c80 hx hcap hpur p hf fun r hr => ?_
  simp only [binV_geq, bd_some]
  have : decide (r ≥ 0) = l.any p := by
    cases hb : l.any p
    · simpa [hb] using hr
    · simpa [hb] using hr
  rw [this, hq_bool, lq_bool]
  exact h

theorem c65 {v : V} {l : List Int} (hx : Arr 1 tI.R v l) {f : FuncId} {caps : List V} (hcap : closedVs caps = true) (hpur : G.pur f = true) (p : Int → Bool)
    (hf : ∀ t ∈ l, ∀ (H : Heap) (k : V → Heap → Prop), k (.bool (p t)) H → Cl G f (.int .i64 t :: caps) H k)
    {H : Heap} {k : V → Heap → Prop} (h : ∀ r : Int, (0 ≤ r ↔ l.any p = true) → k (.int .i64 r) H) : Cl G 65 [v, .fn f caps] H k := by
  refine Cl.mode1 (F := i65) rfl rfl (by simp [hx.closed, hcap]) ?_
  rw [w65]
  have hle := hx.le
  simp only [hx.lens, bd_some]
  refine ub65_0 l.length (fun i a b c d _ => a = v ∧ b = .fn f caps ∧ c = .int .i64 l.length ∧ d = .int .i64 i ∧ (l.take i).any p = false) ?_ 0 (Nat.zero_le _) (by simp)
  rintro i hi _ _ _ _ _ ⟨rfl, rfl, rfl, rfl, he⟩
  intros
  rw [wb65_0]
  simp only [bd_some, binV_lss, ifB_bool, decide_eq_true_eq, Int.ofNat_lt]
  split
  · rename_i hlt
    obtain ⟨r, e⟩ := hx.int1 hlt
    simp only [e, ldV_one, bd_some, callV_fn, Bool.true_or, true_and, List.singleton_append]
    refine hf l[i] (List.getElem_mem hlt) _ _ ?_
    simp only [ifB_bool]
    split
    · rename_i hp
      have : l.any p = true := List.any_eq_true.2 ⟨_, List.getElem_mem hlt, hp⟩
      simpa [this, -List.any_eq_true] using h i (by simp [this, -List.any_eq_true]) 
    · rename_i hp
      simp only [binV_add, bd_some, wrap_succ (show i + 1 ≤ 9223372036854775807 by unfold top at hle; omega), upQ_n, Sb65_0_eq, true_and]
      exact ⟨i + 1, by omega, by omega, rfl, by rw [any_take_succ hlt, he]; simpa using hp⟩
  · rename_i hge
    rw [take_all hge] at he
    simp only [upQ_e, blockQ_e, if_true, seqQ_n, wr65_1, ret65, hq_int]
    exact h (-1) (by simp [he, -List.any_eq_true, -List.any_eq_false])

theorem c50 {x : V} {l : List Int} {H : Heap} (hx : Sh H 1 tI.R x l) {f : FuncId} {caps caps' : List V} (hcl : closeV H closeDepth (.fn f caps) = some (.fn f caps')) (hcap : closedVs caps' = true) (hpur : G.pur f = true) (p : Int → Bool)
    (hf : ∀ t ∈ l, ∀ (H : Heap) (k : V → Heap → Prop), k (.bool (p t)) H → Cl G f (.int .i64 t :: caps') H k)
    {k : V → Heap → Prop} (h : k (.bool (l.any p)) H) : Cl G 50 [x, .fn f caps] H k := by
  obtain ⟨v, hv, hx⟩ := hx
  refine Cl.any (F := i50) rfl rfl (args' := [v, .fn f caps']) (by simp [mapO, hv, hcl]) ?_
  rw [w50]
  simp only [Bool.true_or, true_and]
  refine c65 hx hcap hpur p hf fun r hr => ?_
  simp only [binV_geq, bd_some]
  have : decide (r ≥ 0) = l.any p := by
    cases hb : l.any p
    · simpa [hb] using hr
    · simpa [hb] using hr
  rw [this, hq_bool, lq_bool]
  exact h


theorem c69 {t : tTask.D} {w : V} (q : Arr 1 tI.R w t.2.2.2) {n : List UInt8} {rest : List V} (hr : closedVs rest = true) {H : Heap} {k : V → Heap → Prop} (h : k (.bool (decide (t.1 = n))) H) : Cl G 69 [.agg [.str t.1, .int .i64 t.2.1, .str t.2.2.1, w], .rptr (.str n :: rest)] H k := by
  refine Cl.mode1 (F := i69) rfl rfl (by simp [q.closed]) ?_
  rw [w69]
  simpa [q.closed] using h
theorem c71 {t : tStation.D} {w : V} (q : Arr 1 (Ty.R .str) w t.2) {n : List UInt8} {rest : List V} (hr : closedVs rest = true) {H : Heap} {k : V → Heap → Prop} (h : k (.bool (decide (t.1 = n))) H) : Cl G 71 [.agg [.str t.1, w], .rptr (.str n :: rest)] H k := by
  refine Cl.mode1 (F := i71) rfl rfl (by simp [q.closed]) ?_
  rw [w71]
  simpa [q.closed] using h

def aErr (n i : Int) (l : List Int) (k : Nat) : Int :=
  if l.getD k 0 < 0 ∨ n ≤ l.getD k 0 then 2 else if l.getD k 0 = i then 17 else if 0 < k ∧ l.getD k 0 ≤ l.getD (k - 1) 0 then 8 else 0
def taskErr (T : List tTask.D) (i : Nat) (t : tTask.D) : Int :=
  if okName t.1 = false then 11 else if (T.take i).any (fun y => decide (y.1 = t.1)) = true then 9 else if t.2.1 < 1 ∨ 1048576 < t.2.1 then 2 else if t.2.2.1 ≠ [] ∧ okName t.2.2.1 = false then 11 else firstErr (aErr T.length i t.2.2.2) t.2.2.2.length
def tErr (l : List (List UInt8)) (k : Nat) : Int :=
  if okName (l.getD k []) = false then 11 else if 0 < k ∧ Op.bytesLess (l.getD (k - 1) []) (l.getD k []) = false then 8 else 0
def stationErr (S : List tStation.D) (i : Nat) (t : tStation.D) : Int :=
  if okName t.1 = false then 11 else if (S.take i).any (fun y => decide (y.1 = t.1)) = true then 9 else if 16 < t.2.length then 6 else firstErr (tErr t.2) t.2.length

theorem task_top {v : V} {l : List tTask.D} (h : Arr 4 tTask.R v l) : ∀ t ∈ l, t.1.length ≤ top ∧ t.2.2.1.length ≤ top :=
  h.all fun x c ⟨_, _, _, h1, _, _, _, _, _, _, _, h3, _⟩ => ⟨h1.2, h3.2⟩
theorem station_top {v : V} {l : List tStation.D} (h : Arr 2 tStation.R v l) : ∀ t ∈ l, t.1.length ≤ top := h.all fun x c ⟨_, _, _, h1, _⟩ => h1.2
theorem strs_top {v : V} {l : List (List UInt8)} (h : Arr 1 (Ty.R .str) v l) : ∀ t ∈ l, t.length ≤ top := h.all fun x c h => h.2
theorem getD_of {α : Type} {l : List α} {i : Nat} (h : i < l.length) (d : α) : l.getD i d = l[i] := by simp [List.getD_eq_getElem?_getD, h]

theorem lp_task {n : Nat} {a b : V} (hlen : lensV a = some (.int .i64 n)) {i : Nat} (hi : i < n) {l : List Int} {w c0 c1 c2 : V} (q : Arr 1 tI.R w l) {HB : Heap} (g : HB[0]? = some (.cells [c0, c1, c2, w])) {H : Heap} {k : V → Heap → Prop}
    (h : k (.int .i64 (firstErr (aErr n i l) l.length)) H) :
    Lb57_0 (.int .i64 i) (.rptr [a, b]) (.ptr 0 0) w (.int .i64 l.length) (.int .i64 0) HB (blockQ 1 (seqQ G r57_1 (retQ i57 (hq 1 H k)))) := by
  unfold Lb57_0
  intros
  have hle : l.length ≤ 9223372036854775807 := q.le
  refine ub57_0 l.length (fun j c1 c2 c3 c4 c5 c6 H => c1 = .int .i64 i ∧ c2 = .rptr [a, b] ∧ c3 = .ptr 0 0 ∧ c4 = w ∧ c5 = .int .i64 l.length ∧ c6 = .int .i64 j ∧ H = HB ∧ firstErr (aErr n i l) j = 0) ?_ 0 (Nat.zero_le _) (by simp [firstErr])
  rintro j hj _ _ _ _ _ _ _ ⟨rfl, rfl, rfl, rfl, rfl, rfl, rfl, he⟩
  intros
  rw [wb57_0]
  simp only [bd_some, binV_lss, ifB_bool, decide_eq_true_eq, Int.ofNat_lt]
  split
  · rename_i hlt
    obtain ⟨r, e⟩ := q.int1 hlt
    have d1 : l.getD j 0 = l[j] := getD_of hlt 0
    have stop : aErr n i l j ≠ 0 → firstErr (aErr n i l) l.length = aErr n i l j := fun hne => firstErr_stop he hne _ hlt
    by_cases n1 : l[j] < 0
    · have : aErr n i l j = 2 := by rw [aErr, d1, if_pos (.inl n1)]
      rw [stop (by rw [this]; decide), this] at h
      simpa [e, n1] using h
    by_cases n2 : (n : Int) ≤ l[j]
    · have : aErr n i l j = 2 := by rw [aErr, d1, if_pos (.inr n2)]
      rw [stop (by rw [this]; decide), this] at h
      simpa [e, n1, n2, hlen] using h
    by_cases n3 : l[j] = (i : Int)
    · have : aErr n i l j = 17 := by rw [aErr, d1, if_neg (by omega), if_pos n3]
      rw [stop (by rw [this]; decide), this] at h
      have n2' : ¬ ((n : Int) ≤ (i : Int)) := by omega
      have n1' : ¬ ((i : Int) < 0) := by omega
      simpa [e, n1', n2', n3, hlen] using h
    cases j with
    | zero =>
      have : aErr n i l 0 = 0 := by rw [aErr, d1, if_neg (by omega), if_neg n3, if_neg (by omega)]
      have w2 : IntKind.i64.wrap ((0 : Nat) + 1 : Int) = ((0 + 1 : Nat) : Int) := wrap_succ (by omega)
      have neg : ¬ (0 < ((0 : Nat) : Int)) := by omega
      simp only [e, bd_some, ldV_one, binV_lss, n1, decide_false, gdV_bool, beq_self_eq_true, wpg_true, fadrV_rptr, List.drop_zero, hlen, binV_geq, ge_iff_le, n2, pickV_bool, Bool.false_eq_true, if_false, ifB_bool, binV_eql, n3, binV_gtr, gt_iff_lt, neg, show (false == true) = false from rfl, wpg_false, binV_add, w2, upQ_n, Sb57_0_eq, true_and]
      exact ⟨0 + 1, by omega, by omega, rfl, firstErr_next he this⟩
    | succ j =>
      obtain ⟨r', e'⟩ := q.int1 (show j < l.length by omega)
      have d2 : l.getD j 0 = l[j] := getD_of (by omega) 0
      have w1 : IntKind.i64.wrap ((j + 1 : Nat) - 1 : Int) = (j : Int) := by rw [wrap_i64] <;> omega
      have w2 : IntKind.i64.wrap ((j + 1 : Nat) + 1 : Int) = ((j + 1 + 1 : Nat) : Int) := wrap_succ (by omega)
      have pos : 0 < ((j + 1 : Nat) : Int) := by omega
      by_cases n4 : l[j + 1] ≤ l[j]
      · have : aErr n i l (j + 1) = 8 := by rw [aErr, d1, if_neg (by omega), if_neg n3, if_pos ⟨by omega, by rw [Nat.add_sub_cancel, d2]; exact n4⟩]
        rw [stop (by rw [this]; decide), this] at h
        simp only [e, bd_some, ldV_one, binV_lss, n1, decide_false, gdV_bool, beq_self_eq_true, wpg_true, fadrV_rptr, List.drop_zero, hlen, binV_geq, ge_iff_le, n2, pickV_bool, Bool.false_eq_true, if_false, ifB_bool, binV_eql, n3, binV_gtr, gt_iff_lt, pos, decide_true, fadrV_ptr, Nat.zero_add, ldV_own g (off := 3) rfl, binV_sub, w1, e', n4, if_true]
        simpa using h
      · have : aErr n i l (j + 1) = 0 := by rw [aErr, d1, if_neg (by omega), if_neg n3, if_neg (by rw [Nat.add_sub_cancel, d2]; exact fun h => n4 h.2)]
        simp only [e, bd_some, ldV_one, binV_lss, n1, decide_false, gdV_bool, beq_self_eq_true, wpg_true, fadrV_rptr, List.drop_zero, hlen, binV_geq, ge_iff_le, n2, pickV_bool, Bool.false_eq_true, if_false, ifB_bool, binV_eql, n3, binV_gtr, gt_iff_lt, pos, decide_true, fadrV_ptr, Nat.zero_add, ldV_own g (off := 3) rfl, binV_sub, w1, e', n4, if_true, binV_add, w2, upQ_n, Sb57_0_eq, true_and]
        exact ⟨j + 1 + 1, by omega, by omega, rfl, firstErr_next he this⟩
  · rename_i hge
    have : j = l.length := by omega
    rw [← this, he] at h
    simpa [wr57_1] using h

theorem c57 {x : tShop.D} {v : V} (hx : tShop.V x v) {i : Nat} (hi : i < x.1.length) {H : Heap} {k : V → Heap → Prop} (h : k (.int .i64 (taskErr x.1 i x.1[i])) H) : Cl G 57 [v, .int .i64 i] H k := by
  obtain ⟨a, b, rfl, h1, h2⟩ := shop_v hx
  refine Cl.mode1 (F := i57) rfl rfl (by simp [h1.closed, h2.closed]) ?_
  rw [w57]
  obtain ⟨w, r, e, q⟩ := task_at h1 hi
  have tp := task_top h1 _ (List.getElem_mem hi)
  have hle := h1.le
  generalize hB : ([B.cells [.str x.1[i].1, .int .i64 x.1[i].2.1, .str x.1[i].2.2.1, w]] : Heap) = HB
  have g : HB[0]? = some (.cells [.str x.1[i].1, .int .i64 x.1[i].2.1, .str x.1[i].2.2.1, w]) := by rw [← hB]; rfl
  simp only [bxrV_agg, closedVs_cons, closedVs_nil, h1.closed, h2.closed, Bool.and_self, bd_some, fadrV_rptr, List.drop_zero, ldV_one, e, ldV_s4, newB, true_and]
  rw [stV_new (by rfl) (by rfl)]
  simp only [List.nil_append, List.length_nil, hB, bd_some, fadrV_ptr, Nat.zero_add, ldV_own g (off := 0) rfl, Bool.true_or, true_and]
  refine c67 tp.1 ?_
  simp only [unV_not, bd_some, ifB_bool]
  by_cases n1 : okName x.1[i].1 = true
  case neg =>
    have n1 : okName x.1[i].1 = false := by simpa using n1
    simpa [n1, taskErr] using h
  obtain ⟨v', e', q'⟩ := h1.slc_to hi
  simp only [n1, Bool.not_true, Bool.false_eq_true, if_false, fadrV_rptr, List.drop_zero, bd_some, ldV_one, e', true_and, Bool.true_or]
  refine c68 (q'.sh _) (close_ptr (cs' := [.str x.1[i].1, .int .i64 x.1[i].2.1, .str x.1[i].2.2.1, w]) g (by simp [mapO, q.close])) (by simp [q.closed]) (by simp) (fun y => decide (y.1 = x.1[i].1)) (fun t _ w' q'' H k hk => c69 q'' (by simp [q.closed]) hk) ?_
  simp only [ifB_bool]
  by_cases n2 : (x.1.take i).any (fun y => decide (y.1 = x.1[i].1)) = true
  · rw [if_pos n2]; simpa [taskErr, n1, n2, -List.any_eq_true] using h
  rw [if_neg n2]
  simp only [taskErr, n1, n2, if_false, Bool.true_eq_false] at h
  simp only [fadrV_ptr, bd_some, Nat.zero_add, ldV_own g (off := 1) rfl, binV_lss, gdV_bool]
  by_cases n3 : x.1[i].2.1 < 1
  · simpa [n3] using h
  by_cases n4 : 1048576 < x.1[i].2.1
  · simpa [n3, n4, ldV_own g (off := 1) rfl] using h
  simp only [n3, n4, or_self, if_false] at h
  simp only [n3, decide_false, beq_self_eq_true, wpg_true, bd_some, ldV_own g (off := 1) rfl, binV_gtr, n4, gt_iff_lt, pickV_bool, Bool.false_eq_true, if_false, ifB_bool, ldV_own g (off := 2) rfl, binV_sneq, gdV_bool]
  by_cases n5 : x.1[i].2.2.1 = []
  · simp only [n5, ne_eq, not_true, false_and, if_false] at h
    simp only [n5, decide_true, Bool.not_true, show (false == true) = false from rfl, wpg_false, pickV_bool, Bool.false_eq_true, if_false, ifB_bool, bd_some, fadrV_ptr, Nat.zero_add, ldV_own g (off := 3) rfl, q.lens]
    rw [n5] at g
    exact lp_task h1.lens hi q g h ..
  simp only [n5, ne_eq, not_false_eq_true, true_and] at h
  simp only [n5, decide_false, Bool.not_false, beq_self_eq_true, wpg_true, ldV_own g (off := 2) rfl, bd_some, Bool.true_or, true_and]
  refine c67 tp.2 ?_
  by_cases n6 : okName x.1[i].2.2.1 = true
  case neg =>
    have n6 : okName x.1[i].2.2.1 = false := by simpa using n6
    simpa [n6] using h
  simp only [n6, Bool.true_eq_false, if_false] at h
  simp only [n6, unV_not, Bool.not_true, wpg_true, bd_some, pickV_bool, if_true, ifB_bool, Bool.false_eq_true, if_false, fadrV_ptr, Nat.zero_add, ldV_own g (off := 3) rfl, q.lens]
  exact lp_task h1.lens hi q g h ..

theorem lp_station {b : V} {l : List (List UInt8)} {w c0 x1 : V} (q : Arr 1 (Ty.R .str) w l) {HB : Heap} (g : HB[0]? = some (.cells [c0, w])) {H : Heap} {k : V → Heap → Prop}
    (h : k (.int .i64 (firstErr (tErr l) l.length)) H) :
    Lb58_0 (.ptr 0 0) w (.int .i64 l.length) (.int .i64 0) HB (blockQ 1 (seqQ G r58_1 (retQ i58 (hq 1 H k)))) := by
  unfold Lb58_0
  intros
  have hle : l.length ≤ 9223372036854775807 := q.le
  have tp := strs_top q
  refine ub58_0 l.length (fun j c3 c4 c5 c6 H => c3 = .ptr 0 0 ∧ c4 = w ∧ c5 = .int .i64 l.length ∧ c6 = .int .i64 j ∧ H = HB ∧ firstErr (tErr l) j = 0) ?_ 0 (Nat.zero_le _) (by simp [firstErr])
  rintro j hj _ _ _ _ _ ⟨rfl, rfl, rfl, rfl, rfl, he⟩
  intros
  rw [wb58_0]
  simp only [bd_some, binV_lss, ifB_bool, decide_eq_true_eq, Int.ofNat_lt]
  split
  · rename_i hlt
    obtain ⟨r, e⟩ := q.str1 hlt
    have d1 : l.getD j [] = l[j] := getD_of hlt []
    have stop : tErr l j ≠ 0 → firstErr (tErr l) l.length = tErr l j := fun hne => firstErr_stop he hne _ hlt
    simp only [e, bd_some, ldV_one, Bool.true_or, true_and]
    refine c67 (tp _ (List.getElem_mem hlt)) ?_
    simp only [unV_not, bd_some, ifB_bool]
    by_cases n1 : okName l[j] = true
    case neg =>
      have n1 : okName l[j] = false := by simpa using n1
      have : tErr l j = 11 := by rw [tErr, d1, if_pos n1]
      rw [stop (by rw [this]; decide), this] at h
      simpa [n1] using h
    cases j with
    | zero =>
      have : tErr l 0 = 0 := by rw [tErr, d1, if_neg (by simp [n1]), if_neg (by omega)]
      have w2 : IntKind.i64.wrap ((0 : Nat) + 1 : Int) = ((0 + 1 : Nat) : Int) := wrap_succ (by omega)
      have neg : ¬ (0 < ((0 : Nat) : Int)) := by omega
      simp only [n1, Bool.not_true, Bool.false_eq_true, if_false, gdV_bool, pickV_bool, binV_gtr, bd_some, gt_iff_lt, neg, decide_false, show (false == true) = false from rfl, wpg_false, ifB_bool, binV_add, w2, upQ_n, Sb58_0_eq, true_and]
      exact ⟨0 + 1, by omega, by omega, rfl, firstErr_next he this⟩
    | succ j =>
      obtain ⟨r', e'⟩ := q.str1 (show j < l.length by omega)
      have d2 : l.getD j [] = l[j] := getD_of (by omega) []
      have w1 : IntKind.i64.wrap ((j + 1 : Nat) - 1 : Int) = (j : Int) := by rw [wrap_i64] <;> omega
      have w2 : IntKind.i64.wrap ((j + 1 : Nat) + 1 : Int) = ((j + 1 + 1 : Nat) : Int) := wrap_succ (by omega)
      have pos : 0 < ((j + 1 : Nat) : Int) := by omega
      cases n4 : Op.bytesLess l[j] l[j + 1]
      · have : tErr l (j + 1) = 8 := by rw [tErr, d1, if_neg (by simp [n1]), if_pos ⟨by omega, by rw [Nat.add_sub_cancel, d2]; exact n4⟩]
        rw [stop (by rw [this]; decide), this] at h
        simp only [n1, Bool.not_true, Bool.false_eq_true, if_false, gdV_bool, pickV_bool, ifB_bool, binV_gtr, gt_iff_lt, pos, decide_true, beq_self_eq_true, wpg_true, bd_some, fadrV_ptr, Nat.zero_add, ldV_own g (off := 1) rfl, binV_sub, w1, e', ldV_one, binV_sgeq, n4, Bool.not_false, if_true]
        simpa using h
      · have : tErr l (j + 1) = 0 := by rw [tErr, d1, if_neg (by simp [n1]), if_neg (by rw [Nat.add_sub_cancel, d2, n4]; simp)]
        simp only [n1, Bool.not_true, Bool.false_eq_true, if_false, gdV_bool, pickV_bool, ifB_bool, binV_gtr, gt_iff_lt, pos, decide_true, beq_self_eq_true, wpg_true, bd_some, fadrV_ptr, Nat.zero_add, ldV_own g (off := 1) rfl, binV_sub, w1, e', ldV_one, binV_sgeq, n4, if_true, binV_add, w2, upQ_n, Sb58_0_eq, true_and]
        exact ⟨j + 1 + 1, by omega, by omega, rfl, firstErr_next he this⟩
  · rename_i hge
    have : j = l.length := by omega
    rw [← this, he] at h
    simpa [wr58_1] using h

theorem c58 {x : tShop.D} {v : V} (hx : tShop.V x v) {i : Nat} (hi : i < x.2.length) {H : Heap} {k : V → Heap → Prop} (h : k (.int .i64 (stationErr x.2 i x.2[i])) H) : Cl G 58 [v, .int .i64 i] H k := by
  obtain ⟨a, b, rfl, h1, h2⟩ := shop_v hx
  refine Cl.mode1 (F := i58) rfl rfl (by simp [h1.closed, h2.closed]) ?_
  rw [w58]
  obtain ⟨w, r, e, q⟩ := station_at h2 hi
  have tp := station_top h2 _ (List.getElem_mem hi)
  generalize hB : ([B.cells [.str x.2[i].1, w]] : Heap) = HB
  have g : HB[0]? = some (.cells [.str x.2[i].1, w]) := by rw [← hB]; rfl
  simp only [bxrV_agg, closedVs_cons, closedVs_nil, h1.closed, h2.closed, Bool.and_self, bd_some, fadrV_rptr, List.drop_zero, List.drop_succ_cons, ldV_one, e, ldV_s2, newB, true_and]
  rw [stV_new (by rfl) (by rfl)]
  simp only [List.nil_append, List.length_nil, hB, bd_some, fadrV_ptr, Nat.zero_add, ldV_own g (off := 0) rfl, Bool.true_or, true_and]
  refine c67 tp ?_
  simp only [unV_not, bd_some, ifB_bool]
  by_cases n1 : okName x.2[i].1 = true
  case neg =>
    have n1 : okName x.2[i].1 = false := by simpa using n1
    simpa [n1, stationErr] using h
  obtain ⟨v', e', q'⟩ := h2.slc_to hi
  simp only [n1, Bool.not_true, Bool.false_eq_true, if_false, fadrV_rptr, List.drop_zero, List.drop_succ_cons, bd_some, ldV_one, e', true_and, Bool.true_or]
  refine c70 (q'.sh _) (close_ptr (cs' := [.str x.2[i].1, w]) g (by simp [mapO, q.close])) (by simp [q.closed]) (by simp) (fun y => decide (y.1 = x.2[i].1)) (fun t _ w' q'' H k hk => c71 q'' (by simp [q.closed]) hk) ?_
  simp only [ifB_bool]
  by_cases n2 : (x.2.take i).any (fun y => decide (y.1 = x.2[i].1)) = true
  · rw [if_pos n2]; simpa [stationErr, n1, n2, -List.any_eq_true] using h
  rw [if_neg n2]
  simp only [stationErr, n1, n2, if_false, Bool.true_eq_false] at h
  simp only [fadrV_ptr, bd_some, Nat.zero_add, ldV_own g (off := 1) rfl, q.lens, binV_gtr, ifB_bool, gt_iff_lt, decide_eq_true_eq]
  by_cases n3 : 16 < x.2[i].2.length
  · have n3' : 16 < (x.2[i].2.length : Int) := by omega
    simpa [n3, n3'] using h
  have n3' : ¬ (16 < (x.2[i].2.length : Int)) := by omega
  simp only [n3, if_false] at h
  simp only [n3', if_false]
  exact lp_station (b := b) (x1 := b) q g h ..
end Go.Proofs.Ytoommmeapdkopaa.E
namespace Go.Proofs.Ytoommmeapdkopaa.E
open Go Go.Eng

theorem lpm_task {n : Nat} {a b : V} (hlen : lensV a = some (.int .i64 n)) {i : Nat} (hi : i < n) {l : List Int} {w c0 c1 c2 : V} (q : Arr 1 tI.R w l) {HB : Heap} (g : HB[0]? = some (.cells [c0, c1, c2, w])) {H : Heap} {k : V → Heap → Prop}
    (h : k (.int .i64 (firstErr (aErr n i l) l.length)) H) :
    Lb38_2 (.int .i64 i) (.rptr [a, b]) (.ptr 0 0) (.int .i64 0) HB (blockQ 3 (seqQ G r38_3 (retQ i38 (hq 1 H k)))) := by
  unfold Lb38_2
  intros
  have hle : l.length ≤ 9223372036854775807 := q.le
  refine ub38_2 l.length (fun j c1 c2 c3 c6 H => c1 = .int .i64 i ∧ c2 = .rptr [a, b] ∧ c3 = .ptr 0 0 ∧ c6 = .int .i64 j ∧ H = HB ∧ firstErr (aErr n i l) j = 0) ?_ 0 (Nat.zero_le _) (by simp [firstErr])
  rintro j hj _ _ _ _ _ ⟨rfl, rfl, rfl, rfl, rfl, he⟩
  intros
  rw [wb38_2]
  simp only [fadrV_ptr, Nat.zero_add, bd_some, ldV_own g (off := 3) rfl, q.lens, binV_lss, ifB_bool, decide_eq_true_eq, Int.ofNat_lt]
  split
  · rename_i hlt
    obtain ⟨r, e⟩ := q.int1 hlt
    have d1 : l.getD j 0 = l[j] := getD_of hlt 0
    have stop : aErr n i l j ≠ 0 → firstErr (aErr n i l) l.length = aErr n i l j := fun hne => firstErr_stop he hne _ hlt
    by_cases n1 : l[j] < 0
    · have : aErr n i l j = 2 := by rw [aErr, d1, if_pos (.inl n1)]
      rw [stop (by rw [this]; decide), this] at h
      simpa [e, n1] using h
    by_cases n2 : (n : Int) ≤ l[j]
    · have : aErr n i l j = 2 := by rw [aErr, d1, if_pos (.inr n2)]
      rw [stop (by rw [this]; decide), this] at h
      simpa [e, n1, n2, hlen, ldV_own g (off := 3) rfl] using h
    by_cases n3 : l[j] = (i : Int)
    · have : aErr n i l j = 17 := by rw [aErr, d1, if_neg (by omega), if_pos n3]
      rw [stop (by rw [this]; decide), this] at h
      have n2' : ¬ ((n : Int) ≤ (i : Int)) := by omega
      have n1' : ¬ ((i : Int) < 0) := by omega
      simpa [e, n1', n2', n3, hlen, ldV_own g (off := 3) rfl] using h
    cases j with
    | zero =>
      have : aErr n i l 0 = 0 := by rw [aErr, d1, if_neg (by omega), if_neg n3, if_neg (by omega)]
      have w2 : IntKind.i64.wrap ((0 : Nat) + 1 : Int) = ((0 + 1 : Nat) : Int) := wrap_succ (by omega)
      have neg : ¬ (0 < ((0 : Nat) : Int)) := by omega
      simp only [e, bd_some, ldV_one, binV_lss, n1, decide_false, gdV_bool, beq_self_eq_true, wpg_true, fadrV_rptr, fadrV_ptr, Nat.zero_add, ldV_own g (off := 3) rfl, List.drop_zero, hlen, binV_geq, ge_iff_le, n2, pickV_bool, Bool.false_eq_true, if_false, ifB_bool, binV_eql, n3, binV_gtr, gt_iff_lt, neg, show (false == true) = false from rfl, wpg_false, binV_add, w2, upQ_n, Sb38_2_eq, true_and]
      exact ⟨0 + 1, by omega, by omega, rfl, firstErr_next he this⟩
    | succ j =>
      obtain ⟨r', e'⟩ := q.int1 (show j < l.length by omega)
      have d2 : l.getD j 0 = l[j] := getD_of (by omega) 0
      have w1 : IntKind.i64.wrap ((j + 1 : Nat) - 1 : Int) = (j : Int) := by rw [wrap_i64] <;> omega
      have w2 : IntKind.i64.wrap ((j + 1 : Nat) + 1 : Int) = ((j + 1 + 1 : Nat) : Int) := wrap_succ (by omega)
      have pos : 0 < ((j + 1 : Nat) : Int) := by omega
      by_cases n4 : l[j + 1] ≤ l[j]
      · have : aErr n i l (j + 1) = 8 := by rw [aErr, d1, if_neg (by omega), if_neg n3, if_pos ⟨by omega, by rw [Nat.add_sub_cancel, d2]; exact n4⟩]
        rw [stop (by rw [this]; decide), this] at h
        simp only [e, bd_some, ldV_one, binV_lss, binV_leq, n1, decide_false, gdV_bool, beq_self_eq_true, wpg_true, fadrV_rptr, List.drop_zero, hlen, binV_geq, ge_iff_le, n2, pickV_bool, Bool.false_eq_true, if_false, ifB_bool, binV_eql, n3, binV_gtr, gt_iff_lt, pos, decide_true, fadrV_ptr, Nat.zero_add, ldV_own g (off := 3) rfl, binV_sub, w1, e', n4, if_true]
        simpa using h
      · have : aErr n i l (j + 1) = 0 := by rw [aErr, d1, if_neg (by omega), if_neg n3, if_neg (by rw [Nat.add_sub_cancel, d2]; exact fun h => n4 h.2)]
        simp only [e, bd_some, ldV_one, binV_lss, binV_leq, n1, decide_false, gdV_bool, beq_self_eq_true, wpg_true, fadrV_rptr, List.drop_zero, hlen, binV_geq, ge_iff_le, n2, pickV_bool, Bool.false_eq_true, if_false, ifB_bool, binV_eql, n3, binV_gtr, gt_iff_lt, pos, decide_true, fadrV_ptr, Nat.zero_add, ldV_own g (off := 3) rfl, binV_sub, w1, e', n4, if_true, binV_add, w2, upQ_n, Sb38_2_eq, true_and]
        exact ⟨j + 1 + 1, by omega, by omega, rfl, firstErr_next he this⟩
  · rename_i hge
    have : j = l.length := by omega
    rw [← this, he] at h
    simpa [wr38_3] using h

theorem c38 {x : tShop.D} {v : V} (hx : tShop.V x v) {i : Nat} (hi : i < x.1.length) {H : Heap} {k : V → Heap → Prop} (h : k (.int .i64 (taskErr x.1 i x.1[i])) H) : Cl G 38 [v, .int .i64 i] H k := by
  obtain ⟨a, b, rfl, h1, h2⟩ := shop_v hx
  refine Cl.mode1 (F := i38) rfl rfl (by simp [h1.closed, h2.closed]) ?_
  rw [w38]
  obtain ⟨w, r, e, q⟩ := task_at h1 hi
  have tp := task_top h1 _ (List.getElem_mem hi)
  have hle : x.1.length ≤ 9223372036854775807 := h1.le
  generalize hB : ([B.cells [.str x.1[i].1, .int .i64 x.1[i].2.1, .str x.1[i].2.2.1, w]] : Heap) = HB
  have g : HB[0]? = some (.cells [.str x.1[i].1, .int .i64 x.1[i].2.1, .str x.1[i].2.2.1, w]) := by rw [← hB]; rfl
  simp only [bxrV_agg, closedVs_cons, closedVs_nil, h1.closed, h2.closed, Bool.and_self, bd_some, fadrV_rptr, List.drop_zero, ldV_one, e, ldV_s4, newB, true_and]
  rw [stV_new (by rfl) (by rfl)]
  simp only [List.nil_append, List.length_nil, hB, bd_some, fadrV_ptr, Nat.zero_add, ldV_own g (off := 0) rfl, Bool.true_or, true_and]
  refine c59 tp.1 ?_
  simp only [unV_not, bd_some, ifB_bool]
  by_cases n1 : okName x.1[i].1 = true
  case neg =>
    have n1 : okName x.1[i].1 = false := by simpa using n1
    simpa [n1, taskErr] using h
  simp only [n1, Bool.not_true, Bool.false_eq_true, if_false]
  refine ub38_0 i (fun j c1 c2 c3 c6 H => c1 = .int .i64 i ∧ c2 = .rptr [a, b] ∧ c3 = .ptr 0 0 ∧ c6 = .int .i64 j ∧ H = HB ∧ ((x.1.take i).take j).any (fun y => decide (y.1 = x.1[i].1)) = false) ?_ 0 (Nat.zero_le _) (by simp)
  rintro j hj _ _ _ _ _ ⟨rfl, rfl, rfl, rfl, rfl, he⟩
  intros
  rw [wb38_0]
  simp only [bd_some, binV_lss, ifB_bool, decide_eq_true_eq, Int.ofNat_lt]
  split
  · rename_i hlt
    obtain ⟨w', r', e', q'⟩ := task_at h1 (show j < x.1.length by omega)
    have hlt' : j < (x.1.take i).length := by simp; omega
    simp only [fadrV_rptr, fadrV_ptr, Nat.zero_add, List.drop_zero, bd_some, ldV_one, e', ldV_own g (off := 0) rfl, binV_seql, ifB_bool]
    by_cases n2 : x.1[j].1 = x.1[i].1
    · have : (x.1.take i).any (fun y => decide (y.1 = x.1[i].1)) = true := List.any_eq_true.2 ⟨x.1[j], by rw [← List.getElem_take (h := hlt')]; exact List.getElem_mem hlt', by simpa using n2⟩
      simpa [n2, taskErr, n1, this, -List.any_eq_true] using h
    · simp only [n2, decide_false, Bool.false_eq_true, if_false, binV_add, bd_some, wrap_succ (show j + 1 ≤ 9223372036854775807 by omega), upQ_n, Sb38_0_eq, true_and]
      exact ⟨j + 1, by omega, by omega, rfl, by rw [any_take_succ hlt', he, List.getElem_take]; simpa using n2⟩
  rename_i hge
  have : j = i := by omega
  subst this
  rw [List.take_take, Nat.min_self] at he
  simp only [taskErr, n1, he, if_false, Bool.true_eq_false, Bool.false_eq_true] at h
  simp only [upQ_e, blockQ_e, if_true, seqQ_n, wr38_1]
  simp only [fadrV_ptr, bd_some, Nat.zero_add, ldV_own g (off := 1) rfl, binV_lss, gdV_bool]
  by_cases n3 : x.1[j].2.1 < 1
  · simpa [n3] using h
  by_cases n4 : 1048576 < x.1[j].2.1
  · simpa [n3, n4, ldV_own g (off := 1) rfl] using h
  simp only [n3, n4, or_self, if_false] at h
  simp only [n3, decide_false, beq_self_eq_true, wpg_true, bd_some, ldV_own g (off := 1) rfl, binV_gtr, n4, gt_iff_lt, pickV_bool, Bool.false_eq_true, if_false, ifB_bool, ldV_own g (off := 2) rfl, binV_sneq, gdV_bool]
  by_cases n5 : x.1[j].2.2.1 = []
  · simp only [n5, ne_eq, not_true, false_and, if_false] at h
    simp only [n5, decide_true, Bool.not_true, show (false == true) = false from rfl, wpg_false, pickV_bool, Bool.false_eq_true, if_false, ifB_bool, bd_some, fadrV_ptr, Nat.zero_add]
    exact lpm_task h1.lens hi q g h ..
  simp only [n5, ne_eq, not_false_eq_true, true_and] at h
  simp only [n5, decide_false, Bool.not_false, beq_self_eq_true, wpg_true, ldV_own g (off := 2) rfl, bd_some, Bool.true_or, true_and]
  refine c59 tp.2 ?_
  by_cases n6 : okName x.1[j].2.2.1 = true
  case neg =>
    have n6 : okName x.1[j].2.2.1 = false := by simpa using n6
    simpa [n6] using h
  simp only [n6, Bool.true_eq_false, if_false] at h
  simp only [n6, unV_not, Bool.not_true, wpg_true, bd_some, pickV_bool, if_true, ifB_bool, Bool.false_eq_true, if_false]
  exact lpm_task h1.lens hi q g h ..

theorem lpm_station {l : List (List UInt8)} {w c0 : V} (q : Arr 1 (Ty.R .str) w l) {HB : Heap} (g : HB[0]? = some (.cells [c0, w])) {H : Heap} {k : V → Heap → Prop}
    (h : k (.int .i64 (firstErr (tErr l) l.length)) H) :
    Lb41_2 (.ptr 0 0) (.int .i64 0) HB (blockQ 2 (seqQ G r41_3 (retQ i41 (hq 1 H k)))) := by
  unfold Lb41_2
  intros
  have hle : l.length ≤ 9223372036854775807 := q.le
  have tp := strs_top q
  refine ub41_2 l.length (fun j c3 c6 H => c3 = .ptr 0 0 ∧ c6 = .int .i64 j ∧ H = HB ∧ firstErr (tErr l) j = 0) ?_ 0 (Nat.zero_le _) (by simp [firstErr])
  rintro j hj _ _ _ ⟨rfl, rfl, rfl, he⟩
  intros
  rw [wb41_2]
  simp only [fadrV_ptr, Nat.zero_add, ldV_own g (off := 1) rfl, q.lens, bd_some, binV_lss, ifB_bool, decide_eq_true_eq, Int.ofNat_lt]
  split
  · rename_i hlt
    obtain ⟨r, e⟩ := q.str1 hlt
    have d1 : l.getD j [] = l[j] := getD_of hlt []
    have stop : tErr l j ≠ 0 → firstErr (tErr l) l.length = tErr l j := fun hne => firstErr_stop he hne _ hlt
    simp only [e, bd_some, ldV_one, Bool.true_or, true_and]
    refine c59 (tp _ (List.getElem_mem hlt)) ?_
    simp only [unV_not, bd_some, ifB_bool]
    by_cases n1 : okName l[j] = true
    case neg =>
      have n1 : okName l[j] = false := by simpa using n1
      have : tErr l j = 11 := by rw [tErr, d1, if_pos n1]
      rw [stop (by rw [this]; decide), this] at h
      simpa [n1] using h
    cases j with
    | zero =>
      have : tErr l 0 = 0 := by rw [tErr, d1, if_neg (by simp [n1]), if_neg (by omega)]
      have w2 : IntKind.i64.wrap ((0 : Nat) + 1 : Int) = ((0 + 1 : Nat) : Int) := wrap_succ (by omega)
      have neg : ¬ (0 < ((0 : Nat) : Int)) := by omega
      simp only [n1, Bool.not_true, Bool.false_eq_true, if_false, gdV_bool, pickV_bool, binV_gtr, bd_some, gt_iff_lt, neg, decide_false, show (false == true) = false from rfl, wpg_false, ifB_bool, binV_add, w2, upQ_n, Sb41_2_eq, true_and]
      exact ⟨0 + 1, by omega, by omega, rfl, firstErr_next he this⟩
    | succ j =>
      obtain ⟨r', e'⟩ := q.str1 (show j < l.length by omega)
      have d2 : l.getD j [] = l[j] := getD_of (by omega) []
      have w1 : IntKind.i64.wrap ((j + 1 : Nat) - 1 : Int) = (j : Int) := by rw [wrap_i64] <;> omega
      have w2 : IntKind.i64.wrap ((j + 1 : Nat) + 1 : Int) = ((j + 1 + 1 : Nat) : Int) := wrap_succ (by omega)
      have pos : 0 < ((j + 1 : Nat) : Int) := by omega
      cases n4 : Op.bytesLess l[j] l[j + 1]
      · have : tErr l (j + 1) = 8 := by rw [tErr, d1, if_neg (by simp [n1]), if_pos ⟨by omega, by rw [Nat.add_sub_cancel, d2]; exact n4⟩]
        rw [stop (by rw [this]; decide), this] at h
        simp only [n1, Bool.not_true, Bool.false_eq_true, if_false, gdV_bool, pickV_bool, ifB_bool, binV_gtr, gt_iff_lt, pos, decide_true, beq_self_eq_true, wpg_true, bd_some, fadrV_ptr, Nat.zero_add, ldV_own g (off := 1) rfl, binV_sub, w1, e, e', ldV_one, binV_sleq, n4, Bool.not_false, if_true]
        simpa using h
      · have : tErr l (j + 1) = 0 := by rw [tErr, d1, if_neg (by simp [n1]), if_neg (by rw [Nat.add_sub_cancel, d2, n4]; simp)]
        simp only [n1, Bool.not_true, Bool.false_eq_true, if_false, gdV_bool, pickV_bool, ifB_bool, binV_gtr, gt_iff_lt, pos, decide_true, beq_self_eq_true, wpg_true, bd_some, fadrV_ptr, Nat.zero_add, ldV_own g (off := 1) rfl, binV_sub, w1, e, e', ldV_one, binV_sleq, n4, if_true, binV_add, w2, upQ_n, Sb41_2_eq, true_and]
        exact ⟨j + 1 + 1, by omega, by omega, rfl, firstErr_next he this⟩
  · rename_i hge
    have : j = l.length := by omega
    rw [← this, he] at h
    simpa [wr41_3] using h

theorem c41 {x : tShop.D} {v : V} (hx : tShop.V x v) {i : Nat} (hi : i < x.2.length) {H : Heap} {k : V → Heap → Prop} (h : k (.int .i64 (stationErr x.2 i x.2[i])) H) : Cl G 41 [v, .int .i64 i] H k := by
  obtain ⟨a, b, rfl, h1, h2⟩ := shop_v hx
  refine Cl.mode1 (F := i41) rfl rfl (by simp [h1.closed, h2.closed]) ?_
  rw [w41]
  obtain ⟨w, r, e, q⟩ := station_at h2 hi
  have tp := station_top h2 _ (List.getElem_mem hi)
  have hle : x.2.length ≤ 9223372036854775807 := h2.le
  generalize hB : ([B.cells [.str x.2[i].1, w]] : Heap) = HB
  have g : HB[0]? = some (.cells [.str x.2[i].1, w]) := by rw [← hB]; rfl
  simp only [bxrV_agg, closedVs_cons, closedVs_nil, h1.closed, h2.closed, Bool.and_self, bd_some, fadrV_rptr, List.drop_zero, List.drop_succ_cons, ldV_one, e, ldV_s2, newB, true_and]
  rw [stV_new (by rfl) (by rfl)]
  simp only [List.nil_append, List.length_nil, hB, bd_some, fadrV_ptr, Nat.zero_add, ldV_own g (off := 0) rfl, Bool.true_or, true_and]
  refine c59 tp ?_
  simp only [unV_not, bd_some, ifB_bool]
  by_cases n1 : okName x.2[i].1 = true
  case neg =>
    have n1 : okName x.2[i].1 = false := by simpa using n1
    simpa [n1, stationErr] using h
  simp only [n1, Bool.not_true, Bool.false_eq_true, if_false]
  refine ub41_0 i (fun j c1 c2 c3 c6 H => c1 = .int .i64 i ∧ c2 = .rptr [a, b] ∧ c3 = .ptr 0 0 ∧ c6 = .int .i64 j ∧ H = HB ∧ ((x.2.take i).take j).any (fun y => decide (y.1 = x.2[i].1)) = false) ?_ 0 (Nat.zero_le _) (by simp)
  rintro j hj _ _ _ _ _ ⟨rfl, rfl, rfl, rfl, rfl, he⟩
  intros
  rw [wb41_0]
  simp only [bd_some, binV_lss, ifB_bool, decide_eq_true_eq, Int.ofNat_lt]
  split
  · rename_i hlt
    obtain ⟨w', r', e', q'⟩ := station_at h2 (show j < x.2.length by omega)
    have hlt' : j < (x.2.take i).length := by simp; omega
    simp only [fadrV_rptr, fadrV_ptr, Nat.zero_add, List.drop_zero, List.drop_succ_cons, bd_some, ldV_one, e', ldV_own g (off := 0) rfl, binV_seql, ifB_bool]
    by_cases n2 : x.2[j].1 = x.2[i].1
    · have : (x.2.take i).any (fun y => decide (y.1 = x.2[i].1)) = true := List.any_eq_true.2 ⟨x.2[j], by rw [← List.getElem_take (h := hlt')]; exact List.getElem_mem hlt', by simpa using n2⟩
      simpa [n2, stationErr, n1, this, -List.any_eq_true] using h
    · simp only [n2, decide_false, Bool.false_eq_true, if_false, binV_add, bd_some, wrap_succ (show j + 1 ≤ 9223372036854775807 by omega), upQ_n, Sb41_0_eq, true_and]
      exact ⟨j + 1, by omega, by omega, rfl, by rw [any_take_succ hlt', he, List.getElem_take]; simpa using n2⟩
  rename_i hge
  have : j = i := by omega
  subst this
  rw [List.take_take, Nat.min_self] at he
  simp only [stationErr, n1, he, if_false, Bool.true_eq_false, Bool.false_eq_true] at h
  simp only [upQ_e, blockQ_e, if_true, seqQ_n, wr41_1]
  simp only [fadrV_ptr, bd_some, Nat.zero_add, ldV_own g (off := 1) rfl, q.lens, binV_gtr, ifB_bool, gt_iff_lt, decide_eq_true_eq]
  by_cases n3 : 16 < x.2[j].2.length
  · have n3' : 16 < (x.2[j].2.length : Int) := by omega
    simpa [n3, n3'] using h
  have n3' : ¬ (16 < (x.2[j].2.length : Int)) := by omega
  simp only [n3, if_false] at h
  simp only [n3', if_false]
  exact lpm_station q g h ..
end Go.Proofs.Ytoommmeapdkopaa.E
namespace Go.Proofs.Ytoommmeapdkopaa.E
open Go Go.Eng

def hasTool (s : tStation.D) (t : List UInt8) : Bool := s.2.any (fun y => decide (y = t)) || decide (t = [])
def ableL (S : List tStation.D) (t : List UInt8) : List Nat := (List.range S.length).filter fun k => match S[k]? with | some s => hasTool s t | none => false
def ofN (l : List Nat) : List Int := l.map Int.ofNat
@[simp] theorem ofN_nil : ofN [] = [] := rfl
@[simp] theorem ofN_app (a b : List Nat) : ofN (a ++ b) = ofN a ++ ofN b := by simp [ofN]
@[simp] theorem ofN_one (a : Nat) : ofN [a] = [(a : Int)] := rfl
@[simp] theorem ofN_len (a : List Nat) : (ofN a).length = a.length := by simp [ofN]
theorem mem_ofN {x : Int} {l : List Nat} : x ∈ ofN l ↔ ∃ a ∈ l, (a : Int) = x := by simp [ofN]

theorem c55 {s : tStation.D} {w : V} (q : Arr 1 (Ty.R .str) w s.2) {t : List UInt8} {H : Heap} {k : V → Heap → Prop} (h : k (.bool (hasTool s t)) H) : Cl G 55 [.agg [.str s.1, w], .str t] H k := by
  refine Cl.mode1 (F := i55) rfl rfl (by simp [q.closed]) ?_
  rw [w55]
  have hle : s.2.length ≤ 9223372036854775807 := q.le
  simp only [bxrV_agg, closedVs_cons, closedVs_nil, q.closed, closedV_str, Bool.and_self, bd_some]
  refine ub55_0 s.2.length (fun i a b c _ => a = .str t ∧ b = .rptr [.str s.1, w] ∧ c = .int .i64 i ∧ (s.2.take i).any (fun y => decide (y = t)) = false) ?_ 0 (Nat.zero_le _) (by simp)
  rintro i hi _ _ _ _ ⟨rfl, rfl, rfl, he⟩
  intros
  rw [wb55_0]
  simp only [fadrV_rptr, List.drop_succ_cons, List.drop_zero, ldV_one, q.lens, bd_some, binV_lss, ifB_bool, decide_eq_true_eq, Int.ofNat_lt]
  split
  · rename_i hlt
    obtain ⟨r, e⟩ := q.str1 hlt
    simp only [e, bd_some, ldV_one, binV_seql, ifB_bool, decide_eq_true_eq]
    split
    · rename_i hp
      have : s.2.any (fun y => decide (y = t)) = true := List.any_eq_true.2 ⟨_, List.getElem_mem hlt, by simpa using hp⟩
      simpa [hasTool, this, -List.any_eq_true] using h
    · rename_i hp
      simp only [binV_add, bd_some, wrap_succ (show i + 1 ≤ 9223372036854775807 by omega), upQ_n, Sb55_0_eq, true_and]
      exact ⟨i + 1, by omega, by omega, rfl, by rw [any_take_succ hlt, he]; simpa using hp⟩
  · rename_i hge
    rw [take_all hge] at he
    simpa [wr55_1, hasTool, he, -List.any_eq_false] using h

theorem ofN_rng {l : List Nat} {n : Nat} (hl : ∀ a ∈ l, a ≤ n) (hn : n ≤ 9223372036854775807) : ∀ x ∈ ofN l, IntKind.i64.min ≤ x ∧ x ≤ IntKind.i64.max := by
  intro x hx
  obtain ⟨a, ha, rfl⟩ := mem_ofN.1 hx
  have := hl a ha
  exact i64_mm (by omega) (by omega)

theorem ableL_le {S : List tStation.D} {t : List UInt8} : ∀ a ∈ ableL S t, a < S.length := fun a ha => by simpa using (List.mem_filter.1 ha).1
theorem filter_range_len {p : Nat → Bool} {n : Nat} : ((List.range n).filter p).length ≤ n := by
  have := List.length_filter_le p (List.range n); simpa using this

theorem c24 {x : tShop.D} {v : V} (hx : tShop.V x v) (hf : x.2.length ≤ 1000) {i : Nat} (hi : i < x.1.length) {H : Heap} {k : V → Heap → Prop} (h : ∀ r, Arr 1 tI.R r (ofN (ableL x.2 x.1[i].2.2.1)) → k r H) : Cl G 24 [v, .int .i64 i] H k := by
  obtain ⟨a, b, rfl, h1, h2⟩ := shop_v hx
  refine Cl.mode1 (F := i24) rfl rfl (by simp [h1.closed, h2.closed]) ?_
  rw [w24]
  obtain ⟨w, r, e, q⟩ := task_at h1 hi
  simp only [bxrV_agg, closedVs_cons, closedVs_nil, h1.closed, h2.closed, Bool.and_self, bd_some]
  let p : Nat → Bool := fun k => match x.2[k]? with | some s => hasTool s x.1[i].2.2.1 | none => false
  refine ub24_0 x.2.length (fun j c1 c2 c3 c4 H => c1 = .int .i64 i ∧ c2 = .rptr [a, b] ∧ c4 = .int .i64 j ∧ Gr 1 [] H c3 ((ofN ((List.range j).filter p)).map (V.int .i64)) (ofN ((List.range j).filter p)).length) ?_ 0 (Nat.zero_le _) ⟨rfl, rfl, rfl, by simpa using Gr.nil (k := 1) (F := [])⟩
  rintro j hj _ _ c3 _ H1 ⟨rfl, rfl, rfl, hg⟩
  intros
  rw [wb24_0]
  simp only [fadrV_rptr, List.drop_succ_cons, List.drop_zero, ldV_one, h2.lens, bd_some, binV_lss, ifB_bool, decide_eq_true_eq, Int.ofNat_lt]
  split
  · rename_i hlt
    obtain ⟨u, r2, e2, q2⟩ := station_at h2 hlt
    simp only [e2, e, bd_some, ldV_s2, ldV_one, fadrV_rptr, List.drop_succ_cons, List.drop_zero, Bool.true_or, true_and]
    refine c55 q2 ?_
    have hp : p j = hasTool x.2[j] x.1[i].2.2.1 := by simp only [p, List.getElem?_eq_getElem hlt]
    simp only [ifB_bool]
    split
    · rename_i ht
      simp only [bslV_one (show oneC (.int .i64 j) = true from rfl), bd2_some]
      have hlen : (ofN ((List.range j).filter p)).length ≤ j := by simpa using filter_range_len (p := p) (n := j)
      obtain ⟨v', H', g1, g2⟩ := hg.push (xs := [.int .i64 j]) rfl (by omega) (bytes := 8) (by unfold room; omega)
      simp only [g1, bd2_some, wr24_1, binV_add, bd_some, wrap_succ (show j + 1 ≤ 9223372036854775807 by omega), upQ_n, Sb24_0_eq, true_and]
      refine ⟨j + 1, by omega, by omega, rfl, ?_⟩
      have : (List.range (j + 1)).filter p = (List.range j).filter p ++ [j] := by rw [List.range_succ, List.filter_append]; simp [hp, ht]
      rw [this]
      simpa using g2
    · rename_i ht
      simp only [wr24_1, binV_add, bd_some, wrap_succ (show j + 1 ≤ 9223372036854775807 by omega), upQ_n, Sb24_0_eq, true_and]
      refine ⟨j + 1, by omega, by omega, rfl, ?_⟩
      have : (List.range (j + 1)).filter p = (List.range j).filter p := by rw [List.range_succ, List.filter_append]; simp [hp, ht]
      rw [this]
      exact hg
  · rename_i hge
    have : j = x.2.length := by omega
    subst this
    simp only [upQ_e, blockQ_e, if_true, seqQ_n, wr24_2, ret24]
    have hlen : (ofN ((List.range x.2.length).filter p)).length ≤ x.2.length := by simpa using filter_range_len (p := p) (n := x.2.length)
    obtain ⟨v', g1, g2⟩ := hg.sh (by unfold top; omega) (ofN_rng (n := x.2.length) (fun a ha => by have := (List.mem_filter.1 ha).1; simp at this; omega) (by omega))
    exact hq_some g1 (h v' g2)
end Go.Proofs.Ytoommmeapdkopaa.E
namespace Go.Proofs.Ytoommmeapdkopaa.E
open Go Go.Eng

def aft (T : List tTask.D) (i : Nat) : List Int := match T[i]? with | some t => t.2.2.2 | none => []
theorem aft_of {T : List tTask.D} {i : Nat} (h : i < T.length) : aft T i = T[i].2.2.2 := by simp [aft, h]
def rdT (T : List tTask.D) (D : List Nat) (i : Nat) : Bool := !decide (i ∈ D) && !(aft T i).any fun a => !decide (a.toNat ∈ D)
def orderL (T : List tTask.D) : List Nat := greedy T.length (rdT T) T.length []
def inRange (T : List tTask.D) : Prop := ∀ i, i < T.length → ∀ a ∈ aft T i, 0 ≤ a ∧ a < T.length

theorem c66 {n : Nat} {D : List Nat} {a : Int} (h0 : 0 ≤ a) (h1 : a < n) {H : Heap} {k : V → Heap → Prop} (h : k (.bool (!decide (a.toNat ∈ D))) H) : Cl G 66 [.int .i64 a, .rptr [.ro ((flags n D).map V.bool) n]] H k := by
  refine Cl.mode1 (F := i66) rfl rfl (by simp) ?_
  rw [w66]
  have e : iadrV 1 (.ro ((flags n D).map V.bool) n) (.int .i64 a) = some (.rptr (((flags n D).map V.bool).drop a.toNat)) := by simp [iadrV, h0, h1]
  have hlt : a.toNat < ((flags n D).map V.bool).length := by simp; omega
  have e2 : ((flags n D).map V.bool).drop a.toNat = .bool (decide (a.toNat ∈ D)) :: ((flags n D).map V.bool).drop (a.toNat + 1) := by
    rw [List.drop_eq_getElem_cons hlt]
    simp [flags]
  simp only [ldV_one, bd_some, e, e2, unV_not, hq_bool]
  exact h

def FO (n : Nat) (D : List Nat) : Heap := [.cells ((flags n D).map V.bool), .cells [.sl 0 0 n n 1]]

theorem order_closes {n : Nat} {D : List Nat} {H : Heap} (g0 : H[0]? = some (.cells ((flags n D).map V.bool))) (g1 : H[1]? = some (.cells [.sl 0 0 n n 1])) : closeV H closeDepth (.fn 66 [.ptr 1 0]) = some (.fn 66 [.rptr [.ro ((flags n D).map V.bool) n]]) := by
  refine close_ptr g1 ?_
  have e : closeV H (9 + 1) (.sl 0 0 n n 1) = some (.ro ((flags n D).map V.bool) n) := by
    rw [closeV_sl g0 (by simp)]
    have : List.take (n * 1) (List.drop 0 ((flags n D).map V.bool)) = (flags n D).map V.bool := by
      rw [List.drop_zero]; exact List.take_of_length_le (by simp)
    rw [this, mapO_bools (d := 8)]
    rfl
  simp only [List.drop_zero, mapO, e, Option.bind_some, Option.map_some]

theorem c56 {x : tShop.D} {v : V} (hx : tShop.V x v) (hn : x.1.length ≤ 1000) (hr : inRange x.1) {H : Heap} {k : V → Heap → Prop} (h : ∀ r H', Gr 1 H H' r ((ofN (orderL x.1)).map (V.int .i64)) (orderL x.1).length → k r H') : Cl G 56 [v] H k := by
  obtain ⟨a, b, rfl, h1, h2⟩ := shop_v hx
  refine Cl.mode2 (F := i56) rfl rfl (by simp [h1.closed, h2.closed]) ?_
  rw [w56]
  obtain ⟨T, S⟩ := x
  simp only at hn hr h h1 h2
  cases hT : T.length with
  | zero =>
    have hT' : T = [] := List.length_eq_zero_iff.1 hT
    subst hT'
    have hl : lensV a = some (.int .i64 0) := h1.lens
    simp only [bxrV_agg, closedVs_cons, closedVs_nil, h1.closed, h2.closed, Bool.and_self, bd_some, fadrV_rptr, List.drop_zero, ldV_one, hl, mksV, Int.le_refl, true_and, newB]
    simp [room, stV, wrt, cellsV, notTup, ovl]
    apply Lp.step
    rw [wb56_0]
    apply Lp.step
    rw [wb56_1]
    simp [ldV, rd, packV, lensV]
    simp [wr56_2, ldV, rd, packV, lensV]
    refine hq2_gr (k := 1) (F := []) (cs := []) (n := 0) ⟨by simp, by simp, by simp, .inl ⟨rfl, rfl⟩⟩ (fun H => rfl) (fun v' H' hg => h v' H' ?_)
    simpa [orderL, greedy] using hg
  | succ m =>
    have hpos : 0 < T.length := by omega
    clear hT
    have e0 : mksV 1 1 [.bool false] [] (.int .i64 T.length) (.int .i64 T.length) = some (.sl 0 0 T.length T.length 1, [.cells ((flags T.length []).map V.bool)]) := by
      have : ¬ ((T.length : Int) = 0) := by omega
      have r : (T.length : Int) * (1 : Nat) ≤ (room : Int) := by unfold room; omega
      simp only [mksV, this, if_false, Int.le_refl, true_and, and_self, List.length_nil, List.nil_append, Int.toNat_natCast]
      rw [if_pos ⟨by omega, r⟩, rep_one, flags_nil]
      simp
    simp only [bxrV_agg, closedVs_cons, closedVs_nil, h1.closed, h2.closed, Bool.and_self, bd_some, fadrV_rptr, List.drop_zero, ldV_one, h1.lens, e0, bd2_some, newB, List.length_singleton, true_and]
    rw [show stV ([B.cells ((flags T.length []).map V.bool)] ++ [B.cells [V.nils]]) 1 (.ptr 1 0) (.sl 0 0 T.length T.length 1) = some (FO T.length []) by simp [stV, cellsV, notTup, wrt, ovl, FO]]
    simp only [bd_some]
    refine ub56_0 T.length (fun i c1 c3 c4 H => c1 = .rptr [a, b] ∧ c3 = .ptr 1 0 ∧ ∃ D : List Nat, D.length = i ∧ D.Nodup ∧ (∀ d ∈ D, d < T.length) ∧ greedy T.length (rdT T) (T.length - i) D = orderL T ∧ Gr 1 (FO T.length D) H c4 ((ofN D).map (V.int .i64)) D.length) ?_ 0 (Nat.zero_le _)
      ⟨rfl, rfl, [], rfl, by simp, by simp, rfl, by simpa using Gr.nil (k := 1) (F := FO T.length [])⟩
    rintro i hi _ _ out H1 ⟨rfl, rfl, D, hD, nd, dl, hgr, hg⟩
    intros
    rw [wb56_0]
    have g0 : H1[0]? = some (.cells ((flags T.length D).map V.bool)) := hg.get rfl
    have g1 : H1[1]? = some (.cells [.sl 0 0 T.length T.length 1]) := hg.get rfl
    refine ub56_1 T.length (fun j c1 c3 c4 c5 H => c1 = .rptr [a, b] ∧ c3 = .ptr 1 0 ∧ out = c4 ∧ c5 = .int .i64 j ∧ H1 = H ∧ ∀ l, l < j → rdT T D l = false) ?_ 0 (Nat.zero_le _) (by simp)
    rintro j hj _ _ _ _ _ ⟨rfl, rfl, rfl, rfl, rfl, hno⟩
    intros
    rw [wb56_1]
    simp only [ldV_own g1 (off := 0) rfl, bd_some, lensV, binV_lss, gdV_bool]
    by_cases hlt : j < T.length
    case neg =>
      have e : j = T.length := by omega
      subst e
      have hnone : (List.range T.length).find? (rdT T D) = none := find_range_none hno
      have hend : orderL T = D := by
        rw [← hgr]
        cases hf : T.length - i with
        | zero => rfl
        | succ f => simp only [greedy, hnone]
      simp [wr56_2, ldV_own g1 (off := 0) rfl, lensV]
      refine hq2_gr hg (fun H => mapO_ints _) (fun v' H' hg' => h v' H' ?_)
      rw [hend]
      exact hg'
    have hlt' : (j : Int) < (T.length : Int) := by omega
    have i0 : iadrV 1 (.sl 0 0 T.length T.length 1) (.int .i64 j) = some (.ptr 0 j) := by simp [iadrV, hlt]
    have l0 : ldV H1 (.ptr 0 j) 1 false = some (.bool (decide (j ∈ D))) := ldV_own g0 (by simp [flags_get hlt])
    obtain ⟨w, r, e, q⟩ := task_at h1 hlt
    have push : rdT T D j = true → ∀ (hrd : rdT T D j = true), D.length < T.length ∧ greedy T.length (rdT T) (T.length - (i + 1)) (D ++ [j]) = orderL T := by
      intro _ hrd
      have hnot : j ∉ D := by simp only [rdT, Bool.and_eq_true, Bool.not_eq_true', decide_eq_false_iff_not] at hrd; exact hrd.1
      have hl := nodup_len T.length (j :: D) (List.nodup_cons.2 ⟨hnot, nd⟩) (fun d hd => by rcases List.mem_cons.1 hd with rfl | hd; exact hlt; exact dl d hd)
      simp only [List.length_cons] at hl
      refine ⟨by omega, ?_⟩
      rw [← hgr, show T.length - i = (T.length - (i + 1)) + 1 by omega, greedy, find_range_some hlt hrd hno]
    by_cases hm : j ∈ D
    · have hrd : rdT T D j = false := by simp [rdT, hm]
      simp [hlt, ldV_own g1 (off := 0) rfl, i0, l0, hm, wrap_succ (show j + 1 ≤ 9223372036854775807 by omega)]
      exact ⟨j + 1, by omega, by omega, by simp, fun l hl => by by_cases e : l = j; exact e ▸ hrd; exact hno l (by omega)⟩
    · simp [hlt, ldV_own g1 (off := 0) rfl, i0, l0, hm, e]
      refine c50 (q.sh _) (order_closes g0 g1) (by simp) (by simp) (fun a => !decide (a.toNat ∈ D)) (fun t ht H' k' hk' => c66 (hr j hlt t (by rw [aft_of hlt]; exact ht)).1 (hr j hlt t (by rw [aft_of hlt]; exact ht)).2 hk') ?_
      have hrdv : rdT T D j = !(T[j].2.2.2.any fun a => !decide (a.toNat ∈ D)) := by simp [rdT, hm, aft_of hlt]
      cases hany : (T[j].2.2.2.any fun a => !decide (a.toNat ∈ D))
      case true =>
        have hrd : rdT T D j = false := by rw [hrdv, hany]; rfl
        simp [wrap_succ (show j + 1 ≤ 9223372036854775807 by omega)]
        exact ⟨j + 1, by omega, by omega, by simp, fun l hl => by by_cases e : l = j; exact e ▸ hrd; exact hno l (by omega)⟩
      case false =>
        have hrd : rdT T D j = true := by rw [hrdv, hany]; rfl
        obtain ⟨p1, p2⟩ := push hrd hrd
        have ne : ¬ ((j : Int) = (T.length : Int)) := by omega
        have hnot : j ∉ D := hm
        have st : stV H1 1 (.ptr 0 j) (.bool true) = some (H1.set 0 (.cells ((flags T.length (D ++ [j])).map V.bool))) := by
          rw [stV_own g0 (by simpa using hlt) rfl, ← flags_set, List.map_set]
        have hg2 : Gr 1 (FO T.length (D ++ [j])) (H1.set 0 (.cells ((flags T.length (D ++ [j])).map V.bool))) out ((ofN D).map (V.int .i64)) D.length := by
          have := hg.set (j := 0) (by simp [FO]) (.cells ((flags T.length (D ++ [j])).map V.bool))
          simpa [FO] using this
        obtain ⟨v', H', g3, g4⟩ := hg2.push (xs := [.int .i64 j]) rfl (by omega) (bytes := 8) (by unfold room; omega)
        simp [wr56_2, ldV_own g1 (off := 0) rfl, lensV, ne, i0, st, bslV_one (show oneC (.int .i64 j) = true from rfl)]
        simp at g3
        simp [g3]
        refine ⟨i + 1, by omega, by omega, D ++ [j], by simp [hD], ?_, ?_, p2, by simpa using g4⟩
        · rw [List.nodup_append]; exact ⟨nd, by simp, fun a ha b hb e' => hm (by rw [← List.mem_singleton.1 hb, ← e']; exact ha)⟩
        · intro d hd; rcases List.mem_append.1 hd with hd | hd; exact dl d hd; rw [List.mem_singleton.1 hd]; exact hlt
end Go.Proofs.Ytoommmeapdkopaa.E
namespace Go.Proofs.Ytoommmeapdkopaa.E
open Go Go.Eng

def rdG (E : List IP) (D : List Nat) (i : Nat) : Bool := !decide (i ∈ D) && !decide (0 < cntE E D i)
def orderG (n : Nat) (E : List IP) : List Nat := greedy n (rdG E) n []
def FG (n : Nat) (f : Nat → Int) (D : List Nat) : Heap := [.cells ((tab n f).map (V.int .i64)), .cells ((flags n D).map V.bool)]

theorem tab_map_get {n : Nat} {f : Nat → Int} {i : Nat} (h : i < n) : ((tab n f).map (V.int .i64))[i]? = some (.int .i64 (f i)) := by
  rw [List.getElem?_map, tab_get h]; rfl
theorem tab_map_set {n : Nat} {f : Nat → Int} {i : Nat} {x : Int} : ((tab n f).map (V.int .i64)).set i (.int .i64 x) = (tab n (fun j => if j = i then x else f j)).map (V.int .i64) := by
  rw [← List.map_set, tab_set]
theorem cntE_take {E : List IP} {m : Nat} (h : m < E.length) {b : Nat} (hb : E[m].2 = (b : Int)) : (fun j => if j = b then ((cntE (E.take m) [] b : Nat) : Int) + 1 else ((cntE (E.take m) [] j : Nat) : Int)) = fun j => ((cntE (E.take (m + 1)) [] j : Nat) : Int) := by
  funext j
  simp only [tk h, cntE, List.countP_append, List.countP_cons, List.countP_nil, List.not_mem_nil, decide_false, Bool.not_false, Bool.and_true, hb]
  by_cases e : j = b
  · subst e; simp
  · have : ¬ ((b : Int) = (j : Int)) := by omega
    simp [e, this]

theorem count_take {l : List Int} {t : Nat} (h : t < l.length) {x : Int} : (l.take (t + 1)).count x = (l.take t).count x + if l[t] = x then 1 else 0 := by
  rw [tk h, List.count_append, List.count_cons, List.count_nil]
  by_cases e : l[t] = x <;> simp [e]

theorem FG_done {n : Nat} {f : Nat → Int} {D : List Nat} {H : Heap} {out : V} {cs : List V} {c j : Nat} (hg : Gr 1 (FG n f D) H out cs c) : Gr 1 (FG n f (D ++ [j])) (H.set 1 (.cells ((flags n (D ++ [j])).map V.bool))) out cs c := by
  have := hg.set (j := 1) (by simp [FG]) (.cells ((flags n (D ++ [j])).map V.bool))
  exact this
theorem FG_left {n : Nat} {f : Nat → Int} {D : List Nat} {H : Heap} {out : V} {cs : List V} {c : Nat} {g : Nat → Int} (hg : Gr 1 (FG n f D) H out cs c) : Gr 1 (FG n g D) (H.set 0 (.cells ((tab n g).map (V.int .i64)))) out cs c := by
  have := hg.set (j := 0) (by simp [FG]) (.cells ((tab n g).map (V.int .i64)))
  exact this
theorem FG_congr {n : Nat} {f g : Nat → Int} {D : List Nat} (h : ∀ i, i < n → f i = g i) : FG n f D = FG n g D := by
  unfold FG; rw [tab_congr h]
theorem cntE_le {E : List IP} {D : List Nat} {i : Nat} : cntE E D i ≤ E.length := List.countP_le_length

theorem c39 {v : V} {E : List IP} (hv : Arr 2 tEdge.R v E) {n : Nat} (hn : n ≤ 64) (hE : E.length ≤ 1000) (hr : inG n E) (hnd : E.Nodup) (hs : Srt ltE 0 E.length E) (hpos : 0 < n) {H : Heap} {k : V → Heap → Prop}
    (h : ∀ r, k (.tup [r, .int .i64 (if (orderG n E).length = n then 0 else 30)]) H) : Cl G 39 [.agg [.int .i64 n, v]] H k := by
  refine Cl.mode1 (F := i39) rfl rfl (by simp [hv.closed]) ?_
  rw [w39]
  simp only [bxrV_agg, closedVs_cons, closedVs_nil, closedV_int, hv.closed, Bool.and_self, bd_some, ldV_s2, Bool.true_or, true_and]
  refine c60 hv hn hr hnd hs ?_
  have hnz : ¬ ((n : Int) = 0) := by omega
  have m8 : mksV 1 8 [.int .i64 0] [] (.int .i64 n) (.int .i64 n) = some (.sl 0 0 n n 1, [.cells ((tab n fun _ => 0).map (V.int .i64))]) := by
    have r : (n : Int) * (8 : Nat) ≤ (room : Int) := by unfold room; omega
    simp only [mksV, hnz, if_false, Int.le_refl, true_and, List.length_nil, List.nil_append, Int.toNat_natCast]
    rw [if_pos ⟨by omega, r⟩, rep_one]
    have : (tab n fun _ => 0).map (V.int .i64) = List.replicate n (.int .i64 0) := by simp [tab, List.map_const']
    rw [this]
  have m1 : ∀ H0 : Heap, mksV 1 1 [.bool false] H0 (.int .i64 n) (.int .i64 n) = some (.sl H0.length 0 n n 1, H0 ++ [.cells ((flags n []).map V.bool)]) := fun H0 => by
    have r : (n : Int) * (1 : Nat) ≤ (room : Int) := by unfold room; omega
    simp only [mksV, hnz, if_false, Int.le_refl, true_and, Int.toNat_natCast]
    rw [if_pos ⟨by omega, r⟩, rep_one, flags_nil]
    simp
  simp only [binV_neq, bd_some, decide_true, Bool.not_true, ifB_bool, Bool.false_eq_true, if_false, fadrV_rptr, List.drop_zero, List.drop_succ_cons, ldV_one, m8, bd2_some, m1, List.length_singleton, hv.lens]
  refine ub39_0 E.length (fun m c1 c5 c6 c26 c27 c28 H1 => c1 = .rptr [.int .i64 n, v] ∧ c5 = .sl 0 0 n n 1 ∧ c6 = .sl 1 0 n n 1 ∧ v = c26 ∧ c27 = .int .i64 E.length ∧ c28 = .int .i64 m ∧ Gr 1 (FG n (fun i => (cntE (E.take m) [] i : Int)) []) H1 .nils [] 0) ?_ 0 (Nat.zero_le _)
    ⟨rfl, rfl, rfl, rfl, rfl, rfl, Gr.nil⟩
  rintro m hm _ _ _ _ _ _ H1 ⟨rfl, rfl, rfl, rfl, rfl, rfl, hg⟩
  intros
  rw [wb39_0]
  simp only [binV_lss, bd_some, ifB_bool, decide_eq_true_eq, Int.ofNat_lt]
  split
  · rename_i hlt
    obtain ⟨rest, e⟩ := edge_at hv hlt
    obtain ⟨⟨r1, r2⟩, r3, r4⟩ := hr _ (List.getElem_mem hlt)
    simp only [e, bd_some, ldV_s2, newB, true_and]
    rw [stV_new (by rfl) (by rfl)]
    simp only [bd_some, frz_new (show closedVs [V.int .i64 E[m].1, V.int .i64 E[m].2] = true from rfl), bd2_some, fadrV_rptr, List.drop_zero, List.drop_succ_cons, ldrV_one]
    have hg2 := hg.alloc [B.dead]
    generalize H1 ++ [B.dead] = H2 at hg2
    obtain ⟨a, ha⟩ : ∃ a : Nat, E[m].2 = a := ⟨E[m].2.toNat, by omega⟩
    have han : a < n := by omega
    have g0 : H2[0]? = some (.cells ((tab n (fun i => (cntE (E.take m) [] i : Int))).map (V.int .i64))) := hg2.get rfl
    have ia : iadrV 1 (.sl 0 0 n n 1) (.int .i64 a) = some (.ptr 0 a) := by simp [iadrV, han]
    have cle := cntE_le (E := E.take m) (D := []) (i := a)
    have hlen : (E.take m).length ≤ E.length := by simp; omega
    have w1 : IntKind.i64.wrap (((cntE (E.take m) [] a : Nat) : Int) + 1) = ((cntE (E.take m) [] a : Nat) : Int) + 1 := wz (by omega) (by omega)
    have st : stV H2 1 (.ptr 0 a) (.int .i64 (((cntE (E.take m) [] a : Nat) : Int) + 1)) = some (H2.set 0 (.cells ((tab n (fun i => (cntE (E.take (m + 1)) [] i : Int))).map (V.int .i64)))) := by
      rw [stV_own g0 (by simpa using han) rfl, tab_map_set, cntE_take hlt ha]
    simp only [ha, ia, bd_some, ldV_own g0 (tab_map_get han), binV_add, w1, st, true_and, wi (show (m : Int) + 1 = ((m + 1 : Nat) : Int) by omega) (by omega), upQ_n, Sb39_0_eq]
    exact ⟨m + 1, by omega, by omega, rfl, FG_left hg2⟩
  rename_i hge
  rw [take_all hge] at hg
  clear hge hm
  simp only [upQ_e, blockQ_e, if_true, seqQ_n, wr39_1, ldV_s2, bd_some, Bool.true_or, true_and]
  refine c61 hv hn hE hr hpos fun r hrow => ?_
  simp only [fadrV_rptr, List.drop_zero, bd_some, ldV_one]
  refine ub39_2 n (fun m c1 c5 c6 c9 c10 c43 c44 H1 => c1 = .rptr [.int .i64 n, v] ∧ c5 = .sl 0 0 n n 1 ∧ c6 = .sl 1 0 n n 1 ∧ r = c9 ∧ c43 = .int .i64 n ∧ c44 = .int .i64 m ∧ ∃ D : List Nat, D.length = m ∧ D.Nodup ∧ (∀ d ∈ D, d < n) ∧ greedy n (rdG E) (n - m) D = orderG n E ∧ Gr 1 (FG n (fun i => (cntE E D i : Int)) D) H1 c10 ((ofN D).map (V.int .i64)) D.length) ?_ 0 (Nat.zero_le _)
    ⟨rfl, rfl, rfl, rfl, rfl, rfl, [], rfl, by simp, by simp, rfl, by simpa using hg⟩
  clear hg H1
  rintro m hm _ _ _ _ out _ _ H1 ⟨rfl, rfl, rfl, rfl, rfl, rfl, D, hD, nd, dl, hgr, hg⟩
  intros
  rw [wb39_2]
  simp only [binV_lss, bd_some, ifB_bool, decide_eq_true_eq, Int.ofNat_lt]
  split
  case isFalse hge =>
    have e : m = n := by omega
    have hend : (orderG n E).length = n := by rw [← hgr, e, Nat.sub_self]; simp only [greedy]; omega
    simp only [upQ_e, blockQ_e, if_true, seqQ_n, wr39_7, ret39]
    obtain ⟨r', c1, c2⟩ := hg.close (d := 10) (mapO_ints _)
    have hcl : closeV H1 closeDepth (.tup [out, .int .i64 0]) = some (.tup [r', .int .i64 0]) := by
      rw [show closeDepth = 11 + 1 from rfl, closeV_tup]
      simp only [mapO, c1, Option.bind_some, closeV_int, Option.map_some]
    refine hq_some hcl ?_
    have := h r'
    rwa [if_pos hend] at this
  rename_i hmn
  have g0 : H1[0]? = some (.cells ((tab n (fun i => (cntE E D i : Int))).map (V.int .i64))) := hg.get rfl
  have g1 : H1[1]? = some (.cells ((flags n D).map V.bool)) := hg.get rfl
  refine ub39_3 n (fun j c1 c5 c6 c9 c10 c11 c43 c44 H2 => c1 = .rptr [.int .i64 n, v] ∧ c5 = .sl 0 0 n n 1 ∧ c6 = .sl 1 0 n n 1 ∧ r = c9 ∧ out = c10 ∧ c11 = .int .i64 j ∧ c43 = .int .i64 n ∧ c44 = .int .i64 m ∧ H1 = H2 ∧ ∀ l, l < j → rdG E D l = false) ?_ 0 (Nat.zero_le _) (by simp)
  rintro j hj _ _ _ _ _ _ _ _ _ ⟨rfl, rfl, rfl, rfl, rfl, rfl, rfl, rfl, rfl, hno⟩
  intros
  rw [wb39_3]
  simp only [fadrV_rptr, List.drop_zero, ldV_one, bd_some, binV_lss, gdV_bool]
  by_cases hlt : j < n
  case neg =>
    have e : j = n := by omega
    subst e
    have hnone : (List.range j).find? (rdG E D) = none := find_range_none hno
    have hend : orderG j E = D := by
      rw [← hgr]
      cases hf : j - m with
      | zero => rfl
      | succ f => simp only [greedy, hnone]
    have hne : ¬ ((orderG j E).length = j) := by rw [hend]; omega
    simp [wr39_4]
    have := h .nils
    rw [if_neg hne] at this
    exact hq_some (v' := .tup [.nils, .int .i64 30]) rfl this
  have hltI : (j : Int) < (n : Int) := by omega
  have i1 : iadrV 1 (.sl 1 0 n n 1) (.int .i64 j) = some (.ptr 1 j) := by simp [iadrV, hlt]
  have i0 : iadrV 1 (.sl 0 0 n n 1) (.int .i64 j) = some (.ptr 0 j) := by simp [iadrV, hlt]
  have l1 : ldV H1 (.ptr 1 j) 1 false = some (.bool (decide (j ∈ D))) := ldV_own g1 (by simp [flags_get hlt])
  have l0 : ldV H1 (.ptr 0 j) 1 false = some (.int .i64 (cntE E D j : Int)) := ldV_own g0 (tab_map_get hlt)
  have wj : IntKind.i64.wrap ((j : Int) + 1) = ((j + 1 : Nat) : Int) := wi (by omega) (by omega)
  have skip : rdG E D j = false → ∀ l, l < j + 1 → rdG E D l = false := fun hrd l hl => by
    by_cases e : l = j
    · exact e ▸ hrd
    · exact hno l (by omega)
  by_cases hmem : j ∈ D
  · have hrd : rdG E D j = false := by simp [rdG, hmem]
    simp only [hltI, decide_true, beq_self_eq_true, wpg_true, i1, bd_some, l1, hmem, gdV_bool, show (true == false) = false from rfl, wpg_false, pickV_bool, if_true, ifB_bool, binV_add, wj, upQ_n, Sb39_3_eq, true_and]
    exact ⟨j + 1, by omega, by omega, rfl, skip hrd⟩
  by_cases hpos2 : 0 < cntE E D j
  · have hrd : rdG E D j = false := by simp [rdG, hpos2]
    have hp : ((cntE E D j : Int)) > 0 := by omega
    simp only [hltI, decide_true, beq_self_eq_true, wpg_true, i1, bd_some, l1, hmem, decide_false, gdV_bool, i0, l0, binV_gtr, hp, pickV_bool, Bool.false_eq_true, if_true, if_false, ifB_bool, binV_add, wj, upQ_n, Sb39_3_eq, true_and]
    exact ⟨j + 1, by omega, by omega, rfl, skip hrd⟩
  have hrd : rdG E D j = true := by simp [rdG, hmem, hpos2]
  have hp : ¬ (((cntE E D j : Int)) > 0) := by omega
  have hne : ¬ ((j : Int) = (n : Int)) := by omega
  have st : stV H1 1 (.ptr 1 j) (.bool true) = some (H1.set 1 (.cells ((flags n (D ++ [j])).map V.bool))) := by
    rw [stV_own g1 (by simpa using hlt) rfl, ← flags_set, List.map_set]
  have hg2 := FG_done (j := j) hg
  obtain ⟨v', H', p1, p2⟩ := hg2.push (xs := [.int .i64 j]) rfl (by omega) (bytes := 8) (by unfold room; omega)
  obtain ⟨_, rr, ⟨row, rfl, q⟩, _, er⟩ := hrow.iadr (i := j) (by simpa using hlt)
  simp only [List.getElem_map, List.getElem_range] at q
  have hrl := rowE_len (E := E) (k := j)
  simp only [hltI, decide_true, beq_self_eq_true, wpg_true, i1, bd_some, l1, hmem, decide_false, gdV_bool, i0, l0, binV_gtr, hp, pickV_bool, Bool.false_eq_true, if_true, if_false, ifB_bool, upQ_e, blockQ_e, seqQ_n, wr39_4, fadrV_rptr, List.drop_zero, ldV_one, binV_eql, hne, st, true_and, bslV_one (show oneC (.int .i64 j) = true from rfl), bd2_some, p1, er, List.singleton_append, q.lens]
  have p3 : Gr 1 (FG n (fun i => (cntE E D i : Int)) (D ++ [j])) H' v' ((ofN (D ++ [j])).map (V.int .i64)) (D ++ [j]).length := by simpa using p2
  refine ub39_5 (rowE E j).length (fun t c1 c5 c6 c9 c10 c43 c44 c79 c80 c81 H2 => c1 = .rptr [.int .i64 n, v] ∧ c5 = .sl 0 0 n n 1 ∧ c6 = .sl 1 0 n n 1 ∧ r = c9 ∧ v' = c10 ∧ c43 = .int .i64 n ∧ c44 = .int .i64 m ∧ row = c79 ∧ c80 = .int .i64 (rowE E j).length ∧ c81 = .int .i64 t ∧ Gr 1 (FG n (fun i => (cntE E D i : Int) - (((rowE E j).take t).count (i : Int) : Nat)) (D ++ [j])) H2 v' ((ofN (D ++ [j])).map (V.int .i64)) (D ++ [j]).length) ?_ 0 (Nat.zero_le _)
    ⟨rfl, rfl, rfl, rfl, rfl, rfl, rfl, rfl, rfl, rfl, by simpa using p3⟩
  clear p3 p2 p1 hg2 st l1 l0 i1 i0 g0 g1 hg
  rintro t ht _ _ _ _ _ _ _ _ _ _ H2 ⟨rfl, rfl, rfl, rfl, rfl, rfl, rfl, rfl, rfl, rfl, hg3⟩
  intros
  rw [wb39_5]
  simp only [binV_lss, bd_some, ifB_bool, decide_eq_true_eq, Int.ofNat_lt]
  split
  · rename_i hlt2
    obtain ⟨rest, e⟩ := q.int1 hlt2
    obtain ⟨⟨_, _⟩, x1, x2⟩ := hr _ (mem_rowE.1 (List.getElem_mem hlt2))
    simp only at x1 x2
    obtain ⟨a, ha⟩ : ∃ a : Nat, (rowE E j)[t] = a := ⟨((rowE E j)[t]).toNat, by omega⟩
    have han : a < n := by omega
    have ia : iadrV 1 (.sl 0 0 n n 1) (.int .i64 a) = some (.ptr 0 a) := by simp [iadrV, han]
    have g0 : H2[0]? = some (.cells ((tab n (fun i => (cntE E D i : Int) - (((rowE E j).take t).count (i : Int) : Nat))).map (V.int .i64))) := hg3.get rfl
    have c1 := cntE_le (E := E) (D := D) (i := a)
    have c2 : ((rowE E j).take t).count (a : Int) ≤ (rowE E j).length := Nat.le_trans List.count_le_length (by simp; omega)
    have w1 : IntKind.i64.wrap ((cntE E D a : Int) - (((rowE E j).take t).count (a : Int) : Nat) - 1) = (cntE E D a : Int) - (((rowE E j).take t).count (a : Int) : Nat) - 1 := wz (by omega) (by omega)
    have st : stV H2 1 (.ptr 0 a) (.int .i64 ((cntE E D a : Int) - (((rowE E j).take t).count (a : Int) : Nat) - 1)) = some (H2.set 0 (.cells ((tab n (fun i => (cntE E D i : Int) - (((rowE E j).take (t + 1)).count (i : Int) : Nat))).map (V.int .i64)))) := by
      rw [stV_own g0 (by simpa using han) rfl, tab_map_set]
      congr 5
      funext i
      rw [count_take hlt2, ha]
      by_cases e : i = a
      · subst e; simp; omega
      · have : ¬ ((a : Int) = (i : Int)) := by omega
        simp [e, this]
    simp only [e, bd_some, ldV_one, ha, ia, ldV_own g0 (tab_map_get han), binV_sub, w1, st, true_and, binV_add, wi (show (t : Int) + 1 = ((t + 1 : Nat) : Int) by omega) (by omega), upQ_n, Sb39_5_eq]
    exact ⟨t + 1, by omega, by omega, rfl, FG_left hg3⟩
  · rename_i hge2
    rw [take_all hge2] at hg3
    simp only [upQ_e, blockQ_e, if_true, blockQ_n, seqQ_n, wr39_6, binV_add, bd_some, wi (show (m : Int) + 1 = ((m + 1 : Nat) : Int) by omega) (by omega), upQ_n, Sb39_2_eq, true_and]
    refine ⟨m + 1, by omega, by omega, rfl, D ++ [j], by simp [hD], ?_, ?_, ?_, ?_⟩
    · rw [List.nodup_append]; exact ⟨nd, by simp, fun a ha b hb e' => hmem (by rw [← List.mem_singleton.1 hb, ← e']; exact ha)⟩
    · intro d hd; rcases List.mem_append.1 hd with hd | hd; exact dl d hd; rw [List.mem_singleton.1 hd]; exact hlt
    · rw [← hgr, show n - m = (n - (m + 1)) + 1 by omega, greedy, find_range_some hlt hrd hno]
    · rw [FG_congr (g := fun i => (cntE E (D ++ [j]) i : Int)) (fun i hi => by
        have := cntE_snoc hmem E i (fun e he => (hr e he).1.1)
        omega)] at hg3
      exact hg3
end Go.Proofs.Ytoommmeapdkopaa.E
