/- What functions of the program return, proved over the interpreter. Each theorem says its conditions. -/
import Derived.Test.YtoommmeapdkopaaZS4
import Derived.Test.YtoommmeapdkopaaE35
import Derived.Test.YtoommmeapdkopaaZD3
namespace Go.Proofs.Ytoommmeapdkopaa.E
open Go Go.Eng

/-- what comes before i, in order -/
noncomputable def befL (T : List tTask.D) (i : Nat) : List Nat := (List.range T.length).filter fun k => rchB T i k

theorem bool1 {v : V} {l : List Bool} (h : Arr 1 (Ty.R .bool) v l) {i : Nat} (hi : i < l.length) : ∃ rest, iadrV 1 v (.int .i64 i) = some (.rptr (.bool l[i] :: rest)) := by
  obtain ⟨c, rr, hR, hl, e⟩ := h.iadr hi
  obtain rfl := (hR : c = [.bool l[i]])
  exact ⟨rr, e⟩

theorem ok_Before {x : tShop.D} {v : V} (hx : tShop.V x v) (hpos : 0 < x.1.length) (he : shopErr x (decide ((orderL x.1).length < x.1.length)) = 0) {H : Heap} {k : V → Heap → Prop}
    (h : ∀ r, Arr 1 (Ty.R (.sl (.int .i64))) r ((List.range x.1.length).map fun i => ofN (befL x.1 i)) → k (.tup [r, .int .i64 0]) H) : Cl G 26 [v] H k := by
  obtain ⟨a, b, rfl, h1, h2⟩ := shop_v hx
  obtain ⟨z1, z2, z3, z4⟩ := shopErr_zero he
  refine Cl.mode1 (F := i26) rfl rfl (by simp [h1.closed, h2.closed]) ?_
  rw [w26]
  simp only [bxrV_agg, closedVs_cons, closedVs_nil, h1.closed, h2.closed, Bool.and_self, bd_some, ldV_s2, Bool.true_or, true_and]
  refine c29 hx ?_
  rw [he]
  simp only [binV_neq, decide_true, Bool.not_true, bd_some, ifB_bool, Bool.false_eq_true, if_false, ldV_s2, Bool.true_or, true_and]
  refine c46 hx hpos he fun r hr => ?_
  have hrl : lensV r = some (.int .i64 x.1.length) := by have := hr.lens; simpa using this
  simp only [hrl, bd_some]
  refine ub26_0 x.1.length (fun m c5 c17 c18 c19 H => r = c17 ∧ c18 = .int .i64 x.1.length ∧ c19 = .int .i64 m ∧ RowsA H c5 ((List.range m).map fun i => ofN (befL x.1 i))) ?_ 0 (Nat.zero_le _) ⟨rfl, rfl, rfl, .inl ⟨rfl, rfl⟩⟩
  rintro m hm c5 _ _ _ H2 ⟨rfl, rfl, rfl, hA⟩
  intros
  rw [wb26_0]
  simp only [bd_some, binV_lss, ifB_bool, decide_eq_true_eq, Int.ofNat_lt]
  split
  · rename_i hlt
    obtain ⟨_, rr, ⟨row, rfl, q⟩, _, er⟩ := hr.iadr (i := m) (by simpa using hlt)
    simp only [List.getElem_map, List.getElem_range] at q
    have ql : lensV row = some (.int .i64 x.1.length) := by have := q.lens; simpa using this
    simp only [er, bd_some, List.singleton_append, ldV_one, ql]
    refine ub26_1 x.1.length (fun t c5' c8 c17 c18 c19 c23 c24 c25 H => c5 = c5' ∧ r = c17 ∧ c18 = .int .i64 x.1.length ∧ c19 = .int .i64 m ∧ row = c23 ∧ c24 = .int .i64 x.1.length ∧ c25 = .int .i64 t ∧ Gr 1 H2 H c8 ((ofN ((List.range t).filter fun k => rchB x.1 m k)).map (V.int .i64)) ((List.range t).filter fun k => rchB x.1 m k).length) ?_ 0 (Nat.zero_le _) ⟨rfl, rfl, rfl, rfl, rfl, rfl, rfl, by simpa using Gr.nil (k := 1) (F := H2)⟩
    rintro t ht _ c8 _ _ _ _ _ _ H3 ⟨rfl, rfl, rfl, rfl, rfl, rfl, rfl, hg⟩
    intros
    rw [wb26_1]
    simp only [bd_some, binV_lss, ifB_bool, decide_eq_true_eq, Int.ofNat_lt]
    split
    · rename_i hlt2
      obtain ⟨r2, e2⟩ := bool1 q (i := t) (by simpa using hlt2)
      have gv : (btab x.1.length (rchB x.1 m))[t]'(by simpa using hlt2) = rchB x.1 m t := by simp [btab]
      rw [gv] at e2
      have wt : IntKind.i64.wrap ((t : Int) + 1) = ((t + 1 : Nat) : Int) := wi (by omega) (by omega)
      simp only [e2, bd_some, ldV_one, ifB_bool]
      split
      · rename_i hb
        have hfl : ((List.range t).filter fun k => rchB x.1 m k).length ≤ t := filter_range_len
        obtain ⟨v', H', g1, g2⟩ := hg.push (xs := [.int .i64 t]) rfl (by omega) (bytes := 8) (by unfold room; omega)
        simp only [bslV_one (show oneC (.int .i64 t) = true from rfl), bd2_some, g1, wr26_2, binV_add, bd_some, wt, upQ_n, Sb26_1_eq, true_and]
        refine ⟨t + 1, by omega, by omega, rfl, ?_⟩
        have : ((List.range (t + 1)).filter fun k => rchB x.1 m k) = ((List.range t).filter fun k => rchB x.1 m k) ++ [t] := by rw [List.range_succ, List.filter_append]; simp [hb]
        rw [this]
        simpa using g2
      · rename_i hb
        simp only [wr26_2, binV_add, bd_some, wt, upQ_n, Sb26_1_eq, true_and]
        refine ⟨t + 1, by omega, by omega, rfl, ?_⟩
        have : ((List.range (t + 1)).filter fun k => rchB x.1 m k) = ((List.range t).filter fun k => rchB x.1 m k) := by rw [List.range_succ, List.filter_append]; simp [hb]
        rw [this]
        exact hg
    · rename_i hge2
      have et : t = x.1.length := by omega
      subst et
      have hl : ((List.range x.1.length).filter fun k => rchB x.1 m k).length ≤ x.1.length := filter_range_len
      have o1 : oneC c8 = true := by rcases hg.2.2.2 with ⟨_, rfl⟩ | ⟨_, _, rfl, _⟩ <;> rfl
      have hA3 := hA.keep (H' := H3) hg.2.2.1
      have row : ∀ o, (∀ id, H2.length ≤ id → id < H3.length → id ≠ o) → RowC H3 o c8 (ofN (befL x.1 m)) := fun o ho => by
        rcases hg.2.2.2 with ⟨c1, c2⟩ | ⟨id, c1, c2, c3⟩
        · exact .inl ⟨c2, by simp [befL, List.length_eq_zero_iff.1 c1]⟩
        · exact .inr ⟨id, ho id c1 (List.getElem?_eq_some_iff.1 c3).1, by rw [c2]; simp [befL], c3⟩
      obtain ⟨v', H', p1, p2⟩ := hA3.push (w := c8) (l := ofN (befL x.1 m)) (fun o ⟨n, hn⟩ => row o fun id hi _ => by
        rcases hA with ⟨_, c⟩ | ⟨o', vs, c, d, _⟩
        · rw [c] at hn; cases hn
        · rw [c] at hn; injection hn with hn; subst hn; have := (List.getElem?_eq_some_iff.1 d).1; omega) (row _ fun id _ hi => by omega) (by simp; unfold room; omega) o1
      simp only [upQ_e, blockQ_e, if_true, blockQ_n, seqQ_n, wr26_3, bslV_one o1, bd2_some, p1, wr26_4, binV_add, bd_some, wi (show (m : Int) + 1 = ((m + 1 : Nat) : Int) by omega) (by omega), upQ_n, Sb26_0_eq, true_and]
      refine ⟨m + 1, by omega, by omega, rfl, ?_⟩
      rw [List.range_succ, List.map_append]
      exact p2
  · rename_i hge
    have em : m = x.1.length := by omega
    subst em
    simp only [upQ_e, blockQ_e, if_true, seqQ_n, wr26_5, ret26]
    have hl : ∀ l ∈ (List.range x.1.length).map (fun i => ofN (befL x.1 i)), l.length ≤ top ∧ ∀ y ∈ l, IntKind.i64.min ≤ y ∧ y ≤ IntKind.i64.max := fun l hl => by
      obtain ⟨i, _, rfl⟩ := List.mem_map.1 hl
      have : (befL x.1 i).length ≤ x.1.length := filter_range_len
      exact ⟨by simp; unfold top; omega, ofN_rng (n := 1000) (fun a ha => by have := (List.mem_filter.1 ha).1; simp at this; omega) (by omega)⟩
    obtain ⟨u, c1, c2⟩ := hA.close (d := 8) (by simp; unfold top; omega) (fun l h => (hl l h).1) (fun l h => (hl l h).2)
    refine hq_some (v' := .tup [u, .int .i64 0]) ?_ (h u c2)
    rw [show closeDepth = 11 + 1 from rfl, closeV_tup]
    simp only [mapO, c1, closeV_int, Option.bind_some, Option.map_some]
end Go.Proofs.Ytoommmeapdkopaa.E
namespace Go.Proofs.Ytoommmeapdkopaa.E
open Go Go.Eng

theorem rch_snoc {T : List tTask.D} {i y a : Nat} (h : Rch T i y) (ha : (a : Int) ∈ aft T y) : Rch T i a := by
  induction h with
  | base h => exact .step h (.base ha)
  | step h _ ih => exact .step h (ih ha)
/-- a work list that is done holds what comes before -/
theorem work_done {T : List tTask.D} {i : Nat} {r : List Nat} (h1 : ∀ a : Nat, (a : Int) ∈ aft T i → a ∈ r) (h2 : ∀ y ∈ r, Rch T i y) (h3 : ∀ y ∈ r, ∀ a : Nat, (a : Int) ∈ aft T y → a ∈ r) (k : Nat) : k ∈ r ↔ Rch T i k := by
  have gen : ∀ y b, Rch T y b → y ∈ r → b ∈ r := by
    intro y b h
    induction h with
    | base h => intro hy; exact h3 _ hy _ h
    | step h _ ih => intro hy; exact ih (h3 _ hy _ h)
  refine ⟨h2 k, fun h => ?_⟩
  cases h with
  | base h => exact h1 _ h
  | step h h' => exact gen _ _ h' (h1 _ h)
theorem work_filter {T : List tTask.D} {i : Nat} {r : List Nat} (h : ∀ k, k ∈ r ↔ Rch T i k) : ((List.range T.length).filter fun k => decide (k ∈ r)) = befL T i := by
  unfold befL
  refine List.filter_congr fun k _ => ?_
  rw [Bool.eq_iff_iff, decide_eq_true_eq, rchB_iff]
  exact h k
end Go.Proofs.Ytoommmeapdkopaa.E
namespace Go.Proofs.Ytoommmeapdkopaa.E
open Go Go.Eng

/-! the order, step by step -/
theorem greedy_pre {n : Nat} {rd : List Nat → Nat → Bool} : ∀ (f : Nat) (D : List Nat), ∃ r, greedy n rd f D = D ++ r
  | 0, D => ⟨[], by simp [greedy]⟩
  | f + 1, D => by
    simp only [greedy]
    split
    · exact ⟨[], by simp⟩
    · rename_i i hi
      obtain ⟨r, hr⟩ := greedy_pre (n := n) (rd := rd) f (D ++ [i])
      exact ⟨i :: r, by rw [hr]; simp⟩
theorem greedy_step {n : Nat} {rd : List Nat → Nat → Bool} : ∀ (f : Nat) (D : List Nat) (m : Nat), D.length ≤ m → ∀ (h : m < (greedy n rd f D).length), (List.range n).find? (rd ((greedy n rd f D).take m)) = some ((greedy n rd f D)[m])
  | 0, D, m, hm, h => by simp [greedy] at h; omega
  | f + 1, D, m, hm, h => by
    cases hi : (List.range n).find? (rd D) with
    | none =>
      have : greedy n rd (f + 1) D = D := by simp only [greedy, hi]
      rw [this] at h; omega
    | some i =>
      have hg : greedy n rd (f + 1) D = greedy n rd f (D ++ [i]) := by simp only [greedy, hi]
      simp only [hg] at h ⊢
      by_cases e : m = D.length
      · obtain ⟨r, hr⟩ := greedy_pre (n := n) (rd := rd) f (D ++ [i])
        subst e
        simp only [hr, List.append_assoc, List.take_left', List.singleton_append]
        rw [hi]
        simp
      · exact greedy_step f (D ++ [i]) m (by simp; omega) h

theorem nodup_inj {l : List Nat} (h : l.Nodup) {i j : Nat} (hi : i < l.length) (hj : j < l.length) (e : l[i] = l[j]) : i = j := by
  have hp := List.pairwise_iff_getElem.1 h
  rcases Nat.lt_trichotomy i j with hlt | rfl | hlt
  · exact absurd e (hp i j hi hj hlt)
  · rfl
  · exact absurd e.symm (hp j i hj hi hlt)
/-- an order of all tasks -/
structure Vld (T : List tTask.D) (O : List Nat) : Prop where
  len : O.length = T.length
  nd : O.Nodup
  lt : ∀ d ∈ O, d < T.length
  ok : ∀ m (h : m < O.length), ∀ a ∈ aft T O[m], a.toNat ∈ O.take m
  rg : inRange T
theorem vld_of {x : tShop.D} (he : shopErr x (decide ((orderL x.1).length < x.1.length)) = 0) : Vld x.1 (orderL x.1) :=
  ⟨shopErr_order he, orderL_ok.1, orderL_lt, orderL_ok.2, inRange_of (shopErr_zero he).2.2.1⟩

namespace Vld
variable {T : List tTask.D} {O : List Nat}
theorem all (v : Vld T O) {i : Nat} (hi : i < T.length) : i ∈ O := by
  refine Classical.byContradiction fun hno => ?_
  have := nodup_len T.length (i :: O) (List.nodup_cons.2 ⟨hno, v.nd⟩) (fun d hd => by
    rcases List.mem_cons.1 hd with rfl | hd
    · exact hi
    · exact v.lt _ hd)
  have := v.len
  simp at *; omega
theorem at' (v : Vld T O) {i : Nat} (hi : i < T.length) : ∃ p, ∃ h : p < O.length, O[p] = i := by
  obtain ⟨p, h, e⟩ := List.mem_iff_getElem.1 (v.all hi)
  exact ⟨p, h, e⟩
theorem pos (v : Vld T O) {p q : Nat} (hp : p < O.length) (hq : q < O.length) (h : (O[q] : Int) ∈ aft T O[p]) : q < p := by
  have := v.ok p hp _ h
  simp only [Int.toNat_natCast] at this
  obtain ⟨r, hr, e⟩ := List.mem_iff_getElem.1 this
  rw [List.getElem_take] at e
  have hr' : r < p := by simp at hr; omega
  have : r = q := nodup_inj v.nd (by omega) (hq) e
  omega
theorem nat (v : Vld T O) {i : Nat} (hi : i < T.length) {a : Int} (ha : a ∈ aft T i) : ∃ c : Nat, a = c ∧ c < T.length := by
  obtain ⟨h1, h2⟩ := v.rg i hi a ha
  exact ⟨a.toNat, by omega, by omega⟩
theorem up (v : Vld T O) {P : Nat → Prop} (h : ∀ i, i < T.length → (∀ a : Nat, (a : Int) ∈ aft T i → P a) → P i) : ∀ i, i < T.length → P i := by
  have gen : ∀ p (hp : p < O.length), P O[p] := by
    intro p
    induction p using Nat.strongRecOn with
    | ind p ih =>
      intro hp
      refine h _ (v.lt _ (List.getElem_mem hp)) fun a ha => ?_
      have := (v.rg _ (v.lt _ (List.getElem_mem hp)) _ ha).2
      obtain ⟨q, hq, rfl⟩ := v.at' (i := a) (by omega)
      exact ih q (v.pos hp hq ha) hq
  intro i hi
  obtain ⟨p, hp, rfl⟩ := v.at' hi
  exact gen p hp
theorem dn (v : Vld T O) {P : Nat → Prop} (h : ∀ i, i < T.length → (∀ k, k < T.length → (i : Int) ∈ aft T k → P k) → P i) : ∀ i, i < T.length → P i := by
  have gen : ∀ m p (hp : p < O.length), O.length - p = m → P O[p] := by
    intro m
    induction m using Nat.strongRecOn with
    | ind m ih =>
      intro p hp hm
      refine h _ (v.lt _ (List.getElem_mem hp)) fun k hk ha => ?_
      obtain ⟨q, hq, rfl⟩ := v.at' hk
      have := v.pos hq hp ha
      exact ih (O.length - q) (by omega) q hq rfl
  intro i hi
  obtain ⟨p, hp, rfl⟩ := v.at' hi
  exact gen _ p hp rfl
theorem irr (v : Vld T O) {i : Nat} (hi : i < T.length) : (i : Int) ∉ aft T i := fun h => by
  obtain ⟨p, hp, rfl⟩ := v.at' hi
  have := v.pos hp hp h
  omega
end Vld

/-! tails -/
/-! the tails are determined -/
/-! the longest chain -/
end Go.Proofs.Ytoommmeapdkopaa.E
namespace Go.Proofs.Ytoommmeapdkopaa.E
open Go Go.Eng

/-! what follows from the rest is left out -/
theorem aft_out {T : List tTask.D} {i : Nat} (h : ¬ i < T.length) : aft T i = [] := by simp [aft, h]
section
variable {T : List tTask.D} {O : List Nat}
end
end Go.Proofs.Ytoommmeapdkopaa.E
namespace Go.Proofs.Ytoommmeapdkopaa.E
open Go Go.Eng

theorem cellsI {v : V} {l : List Int} (h : Arr 1 tI.R v l) (H : Heap) : sliceCells H v 1 = some (l.map (V.int .i64), l.length) := by
  obtain ⟨css, h1, h2, h3, h4⟩ := h
  have e : css.flatten = l.map (V.int .i64) := by
    have : css = l.map fun x => [V.int .i64 x] := by
      apply List.ext_getElem (by simp [h1])
      intro i g1 g2
      simp only [List.getElem_map]
      exact (h2 i (by omega) g1).1
    rw [this, flatS]
  rw [h4.cells H, e]
theorem ofN_toNat {l : List Int} (h : ∀ a ∈ l, 0 ≤ a) : ofN (l.map Int.toNat) = l := by
  unfold ofN
  rw [List.map_map]
  conv => rhs; rw [← List.map_id l]
  refine List.map_congr_left fun a ha => ?_
  have := h a ha
  simp only [Function.comp_apply, id_eq]
  show ((a.toNat : Nat) : Int) = a
  omega
/-- the work list -/
def WL (H : Heap) (v : V) (L : List Nat) : Prop := (L = [] ∧ v = .z0) ∨ Gr 1 [] H v ((ofN L).map (V.int .i64)) L.length
theorem WL.lens {H : Heap} {v : V} {L : List Nat} (h : WL H v L) : lensV v = some (.int .i64 L.length) := by
  rcases h with ⟨rfl, rfl⟩ | h
  · rfl
  · exact h.lens
theorem WL.get {H : Heap} {v : V} {L : List Nat} (h : WL H v L) {i : Nat} (hi : i < L.length) : ∃ p, iadrV 1 v (.int .i64 i) = some p ∧ ldV H p 1 false = some (.int .i64 L[i]) := by
  rcases h with ⟨rfl, rfl⟩ | ⟨_, _, _, ⟨c, _⟩ | ⟨id, _, rfl, c⟩⟩
  · simp at hi
  · omega
  · exact ⟨.ptr id i, by simp [iadrV, hi], ldV_own c (by simp [ofN, hi])⟩
theorem WL.sh {H : Heap} {v : V} {L : List Nat} (h : WL H v L) {H' : Heap} (hk : ∀ j, j < H.length → H'[j]? = H[j]?) (hl : L.length ≤ 1000) (hL : ∀ a ∈ L, a ≤ 1000) : Sh H' 1 tI.R v (ofN L) := by
  rcases h with ⟨rfl, rfl⟩ | ⟨g1, g2, g3, g4⟩
  · exact Arr.sh (ints_arr (by simp [ofN, top]) (by simp [ofN]) (.inr ⟨rfl, .inr (.inl rfl)⟩)) _
  · have hg : Gr 1 [] H' v ((ofN L).map (V.int .i64)) (ofN L).length := by
      refine ⟨by simp, by simp, fun j hj => by simp at hj, ?_⟩
      rcases g4 with ⟨c, d⟩ | ⟨id, c1, c2, c3⟩
      · exact .inl ⟨by simpa [ofN] using c, d⟩
      · exact .inr ⟨id, c1, by simpa [ofN] using c2, by rw [hk id (List.getElem?_eq_some_iff.1 c3).1]; exact c3⟩
    exact hg.sh (by simp [ofN]; unfold top; omega) (ofN_rng (n := 1000) hL (by omega))

theorem c28 {x : tShop.D} {v : V} (hx : tShop.V x v) (he : shopErr x (decide ((orderL x.1).length < x.1.length)) = 0) {i : Nat} (hi : i < x.1.length) {H : Heap} {k : V → Heap → Prop}
    (h : ∀ r, Arr 1 tI.R r (ofN (befL x.1 i)) → k r H) : Cl G 28 [v, .int .i64 i] H k := by
  obtain ⟨a, b, rfl, h1, h2⟩ := shop_v hx
  obtain ⟨z1, z2, z3, z4⟩ := shopErr_zero he
  have hrg := inRange_of z3
  have vl := vld_of he
  refine Cl.mode1 (F := i28) rfl rfl (by simp [h1.closed, h2.closed]) ?_
  rw [w28]
  have b0 : bslV 1 0 [.int .i64 0] [] [] = some (.z0, []) := rfl
  obtain ⟨w, r, e, q⟩ := task_at h1 hi
  have hal : aft x.1 i = x.1[i].2.2.2 := aft_of hi
  have hnd : ∀ j, ((aft x.1 j).map Int.toNat).Nodup := fun j => by
    have inc := aft_inc z3 j
    by_cases hj : j < x.1.length
    · rw [List.nodup_iff_pairwise_ne, List.pairwise_map]
      refine List.Pairwise.imp_of_mem ?_ inc
      intro p q hp hq hpq
      have := hrg j hj p hp
      have := hrg j hj q hq
      omega
    · rw [aft_out hj]; simp
  have hof : ∀ j, j < x.1.length → ofN ((aft x.1 j).map Int.toNat) = aft x.1 j := fun j hj => ofN_toNat fun a ha => (hrg j hj a ha).1
  have hlt : ∀ (L : List Nat), (∀ y ∈ L, Rch x.1 i y) → ∀ y ∈ L, y < x.1.length := fun L hL y hy => by
    have gen : ∀ i y, Rch x.1 i y → i < x.1.length → y < x.1.length := by
      intro i y hr
      induction hr with
      | base h => intro hi; have := (hrg _ hi _ h).2; omega
      | step h _ ih => intro hi; have := (hrg _ hi _ h).2; exact ih (by omega)
    exact gen i y (hL y hy) hi
  have hlen : ∀ (L : List Nat), L.Nodup → (∀ y ∈ L, Rch x.1 i y) → L.length ≤ x.1.length := fun L hn hL => nodup_len _ L hn (hlt L hL)
  have start : ∃ v0 H0, appV 1 8 true [] .z0 w = some (v0, H0) ∧ WL H0 v0 ((aft x.1 i).map Int.toNat) := by
    simp only [appV, cellsI q, Option.bind_some]
    by_cases h0 : x.1[i].2.2.2.length = 0
    · simp only [h0, if_true, isSlice]
      exact ⟨_, _, rfl, .inl ⟨by rw [hal, List.length_eq_zero_iff.1 h0]; rfl, rfl⟩⟩
    · have : x.1[i].2.2.2.length * 8 ≤ room := by
        have := hlen _ (hnd i) (fun y hy => by
          obtain ⟨a, ha, rfl⟩ := List.mem_map.1 hy
          refine .base ?_
          rw [Int.toNat_of_nonneg (hrg i hi a ha).1]; exact ha)
        rw [List.length_map, hal] at this
        unfold room; omega
      simp only [h0, if_false, this, if_true]
      refine ⟨_, _, rfl, .inr ⟨by simp [ofN], by simp, by simp, .inr ⟨0, by simp, ?_, ?_⟩⟩⟩
      · simp [hal]
      · rw [hof i hi, hal]; rfl
  obtain ⟨v0, H0, e0, w0⟩ := start
  simp only [bxrV_agg, closedVs_cons, closedVs_nil, h1.closed, h2.closed, Bool.and_self, bd_some, b0, bd2_some, fadrV_rptr, List.drop_zero, List.drop_succ_cons, ldV_one, e, e0]
  refine ub28_0 x.1.length (fun m c2 c5 c6 H => c2 = .rptr [a, b] ∧ c6 = .int .i64 m ∧ ∃ L : List Nat, L.Nodup ∧ (∀ y ∈ L, Rch x.1 i y) ∧ (∀ c : Nat, (c : Int) ∈ aft x.1 i → c ∈ L) ∧ (∀ y ∈ L.take m, ∀ c : Nat, (c : Int) ∈ aft x.1 y → c ∈ L) ∧ WL H c5 L ∧ m ≤ L.length) ?_ 0 (Nat.zero_le _) ⟨rfl, rfl, _, hnd i, fun y hy => ?_, fun c hc => ?_, by simp, w0, by simp⟩
  case refine_2 =>
    obtain ⟨a, ha, rfl⟩ := List.mem_map.1 hy
    refine .base ?_
    rw [Int.toNat_of_nonneg (hrg i hi a ha).1]; exact ha
  case refine_3 => exact List.mem_map.2 ⟨c, hc, by simp⟩
  clear w0 e0
  rintro m hm _ c5 _ H2 ⟨rfl, rfl, L, l1, l2, l3, l4, l5, l6⟩
  intros
  rw [wb28_0]
  have hLn := hlen L l1 l2
  simp only [l5.lens, bd_some, binV_lss, ifB_bool, decide_eq_true_eq, Int.ofNat_lt]
  split
  · rename_i hml
    obtain ⟨p, p1, p2⟩ := l5.get hml
    have hy := hlt L l2 _ (List.getElem_mem hml)
    have hry := l2 _ (List.getElem_mem hml)
    obtain ⟨y, hyL⟩ : ∃ y, L[m] = y := ⟨_, rfl⟩
    rw [hyL] at p2 hy hry
    obtain ⟨w2, r2, e2, q2⟩ := task_at h1 hy
    have haly : aft x.1 y = x.1[y].2.2.2 := aft_of hy
    have hqle : x.1[y].2.2.2.length ≤ top := q2.le
    simp only [fadrV_rptr, List.drop_zero, ldV_one, bd_some, p1, p2, e2, List.drop_succ_cons, q2.lens]
    refine ub28_1 x.1[y].2.2.2.length (fun t c2 c5 c6 c33 c34 c35 H => c2 = .rptr [a, b] ∧ c6 = .int .i64 m ∧ w2 = c33 ∧ c34 = .int .i64 x.1[y].2.2.2.length ∧ c35 = .int .i64 t ∧ ∃ r : List Nat, (L ++ r).Nodup ∧ (∀ y ∈ L ++ r, Rch x.1 i y) ∧ (∀ c : Nat, (c : Int) ∈ (aft x.1 y).take t → c ∈ L ++ r) ∧ WL H c5 (L ++ r)) ?_ 0 (Nat.zero_le _) ⟨rfl, rfl, rfl, rfl, rfl, [], by simpa using l1, by simpa using l2, by simp, by simpa using l5⟩
    rintro t ht _ c5' _ _ _ _ H3 ⟨rfl, rfl, rfl, rfl, rfl, r', k1, k2, k3, k5⟩
    intros
    rw [wb28_1]
    have hLn2 := hlen _ k1 k2
    simp only [bd_some, binV_lss, ifB_bool, decide_eq_true_eq, Int.ofNat_lt]
    split
    · rename_i htl
      obtain ⟨r3, e3⟩ := q2.int1 htl
      have hmem : x.1[y].2.2.2[t] ∈ aft x.1 y := by rw [haly]; exact List.getElem_mem htl
      obtain ⟨c, hc, hcn⟩ := vl.nat hy hmem
      have wt : IntKind.i64.wrap ((t : Int) + 1) = ((t + 1 : Nat) : Int) := wi (by omega) (by unfold top at hqle; omega)
      have tkt : (aft x.1 y).take (t + 1) = (aft x.1 y).take t ++ [(c : Int)] := by
        have : t < (aft x.1 y).length := by rw [haly]; exact htl
        rw [tk this]; simp only [haly, hc]
      rw [hc] at hmem
      simp only [e3, bd_some, ldV_one, hc, Bool.true_or, true_and]
      refine c22 (k5.sh (fun _ _ => rfl) (by omega) (fun a ha => by have := hlt _ k2 a ha; omega)) ?_
      simp only [unV_not, bd_some, ifB_bool, Bool.not_eq_true', decide_eq_false_iff_not]
      have hmm : ((c : Int) ∈ ofN (L ++ r')) ↔ c ∈ L ++ r' := by
        rw [mem_ofN]; exact ⟨fun ⟨a, ha, e⟩ => by have : a = c := by omega
                                                  exact this ▸ ha, fun h => ⟨c, h, rfl⟩⟩
      split
      · rename_i hnot
        rw [hmm] at hnot
        have hg : Gr 1 [] H3 c5' ((ofN (L ++ r')).map (V.int .i64)) (L ++ r').length := by
          rcases k5 with ⟨c, _⟩ | c
          · rw [(List.append_eq_nil_iff.1 c).1] at hml; simp at hml
          · exact c
        obtain ⟨v', H', g1, g2⟩ := hg.push (xs := [.int .i64 c]) rfl (by omega) (bytes := 8) (by unfold room; omega)
        simp only [bslV_one (show oneC (.int .i64 c) = true from rfl), bd2_some, g1, wr28_2, binV_add, bd_some, wt, upQ_n, Sb28_1_eq, true_and]
        refine ⟨t + 1, by omega, by omega, rfl, r' ++ [c], ?_, ?_, ?_, ?_⟩
        · rw [← List.append_assoc, List.nodup_append]
          exact ⟨k1, by simp, fun a ha b hb e => hnot (by rw [← List.mem_singleton.1 hb, ← e]; exact ha)⟩
        · intro z hz
          rw [← List.append_assoc] at hz
          rcases List.mem_append.1 hz with hz | hz
          · exact k2 z hz
          · rw [List.mem_singleton.1 hz]; exact rch_snoc hry hmem
        · intro d hd
          rw [tkt] at hd
          rw [← List.append_assoc]
          rcases List.mem_append.1 hd with hd | hd
          · exact List.mem_append_left _ (k3 d hd)
          · refine List.mem_append_right _ ?_
            have : (d : Int) = c := List.mem_singleton.1 hd
            rw [List.mem_singleton]; omega
        · right
          rw [← List.append_assoc]
          have el : (L ++ r' ++ [c]).length = (L ++ r').length + 1 := by simp; omega
          rw [el]
          simpa [ofN] using g2
      · rename_i hin
        simp only [Decidable.not_not] at hin
        rw [hmm] at hin
        simp only [wr28_2, binV_add, bd_some, wt, upQ_n, Sb28_1_eq, true_and]
        refine ⟨t + 1, by omega, by omega, rfl, r', k1, k2, fun d hd => ?_, k5⟩
        rw [tkt] at hd
        rcases List.mem_append.1 hd with hd | hd
        · exact k3 d hd
        · have : (d : Int) = c := List.mem_singleton.1 hd
          have : d = c := by omega
          exact this ▸ hin
    · rename_i htl
      have hall : (aft x.1 y).take t = aft x.1 y := List.take_of_length_le (by rw [haly]; omega)
      rw [hall] at k3
      have hl' : L.length ≤ (L ++ r').length := by simp
      simp only [upQ_e, blockQ_e, if_true, blockQ_n, seqQ_n, wr28_3, show (2 = 1) = False by decide, if_false, binV_add, bd_some, wi (show (m : Int) + 1 = ((m + 1 : Nat) : Int) by omega) (by omega), upQ_n, Sb28_0_eq, true_and]
      refine ⟨m + 1, by omega, by omega, rfl, L ++ r', k1, k2, fun c hc => List.mem_append_left _ (l3 c hc), fun z hz d hd => ?_, k5, by simp; omega⟩
      rw [List.take_append_of_le_length (by omega), tk hml, hyL] at hz
      rcases List.mem_append.1 hz with hz | hz
      · exact List.mem_append_left _ (l4 z hz d hd)
      · rw [List.mem_singleton.1 hz] at hd; exact k3 d hd
  · rename_i hml
    have : m = L.length := by omega
    subst this
    rw [List.take_length] at l4
    have done := work_done (T := x.1) (i := i) (r := L) l3 l2 l4
    have hfil := work_filter done
    simp only [upQ_e, blockQ_e, if_true, seqQ_n, wr28_4]
    refine ub28_5 x.1.length (fun t c2 c5' c9 c10 H => c2 = .rptr [a, b] ∧ c5 = c5' ∧ c10 = .int .i64 t ∧ Gr 1 H2 H c9 ((ofN ((List.range t).filter fun k => decide (k ∈ L))).map (V.int .i64)) ((List.range t).filter fun k => decide (k ∈ L)).length) ?_ 0 (Nat.zero_le _) ⟨rfl, rfl, rfl, by simpa using Gr.nil (k := 1) (F := H2)⟩
    rintro t ht _ _ c9 _ H3 ⟨rfl, rfl, rfl, hg⟩
    intros
    rw [wb28_5]
    simp only [fadrV_rptr, List.drop_zero, ldV_one, h1.lens, bd_some, binV_lss, ifB_bool, decide_eq_true_eq, Int.ofNat_lt]
    split
    · rename_i htl
      have wt : IntKind.i64.wrap ((t : Int) + 1) = ((t + 1 : Nat) : Int) := wi (by omega) (by omega)
      simp only [Bool.true_or, true_and]
      refine c22 (l5.sh hg.2.2.1 (by omega) (fun a ha => by have := hlt _ l2 a ha; omega)) ?_
      have hmm : ((t : Int) ∈ ofN L) ↔ t ∈ L := by
        rw [mem_ofN]; exact ⟨fun ⟨a, ha, e⟩ => by have : a = t := by omega
                                                  exact this ▸ ha, fun h => ⟨t, h, rfl⟩⟩
      simp only [ifB_bool, decide_eq_true_eq, hmm]
      have hfl : ((List.range t).filter fun k => decide (k ∈ L)).length ≤ t := filter_range_len
      split
      · rename_i hb
        obtain ⟨v', H', g1, g2⟩ := hg.push (xs := [.int .i64 t]) rfl (by omega) (bytes := 8) (by unfold room; omega)
        simp only [bslV_one (show oneC (.int .i64 t) = true from rfl), bd2_some, g1, wr28_6, binV_add, bd_some, wt, upQ_n, Sb28_5_eq, true_and]
        refine ⟨t + 1, by omega, by omega, rfl, ?_⟩
        have : ((List.range (t + 1)).filter fun k => decide (k ∈ L)) = ((List.range t).filter fun k => decide (k ∈ L)) ++ [t] := by rw [List.range_succ, List.filter_append]; simp [hb]
        rw [this]
        simpa [ofN] using g2
      · rename_i hb
        simp only [wr28_6, binV_add, bd_some, wt, upQ_n, Sb28_5_eq, true_and]
        refine ⟨t + 1, by omega, by omega, rfl, ?_⟩
        have : ((List.range (t + 1)).filter fun k => decide (k ∈ L)) = ((List.range t).filter fun k => decide (k ∈ L)) := by rw [List.range_succ, List.filter_append]; simp [hb]
        rw [this]
        exact hg
    · rename_i htl
      have et : t = x.1.length := by omega
      subst et
      rw [hfil] at hg
      simp only [upQ_e, blockQ_e, if_true, seqQ_n, wr28_7, ret28]
      have hbl : (befL x.1 i).length ≤ x.1.length := filter_range_len
      obtain ⟨u, c1, c2⟩ := Gr.ints (l := ofN (befL x.1 i)) (d := 10) (by simpa using hg) (by simp; unfold top; omega) (ofN_rng (n := 1000) (fun a ha => by have := (List.mem_filter.1 ha).1; simp at this; omega) (by omega))
      exact hq_some c1 (h u c2)
end Go.Proofs.Ytoommmeapdkopaa.E
namespace Go.Proofs.Ytoommmeapdkopaa.E
open Go Go.Eng

theorem cBefore0 {x : tShop.D} {v : V} (hx : tShop.V x v) (h0 : x.1.length = 0) (he : shopErr x (decide ((orderL x.1).length < x.1.length)) = 0) {H : Heap} {k : V → Heap → Prop} (h : k .z0 H) : Cl G 46 [v] H k := by
  obtain ⟨a, b, rfl, h1, h2⟩ := shop_v hx
  obtain ⟨z1, z2, z3, z4⟩ := shopErr_zero he
  refine Cl.mode1 (F := i46) rfl rfl (by simp [h1.closed, h2.closed]) ?_
  rw [w46]
  have e0 : mksV 1 24 [.nils] [] (.int .i64 x.1.length) (.int .i64 x.1.length) = some (.z0, []) := by rw [h0]; rfl
  simp only [bxrV_agg, closedVs_cons, closedVs_nil, h1.closed, h2.closed, Bool.and_self, bd_some, fadrV_rptr, List.drop_zero, ldV_one, h1.lens, e0, bd2_some, ldV_s2, pur56, Bool.or_true, Bool.true_or, true_and]
  refine c56 hx (by omega) (inRange_of z3) fun r H' hr => ?_
  have ho : (orderL x.1).length = 0 := by have := shopErr_order he; omega
  simp only [hr.lens, bd_some, ho]
  refine ub46_0 0 (fun m _ c3 _ c16 c17 _ => c3 = .z0 ∧ c16 = .int .i64 (0 : Nat) ∧ c17 = .int .i64 m) ?_ 0 (Nat.zero_le _) ⟨rfl, rfl, rfl⟩
  rintro m hm _ _ _ _ _ H2 ⟨rfl, rfl, rfl⟩
  intros
  rw [wb46_0]
  have : ¬ ((m : Int) < (0 : Nat)) := by omega
  simp only [bd_some, binV_lss, ifB_bool, this, decide_false, Bool.false_eq_true, if_false, upQ_e, blockQ_e, if_true, seqQ_n, wr46_5, ret46, hq_z0]
  exact h
theorem okBef {x : tShop.D} {v : V} (hx : tShop.V x v) (he : shopErr x (decide ((orderL x.1).length < x.1.length)) = 0) {H : Heap} {k : V → Heap → Prop}
    (h : ∀ r, Arr 1 (Ty.R (.sl (.int .i64))) r ((List.range x.1.length).map fun i => ofN (befL x.1 i)) → k (.tup [r, .int .i64 0]) H) : Cl G 26 [v] H k := by
  by_cases h0 : x.1.length = 0
  case neg => exact ok_Before hx (by omega) he h
  obtain ⟨a, b, rfl, h1, h2⟩ := shop_v hx
  refine Cl.mode1 (F := i26) rfl rfl (by simp [h1.closed, h2.closed]) ?_
  rw [w26]
  simp only [bxrV_agg, closedVs_cons, closedVs_nil, h1.closed, h2.closed, Bool.and_self, bd_some, ldV_s2, Bool.true_or, true_and]
  refine c29 hx ?_
  rw [he]
  simp only [binV_neq, decide_true, Bool.not_true, bd_some, ifB_bool, Bool.false_eq_true, if_false, ldV_s2, Bool.true_or, true_and]
  refine cBefore0 hx h0 he ?_
  have lz : lensV .z0 = some (.int .i64 (0 : Nat)) := rfl
  simp only [lz, bd_some]
  refine ub26_0 0 (fun m c5 _ c18 c19 _ => c5 = .nils ∧ c18 = .int .i64 (0 : Nat) ∧ c19 = .int .i64 m) ?_ 0 (Nat.zero_le _) ⟨rfl, rfl, rfl⟩
  rintro m hm _ _ _ _ H2 ⟨rfl, rfl, rfl⟩
  intros
  rw [wb26_0]
  have : ¬ ((m : Int) < (0 : Nat)) := by omega
  simp only [bd_some, binV_lss, ifB_bool, this, decide_false, Bool.false_eq_true, if_false, upQ_e, blockQ_e, if_true, seqQ_n, wr26_5, ret26]
  refine hq_some (v' := .tup [.nils, .int .i64 0]) rfl (h .nils ?_)
  rw [h0]
  exact ⟨[], by simp, by simp, by simp, by simp [top], by simp, .inr ⟨rfl, .inl rfl⟩⟩
end Go.Proofs.Ytoommmeapdkopaa.E
namespace Go.Proofs.Ytoommmeapdkopaa.E
open Go Go.Eng

theorem rdT_eq {T : List tTask.D} (hr : inRange T) {i : Nat} (hi : i < T.length) (D : List Nat) : rdT T D i = (!decide (i ∈ D) && (aft T i).all fun a => decide (a ∈ ofN D)) := by
  have : ((aft T i).any fun a => !decide (a.toNat ∈ D)) = !(aft T i).all fun a => decide (a ∈ ofN D) := by
    rw [Bool.eq_iff_iff]
    simp only [List.any_eq_true, Bool.not_eq_true', List.all_eq_false, decide_eq_false_iff_not, decide_eq_true_eq]
    refine exists_congr fun a => and_congr_right fun ha => not_congr ?_
    have h0 := (hr i hi a ha).1
    rw [mem_ofN]
    constructor
    · exact fun h => ⟨_, h, by omega⟩
    · rintro ⟨b, hb, e⟩
      have : a.toNat = b := by omega
      exact this ▸ hb
  rw [rdT, this, Bool.not_not]

/-- the law -/
theorem taskOrders_true {x : tShop.D} {v : V} (hx : tShop.V x v) (i : Int) : Cl G 7 [v, .int .i64 i] [] fun r _ => r = .bool true := by
  obtain ⟨a, b, rfl, h1, h2⟩ := shop_v hx
  refine Cl.mode1 (F := i7) rfl rfl (by simp [h1.closed, h2.closed]) ?_
  rw [w7]
  simp only [bxrV_agg, closedVs_cons, closedVs_nil, h1.closed, h2.closed, Bool.and_self, bd_some, Bool.true_or, true_and]
  refine cknown ?_
  simp only [unV_not, Bool.not_true, bd_some, gdV_bool, beq_self_eq_true, wpg_true, ldV_s2, Bool.true_or, true_and]
  refine c11 hx ?_
  cases hfew : few x
  · simp
    exact cknown (by simp)
  obtain ⟨f1, f2, f3, f4⟩ := few_all hfew
  simp only [unV_not, Bool.not_true, bd_some, pickV_bool, Bool.false_eq_true, if_false, gdV_bool, beq_self_eq_true, wpg_true, ldV_s2, Bool.true_or, true_and]
  refine c14 hx f1 (few_aft hfew) ?_
  by_cases hc : shopErr x (decide ((orderL x.1).length < x.1.length)) = 0
  case neg =>
    simp [hc]
    exact cknown (by simp)
  obtain ⟨z1, z2, z3, z4⟩ := shopErr_zero hc
  have vl := vld_of hc
  have hrg := inRange_of z3
  have hstep : ∀ m (h : m < (orderL x.1).length), (List.range x.1.length).find? (rdT x.1 ((orderL x.1).take m)) = some (orderL x.1)[m] := fun m h => greedy_step _ _ m (by simp) h
  have hOl := vl.len
  simp only [hc, binV_neq, decide_true, Bool.not_true, bd_some, pickV_bool, Bool.false_eq_true, if_false, ifB_bool, ldV_s2, Bool.true_or, true_and]
  refine ok_Order hx hc fun o ho => ?_
  simp only [extV, List.getElem?_cons_zero, List.getElem?_cons_succ, bd_some, ldV_s2, Bool.true_or, true_and]
  refine okBef hx hc fun bb hb => ?_
  simp only [extV, List.getElem?_cons_zero, List.getElem?_cons_succ, bd_some, ldV_s2, Bool.true_or, true_and]
  have hbl : lensV bb = some (.int .i64 x.1.length) := by have := hb.lens; simpa using this
  have hol : lensV o = some (.int .i64 x.1.length) := by have := ho.lens; rw [this]; simp [ofN, hOl]
  -- the loops, whatever the third function returned
  have main : ∀ (av : V) (g : Int), (∀ H1 : Heap, Wr7_7 (.int .i64 i) (.rptr [a, b]) av (.int .i64 g) H1 (retQ i7 (hq 1 [] fun r _ => r = .bool true))) →
      Lb7_0 (.int .i64 i) (.rptr [a, b]) o bb av (.int .i64 g) .nils (.int .i64 0) [] (blockQ 0 (seqQ G r7_7 (retQ i7 (hq 1 [] fun r _ => r = .bool true)))) := by
    intro av g hfin
    unfold Lb7_0
    intros
    refine ub7_0 x.1.length (fun m c1 c2 c5 c7 c9 c10 c11 c12 H => c1 = .int .i64 i ∧ c2 = .rptr [a, b] ∧ o = c5 ∧ bb = c7 ∧ av = c9 ∧ c10 = .int .i64 g ∧ c12 = .int .i64 m ∧ Gr 1 [] H c11 ((ofN ((orderL x.1).take m)).map (V.int .i64)) m) ?_ 0 (Nat.zero_le _) ⟨rfl, rfl, rfl, rfl, rfl, rfl, rfl, by simpa [ofN] using Gr.nil (k := 1) (F := [])⟩
    rintro m hm _ _ _ _ _ _ dn _ H2 ⟨rfl, rfl, rfl, rfl, rfl, rfl, rfl, hg⟩
    intros
    rw [wb7_0]
    simp only [fadrV_rptr, List.drop_zero, ldV_one, h1.lens, bd_some, binV_lss, ifB_bool, decide_eq_true_eq, Int.ofNat_lt]
    split
    · rename_i hml
      have hmO : m < (orderL x.1).length := by omega
      have hD : ((orderL x.1).take m).length = m := by simp; omega
      have hDl : ∀ d ∈ (orderL x.1).take m, d ≤ 1000 := fun d hd => by have := vl.lt d (List.mem_of_mem_take hd); omega
      have fnd := hstep m hmO
      generalize hDd : (orderL x.1).take m = D at *
      generalize hnx : (orderL x.1)[m] = nx at *
      have hnxl : nx < x.1.length := hnx ▸ vl.lt _ (List.getElem_mem hmO)
      have dsh : ∀ H', Gr 1 [] H' dn ((ofN D).map (V.int .i64)) m → Sh H' 1 tI.R dn (ofN D) := fun H' hg' => by
        have : (ofN D).length = m := by simp [ofN, hD]
        rw [← this] at hg'
        exact hg'.sh (by simp [ofN, hD]; unfold top; omega) (ofN_rng (n := 1000) hDl (by omega))
      refine ub7_1 x.1.length (fun t c1 c2 c5 c7 c9 c10 c11 c12 c13 c14 H => c1 = .int .i64 i ∧ c2 = .rptr [a, b] ∧ o = c5 ∧ bb = c7 ∧ av = c9 ∧ c10 = .int .i64 g ∧ dn = c11 ∧ c12 = .int .i64 m ∧ c14 = .int .i64 t ∧ Gr 1 [] H dn ((ofN D).map (V.int .i64)) m ∧ ((c13 = .int .i64 (-1) ∧ ∀ j, j < t → rdT x.1 D j = false) ∨ c13 = .int .i64 nx)) ?_ 0 (Nat.zero_le _) ⟨rfl, rfl, rfl, rfl, rfl, rfl, rfl, rfl, rfl, hg, .inl ⟨rfl, fun j hj => by omega⟩⟩
      clear hg
      rintro t ht _ _ _ _ _ _ _ _ c13 _ H3 ⟨rfl, rfl, rfl, rfl, rfl, rfl, rfl, rfl, rfl, hg, hd⟩
      intros
      rw [wb7_1]
      -- how the search ends
      have fin : c13 = .int .i64 nx → ∀ Hx, Gr 1 [] Hx dn ((ofN D).map (V.int .i64)) m → Wr7_5 (.int .i64 i) (.rptr [a, b]) o bb av (.int .i64 g) dn (.int .i64 m) (.int .i64 nx) Hx (blockQ 1 (seqQ G r7_6 (upQ x.1.length (Sb7_0 fun m c1 c2 c5 c7 c9 c10 c11 c12 H => c1 = .int .i64 i ∧ c2 = .rptr [a, b] ∧ o = c5 ∧ bb = c7 ∧ av = c9 ∧ c10 = .int .i64 g ∧ c12 = .int .i64 m ∧ Gr 1 [] H c11 ((ofN ((orderL x.1).take m)).map (V.int .i64)) m) m (blockQ 0 (seqQ G r7_7 (retQ i7 (hq 1 [] fun r _ => r = .bool true))))))) := by
        intro _ Hx hgx
        unfold Wr7_5
        intros
        rw [wr7_5]
        obtain ⟨r1, e1⟩ := ho.int1 (i := m) (by simp [ofN]; omega)
        have g1 : (ofN (orderL x.1))[m]'(by simp [ofN]; omega) = (nx : Int) := by simp [ofN, hnx]
        rw [g1] at e1
        obtain ⟨_, rr, ⟨row, rfl, q⟩, _, er⟩ := hb.iadr (i := m) (by simpa using hml)
        simp only [List.getElem_map, List.getElem_range] at q
        simp only [e1, bd_some, ldV_one, binV_neq, decide_true, Bool.not_true, gdV_bool, beq_self_eq_true, wpg_true, er, List.singleton_append, ldV_s2, pur28, Bool.or_true, Bool.true_or, true_and]
        refine c28 hx hc hml fun r hr => ?_
        refine c19 (q.sh _) (hr.sh _) ?_
        obtain ⟨v', H', g1, g2⟩ := hgx.push (xs := [.int .i64 nx]) rfl (by omega) (bytes := 8) (by unfold room; omega)
        simp only [decide_true, unV_not, Bool.not_true, bd_some, pickV_bool, Bool.false_eq_true, if_false, ifB_bool, bslV_one (show oneC (.int .i64 nx) = true from rfl), bd2_some, g1, blockQ_n, seqQ_n, wr7_6, binV_add, wi (show (m : Int) + 1 = ((m + 1 : Nat) : Int) by omega) (by omega), upQ_n, Sb7_0_eq, true_and]
        refine ⟨m + 1, by omega, by omega, rfl, ?_⟩
        rw [tk hmO, hDd, hnx]
        simpa [ofN] using g2
      by_cases htl : t < x.1.length
      case neg =>
        have htI : ¬ ((t : Int) < x.1.length) := by omega
        have hc13 : c13 = .int .i64 nx := by
          rcases hd with ⟨_, hall⟩ | h
          · rw [find_range_none fun j hj => hall j (by omega)] at fnd; cases fnd
          · exact h
        have fin' := fin hc13 H3 hg
        subst hc13
        simp only [fadrV_rptr, List.drop_zero, ldV_one, h1.lens, bd_some, binV_lss, htI, decide_false, gdV_bool, show (false == true) = false from rfl, wpg_false, pickV_bool, Bool.false_eq_true, if_false, ifB_bool, upQ_e, blockQ_e, if_true, seqQ_n]
        exact fin' ..
      have htI : ((t : Int) < x.1.length) := by omega
      rcases hd with ⟨rfl, hall⟩ | hc13
      case inr =>
        have fin' := fin hc13 H3 hg
        subst hc13
        have : ¬ ((nx : Int) < 0) := by omega
        simp only [fadrV_rptr, List.drop_zero, ldV_one, h1.lens, bd_some, binV_lss, htI, decide_true, gdV_bool, beq_self_eq_true, wpg_true, this, decide_false, pickV_bool, Bool.false_eq_true, if_false, if_true, ifB_bool, upQ_e, blockQ_e, seqQ_n]
        exact fin' ..
      clear fin
      obtain ⟨w, r, e, q⟩ := task_at h1 htl
      have hal : aft x.1 t = x.1[t].2.2.2 := aft_of htl
      have hql : x.1[t].2.2.2.length ≤ top := q.le
      simp only [fadrV_rptr, List.drop_zero, ldV_one, h1.lens, bd_some, binV_lss, htI, decide_true, gdV_bool, beq_self_eq_true, wpg_true, show ((-1 : Int) < 0) = True by decide, pickV_bool, if_true, ifB_bool, Bool.true_or, true_and]
      refine c22 (dsh _ hg) ?_
      have hmm : ((t : Int) ∈ ofN D) ↔ t ∈ D := by
        rw [mem_ofN]; exact ⟨fun ⟨a, ha, e⟩ => by have : a = t := by omega
                                                  exact this ▸ ha, fun h => ⟨t, h, rfl⟩⟩
      simp only [unV_not, bd_some, e, List.drop_succ_cons, q.lens, fadrV_rptr, List.drop_zero, ldV_one, hmm]
      refine ub7_2 x.1[t].2.2.2.length (fun s c1 c2 c5 c7 c9 c10 c11 c12 c13 c14 c15 c96 c97 c98 H => c1 = .int .i64 i ∧ c2 = .rptr [a, b] ∧ o = c5 ∧ bb = c7 ∧ av = c9 ∧ c10 = .int .i64 g ∧ dn = c11 ∧ c12 = .int .i64 m ∧ c13 = .int .i64 (-1) ∧ c14 = .int .i64 t ∧ c15 = .bool (!decide (t ∈ D) && ((aft x.1 t).take s).all fun a => decide (a ∈ ofN D)) ∧ w = c96 ∧ c97 = .int .i64 x.1[t].2.2.2.length ∧ c98 = .int .i64 s ∧ Gr 1 [] H dn ((ofN D).map (V.int .i64)) m) ?_ 0 (Nat.zero_le _) ⟨rfl, rfl, rfl, rfl, rfl, rfl, rfl, rfl, rfl, rfl, by simp, rfl, rfl, rfl, hg⟩
      clear hg
      rintro s hs _ _ _ _ _ _ _ _ _ _ _ _ _ _ H4 ⟨rfl, rfl, rfl, rfl, rfl, rfl, rfl, rfl, rfl, rfl, rfl, rfl, rfl, rfl, hg⟩
      intros
      rw [wb7_2]
      simp only [bd_some, binV_lss, ifB_bool, decide_eq_true_eq, Int.ofNat_lt]
      split
      · rename_i hsl
        obtain ⟨r3, e3⟩ := q.int1 hsl
        have ws : IntKind.i64.wrap ((s : Int) + 1) = ((s + 1 : Nat) : Int) := wi (by omega) (by unfold top at hql; omega)
        have step : ((aft x.1 t).take (s + 1)).all (fun a => decide (a ∈ ofN D)) = (((aft x.1 t).take s).all (fun a => decide (a ∈ ofN D)) && decide (x.1[t].2.2.2[s] ∈ ofN D)) := by
          have hsl' : s < (aft x.1 t).length := by rw [hal]; exact hsl
          rw [all_take_succ hsl']; simp only [hal]
        simp only [e3, bd_some, ldV_one]
        cases hbv : (!decide (t ∈ D) && ((aft x.1 t).take s).all fun a => decide (a ∈ ofN D))
        · simp only [gdV_bool, show (false == true) = false from rfl, wpg_false, pickV_bool, Bool.false_eq_true, if_false, bd_some, binV_add, ws, upQ_n, Sb7_2_eq, true_and]
          exact ⟨s + 1, by omega, by omega, by rw [step, ← Bool.and_assoc, hbv, Bool.false_and], rfl, hg⟩
        · simp only [gdV_bool, beq_self_eq_true, wpg_true, Bool.true_or, true_and]
          refine c22 (dsh _ hg) ?_
          simp only [pickV_bool, if_true, bd_some, binV_add, ws, upQ_n, Sb7_2_eq, true_and]
          exact ⟨s + 1, by omega, by omega, by rw [step, ← Bool.and_assoc, hbv, Bool.true_and], rfl, hg⟩
      · rename_i hsl
        have htk : (aft x.1 t).take s = aft x.1 t := List.take_of_length_le (by rw [hal]; omega)
        rw [htk, ← rdT_eq hrg htl]
        have wt : IntKind.i64.wrap ((t : Int) + 1) = ((t + 1 : Nat) : Int) := wi (by omega) (by omega)
        simp only [upQ_e, blockQ_e, if_true, seqQ_n, wr7_3, ifB_bool]
        cases hb : rdT x.1 D t
        · simp only [Bool.false_eq_true, if_false, blockQ_n, seqQ_n, wr7_4, binV_add, bd_some, wt, upQ_n, Sb7_1_eq, true_and]
          refine ⟨t + 1, by omega, by omega, rfl, hg, .inl fun j hj => ?_⟩
          by_cases e : j = t
          · rw [e]; exact hb
          · exact hall j (by omega)
        · have : t = nx := by
            rw [find_range_some htl hb hall] at fnd
            injection fnd
          simp only [if_true, blockQ_n, seqQ_n, wr7_4, binV_add, bd_some, wt, upQ_n, Sb7_1_eq, true_and]
          exact ⟨t + 1, by omega, by omega, rfl, hg, .inr (by rw [this])⟩
    · simp only [upQ_e, blockQ_e, if_true, seqQ_n]
      exact hfin H2 ..
  refine ok_Able hx hc (fun hout => ?_) fun j hj r hij hr => ?_
  · simp only [extV, List.getElem?_cons_zero, List.getElem?_cons_succ, bd_some, binV_neq, decide_true, Bool.not_true, gdV_bool, beq_self_eq_true, wpg_true, pickV_bool, Bool.false_eq_true, if_false, hol, hbl, fadrV_rptr, List.drop_zero, ldV_one, h1.lens, ifB_bool]
    refine main .nils 2 (fun H1 => ?_) ..
    unfold Wr7_7
    intros
    rw [wr7_7]
    have ln : lensV .nils = some (.int .i64 0) := rfl
    by_cases n1 : i < 0
    · simp [n1, ln]
    · have n2 : (x.1.length : Int) ≤ i := by omega
      simp [n1, n2, ln, h1.lens]
  · subst hij
    simp only [extV, List.getElem?_cons_zero, List.getElem?_cons_succ, bd_some, binV_neq, decide_true, Bool.not_true, gdV_bool, beq_self_eq_true, wpg_true, pickV_bool, Bool.false_eq_true, if_false, hol, hbl, fadrV_rptr, List.drop_zero, ldV_one, h1.lens, ifB_bool]
    refine main r 0 (fun H1 => ?_) ..
    unfold Wr7_7
    intros
    rw [wr7_7]
    have n1 : ¬ ((j : Int) < 0) := by omega
    have n2 : ¬ ((x.1.length : Int) ≤ j) := by omega
    simp only [binV_lss, n1, decide_false, bd_some, gdV_bool, beq_self_eq_true, wpg_true, fadrV_rptr, List.drop_zero, ldV_one, h1.lens, binV_geq, ge_iff_le, n2, pickV_bool, Bool.false_eq_true, if_false, ifB_bool, ldV_s2, Bool.true_or, true_and]
    refine c24 hx (by omega) hj fun r2 hr2 => ?_
    refine c19 (hr.sh _) (hr2.sh _) ?_
    simp
end Go.Proofs.Ytoommmeapdkopaa.E
