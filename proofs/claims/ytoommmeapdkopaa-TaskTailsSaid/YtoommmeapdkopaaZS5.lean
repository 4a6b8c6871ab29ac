/- What functions of the program return, proved over the interpreter. Each theorem says its conditions. -/
import Derived.Test.YtoommmeapdkopaaZS4
namespace Go.Proofs.Ytoommmeapdkopaa.E
open Go Go.Eng

theorem nodup_take_not {l : List Nat} (h : l.Nodup) {m : Nat} (hm : m < l.length) : l[m] ∉ l.take m := fun hmem => by
  obtain ⟨j, hj, e⟩ := List.mem_iff_getElem.1 hmem
  have hj' : j < m := by simp at hj; omega
  rw [List.getElem_take] at e
  exact List.pairwise_iff_getElem.1 h j m (by omega) hm hj' e

theorem nodup_inj {l : List Nat} (h : l.Nodup) {i j : Nat} (hi : i < l.length) (hj : j < l.length) (e : l[i] = l[j]) : i = j := by
  have hp := List.pairwise_iff_getElem.1 h
  rcases Nat.lt_trichotomy i j with hlt | rfl | hlt
  · exact absurd e (hp i j hi hj hlt)
  · rfl
  · exact absurd e.symm (hp j i hj hi hlt)
structure Vld (T : List tTask.D) (O : List Nat) : Prop where
  len : O.length = T.length
  nd : O.Nodup
  lt : ∀ d ∈ O, d < T.length
  ok : ∀ m (h : m < O.length), ∀ a ∈ aft T O[m], a.toNat ∈ O.take m
  rg : inRange T
theorem vld_of {x : tShop.D} (he : shopErr x (decide ((orderL x.1).length < x.1.length)) = 0) : Vld x.1 (orderL x.1) :=
  ⟨shopErr_order he, orderL_ok.1, orderL_lt, orderL_ok.2, inRange_of (shopErr_zero he).2.2.1⟩

namespace Vld
variable {T : List tTask.D} {O : List Nat}
theorem all (v : Vld T O) {i : Nat} (hi : i < T.length) : i ∈ O := by
  refine Classical.byContradiction fun hno => ?_
  have := nodup_len T.length (i :: O) (List.nodup_cons.2 ⟨hno, v.nd⟩) (fun d hd => by
    rcases List.mem_cons.1 hd with rfl | hd
    · exact hi
    · exact v.lt _ hd)
  have := v.len
  simp at *; omega
theorem at' (v : Vld T O) {i : Nat} (hi : i < T.length) : ∃ p, ∃ h : p < O.length, O[p] = i := by
  obtain ⟨p, h, e⟩ := List.mem_iff_getElem.1 (v.all hi)
  exact ⟨p, h, e⟩
theorem pos (v : Vld T O) {p q : Nat} (hp : p < O.length) (hq : q < O.length) (h : (O[q] : Int) ∈ aft T O[p]) : q < p := by
  have := v.ok p hp _ h
  simp only [Int.toNat_natCast] at this
  obtain ⟨r, hr, e⟩ := List.mem_iff_getElem.1 this
  rw [List.getElem_take] at e
  have hr' : r < p := by simp at hr; omega
  have : r = q := nodup_inj v.nd (by omega) (hq) e
  omega
theorem nat (v : Vld T O) {i : Nat} (hi : i < T.length) {a : Int} (ha : a ∈ aft T i) : ∃ c : Nat, a = c ∧ c < T.length := by
  obtain ⟨h1, h2⟩ := v.rg i hi a ha
  exact ⟨a.toNat, by omega, by omega⟩
theorem up (v : Vld T O) {P : Nat → Prop} (h : ∀ i, i < T.length → (∀ a : Nat, (a : Int) ∈ aft T i → P a) → P i) : ∀ i, i < T.length → P i := by
  have gen : ∀ p (hp : p < O.length), P O[p] := by
    intro p
    induction p using Nat.strongRecOn with
    | ind p ih =>
      intro hp
      refine h _ (v.lt _ (List.getElem_mem hp)) fun a ha => ?_
      have := (v.rg _ (v.lt _ (List.getElem_mem hp)) _ ha).2
      obtain ⟨q, hq, rfl⟩ := v.at' (i := a) (by omega)
      exact ih q (v.pos hp hq ha) hq
  intro i hi
  obtain ⟨p, hp, rfl⟩ := v.at' hi
  exact gen p hp
theorem dn (v : Vld T O) {P : Nat → Prop} (h : ∀ i, i < T.length → (∀ k, k < T.length → (i : Int) ∈ aft T k → P k) → P i) : ∀ i, i < T.length → P i := by
  have gen : ∀ m p (hp : p < O.length), O.length - p = m → P O[p] := by
    intro m
    induction m using Nat.strongRecOn with
    | ind m ih =>
      intro p hp hm
      refine h _ (v.lt _ (List.getElem_mem hp)) fun k hk ha => ?_
      obtain ⟨q, hq, rfl⟩ := v.at' hk
      have := v.pos hq hp ha
      exact ih (O.length - q) (by omega) q hq rfl
  intro i hi
  obtain ⟨p, hp, rfl⟩ := v.at' hi
  exact gen _ p hp rfl
theorem irr (v : Vld T O) {i : Nat} (hi : i < T.length) : (i : Int) ∉ aft T i := fun h => by
  obtain ⟨p, hp, rfl⟩ := v.at' hi
  have := v.pos hp hp h
  omega
theorem rev (v : Vld T O) {m : Nat} (h : m < O.reverse.length) {c : Nat} (hc : (c : Int) ∈ aft T O.reverse[m]) : c ∉ O.reverse.take m ∧ c ≠ O.reverse[m] := by
  have hm : m < O.length := by simpa using h
  have e : O.reverse[m] = O[O.length - 1 - m]'(by omega) := List.getElem_reverse ..
  have hlt := v.lt _ (List.getElem_mem (l := O) (n := O.length - 1 - m) (by omega))
  rw [e] at hc ⊢
  have hcn := (v.rg _ hlt _ hc).2
  obtain ⟨q, hq, rfl⟩ := v.at' (i := c) (by omega)
  have hqp := v.pos (by omega) hq hc
  refine ⟨fun hmem => ?_, fun e' => ?_⟩
  · obtain ⟨r, hr, e2⟩ := List.mem_iff_getElem.1 hmem
    rw [List.getElem_take, List.getElem_reverse] at e2
    have hr' : r < m := by simp at hr; omega
    have := nodup_inj v.nd (by omega) (hq) e2
    omega
  · have := nodup_inj v.nd (hq) (by omega) e'
    omega
end Vld

def dur (T : List tTask.D) (i : Nat) : Int := match T[i]? with | some t => t.2.1 | none => 0
theorem dur_of {T : List tTask.D} {i : Nat} (h : i < T.length) : dur T i = T[i].2.1 := by simp [dur, h]
theorem dur_rng {T : List tTask.D} (hz : tasksErr T = 0) {i : Nat} (h : i < T.length) : 1 ≤ dur T i ∧ dur T i ≤ 1048576 := by
  have := taskErr_zero (tasksErr_zero hz h)
  rw [dur_of h]
  exact ⟨this.2.2.1, this.2.2.2.1⟩
def isTail (T : List tTask.D) (f : Nat → Int) : Prop := ∀ i, i < T.length → ∃ s, f i = dur T i + s ∧ 0 ≤ s ∧ (∀ k, k < T.length → (i : Int) ∈ aft T k → f k ≤ s) ∧ (s = 0 ∨ ∃ k, k < T.length ∧ (i : Int) ∈ aft T k ∧ f k = s)
def TInv (T : List tTask.D) (P : List Nat) (E : Nat → Nat → Prop) (g : Nat → Int) : Prop := ∀ c, c < T.length → ∃ s, g c = (if c ∈ P then dur T c else 0) + s ∧ 0 ≤ s ∧ (∀ k, E k c → g k ≤ s) ∧ (s = 0 ∨ ∃ k, E k c ∧ g k = s)
def E0 (T : List tTask.D) (P : List Nat) (k c : Nat) : Prop := k ∈ P ∧ (c : Int) ∈ aft T k
def E1 (T : List tTask.D) (P : List Nat) (i j k c : Nat) : Prop := E0 T P k c ∨ (k = i ∧ (c : Int) ∈ (aft T i).take j)
theorem TInv.start {T : List tTask.D} : TInv T [] (E0 T []) fun _ => 0 := fun c _ => ⟨0, by simp, by omega, fun k h => absurd h.1 (by simp), .inl rfl⟩
theorem TInv.enter {T : List tTask.D} {P : List Nat} {g : Nat → Int} (h : TInv T P (E0 T P) g) {i : Nat} (hi : i ∉ P) : TInv T (P ++ [i]) (E1 T P i 0) fun c => if c = i then g i + dur T i else g c := by
  have key : ∀ k c, E1 T P i 0 k c ↔ E0 T P k c := fun k c => by simp [E1]
  have ne : ∀ k c, E0 T P k c → k ≠ i := fun k c hk e => hi (e ▸ hk.1)
  intro c hc
  obtain ⟨s, h1, h2, h3, h4⟩ := h c hc
  refine ⟨s, ?_, h2, fun k hk => ?_, h4.imp_right fun ⟨k, hk, e⟩ => ⟨k, (key k c).2 hk, ?_⟩⟩
  · by_cases e : c = i
    · subst e; simp only [hi, if_false] at h1; simp; omega
    · simp [e, h1]
  · have := (key k c).1 hk
    simp only [ne k c this, if_false]; exact h3 k this
  · simp only [ne k c hk, if_false]; exact e
theorem TInv.next {T : List tTask.D} {P : List Nat} {i j : Nat} {g : Nat → Int} (h : TInv T (P ++ [i]) (E1 T P i j) g) (hj : j < (aft T i).length) {c0 : Nat} (hc : (aft T i)[j] = (c0 : Int)) (hn : c0 ∉ P ++ [i]) :
    TInv T (P ++ [i]) (E1 T P i (j + 1)) fun c => if c = c0 then (if g i > g c0 then g i else g c0) else g c := by
  have ne : ∀ k c, E1 T P i j k c → k ≠ c0 := fun k c hk e => hn (by
    subst e
    rcases hk with hk | ⟨hk, _⟩
    · exact List.mem_append_left _ hk.1
    · simp [hk])
  have hic : i ≠ c0 := fun e => hn (by simp [e])
  have key : ∀ k c, E1 T P i (j + 1) k c ↔ E1 T P i j k c ∨ (k = i ∧ c = c0) := fun k c => by
    simp only [E1, tk hj, hc, List.mem_append, List.mem_singleton, Int.natCast_inj]
    constructor
    · rintro (h | ⟨h, h' | h'⟩)
      · exact .inl (.inl h)
      · exact .inl (.inr ⟨h, h'⟩)
      · exact .inr ⟨h, h'⟩
    · rintro ((h | ⟨h, h'⟩) | ⟨h, h'⟩)
      · exact .inl h
      · exact .inr ⟨h, .inl h'⟩
      · exact .inr ⟨h, .inr h'⟩
  intro c hcn
  obtain ⟨s, h1, h2, h3, h4⟩ := h c hcn
  by_cases e : c = c0
  · subst e
    simp only [hn, if_false, Int.zero_add] at h1
    refine ⟨if g i > s then g i else s, by simp [hn, h1], by split <;> omega, fun k hk => ?_, ?_⟩
    · rcases (key k c).1 hk with hk | ⟨rfl, _⟩
      · simp only [ne k c hk, if_false]
        have := h3 k hk
        split <;> omega
      · simp only [hic, if_false]; split <;> omega
    · split
      · exact .inr ⟨i, (key i c).2 (.inr ⟨rfl, rfl⟩), by simp [hic]⟩
      · exact h4.imp_right fun ⟨k, hk, e⟩ => ⟨k, (key k c).2 (.inl hk), by simp only [ne k c hk, if_false]; exact e⟩
  · refine ⟨s, by simp [e, h1], h2, fun k hk => ?_, h4.imp_right fun ⟨k, hk, e'⟩ => ⟨k, (key k c).2 (.inl hk), by simp only [ne k c hk, if_false]; exact e'⟩⟩
    rcases (key k c).1 hk with hk | ⟨_, rfl⟩
    · simp only [ne k c hk, if_false]; exact h3 k hk
    · exact absurd rfl e
theorem TInv.leave {T : List tTask.D} {P : List Nat} {i j : Nat} {g : Nat → Int} (h : TInv T (P ++ [i]) (E1 T P i j) g) (hj : (aft T i).length ≤ j) : TInv T (P ++ [i]) (E0 T (P ++ [i])) g := by
  have key : ∀ k c, E1 T P i j k c ↔ E0 T (P ++ [i]) k c := fun k c => by
    simp only [E1, E0, List.take_of_length_le hj, List.mem_append, List.mem_singleton]
    constructor
    · rintro (⟨h, h'⟩ | ⟨rfl, h'⟩)
      · exact ⟨.inl h, h'⟩
      · exact ⟨.inr rfl, h'⟩
    · rintro ⟨h | rfl, h'⟩
      · exact .inl ⟨h, h'⟩
      · exact .inr ⟨rfl, h'⟩
  intro c hc
  obtain ⟨s, h1, h2, h3, h4⟩ := h c hc
  exact ⟨s, h1, h2, fun k hk => h3 k ((key k c).2 hk), h4.imp_right fun ⟨k, hk, e⟩ => ⟨k, (key k c).1 hk, e⟩⟩
theorem TInv.tail {T : List tTask.D} {P : List Nat} {g : Nat → Int} (h : TInv T P (E0 T P) g) (hP : ∀ i, i < T.length → i ∈ P) (hl : ∀ i ∈ P, i < T.length) : isTail T g := fun i hi => by
  obtain ⟨s, h1, h2, h3, h4⟩ := h i hi
  rw [if_pos (hP i hi)] at h1
  exact ⟨s, h1, h2, fun k hk ha => h3 k ⟨hP k hk, ha⟩, h4.imp_right fun ⟨k, hk, e⟩ => ⟨k, hl k hk.1, hk.2, e⟩⟩

def nxC (T : List tTask.D) (f : Nat → Int) (left : Int) (last : Option Nat) : Option Nat := (List.range T.length).find? fun i => decide (f i = left) && match last with | none => true | some c => decide ((c : Int) ∈ aft T i)
def chainL (T : List tTask.D) (f : Nat → Int) : Nat → Int → Option Nat → List Nat
  | 0, _, _ => []
  | d + 1, left, last => if left ≤ 0 then [] else match nxC T f left last with
    | none => []
    | some i => i :: chainL T f d (left - dur T i) (some i)
def leftOK (T : List tTask.D) (f : Nat → Int) (left : Int) (last : Option Nat) : Prop := 0 < left → ∃ i, i < T.length ∧ f i = left ∧ match last with | none => True | some c => (c : Int) ∈ aft T i
theorem nxC_some {T : List tTask.D} {f : Nat → Int} {left : Int} {last : Option Nat} (h : leftOK T f left last) (hp : 0 < left) : ∃ i, nxC T f left last = some i := by
  obtain ⟨i, h1, h2, h3⟩ := h hp
  cases hn : nxC T f left last with
  | some j => exact ⟨j, rfl⟩
  | none =>
    have := List.find?_eq_none.1 hn i (by simpa using h1)
    exfalso; apply this
    cases last <;> simp_all
theorem nxC_spec {T : List tTask.D} {f : Nat → Int} {left : Int} {last : Option Nat} {i : Nat} (h : nxC T f left last = some i) : i < T.length ∧ f i = left ∧ (∀ c, last = some c → (c : Int) ∈ aft T i) := by
  have h1 := List.mem_of_find?_eq_some h
  have h2 := List.find?_some h
  simp only [Bool.and_eq_true, decide_eq_true_eq] at h2
  refine ⟨by simpa using h1, h2.1, fun c hc => ?_⟩
  subst hc
  simpa using h2.2
theorem left_next {T : List tTask.D} {f : Nat → Int} (hf : isTail T f) {left : Int} {last : Option Nat} {i : Nat} (h : nxC T f left last = some i) : leftOK T f (left - dur T i) (some i) := by
  obtain ⟨h1, h2, _⟩ := nxC_spec h
  obtain ⟨s, a1, a2, a3, a4⟩ := hf i h1
  intro hp
  rcases a4 with rfl | ⟨k, k1, k2, k3⟩
  · omega
  · exact ⟨k, k1, by omega, k2⟩
end Go.Proofs.Ytoommmeapdkopaa.E
namespace Go.Proofs.Ytoommmeapdkopaa.E
open Go Go.Eng

noncomputable def redL (T : List tTask.D) (i : Nat) : List Int := (aft T i).filter fun k => !(aft T i).any fun j => rchB T j.toNat k.toNat
noncomputable def redT (T : List tTask.D) : List tTask.D := T.mapIdx fun i t => (t.1, t.2.1, t.2.2.1, redL T i)
theorem redT_len {T : List tTask.D} : (redT T).length = T.length := by simp [redT]
theorem redT_get {T : List tTask.D} {i : Nat} (h : i < T.length) : (redT T)[i]? = some (T[i].1, T[i].2.1, T[i].2.2.1, redL T i) := by simp [redT, h]
theorem redL_sub {T : List tTask.D} {i : Nat} : (redL T i).Sublist (aft T i) := List.filter_sublist
theorem aft_out {T : List tTask.D} {i : Nat} (h : ¬ i < T.length) : aft T i = [] := by simp [aft, h]
section
variable {T : List tTask.D} {O : List Nat}
end
end Go.Proofs.Ytoommmeapdkopaa.E
namespace Go.Proofs.Ytoommmeapdkopaa.E
open Go Go.Eng

theorem cellsI {v : V} {l : List Int} (h : Arr 1 tI.R v l) (H : Heap) : sliceCells H v 1 = some (l.map (V.int .i64), l.length) := by
  obtain ⟨css, h1, h2, h3, h4⟩ := h
  have e : css.flatten = l.map (V.int .i64) := by
    have : css = l.map fun x => [V.int .i64 x] := by
      apply List.ext_getElem (by simp [h1])
      intro i g1 g2
      simp only [List.getElem_map]
      exact (h2 i (by omega) g1).1
    rw [this, flatS]
  rw [h4.cells H, e]
theorem ofN_toNat {l : List Int} (h : ∀ a ∈ l, 0 ≤ a) : ofN (l.map Int.toNat) = l := by
  unfold ofN
  rw [List.map_map]
  conv => rhs; rw [← List.map_id l]
  refine List.map_congr_left fun a ha => ?_
  have := h a ha
  simp only [Function.comp_apply, id_eq]
  show ((a.toNat : Nat) : Int) = a
  omega
def WL (H : Heap) (v : V) (L : List Nat) : Prop := (L = [] ∧ v = .z0) ∨ Gr 1 [] H v ((ofN L).map (V.int .i64)) L.length
theorem WL.lens {H : Heap} {v : V} {L : List Nat} (h : WL H v L) : lensV v = some (.int .i64 L.length) := by
  rcases h with ⟨rfl, rfl⟩ | h
  · rfl
  · exact h.lens
theorem WL.get {H : Heap} {v : V} {L : List Nat} (h : WL H v L) {i : Nat} (hi : i < L.length) : ∃ p, iadrV 1 v (.int .i64 i) = some p ∧ ldV H p 1 false = some (.int .i64 L[i]) := by
  rcases h with ⟨rfl, rfl⟩ | ⟨_, _, _, ⟨c, _⟩ | ⟨id, _, rfl, c⟩⟩
  · simp at hi
  · omega
  · exact ⟨.ptr id i, by simp [iadrV, hi], ldV_own c (by simp [ofN, hi])⟩
theorem WL.sh {H : Heap} {v : V} {L : List Nat} (h : WL H v L) {H' : Heap} (hk : ∀ j, j < H.length → H'[j]? = H[j]?) (hl : L.length ≤ 1000) (hL : ∀ a ∈ L, a ≤ 1000) : Sh H' 1 tI.R v (ofN L) := by
  rcases h with ⟨rfl, rfl⟩ | ⟨g1, g2, g3, g4⟩
  · exact Arr.sh (ints_arr (by simp [ofN, top]) (by simp [ofN]) (.inr ⟨rfl, .inr (.inl rfl)⟩)) _
  · have hg : Gr 1 [] H' v ((ofN L).map (V.int .i64)) (ofN L).length := by
      refine ⟨by simp, by simp, fun j hj => by simp at hj, ?_⟩
      rcases g4 with ⟨c, d⟩ | ⟨id, c1, c2, c3⟩
      · exact .inl ⟨by simpa [ofN] using c, d⟩
      · exact .inr ⟨id, c1, by simpa [ofN] using c2, by rw [hk id (List.getElem?_eq_some_iff.1 c3).1]; exact c3⟩
    exact hg.sh (by simp [ofN]; unfold top; omega) (ofN_rng (n := 1000) hL (by omega))

theorem c28 {x : tShop.D} {v : V} (hx : tShop.V x v) (he : shopErr x (decide ((orderL x.1).length < x.1.length)) = 0) {i : Nat} (hi : i < x.1.length) {H : Heap} {k : V → Heap → Prop}
    (h : ∀ r, Arr 1 tI.R r (ofN (befL x.1 i)) → k r H) : Cl G 28 [v, .int .i64 i] H k := by
  obtain ⟨a, b, rfl, h1, h2⟩ := shop_v hx
  obtain ⟨z1, z2, z3, z4⟩ := shopErr_zero he
  have hrg := inRange_of z3
  have vl := vld_of he
  refine Cl.mode1 (F := i28) rfl rfl (by simp [h1.closed, h2.closed]) ?_
  rw [w28]
  have b0 : bslV 1 0 [.int .i64 0] [] [] = some (.z0, []) := rfl
  obtain ⟨w, r, e, q⟩ := task_at h1 hi
  have hal : aft x.1 i = x.1[i].2.2.2 := aft_of hi
  have hnd : ∀ j, ((aft x.1 j).map Int.toNat).Nodup := fun j => by
    have inc := aft_inc z3 j
    by_cases hj : j < x.1.length
    · rw [List.nodup_iff_pairwise_ne, List.pairwise_map]
      refine List.Pairwise.imp_of_mem ?_ inc
      intro p q hp hq hpq
      have := hrg j hj p hp
      have := hrg j hj q hq
      omega
    · rw [aft_out hj]; simp
  have hof : ∀ j, j < x.1.length → ofN ((aft x.1 j).map Int.toNat) = aft x.1 j := fun j hj => ofN_toNat fun a ha => (hrg j hj a ha).1
  have hlt : ∀ (L : List Nat), (∀ y ∈ L, Rch x.1 i y) → ∀ y ∈ L, y < x.1.length := fun L hL y hy => by
    have gen : ∀ i y, Rch x.1 i y → i < x.1.length → y < x.1.length := by
      intro i y hr
      induction hr with
      | base h => intro hi; have := (hrg _ hi _ h).2; omega
      | step h _ ih => intro hi; have := (hrg _ hi _ h).2; exact ih (by omega)
    exact gen i y (hL y hy) hi
  have hlen : ∀ (L : List Nat), L.Nodup → (∀ y ∈ L, Rch x.1 i y) → L.length ≤ x.1.length := fun L hn hL => nodup_len _ L hn (hlt L hL)
  have start : ∃ v0 H0, appV 1 8 true [] .z0 w = some (v0, H0) ∧ WL H0 v0 ((aft x.1 i).map Int.toNat) := by
    simp only [appV, cellsI q, Option.bind_some]
    by_cases h0 : x.1[i].2.2.2.length = 0
    · simp only [h0, if_true, isSlice]
      exact ⟨_, _, rfl, .inl ⟨by rw [hal, List.length_eq_zero_iff.1 h0]; rfl, rfl⟩⟩
    · have : x.1[i].2.2.2.length * 8 ≤ room := by
        have := hlen _ (hnd i) (fun y hy => by
          obtain ⟨a, ha, rfl⟩ := List.mem_map.1 hy
          refine .base ?_
          rw [Int.toNat_of_nonneg (hrg i hi a ha).1]; exact ha)
        rw [List.length_map, hal] at this
        unfold room; omega
      simp only [h0, if_false, this, if_true]
      refine ⟨_, _, rfl, .inr ⟨by simp [ofN], by simp, by simp, .inr ⟨0, by simp, ?_, ?_⟩⟩⟩
      · simp [hal]
      · rw [hof i hi, hal]; rfl
  obtain ⟨v0, H0, e0, w0⟩ := start
  simp only [bxrV_agg, closedVs_cons, closedVs_nil, h1.closed, h2.closed, Bool.and_self, bd_some, b0, bd2_some, fadrV_rptr, List.drop_zero, List.drop_succ_cons, ldV_one, e, e0]
  refine ub28_0 x.1.length (fun m c2 c5 c6 H => c2 = .rptr [a, b] ∧ c6 = .int .i64 m ∧ ∃ L : List Nat, L.Nodup ∧ (∀ y ∈ L, Rch x.1 i y) ∧ (∀ c : Nat, (c : Int) ∈ aft x.1 i → c ∈ L) ∧ (∀ y ∈ L.take m, ∀ c : Nat, (c : Int) ∈ aft x.1 y → c ∈ L) ∧ WL H c5 L ∧ m ≤ L.length) ?_ 0 (Nat.zero_le _) ⟨rfl, rfl, _, hnd i, fun y hy => ?_, fun c hc => ?_, by simp, w0, by simp⟩
  case refine_2 =>
    obtain ⟨a, ha, rfl⟩ := List.mem_map.1 hy
    refine .base ?_
    rw [Int.toNat_of_nonneg (hrg i hi a ha).1]; exact ha
  case refine_3 => exact List.mem_map.2 ⟨c, hc, by simp⟩
  clear w0 e0
  rintro m hm _ c5 _ H2 ⟨rfl, rfl, L, l1, l2, l3, l4, l5, l6⟩
  intros
  rw [wb28_0]
  have hLn := hlen L l1 l2
  simp only [l5.lens, bd_some, binV_lss, ifB_bool, decide_eq_true_eq, Int.ofNat_lt]
  split
  · rename_i hml
    obtain ⟨p, p1, p2⟩ := l5.get hml
    have hy := hlt L l2 _ (List.getElem_mem hml)
    have hry := l2 _ (List.getElem_mem hml)
    obtain ⟨y, hyL⟩ : ∃ y, L[m] = y := ⟨_, rfl⟩
    rw [hyL] at p2 hy hry
    obtain ⟨w2, r2, e2, q2⟩ := task_at h1 hy
    have haly : aft x.1 y = x.1[y].2.2.2 := aft_of hy
    have hqle : x.1[y].2.2.2.length ≤ top := q2.le
    simp only [fadrV_rptr, List.drop_zero, ldV_one, bd_some, p1, p2, e2, List.drop_succ_cons, q2.lens]
    refine ub28_1 x.1[y].2.2.2.length (fun t c2 c5 c6 c33 c34 c35 H => c2 = .rptr [a, b] ∧ c6 = .int .i64 m ∧ w2 = c33 ∧ c34 = .int .i64 x.1[y].2.2.2.length ∧ c35 = .int .i64 t ∧ ∃ r : List Nat, (L ++ r).Nodup ∧ (∀ y ∈ L ++ r, Rch x.1 i y) ∧ (∀ c : Nat, (c : Int) ∈ (aft x.1 y).take t → c ∈ L ++ r) ∧ WL H c5 (L ++ r)) ?_ 0 (Nat.zero_le _) ⟨rfl, rfl, rfl, rfl, rfl, [], by simpa using l1, by simpa using l2, by simp, by simpa using l5⟩
    rintro t ht _ c5' _ _ _ _ H3 ⟨rfl, rfl, rfl, rfl, rfl, r', k1, k2, k3, k5⟩
    intros
    rw [wb28_1]
    have hLn2 := hlen _ k1 k2
    simp only [bd_some, binV_lss, ifB_bool, decide_eq_true_eq, Int.ofNat_lt]
    split
    · rename_i htl
      obtain ⟨r3, e3⟩ := q2.int1 htl
      have hmem : x.1[y].2.2.2[t] ∈ aft x.1 y := by rw [haly]; exact List.getElem_mem htl
      obtain ⟨c, hc, hcn⟩ := vl.nat hy hmem
      have wt : IntKind.i64.wrap ((t : Int) + 1) = ((t + 1 : Nat) : Int) := wi (by omega) (by unfold top at hqle; omega)
      have tkt : (aft x.1 y).take (t + 1) = (aft x.1 y).take t ++ [(c : Int)] := by
        have : t < (aft x.1 y).length := by rw [haly]; exact htl
        rw [tk this]; simp only [haly, hc]
      rw [hc] at hmem
      simp only [e3, bd_some, ldV_one, hc, Bool.true_or, true_and]
      refine c22 (k5.sh (fun _ _ => rfl) (by omega) (fun a ha => by have := hlt _ k2 a ha; omega)) ?_
      simp only [unV_not, bd_some, ifB_bool, Bool.not_eq_true', decide_eq_false_iff_not]
      have hmm : ((c : Int) ∈ ofN (L ++ r')) ↔ c ∈ L ++ r' := by
        rw [mem_ofN]; exact ⟨fun ⟨a, ha, e⟩ => by have : a = c := by omega
                                                  exact this ▸ ha, fun h => ⟨c, h, rfl⟩⟩
      split
      · rename_i hnot
        rw [hmm] at hnot
        have hg : Gr 1 [] H3 c5' ((ofN (L ++ r')).map (V.int .i64)) (L ++ r').length := by
          rcases k5 with ⟨c, _⟩ | c
          · rw [(List.append_eq_nil_iff.1 c).1] at hml; simp at hml
          · exact c
        obtain ⟨v', H', g1, g2⟩ := hg.push (xs := [.int .i64 c]) rfl (by omega) (bytes := 8) (by unfold room; omega)
        simp only [bslV_one (show oneC (.int .i64 c) = true from rfl), bd2_some, g1, wr28_2, binV_add, bd_some, wt, upQ_n, Sb28_1_eq, true_and]
        refine ⟨t + 1, by omega, by omega, rfl, r' ++ [c], ?_, ?_, ?_, ?_⟩
        · rw [← List.append_assoc, List.nodup_append]
          exact ⟨k1, by simp, fun a ha b hb e => hnot (by rw [← List.mem_singleton.1 hb, ← e]; exact ha)⟩
        · intro z hz
          rw [← List.append_assoc] at hz
          rcases List.mem_append.1 hz with hz | hz
          · exact k2 z hz
          · rw [List.mem_singleton.1 hz]; exact rch_snoc hry hmem
        · intro d hd
          rw [tkt] at hd
          rw [← List.append_assoc]
          rcases List.mem_append.1 hd with hd | hd
          · exact List.mem_append_left _ (k3 d hd)
          · refine List.mem_append_right _ ?_
            have : (d : Int) = c := List.mem_singleton.1 hd
            rw [List.mem_singleton]; omega
        · right
          rw [← List.append_assoc]
          have el : (L ++ r' ++ [c]).length = (L ++ r').length + 1 := by simp; omega
          rw [el]
          simpa [ofN] using g2
      · rename_i hin
        simp only [Decidable.not_not] at hin
        rw [hmm] at hin
        simp only [wr28_2, binV_add, bd_some, wt, upQ_n, Sb28_1_eq, true_and]
        refine ⟨t + 1, by omega, by omega, rfl, r', k1, k2, fun d hd => ?_, k5⟩
        rw [tkt] at hd
        rcases List.mem_append.1 hd with hd | hd
        · exact k3 d hd
        · have : (d : Int) = c := List.mem_singleton.1 hd
          have : d = c := by omega
          exact this ▸ hin
    · rename_i htl
      have hall : (aft x.1 y).take t = aft x.1 y := List.take_of_length_le (by rw [haly]; omega)
      rw [hall] at k3
      have hl' : L.length ≤ (L ++ r').length := by simp
      simp only [upQ_e, blockQ_e, if_true, blockQ_n, seqQ_n, wr28_3, show (2 = 1) = False by decide, if_false, binV_add, bd_some, wi (show (m : Int) + 1 = ((m + 1 : Nat) : Int) by omega) (by omega), upQ_n, Sb28_0_eq, true_and]
      refine ⟨m + 1, by omega, by omega, rfl, L ++ r', k1, k2, fun c hc => List.mem_append_left _ (l3 c hc), fun z hz d hd => ?_, k5, by simp; omega⟩
      rw [List.take_append_of_le_length (by omega), tk hml, hyL] at hz
      rcases List.mem_append.1 hz with hz | hz
      · exact List.mem_append_left _ (l4 z hz d hd)
      · rw [List.mem_singleton.1 hz] at hd; exact k3 d hd
  · rename_i hml
    have : m = L.length := by omega
    subst this
    rw [List.take_length] at l4
    have done := work_done (T := x.1) (i := i) (r := L) l3 l2 l4
    have hfil := work_filter done
    simp only [upQ_e, blockQ_e, if_true, seqQ_n, wr28_4]
    refine ub28_5 x.1.length (fun t c2 c5' c9 c10 H => c2 = .rptr [a, b] ∧ c5 = c5' ∧ c10 = .int .i64 t ∧ Gr 1 H2 H c9 ((ofN ((List.range t).filter fun k => decide (k ∈ L))).map (V.int .i64)) ((List.range t).filter fun k => decide (k ∈ L)).length) ?_ 0 (Nat.zero_le _) ⟨rfl, rfl, rfl, by simpa using Gr.nil (k := 1) (F := H2)⟩
    rintro t ht _ _ c9 _ H3 ⟨rfl, rfl, rfl, hg⟩
    intros
    rw [wb28_5]
    simp only [fadrV_rptr, List.drop_zero, ldV_one, h1.lens, bd_some, binV_lss, ifB_bool, decide_eq_true_eq, Int.ofNat_lt]
    split
    · rename_i htl
      have wt : IntKind.i64.wrap ((t : Int) + 1) = ((t + 1 : Nat) : Int) := wi (by omega) (by omega)
      simp only [Bool.true_or, true_and]
      refine c22 (l5.sh hg.2.2.1 (by omega) (fun a ha => by have := hlt _ l2 a ha; omega)) ?_
      have hmm : ((t : Int) ∈ ofN L) ↔ t ∈ L := by
        rw [mem_ofN]; exact ⟨fun ⟨a, ha, e⟩ => by have : a = t := by omega
                                                  exact this ▸ ha, fun h => ⟨t, h, rfl⟩⟩
      simp only [ifB_bool, decide_eq_true_eq, hmm]
      have hfl : ((List.range t).filter fun k => decide (k ∈ L)).length ≤ t := filter_range_len
      split
      · rename_i hb
        obtain ⟨v', H', g1, g2⟩ := hg.push (xs := [.int .i64 t]) rfl (by omega) (bytes := 8) (by unfold room; omega)
        simp only [bslV_one (show oneC (.int .i64 t) = true from rfl), bd2_some, g1, wr28_6, binV_add, bd_some, wt, upQ_n, Sb28_5_eq, true_and]
        refine ⟨t + 1, by omega, by omega, rfl, ?_⟩
        have : ((List.range (t + 1)).filter fun k => decide (k ∈ L)) = ((List.range t).filter fun k => decide (k ∈ L)) ++ [t] := by rw [List.range_succ, List.filter_append]; simp [hb]
        rw [this]
        simpa [ofN] using g2
      · rename_i hb
        simp only [wr28_6, binV_add, bd_some, wt, upQ_n, Sb28_5_eq, true_and]
        refine ⟨t + 1, by omega, by omega, rfl, ?_⟩
        have : ((List.range (t + 1)).filter fun k => decide (k ∈ L)) = ((List.range t).filter fun k => decide (k ∈ L)) := by rw [List.range_succ, List.filter_append]; simp [hb]
        rw [this]
        exact hg
    · rename_i htl
      have et : t = x.1.length := by omega
      subst et
      rw [hfil] at hg
      simp only [upQ_e, blockQ_e, if_true, seqQ_n, wr28_7, ret28]
      have hbl : (befL x.1 i).length ≤ x.1.length := filter_range_len
      obtain ⟨u, c1, c2⟩ := Gr.ints (l := ofN (befL x.1 i)) (d := 10) (by simpa using hg) (by simp; unfold top; omega) (ofN_rng (n := 1000) (fun a ha => by have := (List.mem_filter.1 ha).1; simp at this; omega) (by omega))
      exact hq_some c1 (h u c2)
end Go.Proofs.Ytoommmeapdkopaa.E
namespace Go.Proofs.Ytoommmeapdkopaa.E
open Go Go.Eng

theorem cBefore0 {x : tShop.D} {v : V} (hx : tShop.V x v) (h0 : x.1.length = 0) (he : shopErr x (decide ((orderL x.1).length < x.1.length)) = 0) {H : Heap} {k : V → Heap → Prop} (h : k .z0 H) : Cl G 46 [v] H k := by
  obtain ⟨a, b, rfl, h1, h2⟩ := shop_v hx
  obtain ⟨z1, z2, z3, z4⟩ := shopErr_zero he
  refine Cl.mode1 (F := i46) rfl rfl (by simp [h1.closed, h2.closed]) ?_
  rw [w46]
  have e0 : mksV 1 24 [.nils] [] (.int .i64 x.1.length) (.int .i64 x.1.length) = some (.z0, []) := by rw [h0]; rfl
  simp only [bxrV_agg, closedVs_cons, closedVs_nil, h1.closed, h2.closed, Bool.and_self, bd_some, fadrV_rptr, List.drop_zero, ldV_one, h1.lens, e0, bd2_some, ldV_s2, pur56, Bool.or_true, Bool.true_or, true_and]
  refine c56 hx (by omega) (inRange_of z3) fun r H' hr => ?_
  have ho : (orderL x.1).length = 0 := by have := shopErr_order he; omega
  simp only [hr.lens, bd_some, ho]
  refine ub46_0 0 (fun m _ c3 _ c16 c17 _ => c3 = .z0 ∧ c16 = .int .i64 (0 : Nat) ∧ c17 = .int .i64 m) ?_ 0 (Nat.zero_le _) ⟨rfl, rfl, rfl⟩
  rintro m hm _ _ _ _ _ H2 ⟨rfl, rfl, rfl⟩
  intros
  rw [wb46_0]
  have : ¬ ((m : Int) < (0 : Nat)) := by omega
  simp only [bd_some, binV_lss, ifB_bool, this, decide_false, Bool.false_eq_true, if_false, upQ_e, blockQ_e, if_true, seqQ_n, wr46_5, ret46, hq_z0]
  exact h
end Go.Proofs.Ytoommmeapdkopaa.E
namespace Go.Proofs.Ytoommmeapdkopaa.E
open Go Go.Eng

@[simp] theorem maxV_int {κ : IntKind} {a b : Int} : maxV (.int κ a) (.int κ b) = some (.int κ (if b > a then b else a)) := nrfl
theorem gr_own_set {F H : Heap} {v : V} {cs cs' : List V} {n : Nat} (h : Gr 1 F H v cs n) (hc : cs'.length = n) {id : Nat} (hv : v = .sl id 0 n n 1) : Gr 1 F (H.set id (.cells cs')) v cs' n := by
  obtain ⟨h1, h2, h3, ⟨rfl, rfl⟩ | ⟨id', i1, i2, i3⟩⟩ := h
  · cases hv
  · rw [hv] at i2
    injection i2 with i2
    subst i2
    refine ⟨by omega, by simpa using h2, fun j hj => ?_, .inr ⟨id, i1, hv, ?_⟩⟩
    · rw [List.getElem?_set_ne (by omega)]; exact h3 j hj
    · rw [List.getElem?_set]; simp [(List.getElem?_eq_some_iff.1 i3).1]
theorem gr_elem {F H : Heap} {v : V} {l : List Int} (h : Gr 1 F H v (l.map (V.int .i64)) l.length) {i : Nat} (hi : i < l.length) : ∃ p, iadrV 1 v (.int .i64 i) = some p ∧ ldV H p 1 false = some (.int .i64 l[i]) := by
  obtain ⟨_, _, _, ⟨c, _⟩ | ⟨id, _, rfl, c⟩⟩ := h
  · omega
  · exact ⟨.ptr id i, by simp [iadrV, hi], ldV_own c (by simp [hi])⟩

theorem tab_self {L : List Int} : tab L.length (fun j => L.getD j 0) = L := by
  apply List.ext_getElem?
  intro i
  by_cases h : i < L.length
  · rw [tab_get h, List.getElem?_eq_getElem h, getD_of h]
  · rw [List.getElem?_eq_none (by simp; omega), List.getElem?_eq_none (by omega)]
theorem tab_rev {L : List Int} : tab L.length (fun j => L.getD (L.length - 1 - j) 0) = L.reverse := by
  apply List.ext_getElem?
  intro i
  by_cases h : i < L.length
  · rw [tab_get h, List.getElem?_reverse h, List.getElem?_eq_getElem (by omega), getD_of (by omega)]
  · rw [List.getElem?_eq_none (by simp; omega), List.getElem?_eq_none (by simp; omega)]

theorem c63 {F H : Heap} {v : V} {L : List Int} (hg : Gr 1 F H v (L.map (V.int .i64)) L.length) (hn : L.length ≤ 1000) {k : V → Heap → Prop}
    (h : ∀ H', Gr 1 F H' v (L.reverse.map (V.int .i64)) L.length → k (.tup []) H') : Cl G 63 [v] H k := by
  refine Cl.inline (F := i63) rfl rfl ?_
  rw [w63]
  have w0 : IntKind.i64.wrap ((L.length : Int) - 1) = (L.length : Int) - 1 := wz (by omega) (by omega)
  simp only [hg.lens, bd_some, binV_sub, w0]
  refine ub63_0 L.length (fun m c0 c2 c3 H => v = c0 ∧ c2 = .int .i64 m ∧ c3 = .int .i64 ((L.length : Int) - 1 - m) ∧ Gr 1 F H v ((tab L.length fun j => if j < m ∨ L.length ≤ j + m then L.getD (L.length - 1 - j) 0 else L.getD j 0).map (V.int .i64)) L.length) ?_ 0 (Nat.zero_le _) ⟨rfl, rfl, by simp, ?_⟩
  case refine_2 =>
    have : (tab L.length fun j => if j < 0 ∨ L.length ≤ j + 0 then L.getD (L.length - 1 - j) 0 else L.getD j 0) = L := by
      conv => rhs; rw [← tab_self (L := L)]
      exact tab_congr fun j hj => by rw [if_neg (by omega)]
    rw [this]; exact hg
  rintro m hm _ _ _ H2 ⟨rfl, rfl, rfl, hg2⟩
  intros
  rw [wb63_0]
  simp only [bd_some, binV_lss, ifB_bool, decide_eq_true_eq]
  split
  · rename_i hlt
    have hml : m + m + 1 < L.length := by omega
    have hid : ∃ id, v = .sl id 0 L.length L.length 1 := by
      obtain ⟨_, _, _, ⟨c, _⟩ | ⟨id, _, c, _⟩⟩ := hg2
      · omega
      · exact ⟨id, c⟩
    obtain ⟨id, hv⟩ := hid
    have hH : H2[id]? = some (.cells ((tab L.length fun j => if j < m ∨ L.length ≤ j + m then L.getD (L.length - 1 - j) 0 else L.getD j 0).map (V.int .i64))) := by
      obtain ⟨_, _, _, ⟨c, _⟩ | ⟨id', _, c, d⟩⟩ := hg2
      · omega
      · rw [hv] at c; injection c with c; subst c; exact d
    have a1 : iadrV 1 v (.int .i64 m) = some (.ptr id m) := by subst hv; simp [iadrV]; omega
    have a2 : iadrV 1 v (.int .i64 ((L.length : Int) - 1 - m)) = some (.ptr id (L.length - 1 - m)) := by
      have : (L.length : Int) - 1 - m = ((L.length - 1 - m : Nat) : Int) := by omega
      rw [this]; subst hv; simp [iadrV]; omega
    have hid2 := (List.getElem?_eq_some_iff.1 hH).1
    generalize hf : (fun j => if j < m ∨ L.length ≤ j + m then L.getD (L.length - 1 - j) 0 else L.getD j 0) = f at *
    have e1 := ldV_own (off := m) hH (tab_map_get (by omega))
    have e2 := ldV_own (off := L.length - 1 - m) hH (tab_map_get (by omega))
    have s1 := stV_own (off := m) (x := .int .i64 (f (L.length - 1 - m))) hH (by simp; omega) rfl
    rw [tab_map_set] at s1
    have hH3 : (H2.set id (B.cells ((tab L.length fun j => if j = m then f (L.length - 1 - m) else f j).map (V.int .i64))))[id]? = some (B.cells ((tab L.length fun j => if j = m then f (L.length - 1 - m) else f j).map (V.int .i64))) := by
      rw [List.getElem?_set]; simp [hid2]
    have s2 := stV_own (off := L.length - 1 - m) (x := .int .i64 (f m)) hH3 (by simp; omega) rfl
    rw [tab_map_set, List.set_set] at s2
    have w1 : IntKind.i64.wrap ((m : Int) + 1) = ((m + 1 : Nat) : Int) := wi (by omega) (by omega)
    have w2 : IntKind.i64.wrap ((L.length : Int) - 1 - m - 1) = (L.length : Int) - 1 - ((m + 1 : Nat) : Int) := by rw [wz (by omega) (by omega)]; omega
    simp only [a1, a2, bd_some, e1, e2, s1, s2, true_and, binV_add, binV_sub, w1, w2, upQ_n, Sb63_0_eq]
    have := gr_own_set hg2 (cs' := (tab L.length fun j => if j = L.length - 1 - m then f m else if j = m then f (L.length - 1 - m) else f j).map (V.int .i64)) (by simp) hv
    have e : (tab L.length fun j => if j = L.length - 1 - m then f m else if j = m then f (L.length - 1 - m) else f j) = tab L.length fun j => if j < m + 1 ∨ L.length ≤ j + (m + 1) then L.getD (L.length - 1 - j) 0 else L.getD j 0 := by
      refine tab_congr fun j hj => ?_
      subst hf
      by_cases c1 : j = L.length - 1 - m
      · have q : L.length - 1 - (L.length - 1 - m) = m := by omega
        have n1 : ¬ (m < m ∨ L.length ≤ m + m) := by omega
        have p1 : j < m + 1 ∨ L.length ≤ j + (m + 1) := by omega
        rw [if_pos c1, if_pos p1, c1, q]
        show (if _ then _ else _) = _
        rw [if_neg n1]
      · by_cases c2 : j = m
        · have n1 : ¬ (L.length - 1 - m < m ∨ L.length ≤ L.length - 1 - m + m) := by omega
          have p1 : j < m + 1 ∨ L.length ≤ j + (m + 1) := by omega
          rw [if_neg c1, if_pos c2, if_pos p1, c2]
          show (if _ then _ else _) = _
          rw [if_neg n1]
        · have i1 : (j < m ∨ L.length ≤ j + m) ↔ (j < m + 1 ∨ L.length ≤ j + (m + 1)) := by omega
          rw [if_neg c1, if_neg c2]
          simp only [i1]
    rw [e] at this
    exact ⟨m + 1, by omega, by omega, rfl, rfl, by rw [e]; exact this⟩
  · rename_i hge
    have : (tab L.length fun j => if j < m ∨ L.length ≤ j + m then L.getD (L.length - 1 - j) 0 else L.getD j 0) = L.reverse := by
      rw [← tab_rev]
      refine tab_congr fun j hj => ?_
      by_cases c : j < m ∨ L.length ≤ j + m
      · rw [if_pos c]
      · have : j = L.length - 1 - j := by omega
        rw [if_neg c, ← this]
    rw [this] at hg2
    simp only [upQ_e, blockQ_e, if_true]
    exact h H2 hg2

theorem c42 {x : tShop.D} {v : V} (hx : tShop.V x v) (he : shopErr x (decide ((orderL x.1).length < x.1.length)) = 0) {H : Heap} {k : V → Heap → Prop}
    (h : ∀ r f, isTail x.1 f → (∀ i, i < x.1.length → 0 ≤ f i ∧ f i ≤ 24 * 1048576) → Arr 1 tI.R r (tab x.1.length f) → k r H) : Cl G 42 [v] H k := by
  obtain ⟨a, b, rfl, h1, h2⟩ := shop_v hx
  obtain ⟨z1, z2, z3, z4⟩ := shopErr_zero he
  have vl := vld_of he
  refine Cl.mode1 (F := i42) rfl rfl (by simp [h1.closed, h2.closed]) ?_
  rw [w42]
  by_cases h0 : x.1.length = 0
  · have e0 : mksV 1 8 [.int .i64 0] [] (.int .i64 x.1.length) (.int .i64 x.1.length) = some (.z0, []) := by rw [h0]; rfl
    simp only [bxrV_agg, closedVs_cons, closedVs_nil, h1.closed, h2.closed, Bool.and_self, bd_some, fadrV_rptr, List.drop_zero, ldV_one, h1.lens, e0, bd2_some, ldV_s2, pur56, Bool.or_true, Bool.true_or, true_and]
    refine c56 hx (by omega) vl.rg fun r H' hr => ?_
    have ho : (orderL x.1).length = 0 := by have := shopErr_order he; omega
    have ho' : orderL x.1 = [] := List.length_eq_zero_iff.1 ho
    refine c63 (L := ofN (orderL x.1)) (by simpa [ofN] using hr) (by simp [ofN, ho]) fun H2 hr2 => ?_
    simp only [hr.lens, bd_some, ho]
    refine ub42_0 0 (fun m _ c3 _ c18 c19 _ => c3 = .z0 ∧ c18 = .int .i64 (0 : Nat) ∧ c19 = .int .i64 m) ?_ 0 (Nat.zero_le _) ⟨rfl, rfl, rfl⟩
    rintro m hm _ _ _ _ _ H2 ⟨rfl, rfl, rfl⟩
    intros
    rw [wb42_0]
    have : ¬ ((m : Int) < (0 : Nat)) := by omega
    simp only [bd_some, binV_lss, ifB_bool, this, decide_false, Bool.false_eq_true, if_false, upQ_e, blockQ_e, if_true, seqQ_n, wr42_3, ret42, hq_z0]
    refine h .z0 (fun _ => 0) (fun i hi => by omega) (fun i hi => by omega) ?_
    rw [h0]
    exact ints_arr (by simp [top]) (by simp [tab]) (.inr ⟨by simp, .inr (.inl rfl)⟩)
  have m8 : mksV 1 8 [.int .i64 0] [] (.int .i64 x.1.length) (.int .i64 x.1.length) = some (.sl 0 0 x.1.length x.1.length 1, [.cells ((tab x.1.length fun _ => 0).map (V.int .i64))]) := by
    have hnz : ¬ ((x.1.length : Int) = 0) := by omega
    have r : (x.1.length : Int) * (8 : Nat) ≤ (room : Int) := by unfold room; omega
    simp only [mksV, hnz, if_false, Int.le_refl, true_and, List.length_nil, List.nil_append, Int.toNat_natCast]
    rw [if_pos ⟨by omega, r⟩, rep_one]
    have : (tab x.1.length fun _ => 0).map (V.int .i64) = List.replicate x.1.length (.int .i64 0) := by simp [tab, List.map_const']
    rw [this]
  simp only [bxrV_agg, closedVs_cons, closedVs_nil, h1.closed, h2.closed, Bool.and_self, bd_some, fadrV_rptr, List.drop_zero, ldV_one, h1.lens, m8, bd2_some, ldV_s2, pur56, Bool.or_true, Bool.true_or, true_and]
  refine c56 hx (by omega) vl.rg fun r H' hr => ?_
  have hOl := vl.len
  refine c63 (L := ofN (orderL x.1)) (by simpa [ofN] using hr) (by simp [ofN]; omega) fun H2 hr2 => ?_
  have erev : (ofN (orderL x.1)).reverse = ofN (orderL x.1).reverse := by simp [ofN]
  have el : (ofN (orderL x.1)).length = x.1.length := by simp [ofN, hOl]
  rw [erev, el] at hr2
  simp only [hr.lens, bd_some, hOl]
  have hRl : (orderL x.1).reverse.length = x.1.length := by simp [hOl]
  have hRn : (orderL x.1).reverse.Nodup := List.pairwise_reverse.2 (vl.nd.imp fun h e => h e.symm)
  have hRlt : ∀ d ∈ (orderL x.1).reverse, d < x.1.length := fun d hd => vl.lt d (List.mem_reverse.1 hd)
  have hrev : ∀ m (h : m < (orderL x.1).reverse.length) (c : Nat), (c : Int) ∈ aft x.1 (orderL x.1).reverse[m] → c ∉ (orderL x.1).reverse.take m ∧ c ≠ (orderL x.1).reverse[m] := fun m h c hc => vl.rev h hc
  have hRall : ∀ i, i < x.1.length → i ∈ (orderL x.1).reverse := fun i hi => List.mem_reverse.2 (vl.all hi)
  generalize (orderL x.1).reverse = R at *
  clear hr
  refine ub42_0 x.1.length (fun m c1 c3 c17 c18 c19 H => c1 = .rptr [a, b] ∧ c3 = .sl 0 0 x.1.length x.1.length 1 ∧ r = c17 ∧ c18 = .int .i64 x.1.length ∧ c19 = .int .i64 m ∧ ∃ g, Gr 1 [.cells ((tab x.1.length g).map (V.int .i64))] H r ((ofN R).map (V.int .i64)) x.1.length ∧ TInv x.1 (R.take m) (E0 x.1 (R.take m)) g ∧ ∀ c, c < x.1.length → 0 ≤ g c ∧ g c ≤ m * 1048576) ?_ 0 (Nat.zero_le _) ⟨rfl, rfl, rfl, rfl, rfl, _, hr2, by simpa using TInv.start, fun c _ => by simp⟩
  clear hr2
  rintro m hm _ _ _ _ _ H3 ⟨rfl, rfl, rfl, rfl, rfl, g, hg, hT, hB⟩
  intros
  rw [wb42_0]
  simp only [bd_some, binV_lss, ifB_bool, decide_eq_true_eq, Int.ofNat_lt]
  split
  · rename_i hml
    have hmR : m < R.length := by omega
    obtain ⟨p, p1, p2⟩ := gr_elem (l := ofN R) (by simpa [ofN, hRl] using hg) (i := m) (by simpa [ofN] using hmR)
    obtain ⟨i, hi⟩ : ∃ i, R[m] = i := ⟨_, rfl⟩
    have hin : i < x.1.length := hi ▸ hRlt _ (List.getElem_mem hmR)
    have hnot : i ∉ R.take m := hi ▸ nodup_take_not hRn hmR
    have e1 : (ofN R)[m]'(by simpa [ofN] using hmR) = (i : Int) := by simp [ofN, hi]
    rw [e1] at p2
    have g0 : H3[0]? = some (.cells ((tab x.1.length g).map (V.int .i64))) := hg.get rfl
    have i3 : iadrV 1 (.sl 0 0 x.1.length x.1.length 1) (.int .i64 i) = some (.ptr 0 i) := by simp [iadrV, hin]
    have l3 := ldV_own (off := i) g0 (tab_map_get hin)
    obtain ⟨w, rr, e, q⟩ := task_at h1 hin
    have hd := dur_rng z3 hin
    rw [dur_of hin] at hd
    have hb := hB i hin
    have wd : IntKind.i64.wrap (g i + x.1[i].2.1) = g i + dur x.1 i := by rw [dur_of hin]; exact wz (by omega) (by omega)
    have s3 := stV_own (off := i) (x := .int .i64 (g i + dur x.1 i)) g0 (by simpa using hin) rfl
    rw [tab_map_set] at s3
    have hg3 := hg.set (j := 0) (by simp) (.cells ((tab x.1.length fun j => if j = i then g i + dur x.1 i else g j).map (V.int .i64)))
    have hT3 := hT.enter hnot
    have hal : aft x.1 i = x.1[i].2.2.2 := aft_of hin
    have hql : x.1[i].2.2.2.length ≤ top := q.le
    have tkm : R.take (m + 1) = R.take m ++ [i] := by rw [tk hmR, hi]
    have hB3 : ∀ c, c < x.1.length → 0 ≤ (if c = i then g i + dur x.1 i else g c) ∧ (if c = i then g i + dur x.1 i else g c) ≤ ((m + 1 : Nat) : Int) * 1048576 := fun c hc => by
      have := hB c hc
      have := dur_rng z3 hin
      split <;> omega
    simp only [p1, p2, bd_some, i3, l3, fadrV_rptr, List.drop_zero, List.drop_succ_cons, ldV_one, e, binV_add, wd, s3, true_and, q.lens]
    refine ub42_1 x.1[i].2.2.2.length (fun t c1 c3 c6 c17 c18 c19 c40 c41 c42 H => c1 = .rptr [a, b] ∧ c3 = .sl 0 0 x.1.length x.1.length 1 ∧ c6 = .int .i64 i ∧ r = c17 ∧ c18 = .int .i64 x.1.length ∧ c19 = .int .i64 m ∧ w = c40 ∧ c41 = .int .i64 x.1[i].2.2.2.length ∧ c42 = .int .i64 t ∧ ∃ g, Gr 1 [.cells ((tab x.1.length g).map (V.int .i64))] H r ((ofN R).map (V.int .i64)) x.1.length ∧ TInv x.1 (R.take m ++ [i]) (E1 x.1 (R.take m) i t) g ∧ ∀ c, c < x.1.length → 0 ≤ g c ∧ g c ≤ ((m + 1 : Nat) : Int) * 1048576) ?_ 0 (Nat.zero_le _) ⟨rfl, rfl, rfl, rfl, rfl, rfl, rfl, rfl, rfl, _, hg3, hT3, hB3⟩
    clear hg hT hB hg3 hT3 hB3 s3 l3 g0 wd hb p1 p2
    rintro t ht _ _ _ _ _ _ _ _ _ H4 ⟨rfl, rfl, rfl, rfl, rfl, rfl, rfl, rfl, rfl, g, hg, hT, hB⟩
    intros
    rw [wb42_1]
    simp only [bd_some, binV_lss, ifB_bool, decide_eq_true_eq, Int.ofNat_lt]
    split
    · rename_i htl
      obtain ⟨r4, e4⟩ := q.int1 htl
      have hmem : x.1[i].2.2.2[t] ∈ aft x.1 i := by rw [hal]; exact List.getElem_mem htl
      obtain ⟨c, hc, hcn⟩ := vl.nat hin hmem
      rw [hc] at e4 hmem
      have hcR := hrev m hmR c (by rw [hi]; exact hmem)
      have g0 : H4[0]? = some (.cells ((tab x.1.length g).map (V.int .i64))) := hg.get rfl
      have i4 : iadrV 1 (.sl 0 0 x.1.length x.1.length 1) (.int .i64 c) = some (.ptr 0 c) := by simp [iadrV, hcn]
      have l4 := ldV_own (off := c) g0 (tab_map_get hcn)
      have l3 := ldV_own (off := i) g0 (tab_map_get hin)
      have s4 := stV_own (off := c) (x := .int .i64 (if g i > g c then g i else g c)) g0 (by simpa using hcn) rfl
      rw [tab_map_set] at s4
      have hg4 := hg.set (j := 0) (by simp) (.cells ((tab x.1.length fun j => if j = c then (if g i > g c then g i else g c) else g j).map (V.int .i64)))
      have wt : IntKind.i64.wrap ((t : Int) + 1) = ((t + 1 : Nat) : Int) := wi (by omega) (by unfold top at hql; omega)
      simp only [e4, bd_some, ldV_one, i4, l4, i3, l3, maxV_int, s4, true_and, binV_add, wt, upQ_n, Sb42_1_eq]
      refine ⟨t + 1, by omega, by omega, rfl, _, hg4, hT.next (by rw [hal]; exact htl) (by simp only [hal]; exact hc) ?_, fun d hd => ?_⟩
      · rw [List.mem_append, List.mem_singleton]; rw [hi] at hcR; exact fun h => h.elim hcR.1 hcR.2
      · have := hB d hd
        have := hB i hin
        have := hB c hcn
        split
        · split <;> omega
        · omega
    · rename_i htl
      have hT4 := hT.leave (by rw [hal]; omega)
      simp only [upQ_e, blockQ_e, if_true, blockQ_n, seqQ_n, show (2 = 1) = False by decide, if_false, wr42_2, binV_add, bd_some, wi (show (m : Int) + 1 = ((m + 1 : Nat) : Int) by omega) (by omega), upQ_n, Sb42_0_eq, true_and]
      exact ⟨m + 1, by omega, by omega, rfl, g, hg, by rw [tkm]; exact hT4, hB⟩
  · rename_i hml
    have em : m = x.1.length := by omega
    subst em
    have htk : R.take x.1.length = R := List.take_of_length_le (by omega)
    rw [htk] at hT
    simp only [upQ_e, blockQ_e, if_true, seqQ_n, wr42_3, ret42]
    have g0 : H3[0]? = some (.cells ((tab x.1.length g).map (V.int .i64))) := hg.get rfl
    have hbd : ∀ i, i < x.1.length → 0 ≤ g i ∧ g i ≤ 24 * 1048576 := fun i hi => by have := hB i hi; omega
    refine hq_some (v' := .ro ((tab x.1.length g).map (V.int .i64)) x.1.length) ?_ (h _ g (hT.tail hRall hRlt) hbd (ints_arr (by simp; unfold top; omega) (fun y hy => ?_) (.inl (by simp))))
    · rw [show closeDepth = 11 + 1 from rfl, closeV_sl g0 (by simp)]
      have : (List.drop 0 ((tab x.1.length g).map (V.int .i64))).take (x.1.length * 1) = (tab x.1.length g).map (V.int .i64) := by
        rw [List.drop_zero]; exact List.take_of_length_le (by simp)
      rw [this, mapO_ints (d := 10)]
      rfl
    · obtain ⟨j, hj, rfl⟩ := List.mem_map.1 hy
      have := hbd j (by simpa using hj)
      exact i64_mm (by omega) (by omega)
end Go.Proofs.Ytoommmeapdkopaa.E
namespace Go.Proofs.Ytoommmeapdkopaa.E
open Go Go.Eng

section
variable {x : tShop.D} {v : V} {H : Heap} {k : V → Heap → Prop}
theorem ok_Tails (hx : tShop.V x v) (he : shopErr x (decide ((orderL x.1).length < x.1.length)) = 0)
    (h : ∀ r f, isTail x.1 f → (∀ i, i < x.1.length → 0 ≤ f i ∧ f i ≤ 24 * 1048576) → Arr 1 tI.R r (tab x.1.length f) → k (.tup [r, .int .i64 0]) H) : Cl G 15 [v] H k := by
  obtain ⟨a, b, rfl, g1, g2⟩ := shop_v hx
  refine Cl.mode1 (F := i15) rfl rfl (by simp [g1.closed, g2.closed]) ?_
  rw [w15]
  simp only [bxrV_agg, closedVs_cons, closedVs_nil, g1.closed, g2.closed, Bool.and_self, bd_some, ldV_s2, Bool.true_or, true_and]
  refine c29 hx ?_
  rw [he]
  simp only [binV_neq, decide_true, Bool.not_true, bd_some, ifB_bool, Bool.false_eq_true, if_false, ldV_s2, Bool.true_or, true_and]
  refine c42 hx he fun r f hf hb hr => ?_
  refine hq_some (v' := .tup [r, .int .i64 0]) ?_ (h r f hf hb hr)
  rw [show closeDepth = 11 + 1 from rfl, closeV_tup]
  simp only [mapO, hr.close, closeV_int, Option.bind_some, Option.map_some]
end

theorem c43 {v : V} {l : List Int} (hx : Arr 1 tI.R v l) (hpos : 0 < l.length) {H : Heap} {k : V → Heap → Prop} (h : ∀ r : Int, r ∈ l → (∀ y ∈ l, y ≤ r) → k (.int .i64 r) H) : Cl G 43 [v] H k := by
  refine Cl.mode1 (F := i43) rfl rfl (by simp [hx.closed]) ?_
  rw [w43]
  have n1 : ¬ ((l.length : Int) < 1) := by omega
  have hle : l.length ≤ top := hx.le
  obtain ⟨r, e⟩ := hx.int1 hpos
  simp only [hx.lens, bd_some, binV_lss, n1, decide_false, ifB_bool, Bool.false_eq_true, if_false, wr43_0]
  simp only [show iadrV 1 v (.int .i64 0) = _ from e, bd_some, ldV_one]
  refine ub43_1 l.length (fun m c0 c3 c4 H => v = c0 ∧ c4 = .int .i64 m ∧ 0 < m ∧ ∃ s, c3 = .int .i64 s ∧ s ∈ l ∧ ∀ y ∈ l.take m, y ≤ s) ?_ 1 (by omega) ⟨rfl, rfl, by omega, l[0], rfl, List.getElem_mem hpos, fun y hy => by
    rw [show (1 : Nat) = 0 + 1 from rfl, tk hpos] at hy
    simp at hy; omega⟩
  rintro m hm _ _ _ H2 ⟨rfl, rfl, hm0, s, rfl, hs, ha⟩
  intros
  rw [wb43_1]
  simp only [hx.lens, bd_some, binV_lss, ifB_bool, decide_eq_true_eq, Int.ofNat_lt]
  split
  · rename_i hlt
    obtain ⟨r2, e2⟩ := hx.int1 hlt
    simp only [e2, bd_some, ldV_one, maxV_int, binV_add, wi (show (m : Int) + 1 = ((m + 1 : Nat) : Int) by omega) (by unfold top at hle; omega), upQ_n, Sb43_1_eq, true_and]
    refine ⟨m + 1, by omega, by omega, rfl, by omega, _, rfl, ?_, fun y hy => ?_⟩
    · split
      · exact List.getElem_mem hlt
      · exact hs
    · rcases (mem_take_succ hlt).1 hy with hy | rfl
      · have := ha y hy
        split <;> omega
      · split <;> omega
  · rename_i hlt
    rw [take_all hlt] at ha
    simp only [upQ_e, blockQ_e, if_true, seqQ_n, wr43_2, ret43, hq_int]
    exact h s hs ha

theorem tail_top {T : List tTask.D} {O : List Nat} (vl : Vld T O) (hz : tasksErr T = 0) {f : Nat → Int} (hf : isTail T f) : ∀ i, i < T.length → 1 ≤ f i ∧ f i ≤ (T.length : Int) * 1048576 := by
  have gen : ∀ i, i < T.length → ∀ p (hp : p < O.length), O[p] = i → 1 ≤ f i ∧ f i ≤ ((T.length - p : Nat) : Int) * 1048576 := by
    refine vl.dn fun i hi ih p hp e => ?_
    obtain ⟨s, h1, h2, h3, h4⟩ := hf i hi
    have hd := dur_rng hz hi
    have hOl := vl.len
    rcases h4 with rfl | ⟨k, k1, k2, k3⟩
    · have : 1 ≤ T.length - p := by omega
      constructor
      · omega
      · have : (1 : Int) ≤ ((T.length - p : Nat) : Int) := by omega
        omega
    · obtain ⟨q, hq, hqk⟩ := vl.at' k1
      have := ih k k1 k2 q hq hqk
      have hpq := vl.pos hq hp (by rw [hqk, e]; exact k2)
      have : ((T.length - q : Nat) : Int) + 1 ≤ ((T.length - p : Nat) : Int) := by omega
      constructor <;> omega
  intro i hi
  obtain ⟨p, hp, e⟩ := vl.at' hi
  have := gen i hi p hp e
  have : ((T.length - p : Nat) : Int) ≤ (T.length : Int) := by omega
  constructor <;> omega

theorem c21 {x : tShop.D} {v : V} (hx : tShop.V x v) (he : shopErr x (decide ((orderL x.1).length < x.1.length)) = 0) {f : Nat → Int} (hf : isTail x.1 f) : ∀ i, i < x.1.length → ∀ (H : Heap) (k : V → Heap → Prop), k (.int .i64 (f i)) H → Cl G 21 [v, .int .i64 i] H k := by
  obtain ⟨a, b, rfl, h1, h2⟩ := shop_v hx
  obtain ⟨z1, z2, z3, z4⟩ := shopErr_zero he
  have vl := vld_of he
  refine vl.dn fun i hi ih H k h => ?_
  refine Cl.mode1 (F := i21) rfl rfl (by simp [h1.closed, h2.closed]) ?_
  rw [w21]
  simp only [bxrV_agg, closedVs_cons, closedVs_nil, h1.closed, h2.closed, Bool.and_self, bd_some]
  refine ub21_0 x.1.length (fun m c1 c2 c5 c6 H => c1 = .int .i64 i ∧ c2 = .rptr [a, b] ∧ c6 = .int .i64 m ∧ ∃ s, c5 = .int .i64 s ∧ 0 ≤ s ∧ (∀ k, k < m → (i : Int) ∈ aft x.1 k → f k ≤ s) ∧ (s = 0 ∨ ∃ k, k < m ∧ (i : Int) ∈ aft x.1 k ∧ f k = s)) ?_ 0 (Nat.zero_le _) ⟨rfl, rfl, rfl, 0, rfl, by omega, fun k hk => by omega, .inl rfl⟩
  rintro m hm _ _ _ _ H2 ⟨rfl, rfl, rfl, s, rfl, s1, s2, s3⟩
  intros
  rw [wb21_0]
  simp only [fadrV_rptr, List.drop_zero, ldV_one, h1.lens, bd_some, binV_lss, ifB_bool, decide_eq_true_eq, Int.ofNat_lt]
  split
  · rename_i hlt
    obtain ⟨w, r, e, q⟩ := task_at h1 hlt
    have hal : aft x.1 m = x.1[m].2.2.2 := aft_of hlt
    have wm : IntKind.i64.wrap ((m : Int) + 1) = ((m + 1 : Nat) : Int) := wi (by omega) (by omega)
    simp only [e, bd_some, fadrV_rptr, List.drop_succ_cons, List.drop_zero, ldV_one, Bool.true_or, true_and]
    refine c22 (q.sh _) ?_
    simp only [ifB_bool, decide_eq_true_eq]
    split
    · rename_i hin
      rw [← hal] at hin
      simp only [ldV_s2, bd_some, Bool.true_or, true_and]
      refine ih m hlt hin _ _ ?_
      simp only [maxV_int, bd_some, wr21_1, binV_add, wm, upQ_n, Sb21_0_eq, true_and]
      refine ⟨m + 1, by omega, by omega, rfl, _, rfl, by split <;> omega, fun k hk hki => ?_, ?_⟩
      · by_cases e : k = m
        · subst e; split <;> omega
        · have := s2 k (by omega) hki
          split <;> omega
      · split
        · exact .inr ⟨m, by omega, hin, rfl⟩
        · exact s3.imp_right fun ⟨k, a, b, c⟩ => ⟨k, by omega, b, c⟩
    · rename_i hin
      rw [← hal] at hin
      simp only [wr21_1, binV_add, bd_some, wm, upQ_n, Sb21_0_eq, true_and]
      refine ⟨m + 1, by omega, by omega, rfl, s, rfl, s1, fun k hk hki => ?_, s3.imp_right fun ⟨k, a, b, c⟩ => ⟨k, by omega, b, c⟩⟩
      by_cases e : k = m
      · subst e; exact absurd hki hin
      · exact s2 k (by omega) hki
  · rename_i hlt
    have em : m = x.1.length := by omega
    subst em
    obtain ⟨t, t1, t2, t3, t4⟩ := hf i hi
    have est : s = t := by
      have : s ≤ t := by
        rcases s3 with rfl | ⟨k, a, b, c⟩
        · exact t2
        · rw [← c]; exact t3 k a b
      have : t ≤ s := by
        rcases t4 with rfl | ⟨k, a, b, c⟩
        · exact s1
        · rw [← c]; exact s2 k a b
      omega
    obtain ⟨w, r, e, q⟩ := task_at h1 hi
    have ht := tail_top vl z3 hf i hi
    have hs : IntKind.i64.wrap (x.1[i].2.1 + s) = f i := by
      have := dur_of hi
      rw [← this, est, ← t1]; exact wz (by omega) (by omega)
    simp only [upQ_e, blockQ_e, if_true, seqQ_n, wr21_2, fadrV_rptr, List.drop_zero, List.drop_succ_cons, bd_some, ldV_one, e, binV_add, hs, ret21, hq_int]
    exact h

def lastI : Option Nat → Int
  | none => -1
  | some c => c
def goB (T : List tTask.D) (f : Nat → Int) (left : Int) (last : Option Nat) (i : Nat) : Bool := decide (f i = left) && match last with | none => true | some c => decide ((c : Int) ∈ aft T i)
theorem nxC_eq {T : List tTask.D} {f : Nat → Int} {left : Int} {last : Option Nat} : nxC T f left last = (List.range T.length).find? (goB T f left last) := rfl
def PI (H : Heap) (lv rp : V) (path : List Nat) : Prop := ∃ pv, Gr 1 [.cells [pv], .cells [lv], .cells [.fn 44 [rp, .ptr 1 0, .ptr 0 0, .ptr 2 0]]] H pv ((ofN path).map (V.int .i64)) path.length
theorem chainL_none {T : List tTask.D} {f : Nat → Int} {left : Int} {last : Option Nat} (h : left ≤ 0) : ∀ d, chainL T f d left last = []
  | 0 => rfl
  | d + 1 => by simp [chainL, h]

theorem ldV_t4 {H : Heap} {a b c d : V} {rest : List V} : ldV H (.rptr (a :: b :: c :: d :: rest)) 4 true = some (.agg [a, b, c, d]) := ldV_all (c := [a, b, c, d]) rfl

theorem extend_ok {T : List tTask.D} {O : List Nat} (vl : Vld T O) (hz : tasksErr T = 0) {a b : V} (h1 : Arr 4 tTask.R a T) {f : Nat → Int} {lv : V} (hl : Arr 1 tI.R lv (tab T.length f)) (hn : T.length ≤ 1000) : ∀ (d : Nat) (left : Int) (last : Option Nat) (H : Heap) (path : List Nat) (k : V → Heap → Prop), left ≤ d → -9223372036854775807 ≤ left → path.length + d ≤ 1000000000 → PI H lv (.rptr [a, b]) path →
    (∀ H', PI H' lv (.rptr [a, b]) (path ++ chainL T f d left last) → k (.tup []) H') → Cl G 44 [.int .i64 (lastI last), .int .i64 left, .rptr [a, b], .ptr 1 0, .ptr 0 0, .ptr 2 0] H k := by
  intro d
  induction d with
  | zero =>
    intro left last H path k hd hlo hr hp h
    have hle : left ≤ 0 := by omega
    rw [chainL_none hle, List.append_nil] at h
    refine Cl.inline (F := i44) rfl rfl ?_
    rw [w44]
    simp only [fadrV_rptr, List.drop_zero, bd_some, ldV_one, h1.lens]
    refine ub44_0 T.length (fun m c0 c1 c3 c4 c5 c11 c12 c13 H => c0 = .int .i64 (lastI last) ∧ c1 = .int .i64 left ∧ c3 = .ptr 1 0 ∧ c4 = .ptr 0 0 ∧ c5 = .ptr 2 0 ∧ a = c11 ∧ c12 = .int .i64 T.length ∧ c13 = .int .i64 m ∧ PI H lv (.rptr [a, b]) path) ?_ 0 (Nat.zero_le _) ⟨rfl, rfl, rfl, rfl, rfl, rfl, rfl, rfl, hp⟩
    rintro m hm _ _ _ _ _ _ _ _ H2 ⟨rfl, rfl, rfl, rfl, rfl, rfl, rfl, rfl, pv, hg⟩
    intros
    rw [wb44_0]
    simp only [bd_some, binV_lss, ifB_bool, decide_eq_true_eq, Int.ofNat_lt]
    split
    · rename_i hlt
      obtain ⟨w, r, e, q⟩ := task_at h1 hlt
      have n1 : ¬ (0 < left) := by omega
      simp only [e, bd_some, ldV_t4, newB]
      rw [stV_fill (k := 4) rfl rfl]
      simp only [bd_some, true_and]
      rw [frz_new (by simp [q.closed])]
      simp only [bd2_some, binV_gtr, gt_iff_lt, n1, decide_false, bd_some, gdV_bool, show (false == true) = false from rfl, wpg_false, pickV_bool, Bool.false_eq_true, if_false, gdV_undef, ifB_bool, binV_add, wi (show (m : Int) + 1 = ((m + 1 : Nat) : Int) by omega) (by omega), upQ_n, Sb44_0_eq, true_and]
      exact ⟨m + 1, by omega, by omega, rfl, pv, hg.alloc _⟩
    · simp only [upQ_e, blockQ_e, if_true, ret44n]
      exact h H2 ⟨pv, hg⟩
  | succ d ih =>
    intro left last H path k hd hlo hr hp h
    refine Cl.inline (F := i44) rfl rfl ?_
    rw [w44]
    simp only [fadrV_rptr, List.drop_zero, bd_some, ldV_one, h1.lens]
    refine ub44_0 T.length (fun m c0 c1 c3 c4 c5 c11 c12 c13 H => c0 = .int .i64 (lastI last) ∧ c1 = .int .i64 left ∧ c3 = .ptr 1 0 ∧ c4 = .ptr 0 0 ∧ c5 = .ptr 2 0 ∧ a = c11 ∧ c12 = .int .i64 T.length ∧ c13 = .int .i64 m ∧ PI H lv (.rptr [a, b]) path ∧ (0 < left → ∀ j, j < m → goB T f left last j = false)) ?_ 0 (Nat.zero_le _) ⟨rfl, rfl, rfl, rfl, rfl, rfl, rfl, rfl, hp, fun _ j hj => by omega⟩
    rintro m hm _ _ _ _ _ _ _ _ H2 ⟨rfl, rfl, rfl, rfl, rfl, rfl, rfl, rfl, ⟨pv, hg⟩, hno⟩
    intros
    rw [wb44_0]
    simp only [bd_some, binV_lss, ifB_bool, decide_eq_true_eq, Int.ofNat_lt]
    split
    · rename_i hlt
      obtain ⟨w, r, e, q⟩ := task_at h1 hlt
      have hal : aft T m = T[m].2.2.2 := aft_of hlt
      have wm : IntKind.i64.wrap ((m : Int) + 1) = ((m + 1 : Nat) : Int) := wi (by omega) (by omega)
      have hga := hg.alloc [.dead]
      simp only [e, bd_some, ldV_t4, newB]
      rw [stV_fill (k := 4) rfl rfl]
      simp only [bd_some, true_and]
      rw [frz_new (by simp [q.closed])]
      simp only [bd2_some, binV_gtr, gt_iff_lt, bd_some, gdV_bool]
      by_cases hpos : 0 < left
      case neg =>
        simp only [hpos, decide_false, show (false == true) = false from rfl, wpg_false, pickV_bool, Bool.false_eq_true, if_false, bd_some, gdV_undef, gdV_bool, ifB_bool, binV_add, wm, upQ_n, Sb44_0_eq, true_and]
        exact ⟨m + 1, by omega, by omega, rfl, ⟨pv, hga⟩, fun hp => (by first | exact absurd hp hpos | exact hp.elim)⟩
      have l1 : ldV (H2 ++ [.dead]) (.ptr 1 0) 1 false = some lv := ldV_own (hga.get (j := 1) rfl) rfl
      obtain ⟨r5, e5⟩ := hl.int1 (i := m) (by simpa using hlt)
      have g5 : (tab T.length f)[m]'(by simpa using hlt) = f m := by simp [tab]
      rw [g5] at e5
      simp only [hpos, decide_true, beq_self_eq_true, wpg_true, l1, bd_some, e5, ldV_one, binV_eql, pickV_bool, if_true, gdV_bool]

      by_cases hgo : goB T f left last m = true
      · have hfm : f m = left := by simp only [goB, Bool.and_eq_true, decide_eq_true_eq] at hgo; exact hgo.1
        have hnx : nxC T f left last = some m := by rw [nxC_eq]; exact find_range_some hlt hgo (hno hpos)
        have hch : chainL T f (d + 1) left last = m :: chainL T f d (left - dur T m) (some m) := by
          simp only [chainL, show ¬ left ≤ 0 by omega, if_false, hnx]
        rw [hch] at h
        have hd2 := dur_rng hz hlt
        obtain ⟨v', H', p1, p2⟩ := hga.push (xs := [.int .i64 m]) rfl (by omega) (bytes := 8) (by unfold room; omega)
        have l0 : ldV (H2 ++ [.dead]) (.ptr 0 0) 1 false = some pv := ldV_own (hga.get (j := 0) rfl) rfl
        have o1 : oneC v' = true := by rcases p2.2.2.2 with ⟨_, rfl⟩ | ⟨_, _, rfl, _⟩ <;> rfl
        have s0 := stV_own (off := 0) (x := v') (p2.get (j := 0) rfl) (by simp) o1
        have p3 := p2.set (j := 0) (by simp) (.cells [v'])
        have l2 : ldV (H'.set 0 (.cells [v'])) (.ptr 2 0) 1 false = some (.fn 44 [.rptr [a, b], .ptr 1 0, .ptr 0 0, .ptr 2 0]) := ldV_own (p3.get (j := 2) rfl) rfl
        have wl : IntKind.i64.wrap (left - T[m].2.1) = left - dur T m := by rw [dur_of hlt] at hd2 ⊢; exact wz (by omega) (by omega)
        have p4 : PI (H'.set 0 (.cells [v'])) lv (.rptr [a, b]) (path ++ [m]) := ⟨v', by simpa [ofN] using p3⟩

        have tail : Cl G 44 [.int .i64 (lastI (some m)), .int .i64 (left - dur T m), .rptr [a, b], .ptr 1 0, .ptr 0 0, .ptr 2 0] (H'.set 0 (.cells [v'])) fun r H'' => k (.tup []) H'' :=
          ih (left - dur T m) (some m) _ (path ++ [m]) _ (by omega) (by omega) (by simp; omega) p4 fun H'' hp => h H'' (by simpa using hp)
        have fin : ∀ Q : Cont, (∀ v H'', k (.tup []) H'' → Q .r v H'') → ∀ F : V → List V, Cl G 44 [.int .i64 m, .int .i64 (left - dur T m), .rptr [a, b], .ptr 1 0, .ptr 0 0, .ptr 2 0] (H'.set 0 (.cells [v'])) fun r H'' => Q .r (F r) H'' := fun Q hQ F => tail.mono fun r H'' hk => hQ _ _ hk
        cases last with
        | none =>
          simp only [hfm, decide_true, beq_self_eq_true, wpg_true, lastI, binV_lss, show ((-1 : Int) < 0) = True by decide, show (true == false) = false from rfl, wpg_false, bd_some, pickV_bool, if_true, gdV_bool, ifB_bool, l0, bslV_one (show oneC (.int .i64 m) = true from rfl), bd2_some, p1, s0, List.set_cons_zero, true_and, l2, fadrV_rptr, List.drop_succ_cons, List.drop_zero, ldrV_one, binV_sub, wl, callV_fn, Bool.true_or, List.cons_append, List.nil_append, upQ_r, blockQ_r, ret44]
          exact tail
        | some c =>
          have hc : (c : Int) ∈ T[m].2.2.2 := by
            simp only [goB, Bool.and_eq_true, decide_eq_true_eq] at hgo
            rw [← hal]; exact hgo.2
          have c0 : ¬ ((c : Int) < 0) := by omega
          simp only [hfm, decide_true, beq_self_eq_true, wpg_true, lastI, binV_lss, c0, decide_false, bd_some, gdV_bool, fadrV_rptr, List.drop_succ_cons, List.drop_zero, ldrV_one, Bool.true_or, true_and]
          refine c45 q ?_
          simp only [hc, decide_true, bd_some, pickV_bool, if_true, Bool.false_eq_true, if_false, gdV_bool, beq_self_eq_true, wpg_true, ifB_bool, l0, bslV_one (show oneC (.int .i64 m) = true from rfl), bd2_some, p1, s0, List.set_cons_zero, true_and, l2, fadrV_rptr, List.drop_succ_cons, List.drop_zero, ldrV_one, binV_sub, wl, callV_fn, Bool.true_or, List.cons_append, List.nil_append, upQ_r, blockQ_r, ret44]
          exact tail
      · have hgf : goB T f left last m = false := by simpa using hgo
        have next : ∀ j, j < m + 1 → goB T f left last j = false := fun j hj => by
          by_cases e : j = m
          · rw [e]; exact hgf
          · exact hno hpos j (by omega)
        by_cases hfm : f m = left
        case neg =>
          simp only [hfm, decide_false, show (false == true) = false from rfl, wpg_false, pickV_bool, Bool.false_eq_true, if_false, bd_some, gdV_undef, gdV_bool, ifB_bool, binV_add, wm, upQ_n, Sb44_0_eq, true_and]
          exact ⟨m + 1, by omega, by omega, rfl, ⟨pv, hga⟩, fun _ => next⟩
        cases last with
        | none => simp [goB, hfm] at hgf
        | some c =>
          have hc : (c : Int) ∉ T[m].2.2.2 := by
            simp only [goB, hfm, decide_true, Bool.true_and, decide_eq_false_iff_not] at hgf
            rw [← hal]; exact hgf
          have c0 : ¬ ((c : Int) < 0) := by omega
          simp only [hfm, decide_true, beq_self_eq_true, wpg_true, lastI, binV_lss, c0, decide_false, bd_some, gdV_bool, fadrV_rptr, List.drop_succ_cons, List.drop_zero, ldrV_one, Bool.true_or, true_and]
          refine c45 q ?_
          simp only [hc, decide_false, bd_some, pickV_bool, if_true, Bool.false_eq_true, if_false, gdV_bool, beq_self_eq_true, wpg_true, ifB_bool, binV_add, wm, upQ_n, Sb44_0_eq, true_and]
          exact ⟨m + 1, by omega, by omega, rfl, ⟨pv, hga⟩, fun _ => next⟩
    · rename_i hlt
      have : chainL T f (d + 1) left last = [] := by
        by_cases hpos : 0 < left
        · have : nxC T f left last = none := by rw [nxC_eq]; exact find_range_none fun j hj => hno hpos j (by omega)
          simp only [chainL, this, ite_self]
        · exact chainL_none (by omega) _
      rw [this, List.append_nil] at h
      simp only [upQ_e, blockQ_e, if_true, ret44n]
      exact h H2 ⟨pv, hg⟩
end Go.Proofs.Ytoommmeapdkopaa.E
