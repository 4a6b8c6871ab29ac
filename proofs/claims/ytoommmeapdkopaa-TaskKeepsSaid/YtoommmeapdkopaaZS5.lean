/- What functions of the program return, proved over the interpreter. Each theorem says its conditions. -/
import Derived.Test.YtoommmeapdkopaaZS4
namespace Go.Proofs.Ytoommmeapdkopaa.E
open Go Go.Eng

theorem nodup_take_not {l : List Nat} (h : l.Nodup) {m : Nat} (hm : m < l.length) : l[m] ∉ l.take m := fun hmem => by
  obtain ⟨j, hj, e⟩ := List.mem_iff_getElem.1 hmem
  have hj' : j < m := by simp at hj; omega
  rw [List.getElem_take] at e
  exact List.pairwise_iff_getElem.1 h j m (by omega) hm hj' e

theorem nodup_inj {l : List Nat} (h : l.Nodup) {i j : Nat} (hi : i < l.length) (hj : j < l.length) (e : l[i] = l[j]) : i = j := by
  have hp := List.pairwise_iff_getElem.1 h
  rcases Nat.lt_trichotomy i j with hlt | rfl | hlt
  · exact absurd e (hp i j hi hj hlt)
  · rfl
  · exact absurd e.symm (hp j i hj hi hlt)
structure Vld (T : List tTask.D) (O : List Nat) : Prop where
  len : O.length = T.length
  nd : O.Nodup
  lt : ∀ d ∈ O, d < T.length
  ok : ∀ m (h : m < O.length), ∀ a ∈ aft T O[m], a.toNat ∈ O.take m
  rg : inRange T
theorem vld_of {x : tShop.D} (he : shopErr x (decide ((orderL x.1).length < x.1.length)) = 0) : Vld x.1 (orderL x.1) :=
  ⟨shopErr_order he, orderL_ok.1, orderL_lt, orderL_ok.2, inRange_of (shopErr_zero he).2.2.1⟩

namespace Vld
variable {T : List tTask.D} {O : List Nat}
theorem all (v : Vld T O) {i : Nat} (hi : i < T.length) : i ∈ O := by
  refine Classical.byContradiction fun hno => ?_
  have := nodup_len T.length (i :: O) (List.nodup_cons.2 ⟨hno, v.nd⟩) (fun d hd => by
    rcases List.mem_cons.1 hd with rfl | hd
    · exact hi
    · exact v.lt _ hd)
  have := v.len
  simp at *; omega
theorem at' (v : Vld T O) {i : Nat} (hi : i < T.length) : ∃ p, ∃ h : p < O.length, O[p] = i := by
  obtain ⟨p, h, e⟩ := List.mem_iff_getElem.1 (v.all hi)
  exact ⟨p, h, e⟩
theorem pos (v : Vld T O) {p q : Nat} (hp : p < O.length) (hq : q < O.length) (h : (O[q] : Int) ∈ aft T O[p]) : q < p := by
  have := v.ok p hp _ h
  simp only [Int.toNat_natCast] at this
  obtain ⟨r, hr, e⟩ := List.mem_iff_getElem.1 this
  rw [List.getElem_take] at e
  have hr' : r < p := by simp at hr; omega
  have : r = q := nodup_inj v.nd (by omega) (hq) e
  omega
theorem nat (v : Vld T O) {i : Nat} (hi : i < T.length) {a : Int} (ha : a ∈ aft T i) : ∃ c : Nat, a = c ∧ c < T.length := by
  obtain ⟨h1, h2⟩ := v.rg i hi a ha
  exact ⟨a.toNat, by omega, by omega⟩
theorem up (v : Vld T O) {P : Nat → Prop} (h : ∀ i, i < T.length → (∀ a : Nat, (a : Int) ∈ aft T i → P a) → P i) : ∀ i, i < T.length → P i := by
  have gen : ∀ p (hp : p < O.length), P O[p] := by
    intro p
    induction p using Nat.strongRecOn with
    | ind p ih =>
      intro hp
      refine h _ (v.lt _ (List.getElem_mem hp)) fun a ha => ?_
      have := (v.rg _ (v.lt _ (List.getElem_mem hp)) _ ha).2
      obtain ⟨q, hq, rfl⟩ := v.at' (i := a) (by omega)
      exact ih q (v.pos hp hq ha) hq
  intro i hi
  obtain ⟨p, hp, rfl⟩ := v.at' hi
  exact gen p hp
theorem dn (v : Vld T O) {P : Nat → Prop} (h : ∀ i, i < T.length → (∀ k, k < T.length → (i : Int) ∈ aft T k → P k) → P i) : ∀ i, i < T.length → P i := by
  have gen : ∀ m p (hp : p < O.length), O.length - p = m → P O[p] := by
    intro m
    induction m using Nat.strongRecOn with
    | ind m ih =>
      intro p hp hm
      refine h _ (v.lt _ (List.getElem_mem hp)) fun k hk ha => ?_
      obtain ⟨q, hq, rfl⟩ := v.at' hk
      have := v.pos hq hp ha
      exact ih (O.length - q) (by omega) q hq rfl
  intro i hi
  obtain ⟨p, hp, rfl⟩ := v.at' hi
  exact gen _ p hp rfl
theorem irr (v : Vld T O) {i : Nat} (hi : i < T.length) : (i : Int) ∉ aft T i := fun h => by
  obtain ⟨p, hp, rfl⟩ := v.at' hi
  have := v.pos hp hp h
  omega
theorem rev (v : Vld T O) {m : Nat} (h : m < O.reverse.length) {c : Nat} (hc : (c : Int) ∈ aft T O.reverse[m]) : c ∉ O.reverse.take m ∧ c ≠ O.reverse[m] := by
  have hm : m < O.length := by simpa using h
  have e : O.reverse[m] = O[O.length - 1 - m]'(by omega) := List.getElem_reverse ..
  have hlt := v.lt _ (List.getElem_mem (l := O) (n := O.length - 1 - m) (by omega))
  rw [e] at hc ⊢
  have hcn := (v.rg _ hlt _ hc).2
  obtain ⟨q, hq, rfl⟩ := v.at' (i := c) (by omega)
  have hqp := v.pos (by omega) hq hc
  refine ⟨fun hmem => ?_, fun e' => ?_⟩
  · obtain ⟨r, hr, e2⟩ := List.mem_iff_getElem.1 hmem
    rw [List.getElem_take, List.getElem_reverse] at e2
    have hr' : r < m := by simp at hr; omega
    have := nodup_inj v.nd (by omega) (hq) e2
    omega
  · have := nodup_inj v.nd (hq) (by omega) e'
    omega
end Vld

def dur (T : List tTask.D) (i : Nat) : Int := match T[i]? with | some t => t.2.1 | none => 0
theorem dur_of {T : List tTask.D} {i : Nat} (h : i < T.length) : dur T i = T[i].2.1 := by simp [dur, h]
theorem dur_rng {T : List tTask.D} (hz : tasksErr T = 0) {i : Nat} (h : i < T.length) : 1 ≤ dur T i ∧ dur T i ≤ 1048576 := by
  have := taskErr_zero (tasksErr_zero hz h)
  rw [dur_of h]
  exact ⟨this.2.2.1, this.2.2.2.1⟩
def isTail (T : List tTask.D) (f : Nat → Int) : Prop := ∀ i, i < T.length → ∃ s, f i = dur T i + s ∧ 0 ≤ s ∧ (∀ k, k < T.length → (i : Int) ∈ aft T k → f k ≤ s) ∧ (s = 0 ∨ ∃ k, k < T.length ∧ (i : Int) ∈ aft T k ∧ f k = s)
def TInv (T : List tTask.D) (P : List Nat) (E : Nat → Nat → Prop) (g : Nat → Int) : Prop := ∀ c, c < T.length → ∃ s, g c = (if c ∈ P then dur T c else 0) + s ∧ 0 ≤ s ∧ (∀ k, E k c → g k ≤ s) ∧ (s = 0 ∨ ∃ k, E k c ∧ g k = s)
def E0 (T : List tTask.D) (P : List Nat) (k c : Nat) : Prop := k ∈ P ∧ (c : Int) ∈ aft T k
def E1 (T : List tTask.D) (P : List Nat) (i j k c : Nat) : Prop := E0 T P k c ∨ (k = i ∧ (c : Int) ∈ (aft T i).take j)
theorem TInv.start {T : List tTask.D} : TInv T [] (E0 T []) fun _ => 0 := fun c _ => ⟨0, by simp, by omega, fun k h => absurd h.1 (by simp), .inl rfl⟩
theorem TInv.enter {T : List tTask.D} {P : List Nat} {g : Nat → Int} (h : TInv T P (E0 T P) g) {i : Nat} (hi : i ∉ P) : TInv T (P ++ [i]) (E1 T P i 0) fun c => if c = i then g i + dur T i else g c := by
  have key : ∀ k c, E1 T P i 0 k c ↔ E0 T P k c := fun k c => by simp [E1]
  have ne : ∀ k c, E0 T P k c → k ≠ i := fun k c hk e => hi (e ▸ hk.1)
  intro c hc
  obtain ⟨s, h1, h2, h3, h4⟩ := h c hc
  refine ⟨s, ?_, h2, fun k hk => ?_, h4.imp_right fun ⟨k, hk, e⟩ => ⟨k, (key k c).2 hk, ?_⟩⟩
  · by_cases e : c = i
    · subst e; simp only [hi, if_false] at h1; simp; omega
    · simp [e, h1]
  · have := (key k c).1 hk
    simp only [ne k c this, if_false]; exact h3 k this
  · simp only [ne k c hk, if_false]; exact e
theorem TInv.next {T : List tTask.D} {P : List Nat} {i j : Nat} {g : Nat → Int} (h : TInv T (P ++ [i]) (E1 T P i j) g) (hj : j < (aft T i).length) {c0 : Nat} (hc : (aft T i)[j] = (c0 : Int)) (hn : c0 ∉ P ++ [i]) :
    TInv T (P ++ [i]) (E1 T P i (j + 1)) fun c => if c = c0 then (if g i > g c0 then g i else g c0) else g c := by
  have ne : ∀ k c, E1 T P i j k c → k ≠ c0 := fun k c hk e => hn (by
    subst e
    rcases hk with hk | ⟨hk, _⟩
    · exact List.mem_append_left _ hk.1
    · simp [hk])
  have hic : i ≠ c0 := fun e => hn (by simp [e])
  have key : ∀ k c, E1 T P i (j + 1) k c ↔ E1 T P i j k c ∨ (k = i ∧ c = c0) := fun k c => by
    simp only [E1, tk hj, hc, List.mem_append, List.mem_singleton, Int.natCast_inj]
    constructor
    · rintro (h | ⟨h, h' | h'⟩)
      · exact .inl (.inl h)
      · exact .inl (.inr ⟨h, h'⟩)
      · exact .inr ⟨h, h'⟩
    · rintro ((h | ⟨h, h'⟩) | ⟨h, h'⟩)
      · exact .inl h
      · exact .inr ⟨h, .inl h'⟩
      · exact .inr ⟨h, .inr h'⟩
  intro c hcn
  obtain ⟨s, h1, h2, h3, h4⟩ := h c hcn
  by_cases e : c = c0
  · subst e
    simp only [hn, if_false, Int.zero_add] at h1
    refine ⟨if g i > s then g i else s, by simp [hn, h1], by split <;> omega, fun k hk => ?_, ?_⟩
    · rcases (key k c).1 hk with hk | ⟨rfl, _⟩
      · simp only [ne k c hk, if_false]
        have := h3 k hk
        split <;> omega
      · simp only [hic, if_false]; split <;> omega
    · split
      · exact .inr ⟨i, (key i c).2 (.inr ⟨rfl, rfl⟩), by simp [hic]⟩
      · exact h4.imp_right fun ⟨k, hk, e⟩ => ⟨k, (key k c).2 (.inl hk), by simp only [ne k c hk, if_false]; exact e⟩
  · refine ⟨s, by simp [e, h1], h2, fun k hk => ?_, h4.imp_right fun ⟨k, hk, e'⟩ => ⟨k, (key k c).2 (.inl hk), by simp only [ne k c hk, if_false]; exact e'⟩⟩
    rcases (key k c).1 hk with hk | ⟨_, rfl⟩
    · simp only [ne k c hk, if_false]; exact h3 k hk
    · exact absurd rfl e
theorem TInv.leave {T : List tTask.D} {P : List Nat} {i j : Nat} {g : Nat → Int} (h : TInv T (P ++ [i]) (E1 T P i j) g) (hj : (aft T i).length ≤ j) : TInv T (P ++ [i]) (E0 T (P ++ [i])) g := by
  have key : ∀ k c, E1 T P i j k c ↔ E0 T (P ++ [i]) k c := fun k c => by
    simp only [E1, E0, List.take_of_length_le hj, List.mem_append, List.mem_singleton]
    constructor
    · rintro (⟨h, h'⟩ | ⟨rfl, h'⟩)
      · exact ⟨.inl h, h'⟩
      · exact ⟨.inr rfl, h'⟩
    · rintro ⟨h | rfl, h'⟩
      · exact .inl ⟨h, h'⟩
      · exact .inr ⟨rfl, h'⟩
  intro c hc
  obtain ⟨s, h1, h2, h3, h4⟩ := h c hc
  exact ⟨s, h1, h2, fun k hk => h3 k ((key k c).2 hk), h4.imp_right fun ⟨k, hk, e⟩ => ⟨k, (key k c).1 hk, e⟩⟩
theorem TInv.tail {T : List tTask.D} {P : List Nat} {g : Nat → Int} (h : TInv T P (E0 T P) g) (hP : ∀ i, i < T.length → i ∈ P) (hl : ∀ i ∈ P, i < T.length) : isTail T g := fun i hi => by
  obtain ⟨s, h1, h2, h3, h4⟩ := h i hi
  rw [if_pos (hP i hi)] at h1
  exact ⟨s, h1, h2, fun k hk ha => h3 k ⟨hP k hk, ha⟩, h4.imp_right fun ⟨k, hk, e⟩ => ⟨k, hl k hk.1, hk.2, e⟩⟩

theorem isTail_eq {T : List tTask.D} {O : List Nat} (v : Vld T O) {f g : Nat → Int} (hf : isTail T f) (hg : isTail T g) : ∀ i, i < T.length → f i = g i := by
  refine v.dn fun i hi ih => ?_
  obtain ⟨s, a1, a2, a3, a4⟩ := hf i hi
  obtain ⟨t, b1, b2, b3, b4⟩ := hg i hi
  have h1 : s ≤ t := by
    rcases a4 with rfl | ⟨k, k1, k2, k3⟩
    · exact b2
    · rw [← k3, ih k k1 k2]; exact b3 k k1 k2
  have h2 : t ≤ s := by
    rcases b4 with rfl | ⟨k, k1, k2, k3⟩
    · exact a2
    · rw [← k3, ← ih k k1 k2]; exact a3 k k1 k2
  omega

def nxC (T : List tTask.D) (f : Nat → Int) (left : Int) (last : Option Nat) : Option Nat := (List.range T.length).find? fun i => decide (f i = left) && match last with | none => true | some c => decide ((c : Int) ∈ aft T i)
def chainL (T : List tTask.D) (f : Nat → Int) : Nat → Int → Option Nat → List Nat
  | 0, _, _ => []
  | d + 1, left, last => if left ≤ 0 then [] else match nxC T f left last with
    | none => []
    | some i => i :: chainL T f d (left - dur T i) (some i)
theorem nxC_spec {T : List tTask.D} {f : Nat → Int} {left : Int} {last : Option Nat} {i : Nat} (h : nxC T f left last = some i) : i < T.length ∧ f i = left ∧ (∀ c, last = some c → (c : Int) ∈ aft T i) := by
  have h1 := List.mem_of_find?_eq_some h
  have h2 := List.find?_some h
  simp only [Bool.and_eq_true, decide_eq_true_eq] at h2
  refine ⟨by simpa using h1, h2.1, fun c hc => ?_⟩
  subst hc
  simpa using h2.2
end Go.Proofs.Ytoommmeapdkopaa.E
namespace Go.Proofs.Ytoommmeapdkopaa.E
open Go Go.Eng

noncomputable def redL (T : List tTask.D) (i : Nat) : List Int := (aft T i).filter fun k => !(aft T i).any fun j => rchB T j.toNat k.toNat
noncomputable def redT (T : List tTask.D) : List tTask.D := T.mapIdx fun i t => (t.1, t.2.1, t.2.2.1, redL T i)
theorem redT_len {T : List tTask.D} : (redT T).length = T.length := by simp [redT]
theorem redT_get {T : List tTask.D} {i : Nat} (h : i < T.length) : (redT T)[i]? = some (T[i].1, T[i].2.1, T[i].2.2.1, redL T i) := by simp [redT, h]
theorem aft_red {T : List tTask.D} {i : Nat} (h : i < T.length) : aft (redT T) i = redL T i := by simp [aft, redT_get h]
theorem dur_red {T : List tTask.D} {i : Nat} : dur (redT T) i = dur T i := by
  by_cases h : i < T.length
  · simp [dur, redT_get h, h]
  · simp [dur, redT, h]
theorem redL_sub {T : List tTask.D} {i : Nat} : (redL T i).Sublist (aft T i) := List.filter_sublist
theorem redL_mem {T : List tTask.D} {i : Nat} {k : Int} : k ∈ redL T i ↔ k ∈ aft T i ∧ ∀ j ∈ aft T i, ¬ Rch T j.toNat k.toNat := by
  simp only [redL, List.mem_filter, Bool.not_eq_true', List.any_eq_false, rchB_iff]
theorem aft_out {T : List tTask.D} {i : Nat} (h : ¬ i < T.length) : aft T i = [] := by simp [aft, h]
theorem rch_trans {T : List tTask.D} {i a b : Nat} (h : Rch T i a) (h2 : Rch T a b) : Rch T i b := by
  induction h with
  | base h => exact .step h h2
  | step h _ ih => exact .step h (ih h2)

theorem rch_last {T : List tTask.D} {i a : Nat} (h : Rch T i a) : ∃ c, (a : Int) ∈ aft T c ∧ (c = i ∨ Rch T i c) := by
  induction h with
  | base h => exact ⟨_, h, .inl rfl⟩
  | step h _ ih =>
    obtain ⟨c, h1, rfl | h2⟩ := ih
    · exact ⟨c, h1, .inr (.base h)⟩
    · exact ⟨c, h1, .inr (.step h h2)⟩
theorem last_of (O : List Nat) (p : Nat → Prop) : (∃ x ∈ O, p x) → ∃ q, ∃ h : q < O.length, p O[q] ∧ ∀ r (hr : r < O.length), q < r → ¬ p O[r] := by
  induction O with
  | nil => rintro ⟨x, hx, _⟩; simp at hx
  | cons a O ih =>
    intro h
    by_cases h2 : ∃ x ∈ O, p x
    · obtain ⟨q, hq, h1, h3⟩ := ih h2
      refine ⟨q + 1, by simp; omega, by simpa using h1, fun r hr hqr => ?_⟩
      cases r with
      | zero => omega
      | succ r => simpa using h3 r (by simpa using hr) (by omega)
    · obtain ⟨x, hx, hp⟩ := h
      rcases List.mem_cons.1 hx with rfl | hx
      · refine ⟨0, by simp, by simpa using hp, fun r hr hqr hpr => h2 ?_⟩
        cases r with
        | zero => omega
        | succ r => exact ⟨_, List.getElem_mem _, by simpa using hpr⟩
      · exact absurd ⟨x, hx, hp⟩ h2

section
variable {T : List tTask.D} {O : List Nat}
theorem rch_pos (v : Vld T O) {i a : Nat} (h : Rch T i a) : ∀ p (hp : p < O.length), O[p] = i → ∃ q, ∃ hq : q < O.length, O[q] = a ∧ q < p := by
  induction h with
  | @base i a h =>
    intro p hp e
    subst e
    have := (v.rg _ (v.lt _ (List.getElem_mem hp)) _ h).2
    obtain ⟨q, hq, rfl⟩ := v.at' (i := a) (by omega)
    exact ⟨q, hq, rfl, v.pos hp hq h⟩
  | @step i a b h _ ih =>
    intro p hp e
    subst e
    have := (v.rg _ (v.lt _ (List.getElem_mem hp)) _ h).2
    obtain ⟨q, hq, rfl⟩ := v.at' (i := a) (by omega)
    obtain ⟨r, hr, e, hlt⟩ := ih q hq rfl
    have := v.pos hp hq h
    exact ⟨r, hr, e, by omega⟩
theorem rch_red (v : Vld T O) : ∀ i, i < T.length → ∀ a, Rch T i a ↔ Rch (redT T) i a := by
  refine v.up fun i hi ih a => ⟨fun h => ?_, fun h => ?_⟩
  · obtain ⟨c0, hc0, hca⟩ := rch_iff.1 h
    have hc0n := (v.rg i hi _ hc0).2
    obtain ⟨q, hq, ⟨hq1, hq2⟩, hq3⟩ := last_of O (fun c => (c : Int) ∈ aft T i ∧ (c = a ∨ Rch T c a)) ⟨c0, v.all (by omega), hc0, hca⟩
    have hmem : (O[q] : Int) ∈ redL T i := redL_mem.2 ⟨hq1, fun j hj hr => by
      obtain ⟨jn, rfl, hjn⟩ := v.nat hi hj
      simp only [Int.toNat_natCast] at hr
      obtain ⟨r, hr1, rfl⟩ := v.at' hjn
      obtain ⟨q', hq', e, hlt⟩ := rch_pos v hr r hr1 rfl
      have : q' = q := nodup_inj v.nd (hq') (hq) e
      refine hq3 r hr1 (by omega) ⟨hj, .inr ?_⟩
      rcases hq2 with h2 | h2
      · rw [← h2]; exact hr
      · exact rch_trans hr h2⟩
    rw [← aft_red hi] at hmem
    rcases hq2 with h2 | h2
    · rw [← h2]; exact .base hmem
    · exact .step hmem ((ih _ hq1 a).1 h2)
  · obtain ⟨c, hc, hca⟩ := rch_iff.1 h
    rw [aft_red hi] at hc
    have hc' := (redL_mem.1 hc).1
    rcases hca with rfl | hca
    · exact .base hc'
    · exact .step hc' ((ih c hc' a).2 hca)
theorem rchB_red (v : Vld T O) {i k : Nat} (hi : i < T.length) : rchB (redT T) i k = rchB T i k := by
  rw [Bool.eq_iff_iff, rchB_iff, rchB_iff]; exact (rch_red v i hi k).symm
theorem befL_red (v : Vld T O) {i : Nat} (hi : i < T.length) : befL (redT T) i = befL T i := by
  unfold befL
  rw [redT_len]
  simp only [rchB_red v hi]
theorem redL_red (v : Vld T O) {i : Nat} (hi : i < T.length) : redL (redT T) i = redL T i := by
  have hs : aft (redT T) i = redL T i := aft_red hi
  have e : redL (redT T) i = (redL T i).filter fun k => !(redL T i).any fun j => rchB (redT T) j.toNat k.toNat := by
    rw [← hs]; rfl
  rw [e, List.filter_eq_self]
  intro k hk
  simp only [Bool.not_eq_true', List.any_eq_false]
  intro j hj hr
  have hk' := redL_mem.1 hk
  have hj' := (redL_mem.1 hj).1
  obtain ⟨jn, rfl, hjn⟩ := v.nat hi hj'
  rw [rchB_iff] at hr
  simp only [Int.toNat_natCast] at hr
  exact hk'.2 _ hj' (by simpa using (rch_red v jn hjn _).2 hr)
theorem redT_red (v : Vld T O) : redT (redT T) = redT T := by
  apply List.ext_getElem?
  intro i
  by_cases h : i < T.length
  · rw [redT_get (by rw [redT_len]; exact h), redT_get h, redL_red v h]
    have := redT_get h
    have h2 : (redT T)[i]'(by rw [redT_len]; exact h) = (T[i].1, T[i].2.1, T[i].2.2.1, redL T i) := by
      rw [List.getElem?_eq_getElem (by rw [redT_len]; exact h)] at this
      exact Option.some.inj this
    rw [h2]
  · have e1 := redT_len (T := T)
    have e2 := redT_len (T := redT T)
    rw [List.getElem?_eq_none (by omega), List.getElem?_eq_none (by omega)]

theorem tail_red (v : Vld T O) (hz : tasksErr T = 0) {f : Nat → Int} (hf : isTail T f) : isTail (redT T) f := by
  intro i hi
  rw [redT_len] at hi
  obtain ⟨s, h1, h2, h3, h4⟩ := hf i hi
  refine ⟨s, by rw [dur_red]; exact h1, h2, fun k hk ha => ?_, ?_⟩
  · rw [redT_len] at hk
    rw [aft_red hk] at ha
    exact h3 k hk (redL_mem.1 ha).1
  rcases h4 with h4 | ⟨k, k1, k2, k3⟩
  · exact .inl h4
  refine .inr ⟨k, by rw [redT_len]; exact k1, ?_, k3⟩
  rw [aft_red k1]
  refine redL_mem.2 ⟨k2, fun j hj hr => ?_⟩

  obtain ⟨jn, rfl, hjn⟩ := v.nat k1 hj
  simp only [Int.toNat_natCast] at hr
  have grow : ∀ a b, Rch T a b → a < T.length → f a < f b := by
    intro a b h
    induction h with
    | @base a b h =>
      intro ha
      have hb := (v.rg _ ha _ h).2
      obtain ⟨t, c1, c2, c3, c4⟩ := hf b (by omega)
      have := c3 a ha h
      have := dur_rng hz (show b < T.length by omega)
      omega
    | @step a c b h _ ih =>
      intro ha
      have hb := (v.rg _ ha _ h).2
      obtain ⟨t, c1, c2, c3, c4⟩ := hf c (by omega)
      have := c3 a ha h
      have := dur_rng hz (show c < T.length by omega)
      have := ih (by omega)
      omega
  have g2 := grow _ _ (.base hj) k1
  obtain ⟨c, hc, hcj⟩ := rch_last hr
  have hcn : c < T.length := Classical.byContradiction fun hno => by rw [aft_out hno] at hc; simp at hc
  have g3 := h3 c hcn hc
  rcases hcj with rfl | hcj
  · omega
  · have := grow _ _ hcj hjn
    omega

theorem aErr_zero_of {n i : Int} {l : List Int} {j : Nat} (h1 : 0 ≤ l.getD j 0) (h2 : l.getD j 0 < n) (h3 : l.getD j 0 ≠ i) (h4 : 0 < j → l.getD (j - 1) 0 < l.getD j 0) : aErr n i l j = 0 := by
  unfold aErr
  rw [if_neg (by omega), if_neg h3, if_neg (by omega)]
theorem take_any_name {f : Nat → tTask.D → tTask.D} (hf : ∀ i t, (f i t).1 = t.1) (T : List tTask.D) (i : Nat) (s : List UInt8) : ((T.mapIdx f).take i).any (fun y => decide (y.1 = s)) = (T.take i).any (fun y => decide (y.1 = s)) := by
  have e : (T.mapIdx f).map (·.1) = T.map (·.1) := by
    apply List.ext_getElem?
    intro j
    simp only [List.getElem?_map, List.getElem?_mapIdx]
    cases T[j]? <;> simp [hf]
  have g : ∀ L : List tTask.D, (L.take i).any (fun y => decide (y.1 = s)) = ((L.map (·.1)).take i).any (fun y => decide (y = s)) := fun L => by
    rw [← List.map_take, List.any_map]; rfl
  rw [g, g, e]
theorem tasksErr_red (hz : tasksErr T = 0) : tasksErr (redT T) = 0 := by
  refine firstErr_zero.2 fun i hi => ?_
  rw [redT_len] at hi
  have h := tasksErr_zero hz hi
  have hg : (redT T)[i]? = some (T[i].1, T[i].2.1, T[i].2.2.1, redL T i) := redT_get hi
  simp only [taskErrAt, hg]
  have n2 : ((redT T).take i).any (fun y => decide (y.1 = T[i].1)) = (T.take i).any (fun y => decide (y.1 = T[i].1)) := take_any_name (f := fun i t => (t.1, t.2.1, t.2.2.1, redL T i)) (fun _ _ => rfl) ..
  obtain ⟨a1, a2, a3, a4, a5, a6⟩ := taskErr_zero h
  unfold taskErr
  simp only [n2, a1, a2, Bool.true_eq_false, if_false, Bool.false_eq_true]
  rw [if_neg (not_or.2 ⟨Int.not_lt.2 a3, Int.not_lt.2 a4⟩), if_neg (by rintro ⟨b1, b2⟩; rcases a5 with a5 | a5 <;> simp_all)]
  refine firstErr_zero.2 fun j hj => ?_
  have inc := (aft_inc hz i).sublist redL_sub
  have mem : (redL T i)[j] ∈ aft T i := redL_sub.subset (List.getElem_mem hj)
  have rg := inRange_of hz i hi _ mem
  have ni : (redL T i)[j] ≠ (i : Int) := fun e => by
    rw [e] at mem
    rw [aft_of hi] at mem
    obtain ⟨q, hq, e2⟩ := List.mem_iff_getElem.1 mem
    have := aErr_zero (a6 q hq)
    rw [getD_of hq] at this
    exact this.2.2.1 e2
  refine aErr_zero_of ?_ ?_ ?_ fun hj0 => ?_
  · rw [getD_of hj]; exact rg.1
  · rw [getD_of hj, redT_len]; exact rg.2
  · rw [getD_of hj]; exact ni
  · rw [getD_of hj, getD_of (by omega)]
    exact List.pairwise_iff_getElem.1 inc (j - 1) j (by omega) hj (by omega)

theorem greedy_full (v : Vld T O) {U : List tTask.D} (hU : U.length = T.length) (hs : ∀ i, i < T.length → ∀ a ∈ aft U i, a ∈ aft T i) : ∀ (f : Nat) (D : List Nat), D.Nodup → (∀ d ∈ D, d < T.length) → T.length ≤ D.length + f → T.length ≤ (greedy U.length (rdT U) f D).length
  | 0, D, _, _, hf => by simpa [greedy] using hf
  | f + 1, D, hd, hl, hf => by
    simp only [greedy]
    split
    · rename_i hn
      refine Classical.byContradiction fun hlt => ?_
      have hex : ∃ x ∈ O, x ∉ D := by
        refine Classical.byContradiction fun hno => ?_
        have hsub : ∀ x ∈ O, x ∈ D := fun x hx => Classical.byContradiction fun hx' => hno ⟨x, hx, hx'⟩
        have := v.nd.length_le_of_subset hsub
        have := v.len
        omega

      have first : ∃ q, ∃ h : q < O.length, O[q] ∉ D ∧ ∀ r (hr : r < O.length), r < q → O[r] ∈ D := by
        obtain ⟨x, hx, hxD⟩ := hex
        obtain ⟨p, hp, rfl⟩ := List.mem_iff_getElem.1 hx
        have gen : ∀ m, (∃ p, p ≤ m ∧ ∃ h : p < O.length, O[p] ∉ D) → ∃ q, ∃ h : q < O.length, O[q] ∉ D ∧ ∀ r (hr : r < O.length), r < q → O[r] ∈ D := by
          intro m
          induction m with
          | zero => rintro ⟨p, hp0, h, hn⟩; exact ⟨p, h, hn, fun r hr hlt => by omega⟩
          | succ m ih =>
            rintro ⟨p, hpm, h, hn⟩
            by_cases he : ∃ p, p ≤ m ∧ ∃ h : p < O.length, O[p] ∉ D
            · exact ih he
            · refine ⟨p, h, hn, fun r hr hlt => Classical.byContradiction fun hno => he ⟨r, by omega, hr, hno⟩⟩
        exact gen p ⟨p, Nat.le_refl _, hp, hxD⟩
      obtain ⟨q, hq, hq1, hq2⟩ := first
      have hqn := v.lt _ (List.getElem_mem hq)
      have hr := List.find?_eq_none.1 hn O[q] (by rw [hU]; simpa using hqn)
      apply hr
      simp only [rdT, hq1, decide_false, Bool.not_false, Bool.true_and, Bool.not_eq_true', List.any_eq_false]
      intro a ha
      have := v.ok q hq a (hs _ hqn a ha)
      obtain ⟨r, hr, e⟩ := List.mem_iff_getElem.1 this
      rw [List.getElem_take] at e
      have hrq : r < q := by simp at hr; omega
      rw [← e]
      have := hq2 r (by omega) hrq
      simpa using this
    · rename_i i hi
      have hin : i < T.length := by have := List.mem_of_find?_eq_some hi; rw [hU] at this; simpa using this
      have hiD : i ∉ D := by
        have := List.find?_some hi
        simp only [rdT, Bool.and_eq_true, Bool.not_eq_true', decide_eq_false_iff_not] at this
        exact this.1
      refine greedy_full v hU hs f (D ++ [i]) ?_ ?_ (by simp; omega)
      · rw [List.nodup_append]; exact ⟨hd, by simp, fun a ha b hb e => hiD (by rw [← List.mem_singleton.1 hb, ← e]; exact ha)⟩
      · intro d hd'
        rcases List.mem_append.1 hd' with h | h
        · exact hl d h
        · rw [List.mem_singleton.1 h]; exact hin
end
theorem shop_red {x : tShop.D} (he : shopErr x (decide ((orderL x.1).length < x.1.length)) = 0) : shopErr (redT x.1, x.2) (decide ((orderL (redT x.1)).length < (redT x.1).length)) = 0 := by
  obtain ⟨z1, z2, z3, z4⟩ := shopErr_zero he
  have v := vld_of he
  have full : (redT x.1).length ≤ (orderL (redT x.1)).length := by
    have := greedy_full v (U := redT x.1) redT_len (fun i hi a ha => by rw [aft_red hi] at ha; exact redL_sub.subset ha) (redT x.1).length [] (by simp) (by simp) (by rw [redT_len]; simp)
    rw [redT_len (T := x.1)]
    exact this
  have hany : (redT x.1).any (fun t => (ableL x.2 t.2.2.1).isEmpty) = x.1.any fun t => (ableL x.2 t.2.2.1).isEmpty := by
    have e : (redT x.1).map (fun t => t.2.2.1) = x.1.map fun t => t.2.2.1 := by
      apply List.ext_getElem?
      intro j
      simp only [redT, List.getElem?_map, List.getElem?_mapIdx]
      cases x.1[j]? <;> simp
    have g : ∀ L : List tTask.D, L.any (fun t => (ableL x.2 t.2.2.1).isEmpty) = (L.map fun t => t.2.2.1).any fun t => (ableL x.2 t).isEmpty := fun L => by
      rw [List.any_map]; rfl
    rw [g, g, e]
  have hlt : ¬ (orderL x.1).length < x.1.length := by have := shopErr_order he; omega
  have hl2 : ¬ (orderL (redT x.1)).length < (redT x.1).length := by omega
  unfold shopErr at he ⊢
  simp only [hlt, hl2, decide_false, z3, tasksErr_red z3, z4, hany] at he ⊢
  rw [if_neg (by omega)] at he
  rw [if_neg (by have := redT_len (T := x.1); omega)]
  exact he
end Go.Proofs.Ytoommmeapdkopaa.E
namespace Go.Proofs.Ytoommmeapdkopaa.E
open Go Go.Eng

end Go.Proofs.Ytoommmeapdkopaa.E
namespace Go.Proofs.Ytoommmeapdkopaa.E
open Go Go.Eng

theorem cBefore0 {x : tShop.D} {v : V} (hx : tShop.V x v) (h0 : x.1.length = 0) (he : shopErr x (decide ((orderL x.1).length < x.1.length)) = 0) {H : Heap} {k : V → Heap → Prop} (h : k .z0 H) : Cl G 46 [v] H k := by
  obtain ⟨a, b, rfl, h1, h2⟩ := shop_v hx
  obtain ⟨z1, z2, z3, z4⟩ := shopErr_zero he
  refine Cl.mode1 (F := i46) rfl rfl (by simp [h1.closed, h2.closed]) ?_
  rw [w46]
  have e0 : mksV 1 24 [.nils] [] (.int .i64 x.1.length) (.int .i64 x.1.length) = some (.z0, []) := by rw [h0]; rfl
  simp only [bxrV_agg, closedVs_cons, closedVs_nil, h1.closed, h2.closed, Bool.and_self, bd_some, fadrV_rptr, List.drop_zero, ldV_one, h1.lens, e0, bd2_some, ldV_s2, pur56, Bool.or_true, Bool.true_or, true_and]
  refine c56 hx (by omega) (inRange_of z3) fun r H' hr => ?_
  have ho : (orderL x.1).length = 0 := by have := shopErr_order he; omega
  simp only [hr.lens, bd_some, ho]
  refine ub46_0 0 (fun m _ c3 _ c16 c17 _ => c3 = .z0 ∧ c16 = .int .i64 (0 : Nat) ∧ c17 = .int .i64 m) ?_ 0 (Nat.zero_le _) ⟨rfl, rfl, rfl⟩
  rintro m hm _ _ _ _ _ H2 ⟨rfl, rfl, rfl⟩
  intros
  rw [wb46_0]
  have : ¬ ((m : Int) < (0 : Nat)) := by omega
  simp only [bd_some, binV_lss, ifB_bool, this, decide_false, Bool.false_eq_true, if_false, upQ_e, blockQ_e, if_true, seqQ_n, wr46_5, ret46, hq_z0]
  exact h
theorem okBef {x : tShop.D} {v : V} (hx : tShop.V x v) (he : shopErr x (decide ((orderL x.1).length < x.1.length)) = 0) {H : Heap} {k : V → Heap → Prop}
    (h : ∀ r, Arr 1 (Ty.R (.sl (.int .i64))) r ((List.range x.1.length).map fun i => ofN (befL x.1 i)) → k (.tup [r, .int .i64 0]) H) : Cl G 26 [v] H k := by
  by_cases h0 : x.1.length = 0
  case neg => exact ok_Before hx (by omega) he h
  obtain ⟨a, b, rfl, h1, h2⟩ := shop_v hx
  refine Cl.mode1 (F := i26) rfl rfl (by simp [h1.closed, h2.closed]) ?_
  rw [w26]
  simp only [bxrV_agg, closedVs_cons, closedVs_nil, h1.closed, h2.closed, Bool.and_self, bd_some, ldV_s2, Bool.true_or, true_and]
  refine c29 hx ?_
  rw [he]
  simp only [binV_neq, decide_true, Bool.not_true, bd_some, ifB_bool, Bool.false_eq_true, if_false, ldV_s2, Bool.true_or, true_and]
  refine cBefore0 hx h0 he ?_
  have lz : lensV .z0 = some (.int .i64 (0 : Nat)) := rfl
  simp only [lz, bd_some]
  refine ub26_0 0 (fun m c5 _ c18 c19 _ => c5 = .nils ∧ c18 = .int .i64 (0 : Nat) ∧ c19 = .int .i64 m) ?_ 0 (Nat.zero_le _) ⟨rfl, rfl, rfl⟩
  rintro m hm _ _ _ _ H2 ⟨rfl, rfl, rfl⟩
  intros
  rw [wb26_0]
  have : ¬ ((m : Int) < (0 : Nat)) := by omega
  simp only [bd_some, binV_lss, ifB_bool, this, decide_false, Bool.false_eq_true, if_false, upQ_e, blockQ_e, if_true, seqQ_n, wr26_5, ret26]
  refine hq_some (v' := .tup [.nils, .int .i64 0]) rfl (h .nils ?_)
  rw [h0]
  exact ⟨[], by simp, by simp, by simp, by simp [top], by simp, .inr ⟨rfl, .inl rfl⟩⟩
end Go.Proofs.Ytoommmeapdkopaa.E
namespace Go.Proofs.Ytoommmeapdkopaa.E
open Go Go.Eng

@[simp] theorem maxV_int {κ : IntKind} {a b : Int} : maxV (.int κ a) (.int κ b) = some (.int κ (if b > a then b else a)) := nrfl
theorem gr_own_set {F H : Heap} {v : V} {cs cs' : List V} {n : Nat} (h : Gr 1 F H v cs n) (hc : cs'.length = n) {id : Nat} (hv : v = .sl id 0 n n 1) : Gr 1 F (H.set id (.cells cs')) v cs' n := by
  obtain ⟨h1, h2, h3, ⟨rfl, rfl⟩ | ⟨id', i1, i2, i3⟩⟩ := h
  · cases hv
  · rw [hv] at i2
    injection i2 with i2
    subst i2
    refine ⟨by omega, by simpa using h2, fun j hj => ?_, .inr ⟨id, i1, hv, ?_⟩⟩
    · rw [List.getElem?_set_ne (by omega)]; exact h3 j hj
    · rw [List.getElem?_set]; simp [(List.getElem?_eq_some_iff.1 i3).1]
theorem gr_elem {F H : Heap} {v : V} {l : List Int} (h : Gr 1 F H v (l.map (V.int .i64)) l.length) {i : Nat} (hi : i < l.length) : ∃ p, iadrV 1 v (.int .i64 i) = some p ∧ ldV H p 1 false = some (.int .i64 l[i]) := by
  obtain ⟨_, _, _, ⟨c, _⟩ | ⟨id, _, rfl, c⟩⟩ := h
  · omega
  · exact ⟨.ptr id i, by simp [iadrV, hi], ldV_own c (by simp [hi])⟩

theorem tab_self {L : List Int} : tab L.length (fun j => L.getD j 0) = L := by
  apply List.ext_getElem?
  intro i
  by_cases h : i < L.length
  · rw [tab_get h, List.getElem?_eq_getElem h, getD_of h]
  · rw [List.getElem?_eq_none (by simp; omega), List.getElem?_eq_none (by omega)]
theorem tab_rev {L : List Int} : tab L.length (fun j => L.getD (L.length - 1 - j) 0) = L.reverse := by
  apply List.ext_getElem?
  intro i
  by_cases h : i < L.length
  · rw [tab_get h, List.getElem?_reverse h, List.getElem?_eq_getElem (by omega), getD_of (by omega)]
  · rw [List.getElem?_eq_none (by simp; omega), List.getElem?_eq_none (by simp; omega)]

theorem c63 {F H : Heap} {v : V} {L : List Int} (hg : Gr 1 F H v (L.map (V.int .i64)) L.length) (hn : L.length ≤ 1000) {k : V → Heap → Prop}
    (h : ∀ H', Gr 1 F H' v (L.reverse.map (V.int .i64)) L.length → k (.tup []) H') : Cl G 63 [v] H k := by
  refine Cl.inline (F := i63) rfl rfl ?_
  rw [w63]
  have w0 : IntKind.i64.wrap ((L.length : Int) - 1) = (L.length : Int) - 1 := wz (by omega) (by omega)
  simp only [hg.lens, bd_some, binV_sub, w0]
  refine ub63_0 L.length (fun m c0 c2 c3 H => v = c0 ∧ c2 = .int .i64 m ∧ c3 = .int .i64 ((L.length : Int) - 1 - m) ∧ Gr 1 F H v ((tab L.length fun j => if j < m ∨ L.length ≤ j + m then L.getD (L.length - 1 - j) 0 else L.getD j 0).map (V.int .i64)) L.length) ?_ 0 (Nat.zero_le _) ⟨rfl, rfl, by simp, ?_⟩
  case refine_2 =>
    have : (tab L.length fun j => if j < 0 ∨ L.length ≤ j + 0 then L.getD (L.length - 1 - j) 0 else L.getD j 0) = L := by
      conv => rhs; rw [← tab_self (L := L)]
      exact tab_congr fun j hj => by rw [if_neg (by omega)]
    rw [this]; exact hg
  rintro m hm _ _ _ H2 ⟨rfl, rfl, rfl, hg2⟩
  intros
  rw [wb63_0]
  simp only [bd_some, binV_lss, ifB_bool, decide_eq_true_eq]
  split
  · rename_i hlt
    have hml : m + m + 1 < L.length := by omega
    have hid : ∃ id, v = .sl id 0 L.length L.length 1 := by
      obtain ⟨_, _, _, ⟨c, _⟩ | ⟨id, _, c, _⟩⟩ := hg2
      · omega
      · exact ⟨id, c⟩
    obtain ⟨id, hv⟩ := hid
    have hH : H2[id]? = some (.cells ((tab L.length fun j => if j < m ∨ L.length ≤ j + m then L.getD (L.length - 1 - j) 0 else L.getD j 0).map (V.int .i64))) := by
      obtain ⟨_, _, _, ⟨c, _⟩ | ⟨id', _, c, d⟩⟩ := hg2
      · omega
      · rw [hv] at c; injection c with c; subst c; exact d
    have a1 : iadrV 1 v (.int .i64 m) = some (.ptr id m) := by subst hv; simp [iadrV]; omega
    have a2 : iadrV 1 v (.int .i64 ((L.length : Int) - 1 - m)) = some (.ptr id (L.length - 1 - m)) := by
      have : (L.length : Int) - 1 - m = ((L.length - 1 - m : Nat) : Int) := by omega
      rw [this]; subst hv; simp [iadrV]; omega
    have hid2 := (List.getElem?_eq_some_iff.1 hH).1
    generalize hf : (fun j => if j < m ∨ L.length ≤ j + m then L.getD (L.length - 1 - j) 0 else L.getD j 0) = f at *
    have e1 := ldV_own (off := m) hH (tab_map_get (by omega))
    have e2 := ldV_own (off := L.length - 1 - m) hH (tab_map_get (by omega))
    have s1 := stV_own (off := m) (x := .int .i64 (f (L.length - 1 - m))) hH (by simp; omega) rfl
    rw [tab_map_set] at s1
    have hH3 : (H2.set id (B.cells ((tab L.length fun j => if j = m then f (L.length - 1 - m) else f j).map (V.int .i64))))[id]? = some (B.cells ((tab L.length fun j => if j = m then f (L.length - 1 - m) else f j).map (V.int .i64))) := by
      rw [List.getElem?_set]; simp [hid2]
    have s2 := stV_own (off := L.length - 1 - m) (x := .int .i64 (f m)) hH3 (by simp; omega) rfl
    rw [tab_map_set, List.set_set] at s2
    have w1 : IntKind.i64.wrap ((m : Int) + 1) = ((m + 1 : Nat) : Int) := wi (by omega) (by omega)
    have w2 : IntKind.i64.wrap ((L.length : Int) - 1 - m - 1) = (L.length : Int) - 1 - ((m + 1 : Nat) : Int) := by rw [wz (by omega) (by omega)]; omega
    simp only [a1, a2, bd_some, e1, e2, s1, s2, true_and, binV_add, binV_sub, w1, w2, upQ_n, Sb63_0_eq]
    have := gr_own_set hg2 (cs' := (tab L.length fun j => if j = L.length - 1 - m then f m else if j = m then f (L.length - 1 - m) else f j).map (V.int .i64)) (by simp) hv
    have e : (tab L.length fun j => if j = L.length - 1 - m then f m else if j = m then f (L.length - 1 - m) else f j) = tab L.length fun j => if j < m + 1 ∨ L.length ≤ j + (m + 1) then L.getD (L.length - 1 - j) 0 else L.getD j 0 := by
      refine tab_congr fun j hj => ?_
      subst hf
      by_cases c1 : j = L.length - 1 - m
      · have q : L.length - 1 - (L.length - 1 - m) = m := by omega
        have n1 : ¬ (m < m ∨ L.length ≤ m + m) := by omega
        have p1 : j < m + 1 ∨ L.length ≤ j + (m + 1) := by omega
        rw [if_pos c1, if_pos p1, c1, q]
        show (if _ then _ else _) = _
        rw [if_neg n1]
      · by_cases c2 : j = m
        · have n1 : ¬ (L.length - 1 - m < m ∨ L.length ≤ L.length - 1 - m + m) := by omega
          have p1 : j < m + 1 ∨ L.length ≤ j + (m + 1) := by omega
          rw [if_neg c1, if_pos c2, if_pos p1, c2]
          show (if _ then _ else _) = _
          rw [if_neg n1]
        · have i1 : (j < m ∨ L.length ≤ j + m) ↔ (j < m + 1 ∨ L.length ≤ j + (m + 1)) := by omega
          rw [if_neg c1, if_neg c2]
          simp only [i1]
    rw [e] at this
    exact ⟨m + 1, by omega, by omega, rfl, rfl, by rw [e]; exact this⟩
  · rename_i hge
    have : (tab L.length fun j => if j < m ∨ L.length ≤ j + m then L.getD (L.length - 1 - j) 0 else L.getD j 0) = L.reverse := by
      rw [← tab_rev]
      refine tab_congr fun j hj => ?_
      by_cases c : j < m ∨ L.length ≤ j + m
      · rw [if_pos c]
      · have : j = L.length - 1 - j := by omega
        rw [if_neg c, ← this]
    rw [this] at hg2
    simp only [upQ_e, blockQ_e, if_true]
    exact h H2 hg2

theorem c42 {x : tShop.D} {v : V} (hx : tShop.V x v) (he : shopErr x (decide ((orderL x.1).length < x.1.length)) = 0) {H : Heap} {k : V → Heap → Prop}
    (h : ∀ r f, isTail x.1 f → (∀ i, i < x.1.length → 0 ≤ f i ∧ f i ≤ 24 * 1048576) → Arr 1 tI.R r (tab x.1.length f) → k r H) : Cl G 42 [v] H k := by
  obtain ⟨a, b, rfl, h1, h2⟩ := shop_v hx
  obtain ⟨z1, z2, z3, z4⟩ := shopErr_zero he
  have vl := vld_of he
  refine Cl.mode1 (F := i42) rfl rfl (by simp [h1.closed, h2.closed]) ?_
  rw [w42]
  by_cases h0 : x.1.length = 0
  · have e0 : mksV 1 8 [.int .i64 0] [] (.int .i64 x.1.length) (.int .i64 x.1.length) = some (.z0, []) := by rw [h0]; rfl
    simp only [bxrV_agg, closedVs_cons, closedVs_nil, h1.closed, h2.closed, Bool.and_self, bd_some, fadrV_rptr, List.drop_zero, ldV_one, h1.lens, e0, bd2_some, ldV_s2, pur56, Bool.or_true, Bool.true_or, true_and]
    refine c56 hx (by omega) vl.rg fun r H' hr => ?_
    have ho : (orderL x.1).length = 0 := by have := shopErr_order he; omega
    have ho' : orderL x.1 = [] := List.length_eq_zero_iff.1 ho
    refine c63 (L := ofN (orderL x.1)) (by simpa [ofN] using hr) (by simp [ofN, ho]) fun H2 hr2 => ?_
    simp only [hr.lens, bd_some, ho]
    refine ub42_0 0 (fun m _ c3 _ c18 c19 _ => c3 = .z0 ∧ c18 = .int .i64 (0 : Nat) ∧ c19 = .int .i64 m) ?_ 0 (Nat.zero_le _) ⟨rfl, rfl, rfl⟩
    rintro m hm _ _ _ _ _ H2 ⟨rfl, rfl, rfl⟩
    intros
    rw [wb42_0]
    have : ¬ ((m : Int) < (0 : Nat)) := by omega
    simp only [bd_some, binV_lss, ifB_bool, this, decide_false, Bool.false_eq_true, if_false, upQ_e, blockQ_e, if_true, seqQ_n, wr42_3, ret42, hq_z0]
    refine h .z0 (fun _ => 0) (fun i hi => by omega) (fun i hi => by omega) ?_
    rw [h0]
    exact ints_arr (by simp [top]) (by simp [tab]) (.inr ⟨by simp, .inr (.inl rfl)⟩)
  have m8 : mksV 1 8 [.int .i64 0] [] (.int .i64 x.1.length) (.int .i64 x.1.length) = some (.sl 0 0 x.1.length x.1.length 1, [.cells ((tab x.1.length fun _ => 0).map (V.int .i64))]) := by
    have hnz : ¬ ((x.1.length : Int) = 0) := by omega
    have r : (x.1.length : Int) * (8 : Nat) ≤ (room : Int) := by unfold room; omega
    simp only [mksV, hnz, if_false, Int.le_refl, true_and, List.length_nil, List.nil_append, Int.toNat_natCast]
    rw [if_pos ⟨by omega, r⟩, rep_one]
    have : (tab x.1.length fun _ => 0).map (V.int .i64) = List.replicate x.1.length (.int .i64 0) := by simp [tab, List.map_const']
    rw [this]
  simp only [bxrV_agg, closedVs_cons, closedVs_nil, h1.closed, h2.closed, Bool.and_self, bd_some, fadrV_rptr, List.drop_zero, ldV_one, h1.lens, m8, bd2_some, ldV_s2, pur56, Bool.or_true, Bool.true_or, true_and]
  refine c56 hx (by omega) vl.rg fun r H' hr => ?_
  have hOl := vl.len
  refine c63 (L := ofN (orderL x.1)) (by simpa [ofN] using hr) (by simp [ofN]; omega) fun H2 hr2 => ?_
  have erev : (ofN (orderL x.1)).reverse = ofN (orderL x.1).reverse := by simp [ofN]
  have el : (ofN (orderL x.1)).length = x.1.length := by simp [ofN, hOl]
  rw [erev, el] at hr2
  simp only [hr.lens, bd_some, hOl]
  have hRl : (orderL x.1).reverse.length = x.1.length := by simp [hOl]
  have hRn : (orderL x.1).reverse.Nodup := List.pairwise_reverse.2 (vl.nd.imp fun h e => h e.symm)
  have hRlt : ∀ d ∈ (orderL x.1).reverse, d < x.1.length := fun d hd => vl.lt d (List.mem_reverse.1 hd)
  have hrev : ∀ m (h : m < (orderL x.1).reverse.length) (c : Nat), (c : Int) ∈ aft x.1 (orderL x.1).reverse[m] → c ∉ (orderL x.1).reverse.take m ∧ c ≠ (orderL x.1).reverse[m] := fun m h c hc => vl.rev h hc
  have hRall : ∀ i, i < x.1.length → i ∈ (orderL x.1).reverse := fun i hi => List.mem_reverse.2 (vl.all hi)
  generalize (orderL x.1).reverse = R at *
  clear hr
  refine ub42_0 x.1.length (fun m c1 c3 c17 c18 c19 H => c1 = .rptr [a, b] ∧ c3 = .sl 0 0 x.1.length x.1.length 1 ∧ r = c17 ∧ c18 = .int .i64 x.1.length ∧ c19 = .int .i64 m ∧ ∃ g, Gr 1 [.cells ((tab x.1.length g).map (V.int .i64))] H r ((ofN R).map (V.int .i64)) x.1.length ∧ TInv x.1 (R.take m) (E0 x.1 (R.take m)) g ∧ ∀ c, c < x.1.length → 0 ≤ g c ∧ g c ≤ m * 1048576) ?_ 0 (Nat.zero_le _) ⟨rfl, rfl, rfl, rfl, rfl, _, hr2, by simpa using TInv.start, fun c _ => by simp⟩
  clear hr2
  rintro m hm _ _ _ _ _ H3 ⟨rfl, rfl, rfl, rfl, rfl, g, hg, hT, hB⟩
  intros
  rw [wb42_0]
  simp only [bd_some, binV_lss, ifB_bool, decide_eq_true_eq, Int.ofNat_lt]
  split
  · rename_i hml
    have hmR : m < R.length := by omega
    obtain ⟨p, p1, p2⟩ := gr_elem (l := ofN R) (by simpa [ofN, hRl] using hg) (i := m) (by simpa [ofN] using hmR)
    obtain ⟨i, hi⟩ : ∃ i, R[m] = i := ⟨_, rfl⟩
    have hin : i < x.1.length := hi ▸ hRlt _ (List.getElem_mem hmR)
    have hnot : i ∉ R.take m := hi ▸ nodup_take_not hRn hmR
    have e1 : (ofN R)[m]'(by simpa [ofN] using hmR) = (i : Int) := by simp [ofN, hi]
    rw [e1] at p2
    have g0 : H3[0]? = some (.cells ((tab x.1.length g).map (V.int .i64))) := hg.get rfl
    have i3 : iadrV 1 (.sl 0 0 x.1.length x.1.length 1) (.int .i64 i) = some (.ptr 0 i) := by simp [iadrV, hin]
    have l3 := ldV_own (off := i) g0 (tab_map_get hin)
    obtain ⟨w, rr, e, q⟩ := task_at h1 hin
    have hd := dur_rng z3 hin
    rw [dur_of hin] at hd
    have hb := hB i hin
    have wd : IntKind.i64.wrap (g i + x.1[i].2.1) = g i + dur x.1 i := by rw [dur_of hin]; exact wz (by omega) (by omega)
    have s3 := stV_own (off := i) (x := .int .i64 (g i + dur x.1 i)) g0 (by simpa using hin) rfl
    rw [tab_map_set] at s3
    have hg3 := hg.set (j := 0) (by simp) (.cells ((tab x.1.length fun j => if j = i then g i + dur x.1 i else g j).map (V.int .i64)))
    have hT3 := hT.enter hnot
    have hal : aft x.1 i = x.1[i].2.2.2 := aft_of hin
    have hql : x.1[i].2.2.2.length ≤ top := q.le
    have tkm : R.take (m + 1) = R.take m ++ [i] := by rw [tk hmR, hi]
    have hB3 : ∀ c, c < x.1.length → 0 ≤ (if c = i then g i + dur x.1 i else g c) ∧ (if c = i then g i + dur x.1 i else g c) ≤ ((m + 1 : Nat) : Int) * 1048576 := fun c hc => by
      have := hB c hc
      have := dur_rng z3 hin
      split <;> omega
    simp only [p1, p2, bd_some, i3, l3, fadrV_rptr, List.drop_zero, List.drop_succ_cons, ldV_one, e, binV_add, wd, s3, true_and, q.lens]
    refine ub42_1 x.1[i].2.2.2.length (fun t c1 c3 c6 c17 c18 c19 c40 c41 c42 H => c1 = .rptr [a, b] ∧ c3 = .sl 0 0 x.1.length x.1.length 1 ∧ c6 = .int .i64 i ∧ r = c17 ∧ c18 = .int .i64 x.1.length ∧ c19 = .int .i64 m ∧ w = c40 ∧ c41 = .int .i64 x.1[i].2.2.2.length ∧ c42 = .int .i64 t ∧ ∃ g, Gr 1 [.cells ((tab x.1.length g).map (V.int .i64))] H r ((ofN R).map (V.int .i64)) x.1.length ∧ TInv x.1 (R.take m ++ [i]) (E1 x.1 (R.take m) i t) g ∧ ∀ c, c < x.1.length → 0 ≤ g c ∧ g c ≤ ((m + 1 : Nat) : Int) * 1048576) ?_ 0 (Nat.zero_le _) ⟨rfl, rfl, rfl, rfl, rfl, rfl, rfl, rfl, rfl, _, hg3, hT3, hB3⟩
    clear hg hT hB hg3 hT3 hB3 s3 l3 g0 wd hb p1 p2
    rintro t ht _ _ _ _ _ _ _ _ _ H4 ⟨rfl, rfl, rfl, rfl, rfl, rfl, rfl, rfl, rfl, g, hg, hT, hB⟩
    intros
    rw [wb42_1]
    simp only [bd_some, binV_lss, ifB_bool, decide_eq_true_eq, Int.ofNat_lt]
    split
    · rename_i htl
      obtain ⟨r4, e4⟩ := q.int1 htl
      have hmem : x.1[i].2.2.2[t] ∈ aft x.1 i := by rw [hal]; exact List.getElem_mem htl
      obtain ⟨c, hc, hcn⟩ := vl.nat hin hmem
      rw [hc] at e4 hmem
      have hcR := hrev m hmR c (by rw [hi]; exact hmem)
      have g0 : H4[0]? = some (.cells ((tab x.1.length g).map (V.int .i64))) := hg.get rfl
      have i4 : iadrV 1 (.sl 0 0 x.1.length x.1.length 1) (.int .i64 c) = some (.ptr 0 c) := by simp [iadrV, hcn]
      have l4 := ldV_own (off := c) g0 (tab_map_get hcn)
      have l3 := ldV_own (off := i) g0 (tab_map_get hin)
      have s4 := stV_own (off := c) (x := .int .i64 (if g i > g c then g i else g c)) g0 (by simpa using hcn) rfl
      rw [tab_map_set] at s4
      have hg4 := hg.set (j := 0) (by simp) (.cells ((tab x.1.length fun j => if j = c then (if g i > g c then g i else g c) else g j).map (V.int .i64)))
      have wt : IntKind.i64.wrap ((t : Int) + 1) = ((t + 1 : Nat) : Int) := wi (by omega) (by unfold top at hql; omega)
      simp only [e4, bd_some, ldV_one, i4, l4, i3, l3, maxV_int, s4, true_and, binV_add, wt, upQ_n, Sb42_1_eq]
      refine ⟨t + 1, by omega, by omega, rfl, _, hg4, hT.next (by rw [hal]; exact htl) (by simp only [hal]; exact hc) ?_, fun d hd => ?_⟩
      · rw [List.mem_append, List.mem_singleton]; rw [hi] at hcR; exact fun h => h.elim hcR.1 hcR.2
      · have := hB d hd
        have := hB i hin
        have := hB c hcn
        split
        · split <;> omega
        · omega
    · rename_i htl
      have hT4 := hT.leave (by rw [hal]; omega)
      simp only [upQ_e, blockQ_e, if_true, blockQ_n, seqQ_n, show (2 = 1) = False by decide, if_false, wr42_2, binV_add, bd_some, wi (show (m : Int) + 1 = ((m + 1 : Nat) : Int) by omega) (by omega), upQ_n, Sb42_0_eq, true_and]
      exact ⟨m + 1, by omega, by omega, rfl, g, hg, by rw [tkm]; exact hT4, hB⟩
  · rename_i hml
    have em : m = x.1.length := by omega
    subst em
    have htk : R.take x.1.length = R := List.take_of_length_le (by omega)
    rw [htk] at hT
    simp only [upQ_e, blockQ_e, if_true, seqQ_n, wr42_3, ret42]
    have g0 : H3[0]? = some (.cells ((tab x.1.length g).map (V.int .i64))) := hg.get rfl
    have hbd : ∀ i, i < x.1.length → 0 ≤ g i ∧ g i ≤ 24 * 1048576 := fun i hi => by have := hB i hi; omega
    refine hq_some (v' := .ro ((tab x.1.length g).map (V.int .i64)) x.1.length) ?_ (h _ g (hT.tail hRall hRlt) hbd (ints_arr (by simp; unfold top; omega) (fun y hy => ?_) (.inl (by simp))))
    · rw [show closeDepth = 11 + 1 from rfl, closeV_sl g0 (by simp)]
      have : (List.drop 0 ((tab x.1.length g).map (V.int .i64))).take (x.1.length * 1) = (tab x.1.length g).map (V.int .i64) := by
        rw [List.drop_zero]; exact List.take_of_length_le (by simp)
      rw [this, mapO_ints (d := 10)]
      rfl
    · obtain ⟨j, hj, rfl⟩ := List.mem_map.1 hy
      have := hbd j (by simpa using hj)
      exact i64_mm (by omega) (by omega)
end Go.Proofs.Ytoommmeapdkopaa.E
namespace Go.Proofs.Ytoommmeapdkopaa.E
open Go Go.Eng

section
variable {x : tShop.D} {v : V} {H : Heap} {k : V → Heap → Prop}
end

theorem c43 {v : V} {l : List Int} (hx : Arr 1 tI.R v l) (hpos : 0 < l.length) {H : Heap} {k : V → Heap → Prop} (h : ∀ r : Int, r ∈ l → (∀ y ∈ l, y ≤ r) → k (.int .i64 r) H) : Cl G 43 [v] H k := by
  refine Cl.mode1 (F := i43) rfl rfl (by simp [hx.closed]) ?_
  rw [w43]
  have n1 : ¬ ((l.length : Int) < 1) := by omega
  have hle : l.length ≤ top := hx.le
  obtain ⟨r, e⟩ := hx.int1 hpos
  simp only [hx.lens, bd_some, binV_lss, n1, decide_false, ifB_bool, Bool.false_eq_true, if_false, wr43_0]
  simp only [show iadrV 1 v (.int .i64 0) = _ from e, bd_some, ldV_one]
  refine ub43_1 l.length (fun m c0 c3 c4 H => v = c0 ∧ c4 = .int .i64 m ∧ 0 < m ∧ ∃ s, c3 = .int .i64 s ∧ s ∈ l ∧ ∀ y ∈ l.take m, y ≤ s) ?_ 1 (by omega) ⟨rfl, rfl, by omega, l[0], rfl, List.getElem_mem hpos, fun y hy => by
    rw [show (1 : Nat) = 0 + 1 from rfl, tk hpos] at hy
    simp at hy; omega⟩
  rintro m hm _ _ _ H2 ⟨rfl, rfl, hm0, s, rfl, hs, ha⟩
  intros
  rw [wb43_1]
  simp only [hx.lens, bd_some, binV_lss, ifB_bool, decide_eq_true_eq, Int.ofNat_lt]
  split
  · rename_i hlt
    obtain ⟨r2, e2⟩ := hx.int1 hlt
    simp only [e2, bd_some, ldV_one, maxV_int, binV_add, wi (show (m : Int) + 1 = ((m + 1 : Nat) : Int) by omega) (by unfold top at hle; omega), upQ_n, Sb43_1_eq, true_and]
    refine ⟨m + 1, by omega, by omega, rfl, by omega, _, rfl, ?_, fun y hy => ?_⟩
    · split
      · exact List.getElem_mem hlt
      · exact hs
    · rcases (mem_take_succ hlt).1 hy with hy | rfl
      · have := ha y hy
        split <;> omega
      · split <;> omega
  · rename_i hlt
    rw [take_all hlt] at ha
    simp only [upQ_e, blockQ_e, if_true, seqQ_n, wr43_2, ret43, hq_int]
    exact h s hs ha

def lastI : Option Nat → Int
  | none => -1
  | some c => c
def goB (T : List tTask.D) (f : Nat → Int) (left : Int) (last : Option Nat) (i : Nat) : Bool := decide (f i = left) && match last with | none => true | some c => decide ((c : Int) ∈ aft T i)
theorem nxC_eq {T : List tTask.D} {f : Nat → Int} {left : Int} {last : Option Nat} : nxC T f left last = (List.range T.length).find? (goB T f left last) := rfl
def PI (H : Heap) (lv rp : V) (path : List Nat) : Prop := ∃ pv, Gr 1 [.cells [pv], .cells [lv], .cells [.fn 44 [rp, .ptr 1 0, .ptr 0 0, .ptr 2 0]]] H pv ((ofN path).map (V.int .i64)) path.length
theorem chainL_none {T : List tTask.D} {f : Nat → Int} {left : Int} {last : Option Nat} (h : left ≤ 0) : ∀ d, chainL T f d left last = []
  | 0 => rfl
  | d + 1 => by simp [chainL, h]

theorem ldV_t4 {H : Heap} {a b c d : V} {rest : List V} : ldV H (.rptr (a :: b :: c :: d :: rest)) 4 true = some (.agg [a, b, c, d]) := ldV_all (c := [a, b, c, d]) rfl

theorem extend_ok {T : List tTask.D} {O : List Nat} (vl : Vld T O) (hz : tasksErr T = 0) {a b : V} (h1 : Arr 4 tTask.R a T) {f : Nat → Int} {lv : V} (hl : Arr 1 tI.R lv (tab T.length f)) (hn : T.length ≤ 1000) : ∀ (d : Nat) (left : Int) (last : Option Nat) (H : Heap) (path : List Nat) (k : V → Heap → Prop), left ≤ d → -9223372036854775807 ≤ left → path.length + d ≤ 1000000000 → PI H lv (.rptr [a, b]) path →
    (∀ H', PI H' lv (.rptr [a, b]) (path ++ chainL T f d left last) → k (.tup []) H') → Cl G 44 [.int .i64 (lastI last), .int .i64 left, .rptr [a, b], .ptr 1 0, .ptr 0 0, .ptr 2 0] H k := by
  intro d
  induction d with
  | zero =>
    intro left last H path k hd hlo hr hp h
    have hle : left ≤ 0 := by omega
    rw [chainL_none hle, List.append_nil] at h
    refine Cl.inline (F := i44) rfl rfl ?_
    rw [w44]
    simp only [fadrV_rptr, List.drop_zero, bd_some, ldV_one, h1.lens]
    refine ub44_0 T.length (fun m c0 c1 c3 c4 c5 c11 c12 c13 H => c0 = .int .i64 (lastI last) ∧ c1 = .int .i64 left ∧ c3 = .ptr 1 0 ∧ c4 = .ptr 0 0 ∧ c5 = .ptr 2 0 ∧ a = c11 ∧ c12 = .int .i64 T.length ∧ c13 = .int .i64 m ∧ PI H lv (.rptr [a, b]) path) ?_ 0 (Nat.zero_le _) ⟨rfl, rfl, rfl, rfl, rfl, rfl, rfl, rfl, hp⟩
    rintro m hm _ _ _ _ _ _ _ _ H2 ⟨rfl, rfl, rfl, rfl, rfl, rfl, rfl, rfl, pv, hg⟩
    intros
    rw [wb44_0]
    simp only [bd_some, binV_lss, ifB_bool, decide_eq_true_eq, Int.ofNat_lt]
    split
    · rename_i hlt
      obtain ⟨w, r, e, q⟩ := task_at h1 hlt
      have n1 : ¬ (0 < left) := by omega
      simp only [e, bd_some, ldV_t4, newB]
      rw [stV_fill (k := 4) rfl rfl]
      simp only [bd_some, true_and]
      rw [frz_new (by simp [q.closed])]
      simp only [bd2_some, binV_gtr, gt_iff_lt, n1, decide_false, bd_some, gdV_bool, show (false == true) = false from rfl, wpg_false, pickV_bool, Bool.false_eq_true, if_false, gdV_undef, ifB_bool, binV_add, wi (show (m : Int) + 1 = ((m + 1 : Nat) : Int) by omega) (by omega), upQ_n, Sb44_0_eq, true_and]
      exact ⟨m + 1, by omega, by omega, rfl, pv, hg.alloc _⟩
    · simp only [upQ_e, blockQ_e, if_true, ret44n]
      exact h H2 ⟨pv, hg⟩
  | succ d ih =>
    intro left last H path k hd hlo hr hp h
    refine Cl.inline (F := i44) rfl rfl ?_
    rw [w44]
    simp only [fadrV_rptr, List.drop_zero, bd_some, ldV_one, h1.lens]
    refine ub44_0 T.length (fun m c0 c1 c3 c4 c5 c11 c12 c13 H => c0 = .int .i64 (lastI last) ∧ c1 = .int .i64 left ∧ c3 = .ptr 1 0 ∧ c4 = .ptr 0 0 ∧ c5 = .ptr 2 0 ∧ a = c11 ∧ c12 = .int .i64 T.length ∧ c13 = .int .i64 m ∧ PI H lv (.rptr [a, b]) path ∧ (0 < left → ∀ j, j < m → goB T f left last j = false)) ?_ 0 (Nat.zero_le _) ⟨rfl, rfl, rfl, rfl, rfl, rfl, rfl, rfl, hp, fun _ j hj => by omega⟩
    rintro m hm _ _ _ _ _ _ _ _ H2 ⟨rfl, rfl, rfl, rfl, rfl, rfl, rfl, rfl, ⟨pv, hg⟩, hno⟩
    intros
    rw [wb44_0]
    simp only [bd_some, binV_lss, ifB_bool, decide_eq_true_eq, Int.ofNat_lt]
    split
    · rename_i hlt
      obtain ⟨w, r, e, q⟩ := task_at h1 hlt
      have hal : aft T m = T[m].2.2.2 := aft_of hlt
      have wm : IntKind.i64.wrap ((m : Int) + 1) = ((m + 1 : Nat) : Int) := wi (by omega) (by omega)
      have hga := hg.alloc [.dead]
      simp only [e, bd_some, ldV_t4, newB]
      rw [stV_fill (k := 4) rfl rfl]
      simp only [bd_some, true_and]
      rw [frz_new (by simp [q.closed])]
      simp only [bd2_some, binV_gtr, gt_iff_lt, bd_some, gdV_bool]
      by_cases hpos : 0 < left
      case neg =>
        simp only [hpos, decide_false, show (false == true) = false from rfl, wpg_false, pickV_bool, Bool.false_eq_true, if_false, bd_some, gdV_undef, gdV_bool, ifB_bool, binV_add, wm, upQ_n, Sb44_0_eq, true_and]
        exact ⟨m + 1, by omega, by omega, rfl, ⟨pv, hga⟩, fun hp => (by first | exact absurd hp hpos | exact hp.elim)⟩
      have l1 : ldV (H2 ++ [.dead]) (.ptr 1 0) 1 false = some lv := ldV_own (hga.get (j := 1) rfl) rfl
      obtain ⟨r5, e5⟩ := hl.int1 (i := m) (by simpa using hlt)
      have g5 : (tab T.length f)[m]'(by simpa using hlt) = f m := by simp [tab]
      rw [g5] at e5
      simp only [hpos, decide_true, beq_self_eq_true, wpg_true, l1, bd_some, e5, ldV_one, binV_eql, pickV_bool, if_true, gdV_bool]

      by_cases hgo : goB T f left last m = true
      · have hfm : f m = left := by simp only [goB, Bool.and_eq_true, decide_eq_true_eq] at hgo; exact hgo.1
        have hnx : nxC T f left last = some m := by rw [nxC_eq]; exact find_range_some hlt hgo (hno hpos)
        have hch : chainL T f (d + 1) left last = m :: chainL T f d (left - dur T m) (some m) := by
          simp only [chainL, show ¬ left ≤ 0 by omega, if_false, hnx]
        rw [hch] at h
        have hd2 := dur_rng hz hlt
        obtain ⟨v', H', p1, p2⟩ := hga.push (xs := [.int .i64 m]) rfl (by omega) (bytes := 8) (by unfold room; omega)
        have l0 : ldV (H2 ++ [.dead]) (.ptr 0 0) 1 false = some pv := ldV_own (hga.get (j := 0) rfl) rfl
        have o1 : oneC v' = true := by rcases p2.2.2.2 with ⟨_, rfl⟩ | ⟨_, _, rfl, _⟩ <;> rfl
        have s0 := stV_own (off := 0) (x := v') (p2.get (j := 0) rfl) (by simp) o1
        have p3 := p2.set (j := 0) (by simp) (.cells [v'])
        have l2 : ldV (H'.set 0 (.cells [v'])) (.ptr 2 0) 1 false = some (.fn 44 [.rptr [a, b], .ptr 1 0, .ptr 0 0, .ptr 2 0]) := ldV_own (p3.get (j := 2) rfl) rfl
        have wl : IntKind.i64.wrap (left - T[m].2.1) = left - dur T m := by rw [dur_of hlt] at hd2 ⊢; exact wz (by omega) (by omega)
        have p4 : PI (H'.set 0 (.cells [v'])) lv (.rptr [a, b]) (path ++ [m]) := ⟨v', by simpa [ofN] using p3⟩

        have tail : Cl G 44 [.int .i64 (lastI (some m)), .int .i64 (left - dur T m), .rptr [a, b], .ptr 1 0, .ptr 0 0, .ptr 2 0] (H'.set 0 (.cells [v'])) fun r H'' => k (.tup []) H'' :=
          ih (left - dur T m) (some m) _ (path ++ [m]) _ (by omega) (by omega) (by simp; omega) p4 fun H'' hp => h H'' (by simpa using hp)
        have fin : ∀ Q : Cont, (∀ v H'', k (.tup []) H'' → Q .r v H'') → ∀ F : V → List V, Cl G 44 [.int .i64 m, .int .i64 (left - dur T m), .rptr [a, b], .ptr 1 0, .ptr 0 0, .ptr 2 0] (H'.set 0 (.cells [v'])) fun r H'' => Q .r (F r) H'' := fun Q hQ F => tail.mono fun r H'' hk => hQ _ _ hk
        cases last with
        | none =>
          simp only [hfm, decide_true, beq_self_eq_true, wpg_true, lastI, binV_lss, show ((-1 : Int) < 0) = True by decide, show (true == false) = false from rfl, wpg_false, bd_some, pickV_bool, if_true, gdV_bool, ifB_bool, l0, bslV_one (show oneC (.int .i64 m) = true from rfl), bd2_some, p1, s0, List.set_cons_zero, true_and, l2, fadrV_rptr, List.drop_succ_cons, List.drop_zero, ldrV_one, binV_sub, wl, callV_fn, Bool.true_or, List.cons_append, List.nil_append, upQ_r, blockQ_r, ret44]
          exact tail
        | some c =>
          have hc : (c : Int) ∈ T[m].2.2.2 := by
            simp only [goB, Bool.and_eq_true, decide_eq_true_eq] at hgo
            rw [← hal]; exact hgo.2
          have c0 : ¬ ((c : Int) < 0) := by omega
          simp only [hfm, decide_true, beq_self_eq_true, wpg_true, lastI, binV_lss, c0, decide_false, bd_some, gdV_bool, fadrV_rptr, List.drop_succ_cons, List.drop_zero, ldrV_one, Bool.true_or, true_and]
          refine c45 q ?_
          simp only [hc, decide_true, bd_some, pickV_bool, if_true, Bool.false_eq_true, if_false, gdV_bool, beq_self_eq_true, wpg_true, ifB_bool, l0, bslV_one (show oneC (.int .i64 m) = true from rfl), bd2_some, p1, s0, List.set_cons_zero, true_and, l2, fadrV_rptr, List.drop_succ_cons, List.drop_zero, ldrV_one, binV_sub, wl, callV_fn, Bool.true_or, List.cons_append, List.nil_append, upQ_r, blockQ_r, ret44]
          exact tail
      · have hgf : goB T f left last m = false := by simpa using hgo
        have next : ∀ j, j < m + 1 → goB T f left last j = false := fun j hj => by
          by_cases e : j = m
          · rw [e]; exact hgf
          · exact hno hpos j (by omega)
        by_cases hfm : f m = left
        case neg =>
          simp only [hfm, decide_false, show (false == true) = false from rfl, wpg_false, pickV_bool, Bool.false_eq_true, if_false, bd_some, gdV_undef, gdV_bool, ifB_bool, binV_add, wm, upQ_n, Sb44_0_eq, true_and]
          exact ⟨m + 1, by omega, by omega, rfl, ⟨pv, hga⟩, fun _ => next⟩
        cases last with
        | none => simp [goB, hfm] at hgf
        | some c =>
          have hc : (c : Int) ∉ T[m].2.2.2 := by
            simp only [goB, hfm, decide_true, Bool.true_and, decide_eq_false_iff_not] at hgf
            rw [← hal]; exact hgf
          have c0 : ¬ ((c : Int) < 0) := by omega
          simp only [hfm, decide_true, beq_self_eq_true, wpg_true, lastI, binV_lss, c0, decide_false, bd_some, gdV_bool, fadrV_rptr, List.drop_succ_cons, List.drop_zero, ldrV_one, Bool.true_or, true_and]
          refine c45 q ?_
          simp only [hc, decide_false, bd_some, pickV_bool, if_true, Bool.false_eq_true, if_false, gdV_bool, beq_self_eq_true, wpg_true, ifB_bool, binV_add, wm, upQ_n, Sb44_0_eq, true_and]
          exact ⟨m + 1, by omega, by omega, rfl, ⟨pv, hga⟩, fun _ => next⟩
    · rename_i hlt
      have : chainL T f (d + 1) left last = [] := by
        by_cases hpos : 0 < left
        · have : nxC T f left last = none := by rw [nxC_eq]; exact find_range_none fun j hj => hno hpos j (by omega)
          simp only [chainL, this, ite_self]
        · exact chainL_none (by omega) _
      rw [this, List.append_nil] at h
      simp only [upQ_e, blockQ_e, if_true, ret44n]
      exact h H2 ⟨pv, hg⟩
end Go.Proofs.Ytoommmeapdkopaa.E
namespace Go.Proofs.Ytoommmeapdkopaa.E
open Go Go.Eng

def isMx (T : List tTask.D) (f : Nat → Int) (m : Int) : Prop := (∀ i, i < T.length → f i ≤ m) ∧ ((T.length = 0 ∧ m = 0) ∨ ∃ i, i < T.length ∧ f i = m)
theorem isMx_eq {T : List tTask.D} {f g : Nat → Int} (hfg : ∀ i, i < T.length → f i = g i) {m m' : Int} (h : isMx T f m) (h' : isMx T g m') : m = m' := by
  obtain ⟨a1, a2⟩ := h
  obtain ⟨b1, b2⟩ := h'
  rcases a2 with ⟨z, rfl⟩ | ⟨i, hi, rfl⟩
  · rcases b2 with ⟨_, rfl⟩ | ⟨j, hj, rfl⟩
    · rfl
    · omega
  · rcases b2 with ⟨z, rfl⟩ | ⟨j, hj, rfl⟩
    · omega
    · have := a1 j hj
      have := b1 i hi
      rw [← hfg i hi] at this
      rw [hfg j hj] at *
      omega
theorem nxC_congr {T : List tTask.D} {f g : Nat → Int} (hfg : ∀ i, i < T.length → f i = g i) (left : Int) (last : Option Nat) : nxC T f left last = nxC T g left last := by
  simp only [nxC]
  have : ∀ (n : Nat), n ≤ T.length → ∀ p q : Nat → Bool, (∀ i, i < T.length → p i = q i) → (List.range n).find? p = (List.range n).find? q := by
    intro n hn p q hpq
    induction n with
    | zero => rfl
    | succ n ih =>
      rw [List.range_succ, List.find?_append, List.find?_append, ih (by omega)]
      simp [hpq n (by omega)]
  exact this _ (Nat.le_refl _) _ _ fun i hi => by rw [hfg i hi]
theorem chainL_congr {T : List tTask.D} {f g : Nat → Int} (hfg : ∀ i, i < T.length → f i = g i) : ∀ (d : Nat) (left : Int) (last : Option Nat), chainL T f d left last = chainL T g d left last
  | 0, _, _ => rfl
  | d + 1, left, last => by
    simp only [chainL, nxC_congr hfg, chainL_congr hfg d]
theorem chainL_lt {T : List tTask.D} {f : Nat → Int} : ∀ (d : Nat) (left : Int) (last : Option Nat), ∀ c ∈ chainL T f d left last, c < T.length
  | 0, _, _, c, hc => by simp [chainL] at hc
  | d + 1, left, last, c, hc => by
    simp only [chainL] at hc
    split at hc
    · simp at hc
    · split at hc
      · simp at hc
      · rename_i i hi
        rcases List.mem_cons.1 hc with rfl | hc
        · exact (nxC_spec hi).1
        · exact chainL_lt d _ _ c hc
theorem chainL_len {T : List tTask.D} {f : Nat → Int} : ∀ (d : Nat) (left : Int) (last : Option Nat), (chainL T f d left last).length ≤ d
  | 0, _, _ => by simp [chainL]
  | d + 1, left, last => by
    simp only [chainL]
    split
    · simp
    · split
      · simp
      · have := chainL_len (T := T) (f := f) d
        simp only [List.length_cons]
        have := this (left - dur T ‹Nat›) (some ‹Nat›)
        omega

theorem ok_Critical {x : tShop.D} {v : V} (hx : tShop.V x v) (he : shopErr x (decide ((orderL x.1).length < x.1.length)) = 0) {H : Heap} {k : V → Heap → Prop}
    (h : ∀ r f m, isTail x.1 f → isMx x.1 f m → 0 ≤ m → m ≤ 24 * 1048576 → Arr 1 tI.R r (ofN (chainL x.1 f m.toNat m none)) → k (.tup [.int .i64 m, r, .int .i64 0]) H) : Cl G 16 [v] H k := by
  obtain ⟨a, b, rfl, g1, g2⟩ := shop_v hx
  obtain ⟨z1, z2, z3, z4⟩ := shopErr_zero he
  have vl := vld_of he
  refine Cl.mode1 (F := i16) rfl rfl (by simp [g1.closed, g2.closed]) ?_
  rw [w16]
  have hres : i16.res = [.t 2, .cell 3 1 false, .t 4] := rfl
  have len0 : ([] : Heap).length = 0 := rfl
  simp only [bxrV_agg, closedVs_cons, closedVs_nil, g1.closed, g2.closed, Bool.and_self, bd_some, newB, len0, List.nil_append, ldV_s2, Bool.true_or, true_and]
  refine c29 hx ?_
  rw [he]
  simp only [binV_neq, decide_true, Bool.not_true, bd_some, ifB_bool, Bool.false_eq_true, if_false, fadrV_rptr, List.drop_zero, ldV_one, g1.lens, binV_eql]
  by_cases h0 : x.1.length = 0
  · have e0 : ((x.1.length : Nat) : Int) = 0 := by omega
    have st : stV [.cells [.nils]] 1 (.ptr 0 0) .nils = some [.cells [.nils]] := rfl
    have ld : rd [.cells [.nils]] (.ptr 0 0) 1 = some [.nils] := rfl
    simp only [e0, decide_true, if_true, st, bd_some, hres, resultV, mapO, result1, List.getD_cons_zero, List.getD_cons_succ, ld, Option.bind_some, packV, Option.map_some, true_and]
    refine hq_some (v' := .tup [.int .i64 0, .nils, .int .i64 0]) rfl (h .nils (fun _ => 0) 0 (fun i hi => by omega) ⟨fun i hi => by omega, .inl ⟨h0, rfl⟩⟩ (by omega) (by omega) ?_)
    exact ints_arr (by simp [ofN, chainL, top]) (by simp [ofN, chainL]) (.inr ⟨by simp [ofN, chainL], .inl rfl⟩)
  have e0 : ¬ ((x.1.length : Nat) : Int) = 0 := by omega
  simp only [e0, decide_false, Bool.false_eq_true, if_false, ldV_s2, bd_some, Bool.true_or, true_and]
  refine c42 hx he fun lv f hf hb hl => ?_
  have st1 : stV ([.cells [.nils]] ++ [.cells [.nils]]) 1 (.ptr 1 0) lv = some [.cells [.nils], .cells [lv]] := by
    have := stV_own (H := [.cells [.nils]] ++ [.cells [.nils]]) (id := 1) (off := 0) (cs := [.nils]) (x := lv) rfl (by simp) hl.one
    simpa using this
  have ld1 : ldV [.cells [.nils], .cells [lv]] (.ptr 1 0) 1 false = some lv := ldV_own rfl rfl
  simp only [newB, List.length_cons, List.length_nil, Nat.zero_add, st1, bd_some, ld1, true_and]
  refine c43 hl (by simp; omega) fun m hm hmx => ?_
  have st2 : stV ([.cells [.nils], .cells [lv]] ++ [.cells [.nilf]]) 1 (.ptr (1 + 1) 0) (.fn 44 [.rptr [a, b], .ptr 1 0, .ptr 0 0, .ptr (1 + 1) 0]) = some [.cells [.nils], .cells [lv], .cells [.fn 44 [.rptr [a, b], .ptr 1 0, .ptr 0 0, .ptr 2 0]]] := rfl
  have ld2 : ldV [.cells [.nils], .cells [lv], .cells [.fn 44 [.rptr [a, b], .ptr 1 0, .ptr 0 0, .ptr 2 0]]] (.ptr (1 + 1) 0) 1 false = some (.fn 44 [.rptr [a, b], .ptr 1 0, .ptr 0 0, .ptr 2 0]) := rfl
  obtain ⟨i0, hi0, rfl⟩ := List.mem_map.1 hm
  have hi0' : i0 < x.1.length := by simpa using hi0
  have hmxx : isMx x.1 f (f i0) := ⟨fun i hi => hmx _ (List.mem_map.2 ⟨i, by simpa using hi, rfl⟩), .inr ⟨i0, hi0', rfl⟩⟩
  have hbm := hb i0 hi0'
  generalize f i0 = m at *
  simp only [List.length_cons, List.length_nil, Nat.zero_add, st2, bd_some, ld2, callV_fn, List.cons_append, List.nil_append, Bool.true_or, true_and]
  refine extend_ok vl z3 g1 hl (by omega) m.toNat m none _ [] _ (by omega) (by omega) (by simp; omega) ⟨.nils, Gr.nil⟩ fun H' hp => ?_
  obtain ⟨pv, hg⟩ := hp
  rw [List.nil_append] at hg
  have gp := hg.get (j := 0) rfl
  have l0 : ldV H' (.ptr 0 0) 1 false = some pv := ldV_own gp rfl
  have o1 : oneC pv = true := by rcases hg.2.2.2 with ⟨_, rfl⟩ | ⟨_, _, rfl, _⟩ <;> rfl
  have s0 := stV_own (off := 0) (x := pv) gp (by simp) o1
  have hg2 := hg.set (j := 0) (by simp) (.cells [pv])
  have rd0 : rd (H'.set 0 (.cells [pv])) (.ptr 0 0) 1 = some [pv] := by
    have := hg2.get (j := 0) rfl
    simp [rd, this]
  simp only [l0, bd_some, s0, List.set_cons_zero, true_and, hres, resultV, mapO, result1, List.getD_cons_zero, List.getD_cons_succ, rd0, Option.bind_some, packV, Option.map_some, Bool.false_eq_true, if_false]
  have hcl := chainL_len (T := x.1) (f := f) m.toNat m none
  obtain ⟨u, c1, c2⟩ := Gr.ints (l := ofN (chainL x.1 f m.toNat m none)) (d := 9) (by simpa [ofN] using hg2) (by simp [ofN]; unfold top; omega) (ofN_rng (n := 1000) (fun a ha => by have := chainL_lt _ _ _ a ha; omega) (by omega))
  refine hq_some (v' := .tup [.int .i64 m, u, .int .i64 0]) ?_ (h u f m hf hmxx hbm.1 hbm.2 c2)
  rw [show closeDepth = 11 + 1 from rfl, closeV_tup]
  simp only [mapO, c1, closeV_int, Option.bind_some, Option.map_some]

end Go.Proofs.Ytoommmeapdkopaa.E
namespace Go.Proofs.Ytoommmeapdkopaa.E
open Go Go.Eng

def Cpy (H H' : Heap) (r : V) (cs : List V) : Prop := (cs = [] ∧ (r = .nils ∨ r = .z0) ∧ H' = H) ∨ (0 < cs.length ∧ r = .sl H.length 0 cs.length cs.length 1 ∧ H' = H ++ [.cells cs])

theorem arr_cells {α : Type} {R : α → List V → Prop} {g : α → V} (hR : ∀ x c, R x c → c = [g x]) {v : V} {l : List α} (h : Arr 1 R v l) : v = .ro (l.map g) l.length ∨ (l = [] ∧ (v = .nils ∨ v = .z0 ∨ v = .e0)) := by
  obtain ⟨css, h1, h2, h3, h4, h5, h6⟩ := h
  have e : css.flatten = l.map g := by
    have : css = l.map fun x => [g x] := by
      apply List.ext_getElem (by simp [h1])
      intro i g1 g2
      simp only [List.getElem_map]
      exact hR _ _ (h2 i (by omega) g1)
    rw [this, flatS]
  rw [e] at h6
  exact h6.imp id fun ⟨a, b⟩ => ⟨List.length_eq_zero_iff.1 a, b⟩
theorem ints_cells {v : V} {l : List Int} (h : Arr 1 tI.R v l) : v = .ro (l.map (V.int .i64)) l.length ∨ (l = [] ∧ (v = .nils ∨ v = .z0 ∨ v = .e0)) := arr_cells (fun _ _ h => h.1) h
theorem strs_cells {v : V} {l : List (List UInt8)} (h : Arr 1 (Ty.R .str) v l) : v = .ro (l.map V.str) l.length ∨ (l = [] ∧ (v = .nils ∨ v = .z0 ∨ v = .e0)) := arr_cells (fun _ _ h => h.1) h
theorem mapO_strs {H : Heap} {d : Nat} (l : List (List UInt8)) : mapO (closeV H (d + 1)) (l.map V.str) = some (l.map V.str) :=
  mapO_self fun x hx => by obtain ⟨a, _, rfl⟩ := List.mem_map.1 hx; rfl

theorem hq2_sl {H : Heap} {K : V → Heap → Prop} {cs : List V} (hc : ∀ H : Heap, mapO (closeV H closeDepth) cs = some cs) (h : K (.sl H.length 0 cs.length cs.length 1) (H ++ [.cells cs])) : hq 2 H K (.sl 0 0 cs.length cs.length 1) [.cells cs] := by
  unfold hq
  simp only [handV, show ¬ ((2 : Nat) = 1) by decide, if_false, List.getElem?_cons_zero, Nat.mul_one, Nat.le_refl, true_and, and_self, if_true, List.take_length, hc, Option.map_some, bd2_some]
  exact h

theorem c48 {v : V} {l : List Int} (hx : Arr 1 tI.R v l) (hb : l.length ≤ 1000) {H : Heap} {k : V → Heap → Prop} (h : ∀ r H', Cpy H H' r (l.map (V.int .i64)) → k r H') : Cl G 48 [v] H k := by
  refine Cl.mode2 (F := i48) rfl rfl (by simp [hx.closed]) ?_
  rw [w48]
  have b0 : bslV 1 0 [.int .i64 0] [] [] = some (.z0, []) := rfl
  rcases ints_cells hx with rfl | ⟨rfl, rfl | rfl | rfl⟩
  · have e1 : eqnV .slice false (.ro (l.map (V.int .i64)) l.length) .nils = some (.bool false) := rfl
    simp only [e1, bd_some, ifB_bool, Bool.false_eq_true, if_false, b0, bd2_some]
    by_cases h0 : l.length = 0
    · have : l = [] := List.length_eq_zero_iff.1 h0
      subst this
      exact h .z0 H (.inl ⟨rfl, .inr rfl, rfl⟩)
    · have ea : appV 1 8 true [] .z0 (.ro (l.map (V.int .i64)) l.length) = some (.sl 0 0 l.length l.length 1, [.cells (l.map (V.int .i64))]) := by
        have hm : l.length * 8 ≤ room := by unfold room; omega
        simp [appV, sliceCells, h0, hm]
        rw [← List.map_take, List.take_length]
      simp only [ea, bd2_some]
      have := hq2_sl (H := H) (K := k) (cs := l.map (V.int .i64)) (fun H => mapO_ints (d := 11) l) (h _ _ (.inr ⟨by simp; omega, rfl, rfl⟩))
      simpa using this
  · exact h .nils H (.inl ⟨rfl, .inl rfl, rfl⟩)
  · exact h .z0 H (.inl ⟨rfl, .inr rfl, rfl⟩)
  · exact h .z0 H (.inl ⟨rfl, .inr rfl, rfl⟩)
theorem c52 {v : V} {l : List (List UInt8)} (hx : Arr 1 (Ty.R .str) v l) (hb : l.length ≤ 1000) {H : Heap} {k : V → Heap → Prop} (h : ∀ r H', Cpy H H' r (l.map V.str) → k r H') : Cl G 52 [v] H k := by
  refine Cl.mode2 (F := i52) rfl rfl (by simp [hx.closed]) ?_
  rw [w52]
  have b0 : bslV 1 0 [.str []] [] [] = some (.z0, []) := rfl
  rcases strs_cells hx with rfl | ⟨rfl, rfl | rfl | rfl⟩
  · have e1 : eqnV .slice false (.ro (l.map V.str) l.length) .nils = some (.bool false) := rfl
    simp only [e1, bd_some, ifB_bool, Bool.false_eq_true, if_false, b0, bd2_some]
    by_cases h0 : l.length = 0
    · have : l = [] := List.length_eq_zero_iff.1 h0
      subst this
      exact h .z0 H (.inl ⟨rfl, .inr rfl, rfl⟩)
    · have ea : appV 1 16 true [] .z0 (.ro (l.map V.str) l.length) = some (.sl 0 0 l.length l.length 1, [.cells (l.map V.str)]) := by
        have hm : l.length * 16 ≤ room := by unfold room; omega
        simp [appV, sliceCells, h0, hm]
        rw [← List.map_take, List.take_length]
      simp only [ea, bd2_some]
      have := hq2_sl (H := H) (K := k) (cs := l.map V.str) (fun H => mapO_strs (d := 11) l) (h _ _ (.inr ⟨by simp; omega, rfl, rfl⟩))
      simpa using this
  · exact h .nils H (.inl ⟨rfl, .inl rfl, rfl⟩)
  · exact h .z0 H (.inl ⟨rfl, .inr rfl, rfl⟩)
  · exact h .z0 H (.inl ⟨rfl, .inr rfl, rfl⟩)

abbrev Tab (T : List tTask.D) (bv : V) : Prop := Arr 1 (Ty.R (.sl .bool)) bv ((List.range T.length).map fun i => btab T.length (rchB T i))
theorem c51 {T : List tTask.D} {bv : V} (hb : Tab T bv) {j y : Nat} (hj : j < T.length) (hy : y < T.length) {H : Heap} {k : V → Heap → Prop} (h : k (.bool (rchB T j y)) H) : Cl G 51 [.int .i64 j, .rptr [bv], .rptr [.int .i64 y]] H k := by
  refine Cl.mode1 (F := i51) rfl rfl (by simp [hb.closed]) ?_
  rw [w51]
  obtain ⟨_, rr, ⟨row, rfl, q⟩, _, er⟩ := hb.iadr (i := j) (by simpa using hj)
  simp only [List.getElem_map, List.getElem_range] at q
  obtain ⟨r2, e2⟩ := bool1 q (i := y) (by simpa using hy)
  have gv : (btab T.length (rchB T j))[y]'(by simpa using hy) = rchB T j y := by simp [btab]
  rw [gv] at e2
  simp only [ldV_one, bd_some, er, List.singleton_append, e2, hq_bool]
  exact h
noncomputable def outB (T : List tTask.D) (l : List Int) (y : Int) : Bool := l.any fun j => rchB T j.toNat y.toNat
theorem c49 {T : List tTask.D} {bv w x1 x2 p : V} {l : List Int} (hb : Tab T bv) (hw : Arr 1 tI.R w l) (hl : ∀ a ∈ l, 0 ≤ a ∧ a < T.length) {y : Int} (hy : 0 ≤ y ∧ y < T.length) {H : Heap}
    (h1 : fadrV 3 x1 = some p) (h2 : ldV (H ++ [.cells [.int .i64 y]]) p 1 false = some w) (h3 : closeV (H ++ [.cells [.int .i64 y]]) 11 x2 = some (.rptr [bv])) {k : V → Heap → Prop} (h : k (.bool (outB T l y)) (H ++ [.cells [.int .i64 y]])) : Cl G 49 [.int .i64 y, x1, x2] H k := by
  refine Cl.inline (F := i49) rfl rfl ?_
  rw [w49]
  have bx : boxV (.int .i64 y) = some (.cells [.int .i64 y]) := rfl
  simp only [bx, bd_some, newB, h1, h2, Bool.true_or, true_and]
  have g : (H ++ [B.cells [.int .i64 y]])[H.length]? = some (.cells [.int .i64 y]) := by simp
  have c2 : closeV (H ++ [B.cells [.int .i64 y]]) 11 (.ptr H.length 0) = some (.rptr [.int .i64 y]) := by
    rw [show (11 : Nat) = 10 + 1 from rfl, closeV_ptr g]; rfl
  have hcl : closeV (H ++ [B.cells [.int .i64 y]]) closeDepth (.fn 51 [x2, .ptr H.length 0]) = some (.fn 51 [.rptr [bv], .rptr [.int .i64 y]]) := by
    rw [show closeDepth = 11 + 1 from rfl, closeV_fn]
    simp only [mapO, h3, c2, Option.bind_some, Option.map_some]
  obtain ⟨yn, rfl⟩ : ∃ n : Nat, y = n := ⟨y.toNat, by omega⟩
  refine c50 (hw.sh _) hcl (by simp [hb.closed]) (by simp) (fun j => rchB T j.toNat (yn : Int).toNat) (fun t ht H k hk => ?_) ?_
  · obtain ⟨t1, t2⟩ := hl t ht
    obtain ⟨tn, rfl⟩ : ∃ n : Nat, t = n := ⟨t.toNat, by omega⟩
    refine c51 hb (by omega) (by omega) ?_
    simpa using hk
  · exact h

theorem cIndexMem {v : V} {l : List Int} {x0 : V} {H : Heap} (hv : closeV H closeDepth x0 = some v) (hx : Arr 1 tI.R v l) {f : FuncId} {caps caps' : List V} (hcl : closeV H closeDepth (.fn f caps) = some (.fn f caps')) (p : Int → Bool)
    (hf : ∀ t ∈ l, ∀ (H : Heap) (k : V → Heap → Prop), (∀ H', k (.bool (p t)) H') → Cl G f (.int .i64 t :: caps') H k)
    {k : V → Heap → Prop} (h : ∀ r : Int, (r = -1 ∧ l.any p = false) → k (.int .i64 r) H) (h' : ∀ r : Nat, ∀ hr : r < l.length, (l.take r).any p = false → p l[r] = true → k (.int .i64 r) H) : Cl G 65 [x0, .fn f caps] H k := by
  refine Cl.any (F := i65) rfl rfl (args' := [v, .fn f caps']) (by simp [mapO, hv, hcl]) ?_
  rw [w65]
  have hle := hx.le
  simp only [hx.lens, bd_some]
  refine ub65_0 l.length (fun i a b c d _ => a = v ∧ b = .fn f caps' ∧ c = .int .i64 l.length ∧ d = .int .i64 i ∧ (l.take i).any p = false) ?_ 0 (Nat.zero_le _) (by simp)
  rintro i hi _ _ _ _ _ ⟨rfl, rfl, rfl, rfl, he⟩
  intros
  rw [wb65_0]
  simp only [bd_some, binV_lss, ifB_bool, decide_eq_true_eq, Int.ofNat_lt]
  split
  · rename_i hlt
    obtain ⟨r, e⟩ := hx.int1 hlt
    simp only [e, ldV_one, bd_some, callV_fn, Bool.true_or, true_and, List.singleton_append]
    refine hf l[i] (List.getElem_mem hlt) _ _ fun H' => ?_
    simp only [ifB_bool]
    split
    · rename_i hp
      simp only [upQ_r, blockQ_r, seqQ_r, ret65, hq_int, lq_int]
      exact h' i hlt he hp
    · rename_i hp
      simp only [binV_add, bd_some, wrap_succ (show i + 1 ≤ 9223372036854775807 by unfold top at hle; omega), upQ_n, Sb65_0_eq, true_and]
      exact ⟨i + 1, by omega, by omega, rfl, by rw [any_take_succ hlt, he]; simpa using hp⟩
  · rename_i hge
    rw [take_all hge] at he
    simp only [upQ_e, blockQ_e, if_true, seqQ_n, wr65_1, ret65, hq_int, lq_int]
    exact h (-1) ⟨rfl, he⟩
end Go.Proofs.Ytoommmeapdkopaa.E
