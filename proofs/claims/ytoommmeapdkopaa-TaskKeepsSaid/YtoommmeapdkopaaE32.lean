/-
  ENGINE, part 32: sorting in place: rows, swaps, order.
-/
import Derived.Test.YtoommmeapdkopaaE31
namespace Go.Eng

section
variable {α : Type}
structure LO (lt : α → α → Bool) : Prop where
  irr : ∀ x, lt x x = false
  tr : ∀ x y z, lt x y = true → lt y z = true → lt x z = true
  tot : ∀ x y, lt x y = false → lt y x = false → x = y
theorem LO.asym {lt : α → α → Bool} (o : LO lt) {x y : α} (h : lt x y = true) : lt y x = false := by
  cases e : lt y x
  · rfl
  · have := o.tr _ _ _ h e; rw [o.irr] at this; cases this
theorem LO.le_trans {lt : α → α → Bool} (o : LO lt) {x y z : α} (h : lt y x = false) (h' : lt z y = false) : lt z x = false := by
  cases e : lt z x
  · rfl
  · cases e1 : lt x y
    · have := o.tot _ _ e1 h; subst this; rw [h'] at e; cases e
    · have := o.tr _ _ _ e e1; rw [h'] at this; cases this
end

section
variable {α : Type} [Inhabited α]
def gt' (L : List α) (i : Nat) : α := L.getD i default
def swp (L : List α) (i j : Nat) : List α := (L.set i (gt' L j)).set j (gt' L i)
theorem gt_set {L : List α} {i : Nat} (h : i < L.length) (x : α) (m : Nat) : gt' (L.set i x) m = if m = i then x else gt' L m := by
  simp only [gt', List.getD_eq_getElem?_getD, List.getElem?_set]
  by_cases e : i = m
  · subst e; simp [h]
  · have : ¬ m = i := fun h => e h.symm
    simp [e, this]
@[simp] theorem swp_len {L : List α} {i j : Nat} : (swp L i j).length = L.length := by simp [swp]
theorem gt_swp {L : List α} {i j : Nat} (hi : i < L.length) (hj : j < L.length) (m : Nat) : gt' (swp L i j) m = if m = j then gt' L i else if m = i then gt' L j else gt' L m := by
  rw [swp, gt_set (by simpa using hj), gt_set hi]
theorem gt_get {L : List α} {i : Nat} (h : i < L.length) : gt' L i = L[i] := by simp [gt', h]
theorem swp_perm [DecidableEq α] {L : List α} {i j : Nat} (hi : i < L.length) (hj : j < L.length) : (swp L i j).Perm L := by
  rw [List.perm_iff_count]
  intro x
  rw [swp, List.count_set (by simpa using hj), List.count_set hi, gt_get hi, gt_get hj]
  have c1 : (L[i] == x) = true → 0 < L.count x := fun h => List.count_pos_iff.2 (by rw [← beq_iff_eq.1 h]; exact List.getElem_mem hi)
  have c2 : (L[j] == x) = true → 0 < L.count x := fun h => List.count_pos_iff.2 (by rw [← beq_iff_eq.1 h]; exact List.getElem_mem hj)
  rw [List.getElem_set]
  by_cases e : i = j
  · subst e
    simp only [if_true]
    by_cases h1 : (L[i] == x) = true
    · have := c1 h1; simp [h1]; try omega
    · simp [h1]
  · simp only [e, if_false]
    by_cases h1 : (L[i] == x) = true <;> by_cases h2 : (L[j] == x) = true
    · have := c1 h1; have := c2 h2; simp [h1, h2]; try omega
    · have := c1 h1; simp [h1, h2]; try omega
    · have := c2 h2; simp [h1, h2]; try omega
    · simp [h1, h2]

structure Mv (a b : Nat) (L L' : List α) : Prop where
  len : L'.length = L.length
  perm : L'.Perm L
  out : ∀ i, i < a ∨ b ≤ i → gt' L' i = gt' L i
  into : ∀ i, a ≤ i → i < b → ∃ j, a ≤ j ∧ j < b ∧ gt' L' i = gt' L j
namespace Mv
variable {a b : Nat} {L L' L'' : List α}
theorem refl : Mv a b L L := ⟨rfl, .refl _, fun _ _ => rfl, fun i h1 h2 => ⟨i, h1, h2, rfl⟩⟩
theorem trans (h : Mv a b L L') (h' : Mv a b L' L'') : Mv a b L L'' := ⟨h'.len.trans h.len, h'.perm.trans h.perm, fun i hi => (h'.out i hi).trans (h.out i hi), fun i h1 h2 => by
  obtain ⟨j, j1, j2, j3⟩ := h'.into i h1 h2
  obtain ⟨m, m1, m2, m3⟩ := h.into j j1 j2
  exact ⟨m, m1, m2, j3.trans m3⟩⟩
theorem mono {a' b' : Nat} (h : Mv a b L L') (ha : a' ≤ a) (hb : b ≤ b') : Mv a' b' L L' := ⟨h.len, h.perm, fun i hi => h.out i (by omega), fun i h1 h2 => by
  by_cases e : a ≤ i ∧ i < b
  · obtain ⟨j, j1, j2, j3⟩ := h.into i e.1 e.2
    exact ⟨j, by omega, by omega, j3⟩
  · exact ⟨i, h1, h2, h.out i (by omega)⟩⟩
theorem swap [DecidableEq α] {i j : Nat} (hb : b ≤ L.length) (i1 : a ≤ i) (i2 : i < b) (j1 : a ≤ j) (j2 : j < b) : Mv a b L (swp L i j) := by
  have hi : i < L.length := by omega
  have hj : j < L.length := by omega
  refine ⟨swp_len, swp_perm hi hj, fun m hm => ?_, fun m m1 m2 => ?_⟩
  · rw [gt_swp hi hj, if_neg (by omega), if_neg (by omega)]
  · rw [gt_swp hi hj]
    split
    · exact ⟨i, i1, i2, rfl⟩
    · split
      · exact ⟨j, j1, j2, rfl⟩
      · exact ⟨m, m1, m2, rfl⟩
theorem all {P : α → Prop} (h : Mv a b L L') (hP : ∀ i, a ≤ i → i < b → P (gt' L i)) : ∀ i, a ≤ i → i < b → P (gt' L' i) := fun i h1 h2 => by
  obtain ⟨j, j1, j2, e⟩ := h.into i h1 h2
  rw [e]; exact hP j j1 j2
end Mv

def Srt (lt : α → α → Bool) (a b : Nat) (L : List α) : Prop := ∀ i j, a ≤ i → i < j → j < b → lt (gt' L j) (gt' L i) = false
theorem Srt.sub {lt : α → α → Bool} {a b a' b' : Nat} {L : List α} (h : Srt lt a b L) (ha : a ≤ a') (hb : b' ≤ b) : Srt lt a' b' L := fun i j h1 h2 h3 => h i j (by omega) h2 (by omega)
theorem Srt.small {lt : α → α → Bool} {a b : Nat} {L : List α} (h : b ≤ a + 1) : Srt lt a b L := fun i j h1 h2 h3 => by omega
def Low (lt : α → α → Bool) (a b : Nat) (L : List α) : Prop := a = 0 ∨ ∀ i, a ≤ i → i < b → lt (gt' L i) (gt' L (a - 1)) = false
theorem Low.mv {lt : α → α → Bool} {a b : Nat} {L L' : List α} (h : Low lt a b L) (m : Mv a b L L') : Low lt a b L' := by
  rcases h with h | h
  · exact .inl h
  · by_cases ha : a = 0
    · exact .inl ha
    · refine .inr ?_
      rw [m.out (a - 1) (by omega)]
      exact m.all (P := fun x => lt x (gt' L (a - 1)) = false) h
theorem nodup_gt {L : List α} (h : L.Nodup) {i j : Nat} (hi : i < L.length) (hj : j < L.length) (e : gt' L i = gt' L j) : i = j := by
  rw [gt_get hi, gt_get hj] at e
  rcases Nat.lt_trichotomy i j with h1 | h1 | h1
  · exact absurd e (List.pairwise_iff_getElem.1 h i j hi hj h1)
  · exact h1
  · exact absurd e.symm (List.pairwise_iff_getElem.1 h j i hj hi h1)
end

abbrev IP := Int × Int
def encP (e : IP) : List V := [.int .i64 e.1, .int .i64 e.2]
def cellsP (L : List IP) : List V := (L.map encP).flatten
def vP (e : IP) : V := .agg [.int .i64 e.1, .int .i64 e.2]
@[simp] theorem cellsP_len {L : List IP} : (cellsP L).length = L.length * 2 := by
  rw [cellsP, flatten_len (k := 2) _ (fun c hc => by obtain ⟨a, _, rfl⟩ := List.mem_map.1 hc; rfl)]
  simp
theorem cellsP_drop {L : List IP} {i : Nat} (h : i < L.length) : (cellsP L).drop (i * 2) = .int .i64 (gt' L i).1 :: .int .i64 (gt' L i).2 :: (cellsP L).drop ((i + 1) * 2) := by
  have hc : ∀ c ∈ L.map encP, c.length = 2 := fun c hc => by obtain ⟨a, _, rfl⟩ := List.mem_map.1 hc; rfl
  rw [cellsP, flatten_drop _ _ hc, flatten_drop _ _ hc, List.drop_eq_getElem_cons (by simpa using h), gt_get h]
  simp [encP]
theorem cellsP_set {L : List IP} {i : Nat} (h : i < L.length) (e : IP) : ovl (cellsP L) (i * 2) [.int .i64 e.1, .int .i64 e.2] = cellsP (L.set i e) := by
  have hc : ∀ c ∈ L.map encP, c.length = 2 := fun c hc => by obtain ⟨a, _, rfl⟩ := List.mem_map.1 hc; rfl
  have e1 : (cellsP L).take (i * 2) = ((L.take i).map encP).flatten := by rw [cellsP, flatten_take _ _ hc, List.map_take]
  have e2 : (cellsP L).drop (i * 2 + 2) = ((L.drop (i + 1)).map encP).flatten := by
    rw [show i * 2 + 2 = (i + 1) * 2 by omega, cellsP, flatten_drop _ _ hc, List.map_drop]
  have : ovl (cellsP L) (i * 2) [.int .i64 e.1, .int .i64 e.2] = (cellsP L).take (i * 2) ++ [.int .i64 e.1, .int .i64 e.2] ++ (cellsP L).drop (i * 2 + 2) := rfl
  rw [this, e1, e2, cellsP, List.set_eq_take_append_cons_drop, if_pos h]
  simp [encP]

def BlkP (H : Heap) (id : Nat) (L : List IP) : Prop := H[id]? = some (.cells (cellsP L))
def But (id : Nat) (H H' : Heap) : Prop := H.length ≤ H'.length ∧ ∀ j, j < H.length → j ≠ id → H'[j]? = H[j]?
theorem But.refl {id : Nat} {H : Heap} : But id H H := ⟨Nat.le_refl _, fun _ _ _ => rfl⟩
theorem But.trans {id : Nat} {H H' H'' : Heap} (h : But id H H') (h' : But id H' H'') : But id H H'' := ⟨Nat.le_trans h.1 h'.1, fun j hj hn => (h'.2 j (Nat.lt_of_lt_of_le hj h.1) hn).trans (h.2 j hj hn)⟩
theorem But.set {id : Nat} {H : Heap} {b : B} : But id H (H.set id b) := ⟨by simp, fun j _ hn => List.getElem?_set_ne (fun h => hn h.symm)⟩
theorem But.app {id : Nat} {H l : Heap} : But id H (H ++ l) := ⟨by simp, fun j hj _ => List.getElem?_append_left hj⟩
theorem BlkP.lt {H : Heap} {id : Nat} {L : List IP} (h : BlkP H id L) : id < H.length := (List.getElem?_eq_some_iff.1 h).1
theorem BlkP.app {H : Heap} {id : Nat} {L : List IP} (h : BlkP H id L) (l : Heap) : BlkP (H ++ l) id L := by
  unfold BlkP; rw [List.getElem?_append_left h.lt]; exact h
theorem iadrP {id n : Nat} {i : Nat} (h : i < n) : iadrV 2 (.sl id 0 n n 2) (.int .i64 i) = some (.ptr id (i * 2)) := by simp [iadrV, h]
theorem BlkP.ld {H : Heap} {id : Nat} {L : List IP} (h : BlkP H id L) {i : Nat} (hi : i < L.length) : ldV H (.ptr id (i * 2)) 2 true = some (vP (gt' L i)) := by
  simp only [ldV, rd, show H[id]? = some (.cells (cellsP L)) from h]
  rw [if_pos (by simp; omega), cellsP_drop hi]
  rfl
theorem BlkP.st {H : Heap} {id : Nat} {L : List IP} (h : BlkP H id L) {i : Nat} (hi : i < L.length) (e : IP) : stV H 2 (.ptr id (i * 2)) (vP e) = some (H.set id (.cells (cellsP (L.set i e)))) := by
  have h' : H[id]? = some (.cells (cellsP L)) := h
  have e1 : wrt H (.ptr id (i * 2)) [.int .i64 e.1, .int .i64 e.2] = some (H.set id (.cells (ovl (cellsP L) (i * 2) [.int .i64 e.1, .int .i64 e.2]))) := by
    simp only [wrt, h']
    rw [if_pos (by simp; omega)]
  rw [cellsP_set hi] at e1
  exact e1
theorem BlkP.mk {H : Heap} {id : Nat} {L L' : List IP} (h : BlkP H id L) : BlkP (H.set id (.cells (cellsP L'))) id L' := by
  unfold BlkP; rw [List.getElem?_set]; simp [h.lt]
theorem BlkP.swap {H : Heap} {id : Nat} {L : List IP} (h : BlkP H id L) {i j : Nat} (hi : i < L.length) (hj : j < L.length) :
    ∃ H1, stV H 2 (.ptr id (i * 2)) (vP (gt' L j)) = some H1 ∧ ∃ H2, stV H1 2 (.ptr id (j * 2)) (vP (gt' L i)) = some H2 ∧ BlkP H2 id (swp L i j) ∧ But id H H2 := by
  refine ⟨_, h.st hi _, _, (h.mk (L' := L.set i (gt' L j))).st (by simpa using hj) _, ?_, ?_⟩
  · exact (h.mk (L' := L.set i (gt' L j))).mk
  · exact But.set.trans But.set
theorem Cl.any2 {G : Prog} {f : FuncId} {F : IFun} (hg : G.get f = some F) (hm : F.mode = 2) {args args' : List V} {H : Heap} (ha : mapO (closeV H closeDepth) args = some args') {k : V → Heap → Prop}
    (h : runW G F args' [] (hq 2 H (lq H k))) : Cl G f args H k := by
  cases hc : closedVs args with
  | false =>
    refine Cl.lent hg (by omega) hc ha ?_
    rw [hm]
    exact h
  | true =>
    obtain rfl := closeVs_closed _ _ _ hc ha
    obtain ⟨n, v, H', h1, h2⟩ := runW_sound h
    unfold hq at h2
    rw [bd2_iff] at h2
    obtain ⟨v', H'', h3, _, h4⟩ := h2
    refine ⟨n + 1, v', H'', ?_, h4⟩
    simp only [evN, stepS, callS, hg, hm, hc, if_true, h1, Option.bind_some, h3, if_false, show ¬ (2 = 0) by decide]
theorem scalarVs_cellsP : ∀ L : List IP, scalarVs (cellsP L) = true
  | [] => rfl
  | e :: L => by
    have := scalarVs_cellsP L
    simp only [cellsP, List.map_cons, List.flatten_cons, encP, List.cons_append, List.nil_append, scalarVs, scalarV, Bool.true_and] at this ⊢
    exact this
theorem mapO_cellsP {H : Heap} {d : Nat} (L : List IP) : mapO (closeV H (d + 1)) (cellsP L) = some (cellsP L) := mapO_self fun x hx => by
  obtain ⟨c, hc, hxc⟩ := List.mem_flatten.1 hx
  obtain ⟨e, _, rfl⟩ := List.mem_map.1 hc
  simp only [encP, List.mem_cons, List.not_mem_nil, or_false] at hxc
  rcases hxc with rfl | rfl <;> rfl
end Go.Eng
