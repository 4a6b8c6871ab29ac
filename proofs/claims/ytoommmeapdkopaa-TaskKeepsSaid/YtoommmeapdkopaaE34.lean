/-
  ENGINE, part 34: rows of flags in a table.
-/
import Derived.Test.YtoommmeapdkopaaE33
namespace Go.Eng

def btab (n : Nat) (f : Nat → Bool) : List Bool := (List.range n).map f
@[simp] theorem btab_len {n : Nat} {f : Nat → Bool} : (btab n f).length = n := by simp [btab]
theorem btab_get {n : Nat} {f : Nat → Bool} {i : Nat} (h : i < n) : (btab n f)[i]? = some (f i) := by simp [btab, h]
theorem btab_set {n : Nat} {f : Nat → Bool} {i : Nat} {x : Bool} : (btab n f).set i x = btab n (fun j => if j = i then x else f j) := by
  apply List.ext_getElem?
  intro j
  by_cases hj : j < n
  · rw [List.getElem?_set, btab_get (f := f) hj, btab_get hj]
    by_cases e : i = j
    · subst e
      rw [if_pos rfl, if_pos (by simpa using hj)]
      simp
    · have : ¬ j = i := fun h => e h.symm
      rw [if_neg e, if_neg this]
  · rw [List.getElem?_eq_none (by simp; omega), List.getElem?_eq_none (by simp; omega)]
theorem btab_congr {n : Nat} {f g : Nat → Bool} (h : ∀ i, i < n → f i = g i) : btab n f = btab n g := by
  unfold btab
  exact List.map_congr_left fun i hi => h i (by simpa using hi)

def RowsM (H : Heap) (o : Nat) (bo : B) (n : Nat) (D : List Nat) (f : Nat → Nat → Bool) : Prop := (0 < o ∧ H[o]? = some bo) ∧ ∃ vs : List V, vs.length = n ∧ H[0]? = some (.cells vs) ∧
  (∀ i, i < n → (i ∉ D ∧ vs[i]? = some V.nils) ∨ (i ∈ D ∧ ∃ id, 0 < id ∧ vs[i]? = some (V.sl id 0 n n 1) ∧ H[id]? = some (.cells ((btab n (f i)).map V.bool)))) ∧
  (∀ (i j id : Nat), vs[i]? = some (V.sl id 0 n n 1) → vs[j]? = some (V.sl id 0 n n 1) → i = j) ∧ ∀ i : Nat, vs[i]? ≠ some (V.sl o 0 n n 1)
namespace RowsM
variable {H : Heap} {o : Nat} {bo : B} {n : Nat} {D : List Nat} {f : Nat → Nat → Bool}
theorem congr (h : RowsM H o bo n D f) {g : Nat → Nat → Bool} (hg : ∀ i, i < n → i ∈ D → ∀ k, k < n → f i k = g i k) : RowsM H o bo n D g := by
  obtain ⟨ho, vs, h0, h1, h2, h3, h4⟩ := h
  refine ⟨ho, vs, h0, h1, fun i hi => (h2 i hi).imp (fun h => h) fun ⟨m, id, a, b, c⟩ => ⟨m, id, a, b, ?_⟩, h3, h4⟩
  rw [c, btab_congr (hg i hi m)]
theorem fresh (h : RowsM H o bo n D f) {i : Nat} (hi : i < n) (hD : i ∉ D) :
    ∃ H2, stV (H ++ [.cells ((btab n fun _ => false).map V.bool)]) 1 (.ptr 0 i) (.sl H.length 0 n n 1) = some H2 ∧ RowsM H2 o bo n (D ++ [i]) (fun j => if j = i then fun _ => false else f j) := by
  obtain ⟨ho, vs, h0, h1, h2, h3, h4⟩ := h
  have lt0 := (List.getElem?_eq_some_iff.1 h1).1
  have g0 : (H ++ [B.cells ((btab n fun _ => false).map V.bool)])[0]? = some (.cells vs) := by rw [List.getElem?_append_left lt0]; exact h1
  have old : ∀ (j id : Nat), vs[j]? = some (V.sl id 0 n n 1) → id < H.length := fun j id e => by
    have hj : j < n := by have := (List.getElem?_eq_some_iff.1 e).1; omega
    rcases h2 j hj with ⟨_, q⟩ | ⟨_, id', _, q, r⟩
    · rw [q] at e; cases e
    · rw [q] at e; cases e; exact (List.getElem?_eq_some_iff.1 r).1
  have lto := (List.getElem?_eq_some_iff.1 ho.2).1
  refine ⟨_, stV_own g0 (by omega) rfl, ⟨ho.1, ?_⟩, vs.set i (.sl H.length 0 n n 1), by simp [h0], ?_, fun j hj => ?_, fun p q id e1 e2 => ?_, fun p e1 => ?_⟩
  · rw [List.getElem?_set_ne (by omega), List.getElem?_append_left lto]; exact ho.2
  · rw [List.getElem?_set]; simp
  · by_cases e : j = i
    · subst e
      refine .inr ⟨by simp, H.length, by omega, ?_, ?_⟩
      · rw [List.getElem?_set_self (by omega)]
      · rw [List.getElem?_set_ne (by omega), List.getElem?_append_right (by simp)]; simp
    · have e' : ¬ i = j := fun h => e h.symm
      simp only [e, if_false]
      rw [List.getElem?_set_ne e']
      rcases h2 j hj with ⟨a, b⟩ | ⟨a, id, b, c, d⟩
      · exact .inl ⟨by simp [a, e], b⟩
      · refine .inr ⟨by simp [a], id, b, c, ?_⟩
        rw [List.getElem?_set_ne (by omega), List.getElem?_append_left (List.getElem?_eq_some_iff.1 d).1]; exact d
  · rw [List.getElem?_set] at e1 e2
    by_cases p1 : i = p <;> by_cases q1 : i = q
    · omega
    · rw [if_pos p1] at e1; rw [if_neg q1] at e2
      split at e1
      · have := Option.some.inj e1; injection this with this; have := old _ _ e2; omega
      · cases e1
    · rw [if_neg p1] at e1; rw [if_pos q1] at e2
      split at e2
      · have := Option.some.inj e2; injection this with this; have := old _ _ e1; omega
      · cases e2
    · rw [if_neg p1] at e1; rw [if_neg q1] at e2; exact h3 _ _ _ e1 e2
  · rw [List.getElem?_set] at e1
    split at e1
    · split at e1
      · have := Option.some.inj e1; injection this with this; omega
      · cases e1
    · exact h4 _ e1
theorem get (h : RowsM H o bo n D f) {i : Nat} (hi : i < n) (hD : i ∈ D) :
    ∃ id, (∃ vs : List V, H[0]? = some (.cells vs) ∧ vs[i]? = some (.sl id 0 n n 1)) ∧ ldV H (.ptr 0 i) 1 false = some (.sl id 0 n n 1) ∧ (∀ k, k < n → ldV H (.ptr id k) 1 false = some (.bool (f i k))) ∧
      ∀ k, k < n → ∀ b, ∃ H2, stV H 1 (.ptr id k) (.bool b) = some H2 ∧ H2[0]? = H[0]? ∧ RowsM H2 o bo n D (fun j => if j = i then (fun l => if l = k then b else f i l) else f j) := by
  obtain ⟨ho, vs, h0, h1, h2, h3, h4⟩ := h
  rcases h2 i hi with ⟨a, _⟩ | ⟨_, id, p, hv, hc⟩
  · exact absurd hD a
  refine ⟨id, ⟨vs, h1, hv⟩, ldV_own h1 hv, fun k hk => ldV_own hc (by rw [List.getElem?_map, btab_get hk]; rfl), fun k hk b => ⟨_, stV_own hc (by simpa using hk) rfl, by rw [List.getElem?_set_ne (by omega)], ⟨ho.1, by rw [List.getElem?_set_ne (fun h => h4 i (by rw [hv, h]))]; exact ho.2⟩, vs, h0, ?_, fun j hj => ?_, h3, h4⟩⟩
  · rw [List.getElem?_set_ne (by omega)]; exact h1
  · by_cases e : j = i
    · subst e
      refine .inr ⟨hD, id, p, hv, ?_⟩
      rw [List.getElem?_set_self (List.getElem?_eq_some_iff.1 hc).1]
      simp only [if_true]
      rw [← btab_set, List.map_set]
    · simp only [e, if_false]
      refine (h2 j hj).imp (fun h => h) fun ⟨a, id', b', c, d⟩ => ⟨a, id', b', c, ?_⟩
      have ne : id ≠ id' := fun h => by subst h; exact e (h3 _ _ _ c hv)
      rw [List.getElem?_set_ne ne]; exact d
theorem bools_arr {l : List Bool} (hb : l.length ≤ top) : Arr 1 (Ty.R .bool) (.ro (l.map V.bool) l.length) l := by
  refine ⟨l.map fun x => [V.bool x], by simp, fun i h h' => ?_, ?_, hb, ?_, .inl ?_⟩
  · simp only [List.getElem_map]; rfl
  · intro c hc; obtain ⟨a, _, rfl⟩ := List.mem_map.1 hc; rfl
  · rw [flatS]; simp
  · rw [flatS]
theorem close (h : RowsM H o bo n D f) (hD : ∀ i, i < n → i ∈ D) (hn : n ≤ top) {d : Nat} :
    ∃ v, closeV H (d + 3) (.sl 0 0 n n 1) = some v ∧ Arr 1 (Ty.R (.sl .bool)) v ((List.range n).map fun i => btab n (f i)) := by
  obtain ⟨ho, vs, h0, h1, h2, h3, h4⟩ := h
  have hch : ∀ i, i < n → closeV H (d + 2) (vs.getD i undefV) = some (.ro ((btab n (f i)).map V.bool) n) := fun i hi => by
    rcases h2 i hi with ⟨a, _⟩ | ⟨_, id, _, a, c⟩
    · exact absurd (hD i hi) a
    · rw [List.getD_eq_getElem?_getD, a]
      show closeV H (d + 1 + 1) _ = _
      rw [Option.getD_some, closeV_sl c (by simp), List.drop_zero, List.take_of_length_le (by simp), mapO_bools (d := d)]
      rfl
  have hm : mapO (closeV H (d + 2)) vs = some ((List.range n).map fun i => V.ro ((btab n (f i)).map V.bool) n) := by
    have key : ∀ (l l' : List V), l.length = l'.length → (∀ i (h : i < l.length) (h' : i < l'.length), closeV H (d + 2) l[i] = some l'[i]) → mapO (closeV H (d + 2)) l = some l' := by
      intro l
      induction l with
      | nil => intro l' hl _; cases l' with
        | nil => rfl
        | cons => simp at hl
      | cons x l ih =>
        intro l' hl hk
        cases l' with
        | nil => simp at hl
        | cons y l' =>
          have h0 := hk 0 (by simp) (by simp)
          simp only [List.getElem_cons_zero] at h0
          rw [mapO, h0, ih l' (by simpa using hl) (fun i i1 i2 => by have := hk (i + 1) (by simpa using i1) (by simpa using i2); simpa using this)]
          rfl
    refine key _ _ (by simp [h0]) fun i i1 i2 => ?_
    have hi : i < n := by omega
    have := hch i hi
    simp only [List.getElem_map, List.getElem_range]
    rw [← this, List.getD_eq_getElem?_getD, List.getElem?_eq_getElem i1]
    rfl
  refine ⟨.ro ((List.range n).map fun i => V.ro ((btab n (f i)).map V.bool) n) n, ?_, (List.range n).map fun i => [V.ro ((btab n (f i)).map V.bool) n], by simp, fun i i1 i2 => ?_, fun c hc => ?_, by simpa using hn, ?_, .inl ?_⟩
  · show closeV H (d + 2 + 1) _ = _
    rw [closeV_sl h1 (by simp [h0]), List.drop_zero, List.take_of_length_le (by simp [h0]), hm]
    rfl
  · simp only [List.getElem_map, List.getElem_range]
    have := bools_arr (l := btab n (f i)) (by simpa using hn)
    rw [btab_len] at this
    exact ⟨_, rfl, this⟩
  · obtain ⟨a, _, rfl⟩ := List.mem_map.1 hc; rfl
  · rw [flatS (f := fun i => V.ro ((btab n (f i)).map V.bool) n)]; simp
  · rw [flatS (f := fun i => V.ro ((btab n (f i)).map V.bool) n)]; simp
end RowsM
end Go.Eng
