/-
  ENGINE, part 33: rows of rows that grow; tables of numbers.
-/
import Derived.Test.YtoommmeapdkopaaE32
namespace Go.Eng

def tab (n : Nat) (f : Nat → Int) : List Int := (List.range n).map f
@[simp] theorem tab_len {n : Nat} {f : Nat → Int} : (tab n f).length = n := by simp [tab]
theorem tab_get {n : Nat} {f : Nat → Int} {i : Nat} (h : i < n) : (tab n f)[i]? = some (f i) := by simp [tab, h]
theorem tab_set {n : Nat} {f : Nat → Int} {i : Nat} {x : Int} : (tab n f).set i x = tab n (fun j => if j = i then x else f j) := by
  apply List.ext_getElem?
  intro j
  by_cases hj : j < n
  · rw [List.getElem?_set, tab_get (f := f) hj, tab_get hj]
    by_cases e : i = j
    · subst e
      rw [if_pos rfl, if_pos (by simpa using hj)]
      simp
    · have : ¬ j = i := fun h => e h.symm
      rw [if_neg e, if_neg this]
  · rw [List.getElem?_eq_none (by simp; omega), List.getElem?_eq_none (by simp; omega)]
theorem tab_congr {n : Nat} {f g : Nat → Int} (h : ∀ i, i < n → f i = g i) : tab n f = tab n g := by
  unfold tab
  exact List.map_congr_left fun i hi => h i (by simpa using hi)

def RowsG (H : Heap) (n : Nat) (f : Nat → List Int) : Prop := ∃ vs : List V, vs.length = n ∧ H[0]? = some (.cells vs) ∧
  (∀ i, i < n → (vs[i]? = some V.nils ∧ f i = []) ∨ ∃ id, 0 < id ∧ vs[i]? = some (V.sl id 0 (f i).length (f i).length 1) ∧ H[id]? = some (.cells ((f i).map (V.int .i64)))) ∧
  ∀ (i j id a c b d : Nat), vs[i]? = some (V.sl id 0 a c 1) → vs[j]? = some (V.sl id 0 b d 1) → i = j
namespace RowsG
variable {H : Heap} {n : Nat} {f : Nat → List Int}
theorem alloc (h : RowsG H n f) (l : Heap) : RowsG (H ++ l) n f := by
  obtain ⟨vs, h0, h1, h2, h3⟩ := h
  refine ⟨vs, h0, by rw [List.getElem?_append_left (List.getElem?_eq_some_iff.1 h1).1]; exact h1, fun i hi => (h2 i hi).imp (fun h => h) fun ⟨id, a, b, c⟩ => ⟨id, a, b, ?_⟩, h3⟩
  rw [List.getElem?_append_left (List.getElem?_eq_some_iff.1 c).1]; exact c
theorem push (h : RowsG H n f) {i : Nat} (hi : i < n) {x : Int} (hb : ((f i).length + 1) * 8 ≤ room) :
    ∃ v v' H1 H2, ldV H (.ptr 0 i) 1 false = some v ∧ appV 1 8 true (H ++ [.cells [.int .i64 x]]) v (.sl H.length 0 1 1 1) = some (v', H1) ∧ stV H1 1 (.ptr 0 i) v' = some H2 ∧ RowsG H2 n (fun j => if j = i then f i ++ [x] else f j) := by
  obtain ⟨vs, h0, h1, h2, h3⟩ := h
  have lt0 := (List.getElem?_eq_some_iff.1 h1).1
  have hs : sliceCells (H ++ [.cells [.int .i64 x]]) (.sl H.length 0 1 1 1) 1 = some ([.int .i64 x], 1) := by simp [sliceCells]
  have old : ∀ (j id a c : Nat), vs[j]? = some (V.sl id 0 a c 1) → id < H.length := fun j id a c e => by
    have hj : j < n := by have := (List.getElem?_eq_some_iff.1 e).1; omega
    rcases h2 j hj with ⟨q, _⟩ | ⟨id', _, q, r⟩
    · rw [q] at e; cases e
    · rw [q] at e; cases e; exact (List.getElem?_eq_some_iff.1 r).1
  have dis : ∀ v' : V, (∀ id a c, v' = .sl id 0 a c 1 → id = H.length + 1) → ∀ (p q id a c b d : Nat), (vs.set i v')[p]? = some (V.sl id 0 a c 1) → (vs.set i v')[q]? = some (V.sl id 0 b d 1) → p = q := fun v' hv' p q id a c b d e1 e2 => by
    rw [List.getElem?_set] at e1 e2
    by_cases p1 : i = p <;> by_cases q1 : i = q
    · omega
    · rw [if_pos p1] at e1; rw [if_neg q1] at e2
      split at e1
      · have := hv' _ _ _ (Option.some.inj e1); have := old _ _ _ _ e2; omega
      · cases e1
    · rw [if_neg p1] at e1; rw [if_pos q1] at e2
      split at e2
      · have := hv' _ _ _ (Option.some.inj e2); have := old _ _ _ _ e1; omega
      · cases e2
    · rw [if_neg p1] at e1; rw [if_neg q1] at e2; exact h3 _ _ _ _ _ _ _ e1 e2
  rcases h2 i hi with ⟨hv, hf⟩ | ⟨id, hid, hv, hc⟩
  · have g0 : ((H ++ [B.cells [.int .i64 x]]) ++ [B.cells [.int .i64 x]])[0]? = some (.cells vs) := by
      rw [List.getElem?_append_left (by simp), List.getElem?_append_left lt0]; exact h1
    refine ⟨.nils, .sl (H.length + 1) 0 1 1 1, (H ++ [.cells [.int .i64 x]]) ++ [.cells [.int .i64 x]], _, ldV_own h1 hv, ?_, stV_own g0 (by omega) rfl, vs.set i (.sl (H.length + 1) 0 1 1 1), by simp [h0], ?_, fun j hj => ?_, dis _ (fun _ _ _ e => by cases e; rfl)⟩
    · simp [appV, hs, isSlice, room]
    · rw [List.getElem?_set]; simp
    · by_cases e : j = i
      · subst e
        refine .inr ⟨H.length + 1, by omega, ?_, ?_⟩
        · rw [List.getElem?_set_self (by omega)]; simp [hf]
        · rw [List.getElem?_set_ne (by omega), List.getElem?_append_right (by simp)]; simp [hf]
      · have e' : ¬ i = j := fun h => e h.symm
        simp only [e, if_false]
        rw [List.getElem?_set_ne e']
        refine (h2 j hj).imp (fun h => h) fun ⟨id, a, b, c⟩ => ⟨id, a, b, ?_⟩
        have := (List.getElem?_eq_some_iff.1 c).1
        rw [List.getElem?_set_ne (by omega), List.getElem?_append_left (by simp; omega), List.getElem?_append_left this]; exact c
  · have hlt := (List.getElem?_eq_some_iff.1 hc).1
    have g : (H ++ [B.cells [.int .i64 x]])[id]? = some (.cells ((f i).map (V.int .i64))) := by rw [List.getElem?_append_left hlt]; exact hc
    have ga : appV 1 8 true (H ++ [.cells [.int .i64 x]]) (.sl id 0 (f i).length (f i).length 1) (.sl H.length 0 1 1 1) = some (.sl (H.length + 1) 0 ((f i).length + 1) ((f i).length + 1) 1, (H ++ [B.cells [.int .i64 x]]).set id .dead ++ [.cells ((f i).map (V.int .i64) ++ [.int .i64 x])]) := by
      simp only [appV, hs, Option.bind_some, Nat.one_ne_zero, if_false, and_self, if_true, g, show ¬ ((f i).length + 1 ≤ (f i).length) by omega, true_and, Nat.mul_one, List.length_map, Nat.le_refl, hb]
      have e : ((f i).map (V.int .i64)).take (f i).length = (f i).map (V.int .i64) := List.take_of_length_le (by simp)
      rw [e]
      simp
    have g0 : ((H ++ [B.cells [.int .i64 x]]).set id .dead ++ [B.cells ((f i).map (V.int .i64) ++ [.int .i64 x])])[0]? = some (.cells vs) := by
      rw [List.getElem?_append_left (by simp), List.getElem?_set_ne (by omega), List.getElem?_append_left lt0]; exact h1
    refine ⟨_, _, _, _, ldV_own h1 hv, ga, stV_own g0 (by omega) rfl, vs.set i (.sl (H.length + 1) 0 ((f i).length + 1) ((f i).length + 1) 1), by simp [h0], ?_, fun j hj => ?_, dis _ (fun _ _ _ e => by cases e; rfl)⟩
    · rw [List.getElem?_set]; simp
    · by_cases e : j = i
      · subst e
        refine .inr ⟨H.length + 1, by omega, ?_, ?_⟩
        · rw [List.getElem?_set_self (by omega)]; simp
        · rw [List.getElem?_set_ne (by omega), List.getElem?_append_right (by simp)]; simp
      · have e' : ¬ i = j := fun h => e h.symm
        simp only [e, if_false]
        rw [List.getElem?_set_ne e']
        refine (h2 j hj).imp (fun h => h) fun ⟨id', a, b, c⟩ => ⟨id', a, b, ?_⟩
        have := (List.getElem?_eq_some_iff.1 c).1
        have ne : id ≠ id' := fun h => by subst h; exact e' (h3 _ _ _ _ _ _ _ hv b)
        rw [List.getElem?_set_ne (by omega), List.getElem?_append_left (by simp; omega), List.getElem?_set_ne ne, List.getElem?_append_left this]; exact c
theorem close (h : RowsG H n f) (hn : n ≤ top) (hb : ∀ i, i < n → (f i).length ≤ top) (hr : ∀ i, i < n → ∀ x ∈ f i, IntKind.i64.min ≤ x ∧ x ≤ IntKind.i64.max) {d : Nat} :
    ∃ v, closeV H (d + 3) (.sl 0 0 n n 1) = some v ∧ Arr 1 (Ty.R (.sl (.int .i64))) v ((List.range n).map f) := by
  obtain ⟨vs, h0, h1, h2, h3⟩ := h
  have hch : ∀ i : Fin n, ∃ c, closeV H (d + 2) (vs.getD i undefV) = some c ∧ Arr 1 (Ty.R (.int .i64)) c (f i) := fun i => by
    rcases h2 i i.2 with ⟨a, b⟩ | ⟨id, _, a, c⟩
    · refine ⟨.nils, ?_, ?_⟩
      · rw [List.getD_eq_getElem?_getD, a]; rfl
      · rw [b]; exact ints_arr (by simp [top]) (by simp) (.inr ⟨rfl, .inl rfl⟩)
    · refine ⟨.ro ((f i).map (V.int .i64)) (f i).length, ?_, ints_arr (hb i i.2) (hr i i.2) (.inl rfl)⟩
      rw [List.getD_eq_getElem?_getD, a]
      show closeV H (d + 1 + 1) _ = _
      rw [Option.getD_some, closeV_sl c (by simp), List.drop_zero, List.take_of_length_le (by simp), mapO_ints (d := d)]
      rfl
  let F := fun i => Classical.choose (hch i)
  have hF := fun i => Classical.choose_spec (hch i)
  have hm : mapO (closeV H (d + 2)) vs = some (List.ofFn F) := by
    have key : ∀ (l l' : List V), l.length = l'.length → (∀ i (h : i < l.length) (h' : i < l'.length), closeV H (d + 2) l[i] = some l'[i]) → mapO (closeV H (d + 2)) l = some l' := by
      intro l
      induction l with
      | nil => intro l' hl _; cases l' with
        | nil => rfl
        | cons => simp at hl
      | cons x l ih =>
        intro l' hl hk
        cases l' with
        | nil => simp at hl
        | cons y l' =>
          have h0 := hk 0 (by simp) (by simp)
          simp only [List.getElem_cons_zero] at h0
          rw [mapO, h0, ih l' (by simpa using hl) (fun i i1 i2 => by have := hk (i + 1) (by simpa using i1) (by simpa using i2); simpa using this)]
          rfl
    refine key _ _ (by simp [h0]) fun i i1 i2 => ?_
    have hi : i < n := by omega
    have := (hF ⟨i, hi⟩).1
    simp only [List.getElem_ofFn]
    rw [← this, List.getD_eq_getElem?_getD, List.getElem?_eq_getElem i1]
    rfl
  refine ⟨.ro (List.ofFn F) n, ?_, (List.ofFn F).map fun c => [c], by simp, fun i i1 i2 => ?_, fun c hc => ?_, by simpa using hn, ?_, .inl ?_⟩
  · show closeV H (d + 2 + 1) _ = _
    rw [closeV_sl h1 (by simp [h0]), List.drop_zero, List.take_of_length_le (by simp [h0]), hm]
    rfl
  · simp only [List.getElem_map, List.getElem_range, List.getElem_ofFn]
    exact ⟨_, rfl, (hF _).2⟩
  · obtain ⟨a, _, rfl⟩ := List.mem_map.1 hc; rfl
  · have := flatS (f := fun x : V => x) (List.ofFn F)
    rw [this]; simp
  · have := flatS (f := fun x : V => x) (List.ofFn F)
    rw [this, List.map_id', List.length_map, List.length_range]
end RowsG
end Go.Eng
