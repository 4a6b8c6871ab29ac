/-
  ENGINE, part 35: rows that are appended to a row of rows.
-/
import Derived.Test.YtoommmeapdkopaaE34
namespace Go.Eng

def RowC (H : Heap) (o : Nat) (w : V) (l : List Int) : Prop := (w = .nils ∧ l = []) ∨ ∃ id, id ≠ o ∧ w = .sl id 0 l.length l.length 1 ∧ H[id]? = some (.cells (l.map (V.int .i64)))
def RowsA (H : Heap) (v : V) (L : List (List Int)) : Prop := (L = [] ∧ v = .nils) ∨
  ∃ (o : Nat) (vs : List V), v = .sl o 0 L.length L.length 1 ∧ H[o]? = some (.cells vs) ∧ vs.length = L.length ∧ ∀ i (h : i < L.length) (h' : i < vs.length), RowC H o vs[i] L[i]
namespace RowC
variable {H H' : Heap} {o o' : Nat} {w : V} {l : List Int}
theorem mono (h : RowC H o w l) (hk : ∀ id, id < H.length → id ≠ o → H'[id]? = H[id]?) (ho : ∀ id, id < H.length → id ≠ o → id ≠ o') : RowC H' o' w l := by
  rcases h with h | ⟨id, a, b, c⟩
  · exact .inl h
  · have := (List.getElem?_eq_some_iff.1 c).1
    exact .inr ⟨id, ho id this a, b, by rw [hk id this a]; exact c⟩
end RowC
namespace RowsA
variable {H H' : Heap} {v : V} {L : List (List Int)}
theorem lens (h : RowsA H v L) : lensV v = some (.int .i64 L.length) := by
  rcases h with ⟨rfl, rfl⟩ | ⟨_, _, rfl, _⟩ <;> rfl
theorem keep (h : RowsA H v L) (hk : ∀ id, id < H.length → H'[id]? = H[id]?) : RowsA H' v L := by
  rcases h with h | ⟨o, vs, a, b, c, d⟩
  · exact .inl h
  · exact .inr ⟨o, vs, a, by rw [hk o (List.getElem?_eq_some_iff.1 b).1]; exact b, c, fun i h1 h2 => (d i h1 h2).mono (fun id hi _ => hk id hi) (fun _ _ h => h)⟩
theorem push (h : RowsA H v L) {w : V} {l : List Int} (hw : ∀ o, (∃ n, v = .sl o 0 n n 1) → RowC H o w l) (hw0 : RowC H H.length w l) (hb : (L.length + 1) * 24 ≤ room) (h1 : oneC w = true) :
    ∃ v' H', appV 1 24 true (H ++ [.cells [w]]) v (.sl H.length 0 1 1 1) = some (v', H') ∧ RowsA H' v' (L ++ [l]) := by
  have hs : sliceCells (H ++ [.cells [w]]) (.sl H.length 0 1 1 1) 1 = some ([w], 1) := by simp [sliceCells]
  rcases h with ⟨rfl, rfl⟩ | ⟨o, vs, rfl, b, c, d⟩
  · refine ⟨.sl (H.length + 1) 0 1 1 1, (H ++ [.cells [w]]) ++ [.cells [w]], ?_, .inr ⟨H.length + 1, [w], rfl, ?_, rfl, fun i i1 i2 => ?_⟩⟩
    · simp [appV, hs, isSlice, room]
    · rw [List.getElem?_append_right (by simp)]; simp
    · have : i = 0 := by simpa using i1
      subst this
      exact hw0.mono (fun id hi _ => by rw [List.append_assoc, List.getElem?_append_left hi]) (fun id hi _ => by omega)
  · have hlt := (List.getElem?_eq_some_iff.1 b).1
    have g : (H ++ [B.cells [w]])[o]? = some (.cells vs) := by rw [List.getElem?_append_left hlt]; exact b
    have kp : ∀ id, id < H.length → id ≠ o → ((H ++ [B.cells [w]]).set o .dead ++ [B.cells (vs ++ [w])])[id]? = H[id]? := fun id hi hne => by
      rw [List.getElem?_append_left (by simp; omega), List.getElem?_set_ne (fun h => hne h.symm), List.getElem?_append_left hi]
    refine ⟨.sl (H.length + 1) 0 (L.length + 1) (L.length + 1) 1, (H ++ [B.cells [w]]).set o .dead ++ [.cells (vs ++ [w])], ?_, .inr ⟨H.length + 1, vs ++ [w], by simp, ?_, by simp [c], fun i i1 i2 => ?_⟩⟩
    · simp only [appV, hs, Option.bind_some, Nat.one_ne_zero, if_false, and_self, if_true, g, show ¬ (L.length + 1 ≤ L.length) by omega, true_and, Nat.mul_one, c, Nat.le_refl, hb]
      rw [← c, List.take_length]
      simp
    · rw [List.getElem?_append_right (by simp)]; simp
    · by_cases e : i < L.length
      · rw [List.getElem_append_left e, List.getElem_append_left (by omega)]
        exact (d i e (by omega)).mono kp (fun id hi _ => by omega)
      · have ei : i = L.length := by simp at i1; omega
        subst ei
        rw [List.getElem_append_right (Nat.le_refl _), List.getElem_append_right (by omega)]
        simp only [c, Nat.sub_self, List.getElem_cons_zero]
        exact (hw o ⟨_, rfl⟩).mono kp (fun id hi _ => by omega)
theorem close (h : RowsA H v L) (hn : L.length ≤ top) (hb : ∀ l ∈ L, l.length ≤ top) (hr : ∀ l ∈ L, ∀ x ∈ l, IntKind.i64.min ≤ x ∧ x ≤ IntKind.i64.max) {d : Nat} :
    ∃ v', closeV H (d + 3) v = some v' ∧ Arr 1 (Ty.R (.sl (.int .i64))) v' L := by
  rcases h with ⟨rfl, rfl⟩ | ⟨o, vs, rfl, h1, h0, h2⟩
  · exact ⟨.nils, rfl, [], rfl, fun _ h => absurd h (by simp), by simp, hn, rfl, .inr ⟨rfl, .inl rfl⟩⟩
  have hch : ∀ i : Fin L.length, ∃ c, closeV H (d + 2) (vs.getD i undefV) = some c ∧ Arr 1 (Ty.R (.int .i64)) c L[i] := fun i => by
    have hv : vs.getD i undefV = vs[i.1]'(by omega) := by rw [List.getD_eq_getElem?_getD, List.getElem?_eq_getElem (by omega)]; rfl
    rw [hv]
    rcases h2 i i.2 (by omega) with ⟨a, b⟩ | ⟨id, _, a, c⟩
    · refine ⟨.nils, by rw [a]; rfl, ?_⟩
      show Arr 1 _ _ L[i.1]
      rw [b]; exact ints_arr (by simp [top]) (by simp) (.inr ⟨rfl, .inl rfl⟩)
    · refine ⟨.ro (L[i.1].map (V.int .i64)) L[i.1].length, ?_, ints_arr (hb _ (List.getElem_mem i.2)) (hr _ (List.getElem_mem i.2)) (.inl rfl)⟩
      rw [a]
      show closeV H (d + 1 + 1) _ = _
      rw [closeV_sl c (by simp), List.drop_zero, List.take_of_length_le (by simp), mapO_ints (d := d)]
      rfl
  let F := fun i => Classical.choose (hch i)
  have hF := fun i => Classical.choose_spec (hch i)
  have hm : mapO (closeV H (d + 2)) vs = some (List.ofFn F) := by
    have key : ∀ (l l' : List V), l.length = l'.length → (∀ i (h : i < l.length) (h' : i < l'.length), closeV H (d + 2) l[i] = some l'[i]) → mapO (closeV H (d + 2)) l = some l' := by
      intro l
      induction l with
      | nil => intro l' hl _; cases l' with
        | nil => rfl
        | cons => simp at hl
      | cons x l ih =>
        intro l' hl hk
        cases l' with
        | nil => simp at hl
        | cons y l' =>
          have h0 := hk 0 (by simp) (by simp)
          simp only [List.getElem_cons_zero] at h0
          rw [mapO, h0, ih l' (by simpa using hl) (fun i i1 i2 => by have := hk (i + 1) (by simpa using i1) (by simpa using i2); simpa using this)]
          rfl
    refine key _ _ (by simp [h0]) fun i i1 i2 => ?_
    have hi : i < L.length := by omega
    have := (hF ⟨i, hi⟩).1
    simp only [List.getElem_ofFn]
    rw [← this, List.getD_eq_getElem?_getD, List.getElem?_eq_getElem i1]
    rfl
  refine ⟨.ro (List.ofFn F) L.length, ?_, (List.ofFn F).map fun c => [c], by simp, fun i i1 i2 => ?_, fun c hc => ?_, hn, ?_, .inl ?_⟩
  · show closeV H (d + 2 + 1) _ = _
    rw [closeV_sl h1 (by simp [h0]), List.drop_zero, List.take_of_length_le (by simp [h0]), hm]
    rfl
  · simp only [List.getElem_map, List.getElem_ofFn]
    exact ⟨_, rfl, (hF _).2⟩
  · obtain ⟨a, _, rfl⟩ := List.mem_map.1 hc; rfl
  · have := flatS (f := fun x : V => x) (List.ofFn F)
    rw [this]; simp
  · have := flatS (f := fun x : V => x) (List.ofFn F)
    rw [this, List.map_id']
end RowsA
end Go.Eng
