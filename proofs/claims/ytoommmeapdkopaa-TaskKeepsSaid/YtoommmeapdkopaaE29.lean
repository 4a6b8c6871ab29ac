/-
  ENGINE, part 29: rows that grow by append, beside blocks that stay.
-/
import Derived.Test.YtoommmeapdkopaaE28
namespace Go.Eng

def Gr (k : Nat) (F H : Heap) (v : V) (cs : List V) (n : Nat) : Prop :=
  cs.length = n * k ∧ F.length ≤ H.length ∧ (∀ j, j < F.length → H[j]? = F[j]?) ∧
    ((n = 0 ∧ v = .nils) ∨ ∃ id, F.length ≤ id ∧ v = .sl id 0 n n k ∧ H[id]? = some (.cells cs))

namespace Gr
variable {k n : Nat} {F H : Heap} {v : V} {cs : List V}
theorem nil : Gr k F F .nils [] 0 := ⟨by simp, Nat.le_refl _, fun _ _ => rfl, .inl ⟨rfl, rfl⟩⟩
theorem get (h : Gr k F H v cs n) {j : Nat} {b : B} (hj : F[j]? = some b) : H[j]? = some b := by
  rw [h.2.2.1 j (List.getElem?_eq_some_iff.1 hj).1, hj]
theorem set (h : Gr k F H v cs n) {j : Nat} (hj : j < F.length) (b : B) : Gr k (F.set j b) (H.set j b) v cs n := by
  obtain ⟨h1, h2, h3, h4⟩ := h
  refine ⟨h1, by simpa using h2, fun i hi => ?_, ?_⟩
  · simp only [List.length_set] at hi
    rw [List.getElem?_set, List.getElem?_set, h3 i hi]
    by_cases e : j = i
    · subst e; simp [hj, show j < H.length by omega]
    · simp [e]
  · rcases h4 with h4 | ⟨id, i1, i2, i3⟩
    · exact .inl h4
    · exact .inr ⟨id, by simpa using i1, i2, by rw [List.getElem?_set_ne (by omega)]; exact i3⟩
theorem alloc (h : Gr k F H v cs n) (l : Heap) : Gr k F (H ++ l) v cs n := by
  obtain ⟨h1, h2, h3, h4⟩ := h
  refine ⟨h1, by simp; omega, fun i hi => ?_, ?_⟩
  · rw [List.getElem?_append_left (by omega)]; exact h3 i hi
  · rcases h4 with h4 | ⟨id, i1, i2, i3⟩
    · exact .inl h4
    · exact .inr ⟨id, i1, i2, by rw [List.getElem?_append_left (List.getElem?_eq_some_iff.1 i3).1]; exact i3⟩
theorem lens (h : Gr k F H v cs n) : lensV v = some (.int .i64 n) := by
  obtain ⟨_, _, _, ⟨rfl, rfl⟩ | ⟨_, _, rfl, _⟩⟩ := h <;> rfl
theorem push (h : Gr k F H v cs n) {xs : List V} (hx : xs.length = k) (hk : 0 < k) {bytes : Nat} (hb : (n + 1) * bytes ≤ room) :
    ∃ v' H', appV k bytes true (H ++ [.cells xs]) v (.sl H.length 0 1 1 k) = some (v', H') ∧ Gr k F H' v' (cs ++ xs) (n + 1) := by
  obtain ⟨h1, h2, h3, h4⟩ := h
  have hs : sliceCells (H ++ [.cells xs]) (.sl H.length 0 1 1 k) k = some (xs, 1) := by
    simp [sliceCells, ← hx]
  have hl : (cs ++ xs).length = (n + 1) * k := by rw [List.length_append, h1, hx, Nat.succ_mul]
  have hold : ∀ j, j < F.length → (H ++ [B.cells xs])[j]? = F[j]? := fun j hj => by
    rw [List.getElem?_append_left (by omega)]; exact h3 j hj
  rcases h4 with ⟨rfl, rfl⟩ | ⟨id, i1, rfl, i3⟩
  · simp only [Nat.zero_mul, List.length_eq_zero_iff] at h1
    subst h1
    refine ⟨.sl (H ++ [B.cells xs]).length 0 1 1 k, (H ++ [.cells xs]) ++ [.cells xs], ?_, hl, ?_, ?_, .inr ⟨(H ++ [B.cells xs]).length, ?_, rfl, ?_⟩⟩
    · simp only [Nat.zero_add, Nat.one_mul] at hb
      simp [appV, hs, hb, isSlice]
    · simp; omega
    · intro j hj; rw [List.getElem?_append_left (by simp; omega)]; exact hold j hj
    · simp; omega
    · rw [List.getElem?_append_right (Nat.le_refl _)]; simp
  · have hid := (List.getElem?_eq_some_iff.1 i3).1
    have g : (H ++ [B.cells xs])[id]? = some (.cells cs) := by rw [List.getElem?_append_left hid]; exact i3
    refine ⟨.sl (H ++ [B.cells xs]).length 0 (n + 1) (n + 1) k, (H ++ [B.cells xs]).set id .dead ++ [.cells (cs ++ xs)], ?_, hl, ?_, ?_, .inr ⟨(H ++ [B.cells xs]).length, ?_, rfl, ?_⟩⟩
    · simp only [appV, hs, Option.bind_some, Nat.one_ne_zero, if_false, and_self, if_true, g, show ¬ (n + 1 ≤ n) by omega, true_and, h1, Nat.le_refl, hb]
      rw [← h1, List.take_length]
    · simp; omega
    · intro j hj
      rw [List.getElem?_append_left (by simp; omega), List.getElem?_set_ne (by omega)]; exact hold j hj
    · simp; omega
    · rw [List.getElem?_append_right (by simp)]; simp
theorem close (h : Gr k F H v cs n) {d : Nat} (hc : mapO (closeV H d) cs = some cs) : ∃ v', closeV H (d + 1) v = some v' ∧ (v' = .ro cs n ∨ (n = 0 ∧ v' = .nils)) := by
  obtain ⟨h1, h2, h3, ⟨rfl, rfl⟩ | ⟨id, i1, rfl, i3⟩⟩ := h
  · exact ⟨.nils, rfl, .inr ⟨rfl, rfl⟩⟩
  · exact ⟨.ro cs n, by rw [closeV_sl i3 (by omega)]; simp [← h1, hc], .inl rfl⟩
end Gr

theorem mapO_self {f : V → Option V} : ∀ {l : List V}, (∀ x ∈ l, f x = some x) → mapO f l = some l
  | [], _ => rfl
  | x :: l, h => by
    rw [mapO, h x (by simp), mapO_self (l := l) (fun y hy => h y (List.mem_cons_of_mem _ hy))]
    rfl
theorem mapO_ints {H : Heap} {d : Nat} (l : List Int) : mapO (closeV H (d + 1)) (l.map (V.int .i64)) = some (l.map (V.int .i64)) :=
  mapO_self fun x hx => by obtain ⟨a, _, rfl⟩ := List.mem_map.1 hx; rfl
theorem mapO_bools {H : Heap} {d : Nat} (l : List Bool) : mapO (closeV H (d + 1)) (l.map V.bool) = some (l.map V.bool) :=
  mapO_self fun x hx => by obtain ⟨a, _, rfl⟩ := List.mem_map.1 hx; rfl

theorem flatS {α : Type} {f : α → V} : ∀ (l : List α), (l.map fun x => [f x]).flatten = l.map f
  | [] => rfl
  | x :: l => by simp [flatS l]
theorem ints_arr {v : V} {l : List Int} (hb : l.length ≤ top) (hr : ∀ x ∈ l, IntKind.i64.min ≤ x ∧ x ≤ IntKind.i64.max) (hv : v = .ro (l.map (V.int .i64)) l.length ∨ (l.length = 0 ∧ (v = .nils ∨ v = .z0 ∨ v = .e0))) : Arr 1 (Ty.R (.int .i64)) v l := by
  refine ⟨l.map fun x => [V.int .i64 x], by simp, fun i h h' => ?_, ?_, hb, ?_, ?_⟩
  · simp only [List.getElem_map]; exact ⟨rfl, hr _ (List.getElem_mem _)⟩
  · intro c hc; obtain ⟨a, _, rfl⟩ := List.mem_map.1 hc; rfl
  · rw [flatS]; simp
  · rw [flatS]; exact hv
theorem bools_arr {v : V} {l : List Bool} (hb : l.length ≤ top) (hv : v = .ro (l.map V.bool) l.length ∨ (l.length = 0 ∧ (v = .nils ∨ v = .z0 ∨ v = .e0))) : Arr 1 (Ty.R .bool) v l := by
  refine ⟨l.map fun x => [V.bool x], by simp, fun i h h' => ?_, ?_, hb, ?_, ?_⟩
  · simp only [List.getElem_map]; exact rfl
  · intro c hc; obtain ⟨a, _, rfl⟩ := List.mem_map.1 hc; rfl
  · rw [flatS]; simp
  · rw [flatS]; exact hv
theorem Gr.ints {F H : Heap} {v : V} {l : List Int} (h : Gr 1 F H v (l.map (V.int .i64)) l.length) (hb : l.length ≤ top) (hr : ∀ x ∈ l, IntKind.i64.min ≤ x ∧ x ≤ IntKind.i64.max) {d : Nat} : ∃ v', closeV H (d + 2) v = some v' ∧ Arr 1 (Ty.R (.int .i64)) v' l := by
  obtain ⟨v', h1, h2⟩ := h.close (d := d + 1) (mapO_ints l)
  exact ⟨v', h1, ints_arr hb hr (h2.imp id fun ⟨a, b⟩ => ⟨a, .inl b⟩)⟩
theorem Gr.sh {F H : Heap} {v : V} {l : List Int} (h : Gr 1 F H v (l.map (V.int .i64)) l.length) (hb : l.length ≤ top) (hr : ∀ x ∈ l, IntKind.i64.min ≤ x ∧ x ≤ IntKind.i64.max) : Sh H 1 (Ty.R (.int .i64)) v l := h.ints hb hr (d := 10)

@[simp] theorem bslV_one {H : Heap} {z x : V} (hx : oneC x = true) : bslV 1 1 [z] [(0, 1, x)] H = some (.sl H.length 0 1 1 1, H ++ [.cells [x]]) := by
  have e : cellsV x = [x] := by cases x <;> first | rfl | (simp [oneC] at hx; done)
  have n : notTup x = true := by cases x <;> first | rfl | (simp [oneC] at hx; done)
  simp [bslV, rep, fillV, e, n, ovl]
theorem i64_mm {x : Int} (h1 : -9223372036854775808 ≤ x) (h2 : x ≤ 9223372036854775807) : IntKind.i64.min ≤ x ∧ x ≤ IntKind.i64.max := ⟨h1, h2⟩
end Go.Eng
