/-
  ENGINE, part 36: rows of things that end in a row of their own.
-/
import Derived.Test.YtoommmeapdkopaaE35
namespace Go.Eng

theorem mapO_app {α β : Type} {f : α → Option β} : ∀ {a b : List α} {a' b' : List β}, mapO f a = some a' → mapO f b = some b' → mapO f (a ++ b) = some (a' ++ b')
  | [], b, a', b', h1, h2 => by
    obtain rfl := (Option.some.inj h1)
    simpa using h2
  | x :: a, b, a', b', h1, h2 => by
    simp only [mapO, Option.bind_eq_some_iff, Option.map_eq_some_iff] at h1
    obtain ⟨y, e, ys, e2, rfl⟩ := h1
    simp only [List.cons_append, mapO, e, Option.bind_some, mapO_app e2 h2, Option.map_some]

def CellB (H : Heap) (o : Nat) (w : V) (cs : List V) : Prop := ((w = .nils ∨ w = .z0) ∧ cs = []) ∨ ∃ id cap rest, 3 ≤ id ∧ id ≠ o ∧ w = .sl id 0 cs.length cap 1 ∧ H[id]? = some (.cells (cs ++ rest))
theorem CellB.mono {H H' : Heap} {o o' : Nat} {w : V} {cs : List V} (h : CellB H o w cs) (hk : ∀ id, id < H.length → 3 ≤ id → id ≠ o → H'[id]? = H[id]?) (ho : ∀ id, id < H.length → id ≠ o → id ≠ o') : CellB H' o' w cs := by
  rcases h with h | ⟨id, cap, rest, a3, a, b, c⟩
  · exact .inl h
  · have := (List.getElem?_eq_some_iff.1 c).1
    exact .inr ⟨id, cap, rest, a3, ho id this a, b, by rw [hk id this a3 a]; exact c⟩

abbrev Els := List (List V × List V)
def OwnL (k : Nat) (H : Heap) (v : V) (L : Els) : Prop := (L = [] ∧ v = .nils) ∨
  ∃ (o : Nat) (css : List (List V)), 3 ≤ o ∧ v = .sl o 0 L.length L.length k ∧ H[o]? = some (.cells css.flatten) ∧ css.length = L.length ∧ (∀ c ∈ css, c.length = k) ∧ ∀ i (h : i < L.length) (h' : i < css.length), ∃ w, css[i] = L[i].1 ++ [w] ∧ CellB H o w L[i].2
namespace OwnL
variable {k : Nat} {H H' : Heap} {v : V} {L : Els}
theorem keep (h : OwnL k H v L) (hk : ∀ id, id < H.length → 3 ≤ id → H'[id]? = H[id]?) : OwnL k H' v L := by
  rcases h with h | ⟨o, css, a0, a, b, c, d, e⟩
  · exact .inl h
  · refine .inr ⟨o, css, a0, a, by rw [hk o (List.getElem?_eq_some_iff.1 b).1 a0]; exact b, c, d, fun i h1 h2 => ?_⟩
    obtain ⟨w, e1, e2⟩ := e i h1 h2
    exact ⟨w, e1, e2.mono (fun id hi h3 _ => hk id hi h3) (fun _ _ h => h)⟩
theorem push (h : OwnL k H v L) (h3 : 3 ≤ H.length) {hd cs : List V} {w : V} (hh : (hd ++ [w]).length = k) (hw : ∀ o, (∃ n, v = .sl o 0 n n k) → CellB H o w cs) (hw0 : CellB H H.length w cs) {bytes : Nat} (hb : (L.length + 1) * bytes ≤ room) :
    ∃ v' H', appV k bytes true (H ++ [.cells (hd ++ [w])]) v (.sl H.length 0 1 1 k) = some (v', H') ∧ OwnL k H' v' (L ++ [(hd, cs)]) ∧ H.length ≤ H'.length ∧ (∀ id, id < H.length → (∀ n, v ≠ .sl id 0 n n k) → H'[id]? = H[id]?) ∧ oneC v' = true ∧ (∀ id n, v' = .sl id 0 n n k → H.length ≤ id) := by
  have hs : sliceCells (H ++ [.cells (hd ++ [w])]) (.sl H.length 0 1 1 k) k = some (hd ++ [w], 1) := by
    simp only [sliceCells, List.getElem?_concat_length, Nat.zero_add, Nat.one_mul, hh, Nat.le_refl, if_true, List.drop_zero]
    rw [← hh, List.take_length]
  rcases h with ⟨rfl, rfl⟩ | ⟨o, css, a0, rfl, b, c, d, e⟩
  · refine ⟨.sl (H.length + 1) 0 1 1 k, (H ++ [.cells (hd ++ [w])]) ++ [.cells (hd ++ [w])], ?_, .inr ⟨H.length + 1, [hd ++ [w]], by omega, rfl, ?_, rfl, by simpa using hh, fun i i1 i2 => ?_⟩, by simp, fun id hi _ => ?_, rfl, fun id n e => by injection e with e; omega⟩
    · have : bytes ≤ room := by simpa using hb
      simp [appV, hs, isSlice, this]
    · rw [List.getElem?_append_right (by simp)]; simp
    · have : i = 0 := by simpa using i1
      subst this
      exact ⟨w, rfl, hw0.mono (fun id hi _ _ => by rw [List.append_assoc, List.getElem?_append_left hi]) (fun id hi _ => by omega)⟩
    · rw [List.append_assoc, List.getElem?_append_left hi]
  · have hlt := (List.getElem?_eq_some_iff.1 b).1
    have g : (H ++ [B.cells (hd ++ [w])])[o]? = some (.cells css.flatten) := by rw [List.getElem?_append_left hlt]; exact b
    have fl : css.flatten.length = L.length * k := by rw [flatten_len css d, c]
    have kp : ∀ id, id < H.length → id ≠ o → ((H ++ [B.cells (hd ++ [w])]).set o .dead ++ [B.cells (css.flatten ++ (hd ++ [w]))])[id]? = H[id]? := fun id hi hne => by
      rw [List.getElem?_append_left (by simp; omega), List.getElem?_set_ne (fun h => hne h.symm), List.getElem?_append_left hi]
    refine ⟨.sl (H.length + 1) 0 (L.length + 1) (L.length + 1) k, (H ++ [B.cells (hd ++ [w])]).set o .dead ++ [.cells (css.flatten ++ (hd ++ [w]))], ?_, .inr ⟨H.length + 1, css ++ [hd ++ [w]], by omega, by simp, ?_, by simp [c], fun x hx => ?_, fun i i1 i2 => ?_⟩, by simp; omega, fun id hi hv => ?_, rfl, fun id n e => by injection e with e; omega⟩
    · simp only [appV, hs, Option.bind_some, Nat.one_ne_zero, if_false, and_self, if_true, g, show ¬ (L.length + 1 ≤ L.length) by omega, true_and, fl, Nat.le_refl, hb]
      rw [← fl, List.take_length]
      simp
    · rw [List.getElem?_append_right (by simp)]; simp
    · rcases List.mem_append.1 hx with hx | hx
      · exact d x hx
      · rw [List.mem_singleton.1 hx]; exact hh
    · by_cases q : i < L.length
      · obtain ⟨w', e1, e2⟩ := e i q (by omega)
        rw [List.getElem_append_left q, List.getElem_append_left (by omega)]
        exact ⟨w', e1, e2.mono (fun id hi _ hn => kp id hi hn) (fun id hi _ => by omega)⟩
      · have ei : i = L.length := by simp at i1; omega
        subst ei
        rw [List.getElem_append_right (Nat.le_refl _), List.getElem_append_right (by omega)]
        simp only [c, Nat.sub_self, List.getElem_cons_zero]
        exact ⟨w, rfl, (hw o ⟨_, rfl⟩).mono (fun id hi _ hn => kp id hi hn) (fun id hi _ => by omega)⟩
    · exact kp id hi fun e => hv _ (by rw [e])
theorem close_rows {H : Heap} {o d : Nat} : ∀ (L : Els) (css : List (List V)), css.length = L.length → (∀ i (h : i < L.length) (h' : i < css.length), ∃ w, css[i] = L[i].1 ++ [w] ∧ CellB H o w L[i].2) → (∀ e ∈ L, mapO (closeV H (d + 1)) e.1 = some e.1 ∧ mapO (closeV H d) e.2 = some e.2) →
    ∃ css' : List (List V), css'.length = L.length ∧ mapO (closeV H (d + 1)) css.flatten = some css'.flatten ∧ ∀ i (h : i < L.length) (h' : i < css'.length), ∃ w, css'[i] = L[i].1 ++ [w] ∧ (w = .ro L[i].2 L[i].2.length ∨ (L[i].2 = [] ∧ (w = .nils ∨ w = .z0)))
  | [], [], _, _, _ => ⟨[], rfl, rfl, fun i h => by simp at h⟩
  | e :: L, c :: css, hl, hc, hs => by
    obtain ⟨css', c1, c2, c3⟩ := close_rows L css (by simpa using hl) (fun i h h' => hc (i + 1) (by simpa using h) (by simpa using h')) (fun e he => hs e (List.mem_cons_of_mem _ he))
    obtain ⟨w, w1, w2⟩ := hc 0 (by simp) (by simp)
    simp only [List.getElem_cons_zero] at w1 w2
    obtain ⟨s1, s2⟩ := hs e (by simp)
    have hw : ∃ w', closeV H (d + 1) w = some w' ∧ (w' = .ro e.2 e.2.length ∨ (e.2 = [] ∧ (w' = .nils ∨ w' = .z0))) := by
      rcases w2 with ⟨rfl | rfl, h⟩ | ⟨id, cap, rest, _, _, rfl, g⟩
      · exact ⟨.nils, rfl, .inr ⟨h, .inl rfl⟩⟩
      · exact ⟨.z0, rfl, .inr ⟨h, .inr rfl⟩⟩
      · refine ⟨_, ?_, .inl rfl⟩
        rw [closeV_sl g (by simp)]
        have : (List.drop 0 (e.2 ++ rest)).take (e.2.length * 1) = e.2 := by simp
        rw [this, s2]
        rfl
    obtain ⟨w', e1, e2⟩ := hw
    refine ⟨(e.1 ++ [w']) :: css', by simp [c1], ?_, fun i h h' => ?_⟩
    · rw [List.flatten_cons, List.flatten_cons, w1]
      exact mapO_app (mapO_app s1 (by simp [mapO, e1])) c2
    · cases i with
      | zero => exact ⟨w', rfl, e2⟩
      | succ i => exact c3 i (by simpa using h) (by simpa using h')
theorem close (h : OwnL k H v L) {d : Nat} (hs : ∀ e ∈ L, mapO (closeV H (d + 1)) e.1 = some e.1 ∧ mapO (closeV H d) e.2 = some e.2) :
    ∃ v', closeV H (d + 2) v = some v' ∧ ((L = [] ∧ v' = .nils) ∨ ∃ css' : List (List V), v' = .ro css'.flatten L.length ∧ css'.length = L.length ∧ (∀ c ∈ css', c.length = k) ∧ ∀ i (h : i < L.length) (h' : i < css'.length), ∃ w, css'[i] = L[i].1 ++ [w] ∧ (w = .ro L[i].2 L[i].2.length ∨ (L[i].2 = [] ∧ (w = .nils ∨ w = .z0)))) := by
  rcases h with ⟨rfl, rfl⟩ | ⟨o, css, a0, rfl, b, c, dd, e⟩
  · exact ⟨.nils, rfl, .inl ⟨rfl, rfl⟩⟩
  · obtain ⟨css', c1, c2, c3⟩ := close_rows L css c e hs
    have fl : css.flatten.length = L.length * k := by rw [flatten_len css dd, c]
    refine ⟨.ro css'.flatten L.length, ?_, .inr ⟨css', rfl, c1, fun x hx => ?_, c3⟩⟩
    · rw [closeV_sl b (by omega)]
      have : (List.drop 0 css.flatten).take (L.length * k) = css.flatten := by rw [← fl, List.drop_zero, List.take_length]
      rw [this, c2]
      rfl
    · obtain ⟨i, hi, rfl⟩ := List.mem_iff_getElem.1 hx
      obtain ⟨w, e1, _⟩ := e i (by omega) (by omega)
      obtain ⟨w', e2, _⟩ := c3 i (by omega) hi
      have := dd _ (List.getElem_mem (l := css) (n := i) (by omega))
      rw [e1] at this
      rw [e2]
      simpa using this
end OwnL
end Go.Eng
