/-
  ENGINE, part 14: what a call hands over and back, closed.
-/
import Derived.Test.YtoommmeapdkopaaE13
namespace Go.Eng

section
variable {P : Program} {φ : Phi} {H : Heap} {A : Nat → Prop} {w : World}

theorem mapO_get {α β : Type} {f : α → Option β} : ∀ {l : List α} {l' : List β}, mapO f l = some l' → ∀ i (h : i < l'.length) (h' : i < l.length), f l[i] = some l'[i]
  | [], l', h, i, hi, _ => by simp only [mapO, Option.some.injEq] at h; subst h; simp at hi
  | x :: l, l', h, i, hi, hi' => by
    obtain ⟨y, ys, hy, hys, rfl⟩ := mapO_cons h
    cases i with
    | zero => exact hy
    | succ i => exact mapO_get hys i (Nat.lt_of_succ_lt_succ hi) (Nat.lt_of_succ_lt_succ hi')

theorem mapO_imp {α β : Type} {f g : α → Option β} (hfg : ∀ x y, f x = some y → g x = some y) : ∀ {l : List α} {l' : List β}, mapO f l = some l' → mapO g l = some l'
  | [], l', h => h
  | x :: l, l', h => by
    obtain ⟨y, ys, hy, hys, rfl⟩ := mapO_cons h
    simp only [mapO, hfg _ _ hy, mapO_imp hfg hys, Option.bind_some, Option.map_some]

theorem closeV_sub {H Hb : Heap} (hs : Sub H Hb) : ∀ (d : Nat) (v v' : V), closeV H d v = some v' → closeV Hb d v = some v'
  | 0, _, _, h => by cases h
  | d + 1, v, v', h => by
    have ih := closeV_sub hs d
    cases v <;> simp only [closeV] at h ⊢ <;> (try exact h)
    case ptr id off =>
      cases hb : H[id]? with
      | none => rw [hb] at h; cases h
      | some b =>
        rw [hs id b hb]
        rw [hb] at h
        cases b <;> simp only at h ⊢ <;> try (cases h; done)
        simp only [Option.map_eq_some_iff] at h ⊢
        obtain ⟨l, hl, rfl⟩ := h
        exact ⟨l, mapO_imp ih hl, rfl⟩
    case sl id off n cap k =>
      cases hb : H[id]? with
      | none => rw [hb] at h; cases h
      | some b =>
        rw [hs id b hb]
        rw [hb] at h
        cases b <;> simp only at h ⊢ <;> try (cases h; done)
        split at h
        case isFalse => cases h
        rename_i hle
        rw [if_pos hle]
        simp only [Option.map_eq_some_iff] at h ⊢
        obtain ⟨l, hl, rfl⟩ := h
        exact ⟨l, mapO_imp ih hl, rfl⟩
    case fn f cs => simp only [Option.map_eq_some_iff] at h ⊢; obtain ⟨l, hl, rfl⟩ := h; exact ⟨l, mapO_imp ih hl, rfl⟩
    case agg cs => simp only [Option.map_eq_some_iff] at h ⊢; obtain ⟨l, hl, rfl⟩ := h; exact ⟨l, mapO_imp ih hl, rfl⟩
    case tup cs => simp only [Option.map_eq_some_iff] at h ⊢; obtain ⟨l, hl, rfl⟩ := h; exact ⟨l, mapO_imp ih hl, rfl⟩
    case iface t x => simp only [Option.map_eq_some_iff] at h ⊢; obtain ⟨l, hl, rfl⟩ := h; exact ⟨l, ih _ _ hl, rfl⟩

theorem closeV_sound (g : Good φ H A w) : ∀ (d : Nat) (v v' : V) (u : Value), VR φ H A w v u → closeV H d v = some v' → RR (fun b => A b ∨ ran φ b) w v' u
  | 0, _, _, _, _, h => by cases h
  | d + 1, v, v', u, hv, h => by
    have ih := closeV_sound g d
    have hup : ∀ v u, RR A w v u → RR (fun b => A b ∨ ran φ b) w v u := fun v u h => h.mono (fun _ h => .inl h) (fun _ _ => rfl)
    have hlist : ∀ (cs l : List V) (vs : Array Value), vs.size = cs.length → (∀ i (h : i < cs.length), VR φ H A w cs[i] (vs.getD i undef)) → mapO (closeV H d) cs = some l → vs.size = l.length ∧ ∀ i (h : i < l.length), RR (fun b => A b ∨ ran φ b) w l[i] (vs.getD i undef) := by
      intro cs l vs hl hr hm
      have e := mapO_length hm
      exact ⟨by omega, fun i hi => ih _ _ _ (hr i (by omega)) (mapO_get hm i hi (by omega))⟩
    have hcells : ∀ (cs0 l : List V) (r off k : Nat), φ (r : Nat) = φ r → (∃ id, φ id = some r ∧ H[id]? = some (.cells cs0)) → off + k ≤ cs0.length → mapO (closeV H d) ((cs0.drop off).take k) = some l →
        ∃ ys : Nat → Value, l.length = k ∧ (∀ i, i < l.length → w.cell? ⟨r, off + i, none⟩ = some (ys i)) ∧ (∀ i, i < l.length → (ys i).oneCell' = true) ∧ ∀ i (h : i < l.length), RR (fun b => A b ∨ ran φ b) w l[i] (ys i) := by
      intro cs0 l r off k _ hid hle hm
      obtain ⟨id, hr, hb⟩ := hid
      obtain ⟨arr, elem, hh, hsz, hc⟩ := g.block hr hb
      have e := mapO_length hm
      have el : l.length = k := by rw [e, List.length_take, List.length_drop]; omega
      refine ⟨fun i => arr.getD (off + i) undef, el, fun i hi => ?_, fun i hi => (hc (off + i) (by omega)).2, fun i hi => ?_⟩
      · rw [cell_row hh]
        have : off + i < arr.size := by omega
        simp [Array.getD, this]
      · have hg := mapO_get hm i hi (by rw [List.length_take, List.length_drop]; omega)
        rw [List.getElem_take, List.getElem_drop] at hg
        exact ih _ _ _ (hc (off + i) (by omega)).1 hg
    cases v <;> simp only [closeV] at h
    case ptr id off =>
      cases hb : H[id]? with
      | none => rw [hb] at h; cases h
      | some b =>
        rw [hb] at h
        cases b <;> simp only at h <;> try (cases h; done)
        rename_i cs0
        simp only [Option.map_eq_some_iff] at h
        obtain ⟨l, hl, rfl⟩ := h
        cases hv with
        | rr hh => cases hh
        | pdead a hd => rw [hb] at hd; cases hd
        | ptr hr =>
          rename_i r
          by_cases hle : off ≤ cs0.length
          · have hl' : mapO (closeV H d) ((cs0.drop off).take (cs0.length - off)) = some l := by rw [List.take_of_length_le (by simp)]; exact hl
            obtain ⟨ys, _, y1, y2, y3⟩ := hcells cs0 l r off (cs0.length - off) rfl ⟨id, hr, hb⟩ (by omega) hl'
            exact .rptr ys (.inr ⟨id, hr⟩) rfl y1 y2 y3
          · have : cs0.drop off = [] := List.drop_eq_nil_of_le (by omega)
            rw [this] at hl
            simp only [mapO, Option.some.injEq] at hl
            subst hl
            exact .rptr (fun _ => undef) (.inr ⟨id, hr⟩) rfl (by simp) (by simp) (fun i hi => absurd hi (by simp))
    case sl id off n cap k =>
      cases hb : H[id]? with
      | none => rw [hb] at h; cases h
      | some b =>
        rw [hb] at h
        cases b <;> simp only at h <;> try (cases h; done)
        rename_i cs0
        split at h
        case isFalse => cases h
        rename_i hle
        simp only [Option.map_eq_some_iff] at h
        obtain ⟨l, hl, rfl⟩ := h
        cases hv with
        | rr hh => cases hh
        | sdead a c hd => rw [hb] at hd; cases hd
        | sl hr hn hc hx =>
          rename_i r c
          obtain ⟨ys, _, y1, y2, y3⟩ := hcells cs0 l r off (n * k) rfl ⟨id, hr, hb⟩ hle hl
          exact .ro ys (.inr ⟨id, hr⟩) rfl hn y1 y2 y3
    case fn f cs =>
      simp only [Option.map_eq_some_iff] at h
      obtain ⟨l, hl, rfl⟩ := h
      obtain ⟨vs, rfl, h1, h2⟩ := hv.fn'
      obtain ⟨q1, q2⟩ := hlist _ _ _ h1 h2 hl
      exact .fn q1 q2
    case agg cs =>
      simp only [Option.map_eq_some_iff] at h
      obtain ⟨l, hl, rfl⟩ := h
      obtain ⟨vs, rfl, h1, h0, h2⟩ := hv.agg'
      obtain ⟨q1, q2⟩ := hlist _ _ _ h1 h2 hl
      exact .agg q1 (fun i hi => h0 i (by omega)) q2
    case tup cs =>
      simp only [Option.map_eq_some_iff] at h
      obtain ⟨l, hl, rfl⟩ := h
      obtain ⟨vs, rfl, h1, h2⟩ := hv.tup'
      obtain ⟨q1, q2⟩ := hlist _ _ _ h1 h2 hl
      exact .tup q1 q2
    case iface t x =>
      simp only [Option.map_eq_some_iff] at h
      obtain ⟨y, hy, rfl⟩ := h
      cases hv with
      | rr hh => cases hh with | iface _ hh => exact .iface _ (ih _ _ _ (.rr hh) hy)
      | iface _ hh => exact .iface _ (ih _ _ _ hh hy)
    case map => cases h
    all_goals
      cases h
      cases hv with
      | rr hh => exact hup _ _ hh

theorem closed_list : ∀ {cs : List V}, closedVs cs = true → ∀ i (h : i < cs.length), closedV cs[i] = true
  | [], _, i, hi => by simp at hi
  | v :: r, h, 0, _ => by simp only [closedVs, Bool.and_eq_true] at h; exact h.1
  | v :: r, h, i + 1, hi => by simp only [closedVs, Bool.and_eq_true] at h; exact closed_list h.2 i (Nat.lt_of_succ_lt_succ hi)
theorem scalar_list : ∀ {cs : List V}, scalarVs cs = true → ∀ i (h : i < cs.length), scalarV cs[i] = true
  | [], _, i, hi => by simp at hi
  | v :: r, h, 0, _ => by simp only [scalarVs, Bool.and_eq_true] at h; exact h.1
  | v :: r, h, i + 1, hi => by simp only [scalarVs, Bool.and_eq_true] at h; exact scalar_list h.2 i (Nat.lt_of_succ_lt_succ hi)

theorem closed_rr {v : V} {u : Value} (h : VR φ H A w v u) (hc : closedV v = true) : RR A w v u := by
  induction h with
  | rr h => exact h
  | ptr => simp [closedV] at hc
  | pdead => simp [closedV] at hc
  | sl => simp [closedV] at hc
  | sdead => simp [closedV] at hc
  | map => simp [closedV] at hc
  | mdead => simp [closedV] at hc
  | fn hl hr ih => simp only [closedV] at hc; exact .fn hl (fun i hi => ih i hi (closed_list hc i hi))
  | agg hl h1 hr ih => simp only [closedV] at hc; exact .agg hl h1 (fun i hi => ih i hi (closed_list hc i hi))
  | tup hl hr ih => simp only [closedV] at hc; exact .tup hl (fun i hi => ih i hi (closed_list hc i hi))
  | iface t h ih => simp only [closedV] at hc; exact .iface t (ih hc)

theorem scalar_rr {A' : Nat → Prop} {w' : World} {v : V} {u : Value} (h : RR A w v u) (hc : scalarV v = true) : RR A' w' v u := by
  induction h with
  | bool b => exact .bool b
  | int k n => exact .int k n
  | str s => exact .str s
  | nilp => exact .nilp
  | rptr => simp [scalarV] at hc
  | nils => exact .nils
  | z0 a => exact .z0 a
  | e0 a c => exact .e0 a c
  | ro => simp [scalarV] at hc
  | fn hl hr ih => simp only [scalarV] at hc; exact .fn hl (fun i hi => ih i hi (scalar_list hc i hi))
  | nilf => exact .nilf
  | agg hl h1 hr ih => simp only [scalarV] at hc; exact .agg hl h1 (fun i hi => ih i hi (scalar_list hc i hi))
  | tup hl hr ih => simp only [scalarV] at hc; exact .tup hl (fun i hi => ih i hi (scalar_list hc i hi))
  | nilm => exact .nilm
  | iface t h ih => simp only [scalarV] at hc; exact .iface t (ih hc)
  | nili => exact .nili

end
end Go.Eng
