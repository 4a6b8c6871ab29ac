/-
  ENGINE, part 5: addresses, fields, elements, slices of slices and strings.
-/
import Derived.Test.YtoommmeapdkopaaE4
namespace Go.Eng

section
variable {P : Program} {φ : Phi} {H : Heap} {A : Nat → Prop} {w : World}

theorem gives_nilck {x v : V} {u : Value} (h1 : VR φ H A w x u) (h : nilckV x = some v) : v = x ∧ ((∃ a, u = .pointer (some a)) ∨ ∃ f vs, u = .func (.func f) #[] vs) := by
  cases x <;> simp only [nilckV] at h <;> (try (cases h; done)) <;> cases h
  · cases h1 with
    | rr hh => cases hh
    | ptr => exact ⟨rfl, .inl ⟨_, rfl⟩⟩
    | pdead => exact ⟨rfl, .inl ⟨_, rfl⟩⟩
  · cases h1 with | rr hh => cases hh; exact ⟨rfl, .inl ⟨_, rfl⟩⟩
  · obtain ⟨vs, rfl, _, _⟩ := h1.fn'; exact ⟨rfl, .inr ⟨_, _, rfl⟩⟩

theorem VR.ptr_add {id off : Nat} {u : Value} (h : VR φ H A w (.ptr id off) u) (k : Nat) : ∃ a, u = .pointer (some a) ∧ VR φ H A w (.ptr id (off + k)) (.pointer (some (a.add k))) := by
  cases h with
  | rr hh => cases hh
  | ptr h => exact ⟨_, rfl, by rw [addr_add rfl]; exact .ptr h⟩
  | pdead a h => exact ⟨_, rfl, .pdead _ h⟩
theorem VR.rptr_add {cs : List V} {u : Value} (h : VR φ H A w (.rptr cs) u) (k : Nat) : ∃ a, u = .pointer (some a) ∧ VR φ H A w (.rptr (cs.drop k)) (.pointer (some (a.add k))) := by
  cases h with
  | rr hh =>
    cases hh with
    | rptr ys hA hs hc h1 hr =>
      refine ⟨_, rfl, .rr ?_⟩
      rw [addr_add hs]
      refine .rptr (fun i => ys (k + i)) hA rfl (fun i hi => ?_) (fun i hi => ?_) (fun i hi => ?_)
      · simp only [List.length_drop] at hi
        rw [Nat.add_assoc]
        exact hc (k + i) (by omega)
      · simp only [List.length_drop] at hi
        exact h1 (k + i) (by omega)
      · simp only [List.length_drop] at hi
        rw [List.getElem_drop]
        exact hr (k + i) (by omega)

theorem gives_fadr {t : TypeId} {fs : Array Field} {fi : Nat} {f : Field} {s : Nat} {x v : V} {u : Value} (hu : P.underlying t = some (.struct fs)) (hf : fs[fi]? = some f) (hs : sizeT P f.type = some s) (hs0 : s ≠ 0)
    (h1 : VR φ H A w x u) (h : fadrV f.offset x = some v) : Gives P φ H A w (Instr.fieldAt t u fi) v := by
  cases x <;> simp only [fadrV] at h <;> try (cases h; done)
  all_goals
    cases h
    obtain ⟨a, rfl, hv⟩ := by first | exact h1.ptr_add f.offset | exact h1.rptr_add f.offset
    exact ⟨_, by simp [Instr.fieldAt, run_underlying hu, hf, Instr.sureAddr, fieldPlace, run_sizeT hs, hs0], hv⟩
theorem Array.extract_toList' (vs : Array Value) (o k : Nat) : (vs.extract o (o + k)).toList = (vs.toList.drop o).take k := by
  rw [Array.toList_extract, List.extract_eq_take_drop]; congr 1; omega

theorem gives_part {t : TypeId} {k off : Nat} {cs : List V} {us : List Value} {v : V} (hk : sizeT P t = some k) (hb : okT P t k = true) (hc : CL φ H A w cs us) (ho : off + k ≤ cs.length)
    (h : packV (aggT P t) ((cs.drop off).take k) = some v) : Gives P φ H A w (part t us.toArray off) v := by
  unfold okT at hb
  unfold packV at h
  cases ha : aggT P t with
  | true =>
    rw [ha] at h
    cases h
    refine ⟨.agg ((us.drop off).take k).toArray, ?_, ((hc.drop off).take k).agg⟩
    have e : us.toArray.extract off (off + k) = ((us.drop off).take k).toArray := by
      apply Array.ext'
      rw [Array.extract_toList']
    simp only [part, Sem.run_bind, run_isAgg_true ha, Result.andThen_ok, if_true, run_sizeT hk, Sem.run_pure, e]
  | false =>
    rw [ha] at h hb
    simp only [Bool.false_or, Bool.and_eq_true, beq_iff_eq, Option.isSome_iff_exists] at hb
    obtain ⟨rfl, d, hd⟩ := hb
    simp only [Bool.false_eq_true, if_false] at h
    split at h
    · rename_i x e
      cases h
      have hl := hc.length
      have hlt : off < us.length := by omega
      have he : (cs.drop off).take 1 = [cs[off]'(by omega)] := by
        rw [List.drop_eq_getElem_cons (by omega)]; rfl
      rw [he] at e
      cases e
      have hv := (hc.index off (by omega)).1
      refine ⟨us.getD off undef, ?_, hv⟩
      simp only [part, Sem.run_bind, run_isAgg_false hd ha, Result.andThen_ok, Bool.false_eq_true, if_false]
      simp [List.getD, hlt]
    · cases h

theorem gives_fld {t : TypeId} {fs : Array Field} {fi : Nat} {f : Field} {k : Nat} {x v : V} {u : Value} (hu : P.underlying t = some (.struct fs)) (hf : fs[fi]? = some f) (hk : sizeT P f.type = some k) (hb : okT P f.type k = true)
    (h1 : VR φ H A w x u) (h : fldV f.offset k (aggT P f.type) x = some v) : Gives P φ H A w (Instr.field t u fi) v := by
  cases x <;> simp only [fldV] at h <;> try (cases h; done)
  split at h
  case isFalse => cases h
  rename_i ho
  obtain ⟨vs, rfl, l, o1, r⟩ := h1.agg'
  obtain ⟨z, hz, hv⟩ := gives_part hk hb (CL.of_cells l o1 r) ho h
  exact ⟨z, by simpa [Instr.field, run_underlying hu, hf, asAgg] using hz, hv⟩

theorem gives_iadr {t e : TypeId} {k : Nat} {x i v : V} {u1 u2 : Value} (hu : P.underlying t = some (.slice e)) (hk : sizeT P e = some k)
    (h1 : VR φ H A w x u1) (h2 : VR φ H A w i u2) (h : iadrV k x i = some v) : Gives P φ H A w (Instr.indexAt t u1 u2) v := by
  cases i <;> simp only [iadrV] at h <;> try (cases h; done)
  obtain rfl := h2.int'
  rename_i ik n
  have hrun : ∀ (a : Addr) (len c : Nat), 0 ≤ n ∧ n < (len : Int) → (Instr.indexAt t (.slice (some a) len c) (.int ik n)).run P w = .ok (.pointer (some (a.add (n.toNat * k)))) w := by
    intro a len c hn
    simp [Instr.indexAt, asIntOf, run_underlying hu, hn.1, hn.2, run_sizeT hk]
  cases x <;> simp only at h <;> try (cases h; done)
  all_goals
    split at h
    case isFalse => cases h
    rename_i hn
    cases h
  · cases h1 with
    | rr hh =>
      cases hh with
      | ro ys hA hs hn' hc o1 hr =>
        obtain ⟨z, hz, hv⟩ := (VR.rr (φ := φ) (H := H) (RR.rptr ys hA hs hc o1 hr)).rptr_add (n.toNat * k)
        cases hz
        exact ⟨_, hrun _ _ _ hn, hv⟩
  · cases h1 with
    | rr hh => cases hh
    | sl hr hn' hc hx =>
      obtain ⟨z, hz, hv⟩ := (VR.ptr (φ := φ) (H := H) (A := A) (w := w) (off := _) hr).ptr_add (n.toNat * k)
      cases hz
      exact ⟨_, hrun _ _ _ hn, hv⟩
    | sdead a c hd hn' hc => exact ⟨_, hrun _ _ _ hn, .pdead _ hd⟩

theorem gives_aadr {t e : TypeId} {k len : Nat} {x i v : V} {u1 u2 : Value} (hu : P.underlying t = some (.array len e)) (hk : sizeT P e = some k)
    (h1 : VR φ H A w x u1) (h2 : VR φ H A w i u2) (h : aadrV len k x i = some v) : Gives P φ H A w (Instr.indexAt t u1 u2) v := by
  cases i <;> simp only [aadrV] at h <;> try (cases h; done)
  obtain rfl := h2.int'
  rename_i ik n
  have hrun : ∀ (a : Addr), 0 ≤ n ∧ n < (len : Int) → (Instr.indexAt t (.pointer (some a)) (.int ik n)).run P w = .ok (.pointer (some (a.add (n.toNat * k)))) w := by
    intro a hn
    simp [Instr.indexAt, asIntOf, run_underlying hu, hn.1, hn.2, run_sizeT hk, Instr.sureAddr]
  cases x <;> simp only at h <;> try (cases h; done)
  all_goals
    split at h
    case isFalse => cases h
    rename_i hn
    cases h
    obtain ⟨a, rfl, hv⟩ := by first | exact h1.ptr_add (n.toNat * k) | exact h1.rptr_add (n.toNat * k)
    exact ⟨_, hrun _ hn, hv⟩

theorem gives_aidx {t e : TypeId} {k len : Nat} {x i v : V} {u1 u2 : Value} (hu : P.underlying t = some (.array len e)) (hk : sizeT P e = some k) (hb : okT P e k = true)
    (h1 : VR φ H A w x u1) (h2 : VR φ H A w i u2) (h : aidxV len k (aggT P e) x i = some v) : Gives P φ H A w (Instr.index t u1 u2) v := by
  cases i <;> simp only [aidxV] at h <;> try (cases h; done)
  obtain rfl := h2.int'
  split at h
  case isFalse => cases h
  rename_i ik n hn
  cases x <;> simp only [fldV] at h <;> try (cases h; done)
  split at h
  case isFalse => cases h
  rename_i ho
  obtain ⟨vs, rfl, l, o1, r⟩ := h1.agg'
  obtain ⟨z, hz, hv⟩ := gives_part hk hb (CL.of_cells l o1 r) ho h
  exact ⟨z, by simpa [Instr.index, asIntOf, run_underlying hu, hn.1, hn.2, run_sizeT hk] using hz, hv⟩

theorem gives_sidx {t : TypeId} {x i v : V} {u1 u2 : Value} (hu : P.underlying t = some .string)
    (h1 : VR φ H A w x u1) (h2 : VR φ H A w i u2) (h : sidxV x i = some v) : Gives P φ H A w (Instr.index t u1 u2) v := by
  cases x <;> cases i <;> simp only [sidxV] at h <;> try (cases h; done)
  obtain ⟨s, rfl, rfl⟩ := h1.str'
  obtain rfl := h2.int'
  split at h
  case isFalse => cases h
  rename_i hn
  simp only [Option.map_eq_some_iff] at h
  obtain ⟨b, hb, rfl⟩ := h
  refine ⟨.int .u8 b.toNat, ?_, .rr (.int _ _)⟩
  have e : ∀ j : Nat, s[j]? = s.data.toList[j]? := fun j => by
    by_cases hj : j < s.size
    · rw [getElem?_pos s j hj, Array.getElem?_toList, Array.getElem?_eq_getElem (by exact hj)]; rfl
    · rw [getElem?_neg s j hj, Array.getElem?_toList, Array.getElem?_eq_none (by simpa using hj)]
  simp [Instr.index, asIntOf, run_underlying hu, hn, e, hb]

theorem gives_lens {t e ty : TypeId} {x v : V} {u : Value} (hu : P.underlying t = some (.slice e)) (h1 : VR φ H A w x u) (h : lensV x = some v) : Gives P φ H A w (Builtin.len_ #[t] ty #[u]) v := by
  have hrun : ∀ (a : Option Addr) (n c : Nat), (Builtin.len_ #[t] ty #[.slice a n c]).run P w = .ok (.int .i64 n) w := fun a n c => by simp [Builtin.len_, run_underlying hu, goInt]
  cases x <;> simp only [lensV] at h <;> (try (cases h; done)) <;> cases h
  · obtain rfl := h1.nils'; exact ⟨_, hrun _ _ _, .rr (.int _ _)⟩
  · obtain ⟨a, rfl⟩ := h1.z0'; exact ⟨_, hrun _ _ _, .rr (.int _ _)⟩
  · obtain ⟨a, c, rfl⟩ := h1.e0'; exact ⟨_, hrun _ _ _, .rr (.int _ _)⟩
  · cases h1 with | rr hh => cases hh; exact ⟨_, hrun _ _ _, .rr (.int _ _)⟩
  · cases h1 with
    | rr hh => cases hh
    | sl => exact ⟨_, hrun _ _ _, .rr (.int _ _)⟩
    | sdead => exact ⟨_, hrun _ _ _, .rr (.int _ _)⟩
end
end Go.Eng
