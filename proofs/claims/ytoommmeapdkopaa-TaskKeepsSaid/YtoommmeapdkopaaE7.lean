/-
  ENGINE, part 7: literals; the operations that do not touch memory, together.
-/
import Derived.Test.YtoommmeapdkopaaE6
import Derived.Laws.Tables
namespace Go.Eng

section
variable {P : Program} {φ : Phi} {H : Heap} {A : Nat → Prop} {w : World}

theorem ovl_eq {cs : List V} {o : Nat} {xs : List V} (h : o + xs.length ≤ cs.length) : ovl cs o xs = cs.take o ++ xs ++ cs.drop (o + xs.length) := by
  unfold ovl
  split
  · rename_i x
    rw [List.set_eq_take_append_cons_drop, if_pos (by simp at h; omega)]
    simp
  · rfl

theorem CL.ovl {cs xs : List V} {us vs : List Value} {o : Nat} (h : CL φ H A w cs us) (h' : CL φ H A w xs vs) (ho : o + xs.length ≤ cs.length) :
    CL φ H A w (ovl cs o xs) (us.take o ++ vs ++ us.drop (o + vs.length)) := by
  rw [ovl_eq ho, h'.length]
  exact ((h.take o).append h').append (h.drop _)

theorem foldl_fill (off : Nat) : ∀ (vs : List Value) (i : Nat) (us : Array Value), off + i + vs.length ≤ us.size →
    ((vs.zipIdx i).foldl (fun cs (c, j) => cs.setIfInBounds (off + j) c) us).toList = us.toList.take (off + i) ++ vs ++ us.toList.drop (off + i + vs.length)
  | [], i, us, _ => by simp
  | v :: vs, i, us, h => by
    simp only [List.zipIdx_cons, List.foldl_cons]
    rw [foldl_fill off vs (i + 1) _ (by simp at h ⊢; omega)]
    have e := list_seg_step us.toList (off + i) v vs (by simp at h ⊢; omega)
    simpa [Array.toList_setIfInBounds, Nat.add_assoc] using e

def FR (φ : Phi) (H : Heap) (A : Nat → Prop) (w : World) (place : Nat → Option (Nat × Nat)) : List (Nat × Value) → List (Nat × Nat × V) → Prop
  | [], [] => True
  | p :: ps, q :: qs => (place p.1 = some (q.1, q.2.1) ∧ VR φ H A w q.2.2 p.2) ∧ FR φ H A w place ps qs
  | _, _ => False

theorem fill_sound {place : Nat → Option (Nat × Nat)} : ∀ (ps : List (Nat × Value)) (qs : List (Nat × Nat × V)) (us : Array Value) (cs cs' : List V), FR φ H A w place ps qs → CL φ H A w cs us.toList → fillV cs qs = some cs' →
    ∃ us', Instr.fill place us ps = some us' ∧ CL φ H A w cs' us'.toList
  | [], [], us, cs, cs', _, hc, h => by simp only [fillV, Option.some.injEq] at h; subst h; exact ⟨us, rfl, hc⟩
  | (i, u) :: ps, (off, size, v) :: qs, us, cs, cs', hf, hc, h => by
    obtain ⟨⟨hp, hv⟩, hf⟩ := hf
    simp only [fillV] at h
    split at h
    case isFalse => cases h
    rename_i hh
    obtain ⟨h1, h2, h3⟩ := hh
    have hcv := hv.cells h3
    have hl := hcv.length
    have hlc := hc.length
    simp only [Array.length_toList] at hl hlc
    simp only at hp hv hcv hl
    have hsz : ¬ (u.cells.size ≠ size ∨ off + u.cells.size > us.size) := by omega
    have key := foldl_fill off u.cells.toList 0 us (by simp; omega)
    simp only [Nat.add_zero] at key
    have e1 : (u.cells.zipIdx.foldl (fun cs (x : Value × Nat) => cs.setIfInBounds (off + x.2) x.1) us).toList = us.toList.take off ++ u.cells.toList ++ us.toList.drop (off + u.cells.toList.length) := by
      rw [← Array.foldl_toList, Array.toList_zipIdx]; exact key
    obtain ⟨us', q1, q2⟩ := fill_sound ps qs (u.cells.zipIdx.foldl (fun cs (x : Value × Nat) => cs.setIfInBounds (off + x.2) x.1) us) _ cs' hf (by rw [e1]; exact hc.ovl hcv (by omega)) h
    refine ⟨us', ?_, q2⟩
    simp only [Instr.fill, hp]
    rw [if_neg (by simpa using hsz)]
    exact q1
  | [], _ :: _, _, _, _, hf, _, _ => hf.elim
  | _ :: _, [], _, _, _, hf, _, _ => hf.elim

theorem zeroV_sound {t : TypeId} {z : V} (h : zeroV P t = some z) (φ : Phi) (H : Heap) (A : Nat → Prop) (w : World) : ∃ i u, P.info? t = some i ∧ i.zero = some u ∧ VR φ H A w z u ∧ notTup z = true := by
  simp only [zeroV, Option.bind_eq_some_iff] at h
  obtain ⟨i, hi, u, hu, v, hv, h⟩ := h
  split at h
  · rename_i hn; cases h; exact ⟨i, u, hi, hu, .rr (absC_sound _ _ _ hv), hn⟩
  · cases h

theorem mapO_length {α β : Type} {f : α → Option β} : ∀ {l : List α} {l' : List β}, mapO f l = some l' → l'.length = l.length
  | [], l', h => by simp only [mapO, Option.some.injEq] at h; subst h; rfl
  | x :: l, l', h => by
    simp only [mapO, Option.bind_eq_some_iff, Option.map_eq_some_iff] at h
    obtain ⟨y, _, ys, hys, rfl⟩ := h
    simp [mapO_length hys]
theorem mapO_cons {α β : Type} {f : α → Option β} {x : α} {l : List α} {l' : List β} (h : mapO f (x :: l) = some l') : ∃ y ys, f x = some y ∧ mapO f l = some ys ∧ l' = y :: ys := by
  simp only [mapO, Option.bind_eq_some_iff, Option.map_eq_some_iff] at h
  obtain ⟨y, hy, ys, hys, rfl⟩ := h
  exact ⟨y, ys, hy, hys, rfl⟩

theorem run_places' {fs : Array Field} {places : List (Nat × Nat)} (h : fs.toList.mapM (fun f => (P.info? f.type).map fun i => (f.offset, i.size)) = some places) (i : Nat) (f : Field) (hf : fs[i]? = some f) (s : Nat) (hs : sizeT P f.type = some s) : places[i]? = some (f.offset, s) := by
  have hf' : fs.toList[i]? = some f := by simpa using hf
  clear hf
  generalize fs.toList = l at h hf'
  induction l generalizing places i with
  | nil => simp at hf'
  | cons g l ih =>
    simp only [List.mapM_cons, Option.bind_eq_bind, Option.pure_def, Option.bind_eq_some_iff, Option.map_eq_some_iff, Option.some.injEq] at h
    obtain ⟨p, ⟨ti, hi, rfl⟩, ps, hps, rfl⟩ := h
    cases i with
    | zero =>
      simp only [List.getElem?_cons_zero, Option.some.injEq] at hf' ⊢
      subst hf'
      simp only [sizeT, hi, Option.map_some, Option.some.injEq] at hs
      rw [hs]
    | succ i => simpa using ih i hps (by simpa using hf')

theorem build_parts {t : TypeId} {ts : List V} {ρ : Operand → Value} : ∀ {ps : List (Nat × Operand)} {l : List (Nat × Nat × O)}, trBuild P t ps = some l → (∀ p ∈ ps, OR φ H A w ts ρ p.2) →
    (∃ fs places, P.underlying t = some (.struct fs) ∧ fs.toList.mapM (fun f => (P.info? f.type).map fun i => (f.offset, i.size)) = some places ∧ FR φ H A w (places.toArray[·]?) (ps.map fun p => (p.1, ρ p.2)) (lookPs ts l)) ∨
    (∃ n e ie, P.underlying t = some (.array n e) ∧ P.info? e = some ie ∧ FR φ H A w (fun i => some (i * ie.size, ie.size)) (ps.map fun p => (p.1, ρ p.2)) (lookPs ts l)) := by
  intro ps l h ho
  unfold trBuild at h
  split at h
  · rename_i fs hu
    split at h
    case isTrue => cases h
    rename_i hn
    obtain ⟨places, hpl⟩ : ∃ p, fs.toList.mapM (fun f => (P.info? f.type).map fun i => (f.offset, i.size)) = some p := Option.ne_none_iff_exists'.1 (by simpa using hn)
    refine .inl ⟨fs, places, hu, hpl, ?_⟩
    clear hn
    induction ps generalizing l with
    | nil => simp only [mapO, Option.some.injEq] at h; subst h; trivial
    | cons p ps ih =>
      obtain ⟨y, ys, hy, hys, rfl⟩ := mapO_cons h
      simp only [Option.bind_eq_some_iff, Option.map_eq_some_iff] at hy
      obtain ⟨f, hf, s, hs, x, hx, rfl⟩ := hy
      refine ⟨⟨?_, ho p (by simp) _ hx⟩, ih (fun q hq => ho q (by simp [hq])) hys⟩
      simpa using run_places' hpl p.1 f hf s hs
  · rename_i n e hu
    simp only [Option.bind_eq_some_iff] at h
    obtain ⟨s, hs, h⟩ := h
    have hs' := hs
    simp only [sizeT, Option.map_eq_some_iff] at hs'
    obtain ⟨ie, hie, rfl⟩ := hs'
    refine .inr ⟨n, e, ie, hu, hie, ?_⟩
    induction ps generalizing l with
    | nil => simp only [mapO, Option.some.injEq] at h; subst h; trivial
    | cons p ps ih =>
      obtain ⟨y, ys, hy, hys, rfl⟩ := mapO_cons h
      simp only [Option.map_eq_some_iff] at hy
      obtain ⟨x, hx, rfl⟩ := hy
      exact ⟨⟨rfl, ho p (by simp) _ hx⟩, ih (fun q hq => ho q (by simp [hq])) hys⟩
  · cases h
theorem gives_build {t : TypeId} {ts : List V} {ρ : Operand → Value} {ps : Array (Nat × Operand)} {l : List (Nat × Nat × O)} {z v : V} (hz : zeroV P t = some z) (hb : trBuild P t ps.toList = some l) (ho : ∀ p ∈ ps.toList, OR φ H A w ts ρ p.2)
    (h : (fillV (cellsV z) (lookPs ts l)).map .agg = some v) : Gives P φ H A w (Instr.build t (ps.map fun (i, x) => (i, ρ x))) v := by
  simp only [Option.map_eq_some_iff] at h
  obtain ⟨cs', hf, rfl⟩ := h
  obtain ⟨it, u, hi, hiz, hv, hn⟩ := zeroV_sound hz φ H A w
  have hc := hv.cells hn
  have hpl : (ps.map fun (x : Nat × Operand) => (x.1, ρ x.2)).toList = ps.toList.map fun p => (p.1, ρ p.2) := by simp
  have key : ∃ us', P.built t (ps.map fun (x : Nat × Operand) => (x.1, ρ x.2)).toList = some us' ∧ CL φ H A w cs' us'.toList := by
    rw [hpl]
    rcases build_parts hb ho with ⟨fs, places, hu, hp, hfr⟩ | ⟨n, e, ie, hu, hie, hfr⟩
    · obtain ⟨us', q1, q2⟩ := fill_sound _ _ _ _ _ hfr hc hf
      exact ⟨us', by simp only [Program.built, hi, hu, hiz, hp, q1], q2⟩
    · obtain ⟨us', q1, q2⟩ := fill_sound _ _ _ _ _ hfr hc hf
      exact ⟨us', by simp only [Program.built, hi, hu, hiz, hie, q1], q2⟩
  obtain ⟨us', hb', hc'⟩ := key
  exact ⟨.agg us', run_build w t _ us' hb', by simpa using hc'.agg⟩
end
end Go.Eng
