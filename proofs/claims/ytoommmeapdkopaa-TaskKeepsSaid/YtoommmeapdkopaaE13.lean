/-
  ENGINE, part 13: literals of slices, ranges over strings; a call's own memory, closed.
-/
import Derived.Test.YtoommmeapdkopaaE12
namespace Go.Eng

section
variable {P : Program} {φ : Phi} {H : Heap} {A : Nat → Prop} {w : World}

theorem lays_bsl (g : Good φ H A w) {t e : TypeId} {k len : Nat} {z v : V} {ts : List V} {ρ : Operand → Value} {ps : Array (Nat × Operand)} {l : List (Nat × Nat × O)} {H0 H1 : Heap} (ht : P.underlying t = some (.slice e)) (hk : sizeT P e = some k) (hz : zeroV P e = some z)
    (hk0 : k ≠ 0) (hlk : len * k ≤ 2 ^ 24) (hcz : (cellsV z).length = k) (hl : mapO (fun (p : Nat × Operand) => (opd p.2).map fun x => (p.1 * k, k, x)) ps.toList = some l) (ho : ∀ p ∈ ps.toList, OR φ H A w ts ρ p.2)
    (h : ((fillV (rep len (cellsV z)) (lookPs ts l)).map fun cs => if len = 0 then (V.z0, H0) else (.sl H0.length 0 len len k, H0 ++ [.cells cs])) = some (v, H1))
    (hfree : ∀ j, H0.length ≤ j → j < H1.length → φ j = none) (hsub1 : Sub H1 H) :
    Lays P φ H A w H0.length H1.length (Instr.buildSlice t len (ps.map fun (i, x) => (i, ρ x))) v := by
  simp only [Option.map_eq_some_iff] at h
  obtain ⟨cs, hf, h⟩ := h
  obtain ⟨i, uz, hi, hiz, hvz, hnt⟩ := zeroV_sound hz φ H A w
  have hcl := hvz.cells hnt
  have hsz : uz.cells.size = k := by have := hcl.length; simpa [hcz] using this
  have hpl : (ps.map fun (x : Nat × Operand) => (x.1, ρ x.2)).toList = ps.toList.map fun p => (p.1, ρ p.2) := by simp
  have hfr : FR φ H A w (fun i => some (i * k, k)) (ps.map fun (x : Nat × Operand) => (x.1, ρ x.2)).toList (lookPs ts l) := by
    rw [hpl]
    generalize ps.toList = qs at hl ho
    clear hf
    induction qs generalizing l with
    | nil => simp only [mapO, Option.some.injEq] at hl; subst hl; trivial
    | cons p qs ih =>
      obtain ⟨y, ys, hy, hys, rfl⟩ := mapO_cons hl
      simp only [Option.map_eq_some_iff] at hy
      obtain ⟨x, hx, rfl⟩ := hy
      exact ⟨⟨rfl, ho p (by simp) _ hx⟩, ih hys (fun q hq => ho q (by simp [hq]))⟩
  have hzero : CL φ H A w (rep len (cellsV z)) (madeCells (if len * k = 0 then #[] else uz.cells) (len * k)).toList := by
    by_cases hlz : len * k = 0
    · have : len = 0 := by rcases Nat.mul_eq_zero.1 hlz with h | h; exact h; exact absurd h hk0
      subst this
      simp [rep, madeCells, CL]
    · rw [if_neg hlz, made_toList _ _ _ hsz hk0]; exact hcl.rep len
  obtain ⟨us', q1, q2⟩ := fill_sound _ _ _ _ _ hfr hzero hf
  have hrun : (Instr.buildSlice t len (ps.map fun (x : Nat × Operand) => (x.1, ρ x.2))).run P w = .ok (.slice (some ⟨w.heap.size, 0, none⟩) len len) (w.alloc (.cells us' e)) := by
    have hb : ¬ (len * k > 2 ^ 24) := by omega
    have q1' := q1
    unfold madeCells at q1'
    by_cases hlz : len * k = 0
    · rw [if_pos hlz] at q1'
      simp only [Instr.buildSlice, Sem.run_bind, run_underlying ht, Result.andThen_ok, run_sizeT hk, Sem.run_ite, if_neg hb, if_pos hlz, Sem.run_pure, q1']
      simp [newRow]
    · rw [if_neg hlz] at q1'
      simp only [Instr.buildSlice, Sem.run_bind, run_underlying ht, Result.andThen_ok, run_sizeT hk, Sem.run_ite, if_neg hb, if_neg hlz, run_zero hi hiz, Sem.run_pure, q1']
      simp [newRow]
  split at h
  · rename_i hl0
    subst hl0
    cases h
    exact ⟨_, _, φ, hrun, .rr (.z0 _), .plain g _, fun _ h => absurd rfl h⟩
  · cases h
    have hb : H[H0.length]? = some (.cells cs) := hsub1 _ _ (by simp)
    have hled := lays_row (t := e) (rest := []) g (hfree _ (Nat.le_refl _) (by simp)) hb q2
    rw [List.append_nil, Array.toArray_toList] at hled
    exact ⟨_, _, _, hrun, .sl (upd_self ..) (Nat.le_refl _) (Nat.le_refl _) (.inl rfl), hled, upd_free (Nat.le_refl _) (by simp)⟩

theorem lays_rng (g : Good φ H A w) {t : TypeId} {s : List UInt8} {u : Value} {id : Nat} (ht : P.underlying t = some .string) (hx : VR φ H A w (.str s) u) (hn : φ id = none) (hb : H[id]? = some (.siter s 0)) :
    Lays P φ H A w id (id + 1) (Instr.range t u) (.ptr id 0) := by
  obtain ⟨b, rfl, hb'⟩ := hx.str'
  have hled := Led.new (o := .stringIter b 0) g hn hb (fun φ' w' _ hh => ⟨b, hh, hb'⟩)
  refine ⟨_, _, _, ?_, .ptr (upd_self ..), hled, upd_free (Nat.le_refl _) (Nat.lt_succ_self _)⟩
  simp [Instr.range, run_underlying ht]

theorem lays_mkm (g : Good φ H A w) {t : TypeId} {id : Nat} (hn : φ id = none) (hb : H[id]? = some (.map [])) : Lays P φ H A w id (id + 1) (Instr.makeMap t none) (.map id) := by
  have hled := Led.new (o := .map #[] 0) g hn hb (fun φ' w' _ hh => ⟨#[], 0, hh, rfl, fun i hi => absurd hi (by simp)⟩)
  exact ⟨_, _, _, by simp [Instr.makeMap], .map (upd_self ..), hled, upd_free (Nat.le_refl _) (Nat.lt_succ_self _)⟩

theorem turns_nxt (g : Good φ H A w) {ty : TypeId} {it v : V} {u : Value} {H' : Heap} (hx : VR φ H A w it u) (h : nxtV H it = some (v, H')) : Turns P φ H A w H' (Instr.next u true ty) v := by
  cases it <;> simp only [nxtV] at h <;> try (cases h; done)
  rename_i id off
  cases off with
  | succ => cases h
  | zero =>
    simp only at h
    cases hb : H[id]? with
    | none => rw [hb] at h; cases h
    | some b =>
      rw [hb] at h
      cases b <;> simp only at h <;> try (cases h; done)
      rename_i s pos
      have hp : ∃ r, u = .pointer (some ⟨r, 0, none⟩) ∧ φ id = some r := by
        cases hx with
        | rr hh => cases hh
        | pdead a hd => rw [hb] at hd; cases hd
        | ptr hr => exact ⟨_, rfl, hr⟩
      obtain ⟨r, rfl, hr⟩ := hp
      obtain ⟨s', hh, rfl⟩ := g.block hr hb
      have hgo := run_getObj (P := P) hh (by simp)
      have hlen : s'.data.toList.length = s'.size := by rw [Array.length_toList]; rfl
      have hlt := (g.dom id r hr).1
      split at h
      · rename_i hpos
        cases h
        have hpos' : pos < s'.size := by omega
        have hso := run_setObj (P := P) (o' := .stringIter s' (pos + (Utf8.decode s' pos).2)) hh (by simp)
        have hdec : decodeAt s'.data.toList pos = (((Utf8.decode s' pos).1 : Int), (Utf8.decode s' pos).2) := by
          have : (⟨s'.data.toList.toArray⟩ : ByteArray) = s' := by rw [Array.toArray_toList]
          simp only [decodeAt, this]
        refine ⟨.tuple #[.bool true, .int .i64 pos, .int .i32 ((Utf8.decode s' pos).1 : Int)], _, φ, ?_, ?_, Led.put g hr (w' := { w with heap := w.heap.setIfInBounds r (.stringIter s' (pos + (Utf8.decode s' pos).2)) }) (by simp) (fun k hk => by simp [Ne.symm hk]) (fun y hy => ?_) (fun _ => ⟨s', by simp [hlt, hdec], rfl⟩) (fun o' ho' c t f he => by simp [hlt] at ho'; subst ho'; cases he)⟩
        · simp [Instr.next, hgo, hpos', hso, goInt]
        · rw [hdec]
          refine .tup rfl (fun i hi => ?_)
          match i, hi with
          | 0, _ => exact .rr (.bool _)
          | 1, _ => exact .rr (.int _ _)
          | 2, _ => exact .rr (.int _ _)
        · unfold World.shape? at hy; rw [hh] at hy; cases hy
      · rename_i hpos
        cases h
        have hpos' : ¬ pos < s'.size := by omega
        refine ⟨.tuple #[.bool false], w, φ, by simp [Instr.next, hgo, hpos'], ?_, .refl g⟩
        refine .tup rfl (fun i hi => ?_)
        match i, hi with
        | 0, _ => exact .rr (.bool _)
end
end Go.Eng
