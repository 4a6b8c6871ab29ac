/-
  ENGINE, part 6: slices of slices, strings and arrays; the operations without memory, together.
-/
import Derived.Test.YtoommmeapdkopaaE5
namespace Go.Eng

section
variable {P : Program} {φ : Phi} {H : Heap} {A : Nat → Prop} {w : World}

def OptR (φ : Phi) (H : Heap) (A : Nat → Prop) (w : World) : Option V → Option Value → Prop
  | none, none => True
  | some v, some u => VR φ H A w v u
  | _, _ => False

theorem bnd_some {v : V} {u : Value} {dflt top r : Nat} (h : VR φ H A w v u) (hb : bnd (some v) dflt top = some r) : r ≤ top ∧ ∀ (top' : Nat) (code : BoundsCode), top ≤ top' → (Instr.sliceBound u top' code).run P w = .ok r w := by
  unfold bnd at hb
  split at hb
  · rename_i e; cases e
  · rename_i i e
    cases e
    obtain rfl := h.int'
    split at hb
    · rename_i hi
      cases hb
      refine ⟨by omega, fun top' code ht => ?_⟩
      have h2 : i ≤ (top' : Int) := by omega
      simp [Instr.sliceBound, asIntOf, hi.1, h2]
    · cases hb
  · cases hb

theorem bnds_run {lo hi mx : Option V} {lo' hi' mx' : Option Value} {len cap c l h m : Nat} (b : Bool) (r1 : OptR φ H A w lo lo') (r2 : OptR φ H A w hi hi') (r3 : OptR φ H A w mx mx') (hc : cap ≤ c) (hb : bnds len cap lo hi mx = some (l, h, m)) :
    (Instr.sliceBounds b len c lo' hi' mx').run P w = .ok (l, h, if mx.isSome then m else c) w ∧ l ≤ h ∧ h ≤ m ∧ m ≤ cap ∧ (mx = none → m = cap) := by
  unfold bnds at hb
  split at hb
  · cases hb
  rename_i hmh
  simp only [Option.bind_eq_some_iff] at hb
  obtain ⟨m', hm, h', hh, l', hl, hb⟩ := hb
  split at hb
  case isFalse => cases hb
  rename_i hle
  cases hb
  cases mx with
  | none =>
    cases mx' with
    | some _ => exact r3.elim
    | none =>
      simp only [bnd, Option.some.injEq] at hm
      subst hm
      have hh' : h ≤ cap ∧ (∀ code, (match hi' with | some v => Instr.sliceBound v c code | none => (pure len : Sem Nat)).run P w = .ok h w) := by
        cases hi with
        | none => cases hi' with
          | some _ => exact r2.elim
          | none => simp only [bnd, Option.some.injEq] at hh; subst hh; exact ⟨hle, fun _ => rfl⟩
        | some v => cases hi' with
          | none => exact r2.elim
          | some u => obtain ⟨q1, q2⟩ := bnd_some (P := P) r2 hh; exact ⟨q1, fun code => q2 c code hc⟩
      have hl' : l ≤ h ∧ (∀ code, (match lo' with | some v => Instr.sliceBound v h code | none => (pure 0 : Sem Nat)).run P w = .ok l w) := by
        cases lo with
        | none => cases lo' with
          | some _ => exact r1.elim
          | none => simp only [bnd, Option.some.injEq] at hl; subst hl; exact ⟨Nat.zero_le _, fun _ => rfl⟩
        | some v => cases lo' with
          | none => exact r1.elim
          | some u => obtain ⟨q1, q2⟩ := bnd_some (P := P) r1 hl; exact ⟨q1, fun code => q2 h code (Nat.le_refl _)⟩
      refine ⟨?_, hl'.1, hle, Nat.le_refl _, fun _ => rfl⟩
      have e1 := hh'.2 (if b then .sliceAcap else .sliceAlen)
      have e2 := hl'.2 .sliceB
      cases hi' <;> cases lo' <;> simp only [Sem.run_pure, Result.ok.injEq, and_true] at e1 e2 <;> simp [Instr.sliceBounds, e1, e2]
  | some vm =>
    cases mx' with
    | none => exact r3.elim
    | some um =>
      obtain ⟨q1, q2⟩ := bnd_some (P := P) r3 hm
      cases hi with
      | none => simp at hmh
      | some vh =>
        cases hi' with
        | none => exact r2.elim
        | some uh =>
          obtain ⟨p1, p2⟩ := bnd_some (P := P) r2 hh
          have hl' : l ≤ h ∧ (∀ code, (match lo' with | some v => Instr.sliceBound v h code | none => (pure 0 : Sem Nat)).run P w = .ok l w) := by
            cases lo with
            | none => cases lo' with
              | some _ => exact r1.elim
              | none => simp only [bnd, Option.some.injEq] at hl; subst hl; exact ⟨Nat.zero_le _, fun _ => rfl⟩
            | some v => cases lo' with
              | none => exact r1.elim
              | some u => obtain ⟨q1, q2⟩ := bnd_some (P := P) r1 hl; exact ⟨q1, fun code => q2 h code (Nat.le_refl _)⟩
          refine ⟨?_, hl'.1, hle, q1, by simp⟩
          have e1 := q2 c (if b then .slice3Acap else .slice3Alen) hc
          have e2 := p2 m .slice3B (Nat.le_refl _)
          have e3 := hl'.2 .slice3C
          cases lo' <;> simp only [Sem.run_pure, Result.ok.injEq, and_true] at e3 <;> simp [Instr.sliceBounds, e1, e2, e3]

theorem RR.ro_cut {cs : List V} {n : Nat} {a : Addr} {c : Nat} (h : RR A w (.ro cs n) (.slice (some a) n c)) (o k m c' : Nat) (hm : m ≤ c') :
    RR A w (.ro ((cs.drop o).take k) m) (.slice (some (a.add o)) m c') := by
  cases h with
  | ro ys hA hs hn hc h1 hr =>
    rw [addr_add hs]
    refine .ro (fun i => ys (o + i)) hA rfl hm (fun i hi => ?_) (fun i hi => ?_) (fun i hi => ?_)
    all_goals simp only [List.length_take, List.length_drop] at hi
    · rw [Nat.add_assoc]; exact hc (o + i) (by omega)
    · exact h1 (o + i) (by omega)
    · rw [List.getElem_take, List.getElem_drop]; exact hr (o + i) (by omega)

theorem gives_slc {t e : TypeId} {k : Nat} {x v : V} {u : Value} {lo hi mx : Option V} {lo' hi' mx' : Option Value} (hu : P.underlying t = some (.slice e)) (hk : sizeT P e = some k)
    (h1 : VR φ H A w x u) (r1 : OptR φ H A w lo lo') (r2 : OptR φ H A w hi hi') (r3 : OptR φ H A w mx mx') (h : slcV k x lo hi mx = some v) : Gives P φ H A w (Instr.sliceAt t u lo' hi' mx') v := by
  have hrun : ∀ (a : Option Addr) (n c l h m : Nat), (Instr.sliceBounds true n c lo' hi' mx').run P w = .ok (l, h, m) w → (Instr.sliceAt t (.slice a n c) lo' hi' mx').run P w = .ok (.slice (if m = l then a else a.map (·.add (l * k))) (h - l) (m - l)) w := by
    intro a n c l h m hb
    simp [Instr.sliceAt, Instr.slice, run_underlying hu, hb, run_sizeT hk]
  cases x <;> simp only [slcV] at h <;> try (cases h; done)
  · simp only [Option.map_eq_some_iff] at h
    obtain ⟨⟨l, hh, m⟩, hb, rfl⟩ := h
    obtain rfl := h1.nils'
    obtain ⟨q, h1, h2, h3, _⟩ := bnds_run (P := P) true r1 r2 r3 (Nat.le_refl _) hb
    refine ⟨_, hrun _ _ _ _ _ _ q, ?_⟩
    obtain rfl : m = 0 := by omega
    obtain rfl : hh = 0 := by omega
    obtain rfl : l = 0 := by omega
    simpa using VR.rr RR.nils
  · simp only [Option.map_eq_some_iff] at h
    obtain ⟨⟨l, hh, m⟩, hb, rfl⟩ := h
    obtain ⟨a, rfl⟩ := h1.z0'
    obtain ⟨q, h1, h2, h3, _⟩ := bnds_run (P := P) true r1 r2 r3 (Nat.le_refl _) hb
    refine ⟨_, hrun _ _ _ _ _ _ q, ?_⟩
    obtain rfl : m = 0 := by omega
    obtain rfl : hh = 0 := by omega
    obtain rfl : l = 0 := by omega
    simpa using VR.rr (RR.z0 a)
  · rename_i cs n
    simp only [Option.map_eq_some_iff] at h
    obtain ⟨⟨l, hh, m⟩, hb, rfl⟩ := h
    cases h1 with
    | rr hr =>
      have hr0 := hr
      cases hr with
      | ro ys hA hs hn hc o1 hr =>
        rename_i a c
        obtain ⟨q, h1, h2, h3, h4⟩ := bnds_run (P := P) true r1 r2 r3 hn hb
        refine ⟨_, hrun _ _ _ _ _ _ q, ?_⟩
        simp only
        by_cases hz : mx.isSome = true ∧ m = l
        · rw [if_pos hz]
          simp only [hz.1, if_true, hz.2]
          obtain rfl : hh = l := by omega
          simpa using VR.rr (RR.z0 a)
        · rw [if_neg hz]
          by_cases he : hh = l
          · rw [if_pos he, he, Nat.sub_self]
            generalize (if mx.isSome = true then m else c) = z
            by_cases hzl : z = l
            · rw [if_pos hzl]; exact .rr (.e0 _ _)
            · rw [if_neg hzl]; exact .rr (.e0 _ _)
          · rw [if_neg he]
            have hne : (if mx.isSome = true then m else c) ≠ l := by
              cases mx with
              | none => simp; omega
              | some _ => simp; omega
            rw [if_neg hne]
            refine .rr (hr0.ro_cut _ _ _ _ ?_)
            split <;> omega
  · rename_i id off n cap k'
    split at h
    case isFalse => cases h
    rename_i hkk
    simp only [Option.map_eq_some_iff] at h
    obtain ⟨⟨l, hh, m⟩, hb, rfl⟩ := h
    have key : ∃ (a : Addr) (c : Nat), u = .slice (some a) n c ∧ cap ≤ c ∧ n ≤ c ∧ ∀ o m c' q, m ≤ c' → q ≤ c' → (c' = q ∨ (c' = c - o ∧ o ≤ c ∧ q = cap - o)) → VR φ H A w (.sl id (off + o * k) m q k) (.slice (some (a.add (o * k))) m c') := by
      subst hkk
      cases h1 with
      | rr hh => cases hh
      | sl h hn hc hx =>
        rename_i r c
        refine ⟨_, c, rfl, hc, hn, fun o m c' q h1 h2 h3 => ?_⟩
        rw [addr_add rfl]
        refine .sl h h1 h2 ?_
        rcases h3 with h3 | ⟨h3, h4, h5⟩
        · exact .inl h3
        · rcases hx with hx | ⟨t, z, hx, hz⟩
          · exact .inl (by omega)
          · refine .inr ⟨t, z, hx, ?_⟩
            have h6 : (c - o) * k' + o * k' = c * k' := by rw [← Nat.add_mul]; congr 1; omega
            rw [h3]
            show off + o * k' + (c - o) * k' ≤ z
            omega
      | sdead a c h hn hc => exact ⟨a, c, rfl, hc, hn, fun o m c' q h1 h2 _ => .sdead _ _ h h1 h2⟩
    obtain ⟨a, c, rfl, hc, hn, hv⟩ := key
    obtain ⟨q, h1, h2, h3, h4⟩ := bnds_run (P := P) true r1 r2 r3 hc hb
    refine ⟨_, hrun _ _ _ _ _ _ q, ?_⟩
    simp only
    by_cases hz : m = l
    · rw [if_pos hz]
      obtain rfl : hh = l := by omega
      rw [Nat.sub_self]
      cases mx with
      | some _ => simp only [Option.isSome_some, if_true, hz]; simpa using VR.rr (RR.z0 a)
      | none =>
        simp only [Option.isSome_none, Bool.false_eq_true, if_false]
        by_cases hzl : c = hh
        · rw [if_pos hzl]; exact .rr (.e0 _ _)
        · rw [if_neg hzl]; exact .rr (.e0 _ _)
    · rw [if_neg hz]
      have hm : m ≤ (if mx.isSome = true then m else c) := by split <;> omega
      rw [if_neg (by omega)]
      refine hv _ _ _ _ (by omega) (by omega) ?_
      cases mx with
      | some _ => exact .inl rfl
      | none => have := h4 rfl; simp only [Option.isSome_none, Bool.false_eq_true, if_false] at hm; exact .inr ⟨by simp, by omega, by omega⟩

theorem gives_ssl {t : TypeId} {x v : V} {u : Value} {lo hi : Option V} {lo' hi' : Option Value} (hu : P.underlying t = some .string)
    (h1 : VR φ H A w x u) (r1 : OptR φ H A w lo lo') (r2 : OptR φ H A w hi hi') (h : sslV x lo hi = some v) : Gives P φ H A w (Instr.sliceAt t u lo' hi' none) v := by
  cases x <;> simp only [sslV] at h <;> try (cases h; done)
  obtain ⟨s, rfl, rfl⟩ := h1.str'
  simp only [Option.map_eq_some_iff] at h
  obtain ⟨⟨l, hh, m⟩, hb, rfl⟩ := h
  have hl : s.data.toList.length = s.size := by rw [Array.length_toList]; rfl
  rw [hl] at hb
  obtain ⟨q, h1, h2, h3, h4⟩ := bnds_run (P := P) (mx := none) (mx' := none) false r1 r2 trivial (Nat.le_refl _) hb
  refine ⟨.string (s.extract l hh), by simp [Instr.sliceAt, Instr.slice, run_underlying hu, q], .rr ?_⟩
  have := RR.str (A := A) (w := w) (s.extract l hh)
  simpa [ByteArray.data_extract, List.extract_eq_take_drop] using this

theorem gives_asl {t e : TypeId} {n k : Nat} {x v : V} {u : Value} {lo hi mx : Option V} {lo' hi' mx' : Option Value}
    (hu : P.underlying t = some (.array n e) ∨ ∃ a, P.underlying t = some (.pointer a) ∧ P.underlying a = some (.array n e)) (hk : sizeT P e = some k)
    (h1 : VR φ H A w x u) (r1 : OptR φ H A w lo lo') (r2 : OptR φ H A w hi hi') (r3 : OptR φ H A w mx mx') (h : aslV n k x lo hi mx = some v) : Gives P φ H A w (Instr.sliceAt t u lo' hi' mx') v := by
  have hrun : ∀ (a : Addr) (l h m : Nat), (Instr.sliceBounds false n n lo' hi' mx').run P w = .ok (l, h, m) w → (Instr.sliceAt t (.pointer (some a)) lo' hi' mx').run P w = .ok (.slice (some (if m = l then a else a.add (l * k))) (h - l) (m - l)) w := by
    intro a l h m hb
    rcases hu with hu | ⟨b, hu, hu'⟩
    · simp [Instr.sliceAt, run_underlying hu, hb, run_sizeT hk, Instr.sureAddr]
    · simp [Instr.sliceAt, Instr.slice, run_underlying hu, run_underlying hu', hb, run_sizeT hk, asAddr]
  have hcase : ∀ {l hh m : Nat}, (mx = none → m = n) → m ≤ n → (if mx.isSome then m else n) = m := by
    intro l hh m h _
    cases mx with
    | none => simp [h rfl]
    | some _ => simp
  cases x <;> simp only [aslV] at h <;> try (cases h; done)
  · rename_i id off
    simp only [Option.map_eq_some_iff] at h
    obtain ⟨⟨l, hh, m⟩, hb, rfl⟩ := h
    obtain ⟨q, g1, g2, g3, g4⟩ := bnds_run (P := P) false r1 r2 r3 (Nat.le_refl _) hb
    rw [hcase (l := l) (hh := hh) g4 g3] at q
    have key : ∃ (a : Addr), u = .pointer (some a) ∧ ∀ o m c', m ≤ c' → VR φ H A w (.sl id (off + o) m c' k) (.slice (some (a.add o)) m c') := by
      cases h1 with
      | rr hh => cases hh
      | ptr h => exact ⟨_, rfl, fun o m c' h1 => by rw [addr_add rfl]; exact .sl h h1 (Nat.le_refl _) (.inl rfl)⟩
      | pdead a h => exact ⟨a, rfl, fun o m c' h1 => .sdead _ _ h h1 (Nat.le_refl _)⟩
    obtain ⟨a, rfl, hv⟩ := key
    refine ⟨_, hrun _ _ _ _ q, ?_⟩
    simp only
    by_cases hz : m = l
    · rw [if_pos hz, if_pos hz]
      obtain rfl : hh = l := by omega
      rw [hz, Nat.sub_self]
      exact .rr (.z0 _)
    · rw [if_neg hz, if_neg hz]
      exact hv _ _ _ (by omega)
  · rename_i cs
    simp only [Option.map_eq_some_iff] at h
    obtain ⟨⟨l, hh, m⟩, hb, rfl⟩ := h
    obtain ⟨q, g1, g2, g3, g4⟩ := bnds_run (P := P) false r1 r2 r3 (Nat.le_refl _) hb
    rw [hcase (l := l) (hh := hh) g4 g3] at q
    cases h1 with
    | rr hr =>
      cases hr with
      | rptr ys hA hs hc o1 hr =>
        refine ⟨_, hrun _ _ _ _ q, ?_⟩
        simp only
        by_cases hz : m = l
        · rw [if_pos hz, if_pos hz]
          obtain rfl : hh = l := by omega
          rw [hz, Nat.sub_self]
          exact .rr (.z0 _)
        · rw [if_neg hz, if_neg hz]
          by_cases he : hh = l
          · rw [if_pos he, he, Nat.sub_self]; exact .rr (.e0 _ _)
          · rw [if_neg he]
            exact .rr ((RR.ro (n := 0) (c := 0) ys hA hs (Nat.le_refl _) hc o1 hr).ro_cut _ _ _ _ (by omega))

theorem gives_lent {t ty : TypeId} {s : List UInt8} {u : Value} (hu : P.underlying t = some .string) (h1 : VR φ H A w (.str s) u) : Gives P φ H A w (Builtin.len_ #[t] ty #[u]) (.int .i64 s.length) := by
  obtain ⟨b, rfl, rfl⟩ := h1.str'
  refine ⟨.int .i64 b.size, by simp [Builtin.len_, run_underlying hu, goInt], ?_⟩
  rw [show (b.data.toList.length : Int) = (b.size : Int) by rw [Array.length_toList]; rfl]
  exact .rr (.int _ _)
end
end Go.Eng
