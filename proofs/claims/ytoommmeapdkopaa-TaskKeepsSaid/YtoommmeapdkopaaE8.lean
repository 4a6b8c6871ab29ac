/-
  ENGINE, part 8: an operation that does not touch memory yields what the interpreter says.
-/
import Derived.Test.YtoommmeapdkopaaE7
namespace Go.Eng

section
variable {P : Program} {φ : Phi} {H : Heap} {A : Nat → Prop} {w : World}

theorem val_run {s : Sem Value} {u : Value} {w' : World} (h : s.run P w = .ok u w') : ((do pure (Next.value (← s))) : Sem Next).run P w = .ok (.value u) w' := by simp [h]

theorem Gives.val {s : Sem Value} {v : V} (h : Gives P φ H A w s v) : ∃ u, ((do pure (Next.value (← s))) : Sem Next).run P w = .ok (.value u) w ∧ VR φ H A w v u :=
  let ⟨u, hu, hv⟩ := h; ⟨u, val_run hu, hv⟩

theorem opdO_rel {ts : List V} {ρ : Operand → Value} {x : Option Operand} {o : Option O} (h : opdO x = some o) (hx : ∀ y, x = some y → OR φ H A w ts ρ y) : OptR φ H A w (lookO ts o) (x.map ρ) := by
  cases x with
  | none => cases h; trivial
  | some y =>
    simp only [opdO, Option.map_eq_some_iff] at h
    obtain ⟨z, hz, rfl⟩ := h
    exact hx y rfl z hz

theorem opds_rel {ts : List V} {ρ : Operand → Value} : ∀ {l : List Operand} {os : List O}, mapO opd l = some os → (∀ x ∈ l, OR φ H A w ts ρ x) → (l.map ρ).length = (os.map (look ts)).length ∧ ∀ i (h : i < (os.map (look ts)).length), VR φ H A w (os.map (look ts))[i] ((l.map ρ).getD i undef)
  | [], os, h, _ => by simp only [mapO, Option.some.injEq] at h; subst h; exact ⟨rfl, fun i hi => absurd hi (by simp)⟩
  | x :: l, os, h, ho => by
    obtain ⟨y, ys, hy, hys, rfl⟩ := mapO_cons h
    obtain ⟨h1, h2⟩ := opds_rel hys (fun z hz => ho z (by simp [hz]))
    refine ⟨by simp only [List.map_cons, List.length_cons, h1], fun i hi => ?_⟩
    cases i with
    | zero => exact ho x (by simp) y hy
    | succ i => exact h2 i (Nat.lt_of_succ_lt_succ hi)

theorem arr_getD (us : List Value) (i : Nat) : us.toArray.getD i undef = us.getD i undef := by
  by_cases h : i < us.length <;> simp [List.getD, Array.getD, h]

theorem still_sound {o : Oper} {iop : IOp} (ht : trOp P o.op = some iop) (hs : still iop = true) {ts : List V} {ρ : Operand → Value} (ho : ∀ x ∈ o.op.operands, OR φ H A w ts ρ x)
    {G : Prog} {S : Self} {wr : Bool} {H0 H1 : Heap} {v : V} (h : ev1 G S wr ts H0 iop = some (v, H1)) : H1 = H0 ∧ ∃ u, (execOp ρ o).run P w = .ok (.value u) w ∧ VR φ H A w v u := by
  unfold execOp
  cases hop : o.op with
  | move x =>
    rw [hop] at ht ho
    simp only [trOp, Option.map_eq_some_iff] at ht
    obtain ⟨y, hy, rfl⟩ := ht
    simp only [ev1, Option.some.injEq, Prod.mk.injEq] at h
    obtain ⟨rfl, rfl⟩ := h
    exact ⟨rfl, _, rfl, ho x (by simp [Op.operands]) y hy⟩
  | assign x =>
    rw [hop] at ht ho
    simp only [trOp, Option.map_eq_some_iff] at ht
    obtain ⟨y, hy, rfl⟩ := ht
    simp only [ev1, Option.some.injEq, Prod.mk.injEq] at h
    obtain ⟨rfl, rfl⟩ := h
    exact ⟨rfl, _, rfl, ho x (by simp [Op.operands]) y hy⟩
  | pick c a b =>
    rw [hop] at ht ho
    simp only [trOp, Option.bind_eq_some_iff, Option.map_eq_some_iff] at ht
    obtain ⟨c', hc, a', ha, b', hb, rfl⟩ := ht
    simp only [ev1] at h
    split at h
    · rename_i z hz
      simp only [Option.some.injEq, Prod.mk.injEq] at h
      obtain ⟨rfl, rfl⟩ := h
      have h1 := ho c (by simp [Op.operands]) c' hc
      rw [hz] at h1
      have h2 := ho a (by simp [Op.operands]) a' ha
      have h3 := ho b (by simp [Op.operands]) b' hb
      refine ⟨rfl, if z then ρ a else ρ b, by simp [h1.bool', asBool], ?_⟩
      cases z
      · exact h3
      · exact h2
    · cases h
  | build t ps =>
    rw [hop] at ht ho
    simp only [trOp, Option.bind_eq_some_iff, Option.map_eq_some_iff] at ht
    obtain ⟨z, hz, l, hl, rfl⟩ := ht
    obtain ⟨hv, rfl⟩ := ret1_eq h
    exact ⟨rfl, (gives_build hz hl (fun p hp => ho p.2 (by simp only [Op.operands]; simpa using ⟨p.1, by simpa using hp⟩)) hv).val⟩
  | nilCheck x =>
    rw [hop] at ht ho
    simp only [trOp, Option.map_eq_some_iff] at ht
    obtain ⟨y, hy, rfl⟩ := ht
    obtain ⟨hv, rfl⟩ := ret1_eq h
    have h1 := ho x (by simp [Op.operands]) y hy
    obtain ⟨rfl, hm⟩ := gives_nilck h1 hv
    refine ⟨rfl, ρ x, ?_, h1⟩
    clear h1 h
    rcases hm with ⟨a, e⟩ | ⟨f, vs, e⟩ <;> simp only [e] <;> rfl
  | binOp op t x y yt =>
    rw [hop] at ht ho
    simp only [trOp, Option.bind_eq_some_iff] at ht
    obtain ⟨x', hx, y', hy, ht⟩ := ht
    have h1 := ho x (by simp [Op.operands]) x' hx
    have h2 := ho y (by simp [Op.operands]) y' hy
    have hb : ∀ {v H1}, ev1 G S wr ts H0 (.bin op x' y') = some (v, H1) → H1 = H0 ∧ ∃ u, ((do pure (Next.value (← (do eqGuard op t x y (ρ x) (ρ y); binOp op t (ρ x) (ρ y))))) : Sem Next).run P w = .ok (.value u) w ∧ VR φ H A w v u := by
      intro v H1 h
      obtain ⟨hv, rfl⟩ := ret1_eq h
      exact ⟨rfl, (gives_bin h1 h2 hv).val⟩
    have he : ∀ {c neg v H1}, op = (if neg then .neq else .eql) → eqC P t = some c → ev1 G S wr ts H0 (.eq c neg x' y') = some (v, H1) → H1 = H0 ∧ ∃ u, ((do pure (Next.value (← (do eqGuard op t x y (ρ x) (ρ y); binOp op t (ρ x) (ρ y))))) : Sem Next).run P w = .ok (.value u) w ∧ VR φ H A w v u := by
      intro c neg v H1 hop hc h
      obtain ⟨hv, rfl⟩ := ret1_eq h
      simp only [Option.map_eq_some_iff] at hv
      obtain ⟨r, hr, rfl⟩ := hv
      exact ⟨rfl, (gives_eq hop hc h1 h2 hr).val⟩
    split at ht
    · split at ht
      · cases ht; exact hb h
      · cases ht; exact hb h
      · simp only [Option.map_eq_some_iff] at ht
        obtain ⟨c, hc, rfl⟩ := ht
        exact he rfl hc h
    · split at ht
      · cases ht; exact hb h
      · cases ht; exact hb h
      · simp only [Option.map_eq_some_iff] at ht
        obtain ⟨c, hc, rfl⟩ := ht
        exact he rfl hc h
    · cases ht; exact hb h
  | unOp op t x =>
    rw [hop] at ht ho
    simp only [trOp, Option.map_eq_some_iff] at ht
    obtain ⟨y, hy, rfl⟩ := ht
    obtain ⟨hv, rfl⟩ := ret1_eq h
    exact ⟨rfl, (gives_un (ho x (by simp [Op.operands]) y hy) hv).val⟩
  | convert src dst x =>
    rw [hop] at ht ho
    simp only [trOp, Option.bind_eq_some_iff] at ht
    obtain ⟨x', hx, ht⟩ := ht
    have h1 := ho x (by simp [Op.operands]) x' hx
    split at ht
    · rename_i k1 k hs' hd
      cases ht
      simp only [ev1] at h
      split at h
      · rename_i k2 n hz
        rw [hz] at h1
        simp only [Option.some.injEq, Prod.mk.injEq] at h
        obtain ⟨rfl, rfl⟩ := h
        exact ⟨rfl, .int k (k.wrap n), val_run (s := convert src dst (ρ x)) (by rw [h1.int']; simp [convert, run_underlying hs', run_underlying hd, Conv.intToInt]), .rr (.int _ _)⟩
      · cases h
    · rename_i hs' hd
      cases ht
      simp only [ev1] at h
      split at h
      · rename_i s hz
        rw [hz] at h1
        simp only [Option.some.injEq, Prod.mk.injEq] at h
        obtain ⟨rfl, rfl⟩ := h
        obtain ⟨b, hb, hb'⟩ := h1.str'
        exact ⟨rfl, ρ x, val_run (s := convert src dst (ρ x)) (by rw [hb]; simp [convert, run_underlying hs', run_underlying hd]), by rw [← hz]; rw [← hz] at h1; exact h1⟩
      · cases h
    · cases ht
  | makeFunc fn first caps =>
    rw [hop] at ht ho
    cases fn <;> (try (simp [trOp] at ht; done))
    rename_i f
    simp only [trOp] at ht
    split at ht
    case isFalse => cases ht
    rename_i h0
    obtain rfl : first = #[] := Array.eq_empty_of_size_eq_zero h0
    simp only [Option.map_eq_some_iff] at ht
    obtain ⟨l, hl, rfl⟩ := ht
    simp only [ev1, Option.some.injEq, Prod.mk.injEq] at h
    obtain ⟨rfl, rfl⟩ := h
    obtain ⟨q1, q2⟩ := opds_rel hl (fun x hx => ho x (by simpa [Op.operands] using hx))
    refine ⟨rfl, .func (.func f) #[] (caps.map ρ), val_run (s := Instr.makeFunc (.func f) ((#[] : Array Operand).map ρ) (caps.map ρ)) (by simp [Instr.makeFunc]), .fn (by simpa using q1) (fun i hi => ?_)⟩
    have := q2 i hi
    rwa [← arr_getD, show (caps.toList.map ρ).toArray = caps.map ρ by rw [← Array.toList_map, Array.toArray_toList]] at this
  | slice t x lo hi mx =>
    rw [hop] at ht ho
    simp only [trOp, Option.bind_eq_some_iff] at ht
    obtain ⟨x', hx, lo', hlo, hi', hhi, mx', hmx, ht⟩ := ht
    have h1 := ho x (by simp [Op.operands]) x' hx
    have r1 := opdO_rel hlo (fun y hy => ho y (by subst hy; simp [Op.operands]))
    have r2 := opdO_rel hhi (fun y hy => ho y (by subst hy; simp [Op.operands]))
    have r3 := opdO_rel hmx (fun y hy => ho y (by subst hy; simp [Op.operands]))
    split at ht
    · rename_i e hu
      simp only [Option.bind_eq_some_iff] at ht
      obtain ⟨k, hk, ht⟩ := ht
      split at ht
      · cases ht
      · cases ht
        obtain ⟨hv, rfl⟩ := ret1_eq h
        exact ⟨rfl, (gives_slc hu hk h1 r1 r2 r3 hv).val⟩
    · rename_i hu
      split at ht
      · cases ht
      · rename_i hm
        cases ht
        obtain ⟨hv, rfl⟩ := ret1_eq h
        cases mx with
        | none => exact ⟨rfl, (gives_ssl hu h1 r1 r2 hv).val⟩
        | some m =>
          simp only [opdO, Option.map_eq_some_iff] at hmx
          obtain ⟨_, _, rfl⟩ := hmx
          simp at hm
    · rename_i n e hu
      simp only [Option.bind_eq_some_iff] at ht
      obtain ⟨k, hk, ht⟩ := ht
      split at ht
      · cases ht
      · cases ht
        obtain ⟨hv, rfl⟩ := ret1_eq h
        exact ⟨rfl, (gives_asl (.inl hu) hk h1 r1 r2 r3 hv).val⟩
    · rename_i a hu
      split at ht
      · rename_i n e hu'
        simp only [Option.bind_eq_some_iff] at ht
        obtain ⟨k, hk, ht⟩ := ht
        split at ht
        · cases ht
        · cases ht
          obtain ⟨hv, rfl⟩ := ret1_eq h
          exact ⟨rfl, (gives_asl (.inr ⟨a, hu, hu'⟩) hk h1 r1 r2 r3 hv).val⟩
      · cases ht
    · cases ht
  | fieldAddr t x f =>
    rw [hop] at ht ho
    simp only [trOp] at ht
    split at ht
    · rename_i fs hu
      simp only [Option.bind_eq_some_iff] at ht
      obtain ⟨fd, hf, s, hs', ht⟩ := ht
      split at ht
      · cases ht
      · rename_i hs0
        simp only [Option.map_eq_some_iff] at ht
        obtain ⟨x', hx, rfl⟩ := ht
        obtain ⟨hv, rfl⟩ := ret1_eq h
        exact ⟨rfl, (gives_fadr hu hf hs' hs0 (ho x (by simp [Op.operands]) x' hx) hv).val⟩
    · cases ht
  | field t x f =>
    rw [hop] at ht ho
    simp only [trOp] at ht
    split at ht
    · rename_i fs hu
      simp only [Option.bind_eq_some_iff] at ht
      obtain ⟨fd, hf, k, hk, ht⟩ := ht
      split at ht
      · rename_i hok
        simp only [Option.map_eq_some_iff] at ht
        obtain ⟨x', hx, rfl⟩ := ht
        obtain ⟨hv, rfl⟩ := ret1_eq h
        exact ⟨rfl, (gives_fld hu hf hk hok (ho x (by simp [Op.operands]) x' hx) hv).val⟩
      · cases ht
    · cases ht
  | indexAddr t x i =>
    rw [hop] at ht ho
    simp only [trOp, Option.bind_eq_some_iff] at ht
    obtain ⟨x', hx, i', hi, ht⟩ := ht
    have h1 := ho x (by simp [Op.operands]) x' hx
    have h2 := ho i (by simp [Op.operands]) i' hi
    split at ht
    · rename_i e hu
      simp only [Option.map_eq_some_iff] at ht
      obtain ⟨k, hk, rfl⟩ := ht
      obtain ⟨hv, rfl⟩ := ret1_eq h
      exact ⟨rfl, (gives_iadr hu hk h1 h2 hv).val⟩
    · rename_i n e hu
      simp only [Option.map_eq_some_iff] at ht
      obtain ⟨k, hk, rfl⟩ := ht
      obtain ⟨hv, rfl⟩ := ret1_eq h
      exact ⟨rfl, (gives_aadr hu hk h1 h2 hv).val⟩
    · cases ht
  | index t x i =>
    rw [hop] at ht ho
    simp only [trOp, Option.bind_eq_some_iff] at ht
    obtain ⟨x', hx, i', hi, ht⟩ := ht
    have h1 := ho x (by simp [Op.operands]) x' hx
    have h2 := ho i (by simp [Op.operands]) i' hi
    split at ht
    · rename_i n e hu
      simp only [Option.bind_eq_some_iff] at ht
      obtain ⟨k, hk, ht⟩ := ht
      split at ht
      · rename_i hok
        cases ht
        obtain ⟨hv, rfl⟩ := ret1_eq h
        exact ⟨rfl, (gives_aidx hu hk hok h1 h2 hv).val⟩
      · cases ht
    · rename_i hu
      cases ht
      obtain ⟨hv, rfl⟩ := ret1_eq h
      exact ⟨rfl, (gives_sidx hu h1 h2 hv).val⟩
    · cases ht
  | extract x i =>
    rw [hop] at ht ho
    simp only [trOp, Option.map_eq_some_iff] at ht
    obtain ⟨x', hx, rfl⟩ := ht
    have h1 := ho x (by simp [Op.operands]) x' hx
    simp only [ev1] at h
    split at h
    · rename_i vs hz
      rw [hz] at h1
      simp only [Option.map_eq_some_iff, Prod.mk.injEq] at h
      obtain ⟨y, hy, rfl, rfl⟩ := h
      obtain ⟨us, hu, hl, hr⟩ := h1.tup'
      obtain ⟨hy1, hy2⟩ := List.getElem?_eq_some_iff.1 hy
      have hlt : i < us.size := by omega
      exact ⟨rfl, us.getD i undef, val_run (s := Instr.extract (ρ x) i) (by rw [hu]; simp [Instr.extract, Array.getD, hlt]), hy2 ▸ hr i hy1⟩
    · cases h
  | call c =>
    rw [hop] at ht ho
    simp only [trOp] at ht
    have hos : ∀ x ∈ c.args.toList, OR φ H A w ts ρ x := fun x hx => ho x (by simp only [Op.operands, Call.operands]; simp at hx ⊢; exact .inr hx)
    unfold trCall at ht
    split at ht
    · split at ht
      · simp only [Option.map_eq_some_iff] at ht; obtain ⟨_, _, rfl⟩ := ht; simp [still] at hs
      · cases ht
    · simp only [Option.map_eq_some_iff] at ht; obtain ⟨_, _, rfl⟩ := ht; simp [still] at hs
    · rename_i hcal
      split at ht
      · rename_i x t ha hta
        simp only [Option.bind_eq_some_iff] at ht
        obtain ⟨x', hx, ht⟩ := ht
        have h1 := hos x (by rw [ha]; simp) x' hx
        have hargs : c.args = #[x] := by rw [← Array.toArray_toList (xs := c.args), ha]
        have htys : c.argTypes = #[t] := by rw [← Array.toArray_toList (xs := c.argTypes), hta]
        have hrun : ∀ (z : Value), (Builtin.len_ #[t] o.type #[ρ x]).run P w = .ok z w → ((do let d ← resolve ρ c o.type; invoke d.target d.args) : Sem Next).run P w = .ok (.value z) w := by
          intro z hz
          simp [resolve, hcal, hargs, htys, invoke, builtin, hz]
        split at ht
        · rename_i hu
          cases ht
          simp only [ev1] at h
          split at h
          · rename_i s hz
            rw [hz] at h1
            simp only [Option.some.injEq, Prod.mk.injEq] at h
            obtain ⟨rfl, rfl⟩ := h
            obtain ⟨z, q1, q2⟩ := gives_lent (P := P) (ty := o.type) hu h1
            exact ⟨rfl, z, hrun z q1, q2⟩
          · cases h
        · rename_i e hu
          cases ht
          obtain ⟨hv, rfl⟩ := ret1_eq h
          obtain ⟨z, q1, q2⟩ := gives_lens (P := P) (ty := o.type) hu h1 hv
          exact ⟨rfl, z, hrun z q1, q2⟩
        · cases ht; simp [still] at hs
        · cases ht
      · cases ht
    · split at ht
      · split at ht
        · split at ht
          · cases ht
          · simp only [Option.bind_eq_some_iff] at ht
            obtain ⟨i, hi, z, hz, ht⟩ := ht
            split at ht
            · cases ht
            · simp only [Option.bind_eq_some_iff, Option.map_eq_some_iff] at ht
              obtain ⟨_, _, _, _, rfl⟩ := ht
              simp [still] at hs
        · cases ht
      · cases ht
    · split at ht
      · split at ht
        · simp only [Option.bind_eq_some_iff] at ht
          obtain ⟨i, hi, ht⟩ := ht
          split at ht
          · cases ht
          · simp only [Option.bind_eq_some_iff, Option.map_eq_some_iff] at ht
            obtain ⟨_, _, _, _, rfl⟩ := ht
            simp [still] at hs
        · cases ht
      · cases ht
    · split at ht
      · split at ht
        · simp only [Option.bind_eq_some_iff] at ht
          obtain ⟨i, hi, z, hz, ht⟩ := ht
          split at ht
          · cases ht
          · simp only [Option.map_eq_some_iff] at ht
            obtain ⟨_, _, rfl⟩ := ht
            simp [still] at hs
        · cases ht
      · cases ht
    · rename_i hcal
      split at ht
      · rename_i x y ha
        simp only [Option.bind_eq_some_iff, Option.map_eq_some_iff] at ht
        obtain ⟨x', hx, y', hy, rfl⟩ := ht
        have h1 := hos x (by rw [ha]; simp) x' hx
        have h2 := hos y (by rw [ha]; simp) y' hy
        have hargs : c.args = #[x, y] := by rw [← Array.toArray_toList (xs := c.args), ha]
        simp only [ev1] at h
        split at h
        · rename_i k a k' b hz hz'
          rw [hz] at h1
          rw [hz'] at h2
          simp only [Option.some.injEq, Prod.mk.injEq] at h
          obtain ⟨rfl, rfl⟩ := h
          exact ⟨rfl, .int k (if b > a then b else a), by simp [resolve, hcal, hargs, invoke, builtin, Builtin.max_, h1.int', h2.int', Builtin.max2], .rr (.int _ _)⟩
        · cases h
      · cases ht
    · rename_i hcal
      split at ht
      · rename_i x y ha
        simp only [Option.bind_eq_some_iff, Option.map_eq_some_iff] at ht
        obtain ⟨x', hx, y', hy, rfl⟩ := ht
        have h1 := hos x (by rw [ha]; simp) x' hx
        have h2 := hos y (by rw [ha]; simp) y' hy
        have hargs : c.args = #[x, y] := by rw [← Array.toArray_toList (xs := c.args), ha]
        simp only [ev1] at h
        split at h
        · rename_i k a k' b hz hz'
          rw [hz] at h1
          rw [hz'] at h2
          simp only [Option.some.injEq, Prod.mk.injEq] at h
          obtain ⟨rfl, rfl⟩ := h
          exact ⟨rfl, .int k (if b < a then b else a), by simp [resolve, hcal, hargs, invoke, builtin, Builtin.min_, h1.int', h2.int', Builtin.min2], .rr (.int _ _)⟩
        · cases h
      · cases ht
    · cases ht
  | alloc t => rw [hop] at ht; simp only [trOp, Option.map_eq_some_iff] at ht; obtain ⟨_, _, rfl⟩ := ht; simp [still] at hs
  | box t x => rw [hop] at ht; simp only [trOp, Option.map_eq_some_iff] at ht; obtain ⟨_, _, rfl⟩ := ht; simp [still] at hs
  | buildSlice t n ps =>
    rw [hop] at ht; simp only [trOp] at ht
    split at ht
    · simp only [Option.bind_eq_some_iff] at ht
      obtain ⟨_, _, _, _, ht⟩ := ht
      split at ht
      · cases ht
      · simp only [Option.map_eq_some_iff] at ht; obtain ⟨_, _, rfl⟩ := ht; simp [still] at hs
    · cases ht
  | load t a =>
    rw [hop] at ht; simp only [trOp, Option.bind_eq_some_iff] at ht
    obtain ⟨_, _, ht⟩ := ht
    split at ht
    · simp only [Option.map_eq_some_iff] at ht; obtain ⟨_, _, rfl⟩ := ht; simp [still] at hs
    · cases ht
  | store t a x => rw [hop] at ht; simp only [trOp, Option.bind_eq_some_iff, Option.map_eq_some_iff] at ht; obtain ⟨_, _, _, _, _, _, rfl⟩ := ht; simp [still] at hs
  | makeMap t r =>
    rw [hop] at ht
    cases r <;> simp only [trOp, Option.some.injEq, reduceCtorEq] at ht
    subst ht; simp [still] at hs
  | makeSlice t l c =>
    rw [hop] at ht; simp only [trOp] at ht
    split at ht
    · simp only [Option.bind_eq_some_iff] at ht
      obtain ⟨_, _, _, _, ht⟩ := ht
      split at ht
      · cases ht
      · simp only [Option.bind_eq_some_iff, Option.map_eq_some_iff] at ht; obtain ⟨_, _, _, _, rfl⟩ := ht; simp [still] at hs
    · cases ht
  | lookup t m k b =>
    rw [hop] at ht; simp only [trOp] at ht
    split at ht
    · simp only [Option.bind_eq_some_iff, Option.map_eq_some_iff] at ht; obtain ⟨_, _, _, _, _, _, _, _, rfl⟩ := ht; simp [still] at hs
    · cases ht
  | mapUpdate t m k v =>
    rw [hop] at ht; simp only [trOp] at ht
    split at ht
    · simp only [Option.bind_eq_some_iff, Option.map_eq_some_iff] at ht; obtain ⟨_, _, _, _, _, _, _, _, rfl⟩ := ht; simp [still] at hs
    · cases ht
  | range t x =>
    rw [hop] at ht; simp only [trOp] at ht
    split at ht
    · simp only [Option.map_eq_some_iff] at ht; obtain ⟨_, _, rfl⟩ := ht; simp [still] at hs
    · cases ht
  | next it b =>
    rw [hop] at ht
    cases b <;> simp only [trOp, Option.map_eq_some_iff, reduceCtorEq] at ht
    obtain ⟨_, _, rfl⟩ := ht; simp [still] at hs
  | _ => rw [hop] at ht; simp only [trOp, reduceCtorEq] at ht
end
end Go.Eng
