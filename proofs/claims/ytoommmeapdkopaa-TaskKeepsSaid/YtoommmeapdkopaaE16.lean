/-
  ENGINE, part 16: every operation.
-/
import Derived.Test.YtoommmeapdkopaaE15
namespace Go.Eng

section
variable {P : Program} {G : Prog} {S : Self}

def ArgR (φ : Phi) (H : Heap) (A : Nat → Prop) (w : World) (args : List V) (us : Array Value) : Prop := us.size = args.length ∧ ∀ i (h : i < args.length), VR φ H A w args[i] (us.getD i undef)

def PostQ (φ : Phi) (Hb : Heap) (A : Nat → Prop) (w : World) (lo hi : Nat) (v : V) (e : Ending) (w' : World) : Prop :=
  ∃ u φ' A', e = .returned u ∧ VR φ' Hb A' w' v u ∧ Led φ Hb A w φ' Hb A' w' ∧ ∀ i, φ' i ≠ φ i → lo ≤ i ∧ i < hi
def PostW (φ : Phi) (H : Heap) (A : Nat → Prop) (w : World) (H1 : Heap) (v : V) (e : Ending) (w' : World) : Prop :=
  ∃ u φ' A', e = .returned u ∧ VR φ' H1 A' w' v u ∧ Led φ H A w φ' H1 A' w'

def CallOK (P : Program) (G : Prog) (S : Self) : Prop := ∀ f args H0 v H1, S.call f args H0 = some (v, H1) →
  hasBody P f = true ∧
  (G.pur f = true → (H1 = H0 ∨ ∃ b, H1 = H0 ++ [b]) ∧ ∀ φ Hb A w us, Good φ Hb A w → ArgR φ Hb A w args us → Sub H0 Hb → Sub H1 Hb → (∀ j, H0.length ≤ j → j < H1.length → φ j = none) → Calls P f us w (PostQ φ Hb A w H0.length H1.length v)) ∧
  (G.pur f = false → ∀ φ A w us, Good φ H0 A w → ArgR φ H0 A w args us → Calls P f us w (PostW φ H0 A w H1 v))

def quietK (G : Prog) (ts : List V) (wr : Bool) : IOp → Bool
  | .store .. | .copy .. | .clr .. | .mup .. | .nxt _ | .bad => false
  | .app _ _ s _ => !wr || (match look ts s with | .sl .. => false | _ => true)
  | .callf f _ => G.pur f
  | .callv x _ => match look ts x with | .fn f _ => G.pur f | _ => false
  | _ => true

theorem quiet_of_false {ts : List V} {H0 : Heap} {iop : IOp} {r : V × Heap} (h : ev1 G S false ts H0 iop = some r) : quietK G ts false iop = true := by
  cases iop <;> simp only [ev1, Bool.false_eq_true, false_and, if_false, false_or, reduceCtorEq] at h <;> simp only [quietK, Bool.not_false, Bool.true_or] <;> (try (cases h; done))
  · split at h
    · assumption
    · cases h
  · split at h
    · rename_i hz; rw [hz]; split at h
      · assumption
      · cases h
    · cases h

theorem run_callFunc {f : FuncId} (hb : hasBody P f = true) (args : Array Value) (w : World) : (callFunc f args).run P w = .ok (.enter f args) w := by
  unfold hasBody at hb
  cases hf : P.funcs[f]? with
  | none => rw [hf] at hb; cases hb
  | some fn =>
    rw [hf] at hb
    simp only [Bool.and_eq_true, bne_iff_ne, ne_eq] at hb
    obtain ⟨h1, h2⟩ := hb
    cases hbd : fn.body with
    | none => rw [hbd] at h1; cases h1
    | some c => simp [callFunc, hf, h2, hbd]

theorem upon_calls {o : Oper} {a : Act} {w : World} {next : Act → World → Prop} {Q : Exit → Act → World → Prop} {f : FuncId} {us : Array Value} (hr : (execOp a.eval o).run P w = .ok (.enter f us) w) {R : Ending → World → Prop}
    (h : Calls P f us w R) (hR : ∀ e w', R e w' → ∃ u, e = .returned u ∧ next (a.put o.dst u) w') : o.wp P a w next Q := by
  unfold Oper.wp
  rw [hr, Oper.upon_enter]
  refine h.mono (fun e w' he => ?_)
  obtain ⟨u, rfl, hn⟩ := hR e w' he
  exact hn

theorem wp_of_run {o : Oper} {a : Act} {w w' : World} {u : Value} {next : Act → World → Prop} {Q : Exit → Act → World → Prop} (hr : (execOp a.eval o).run P w = .ok (.value u) w') (h : next (a.put o.dst u) w') : o.wp P a w next Q := by
  unfold Oper.wp; rw [hr]; exact h
theorem wp_of_skip {o : Oper} {a : Act} {w w' : World} {next : Act → World → Prop} {Q : Exit → Act → World → Prop} (hr : (execOp a.eval o).run P w = .ok .skip w') (h : next (a.put o.dst undef) w') : o.wp P a w next Q := by
  unfold Oper.wp; rw [hr]; exact h

theorem sub_of_app {H0 H1 Hb : Heap} (h : H1 = H0 ∨ ∃ b, H1 = H0 ++ [b]) (hs : Sub H1 Hb) : Sub H0 Hb := by
  rcases h with rfl | ⟨b, rfl⟩
  · exact hs
  · exact (Sub.app _ _).trans hs

section
variable {φ : Phi} {Hb : Heap} {A : Nat → Prop} {w : World}
theorem args_rel {ts : List V} {ρ : Operand → Value} {l : Array Operand} {os : List O} (h : mapO opd l.toList = some os) (ho : ∀ x ∈ l.toList, OR φ Hb A w ts ρ x) : ArgR φ Hb A w (os.map (look ts)) (l.map ρ) := by
  obtain ⟨q1, q2⟩ := opds_rel h ho
  refine ⟨by simpa using q1, fun i hi => ?_⟩
  have := q2 i hi
  rwa [← arr_getD, show (l.toList.map ρ).toArray = l.map ρ by rw [← Array.toList_map, Array.toArray_toList]] at this
theorem ArgR.append {as bs : List V} {us vs : Array Value} (h : ArgR φ Hb A w as us) (h' : vs.size = bs.length ∧ ∀ i (h : i < bs.length), VR φ Hb A w bs[i] (vs.getD i undef)) : ArgR φ Hb A w (as ++ bs) (us ++ vs) := by
  refine ⟨by simp [h.1, h'.1], fun i hi => ?_⟩
  have h1 := h.1
  by_cases hl : i < as.length
  · rw [List.getElem_append_left hl]
    have e : (us ++ vs).getD i undef = us.getD i undef := by
      have : i < us.size := by omega
      simp [Array.getD, this, Nat.lt_add_right _ this, Array.getElem_append_left this]
    rw [e]; exact h.2 i hl
  · rw [List.getElem_append_right (by omega)]
    have hb : i - as.length < bs.length := by simp at hi; omega
    have e : (us ++ vs).getD i undef = vs.getD (i - as.length) undef := by
      have h2 : us.size ≤ i := by omega
      have h3 : i - us.size < vs.size := by rw [h'.1]; omega
      have h4 : i < (us ++ vs).size := by simp; omega
      simp only [Array.getD, h4, dif_pos, ← h1, h3]
      exact Array.getElem_append_right h2
    rw [e]; exact h'.2 _ hb
end

theorem still_heap {iop : IOp} {ts : List V} {H0 H1 : Heap} {v : V} {wr : Bool} (hst : still iop = true) (h : ev1 G S wr ts H0 iop = some (v, H1)) : H1 = H0 := by
  cases iop <;> first
    | (simp [still] at hst; done)
    | exact (ret1_eq h).2
    | (simp only [ev1, Option.some.injEq, Prod.mk.injEq] at h; exact h.2.symm)
    | (simp only [ev1] at h; split at h <;> first | (cases h; done) | (simp only [Option.some.injEq, Prod.mk.injEq] at h; exact h.2.symm) | (simp only [Option.map_eq_some_iff, Prod.mk.injEq] at h; obtain ⟨_, _, _, h⟩ := h; exact h.symm))

theorem lays_wp {φ : Phi} {Hb : Heap} {A : Nat → Prop} {w : World} {lo hi : Nat} {s : Sem Value} {v : V} {o : Oper} {a : Act} {next : Act → World → Prop} {Q : Exit → Act → World → Prop} (hl : Lays P φ Hb A w lo hi s v)
    (he : ∀ u w', s.run P w = .ok u w' → (execOp a.eval o).run P w = .ok (.value u) w')
    (hn : ∀ u w' φ' A', VR φ' Hb A' w' v u → Led φ Hb A w φ' Hb A' w' → (∀ i, φ' i ≠ φ i → lo ≤ i ∧ i < hi) → next (a.put o.dst u) w') : o.wp P a w next Q := by
  obtain ⟨u, w', φ', h1, h2, h3, h4⟩ := hl
  exact wp_of_run (he u w' h1) (hn u w' φ' A h2 h3 h4)

theorem exec_call {c : Call} {o : Oper} {a : Act} (hop : o.op = .call c) : execOp a.eval o = (do let d ← resolve a.eval c o.type; invoke d.target d.args) := by
  unfold execOp; rw [hop]

theorem call_named {c : Call} {o : Oper} {a : Act} {w : World} {g : FuncId} (hop : o.op = .call c) (hc : c.callee = .value (.func g)) (hb : hasBody P g = true) : (execOp a.eval o).run P w = .ok (.enter g (c.args.map a.eval)) w := by
  rw [exec_call hop]
  simp [resolve, hc, Act.eval, Deferred.ofValue, invoke, run_callFunc hb]
theorem call_value {c : Call} {o : Oper} {a : Act} {w : World} {t : Tmp} {f : FuncId} {vs : Array Value} (hop : o.op = .call c) (hc : c.callee = .value (.tmp t)) (hv : a.eval (.tmp t) = .func (.func f) #[] vs) (hb : hasBody P f = true) : (execOp a.eval o).run P w = .ok (.enter f (c.args.map a.eval ++ vs)) w := by
  rw [exec_call hop]
  simp [resolve, hc, hv, Deferred.ofValue, invoke, run_callFunc hb]

theorem still_all {op : Op} {iop : IOp} (h : (trOp P op).all still = true) (ht : trOp P op = some iop) : still iop = true := by rw [ht] at h; exact h
theorem bind_all {α β : Type} {p : β → Bool} {x : Option α} {f : α → Option β} (h : ∀ a, (f a).all p = true) : (x.bind f).all p = true := by cases x; rfl; exact h _
theorem map_all {α β : Type} {p : β → Bool} {x : Option α} {f : α → β} (h : ∀ a, p (f a) = true) : (x.map f).all p = true := by cases x; rfl; exact h _
theorem all_move {a} : (trOp P (.move a)).all still = true := by
  simp only [trOp]; repeat' first | rfl | (apply bind_all; intro _) | (apply map_all; intro _) | split
theorem all_assign {a} : (trOp P (.assign a)).all still = true := by
  simp only [trOp]; repeat' first | rfl | (apply bind_all; intro _) | (apply map_all; intro _) | split
theorem all_pick {a b c} : (trOp P (.pick a b c)).all still = true := by
  simp only [trOp]; repeat' first | rfl | (apply bind_all; intro _) | (apply map_all; intro _) | split
theorem all_build {a b} : (trOp P (.build a b)).all still = true := by
  simp only [trOp]; repeat' first | rfl | (apply bind_all; intro _) | (apply map_all; intro _) | split
theorem all_nilCheck {a} : (trOp P (.nilCheck a)).all still = true := by
  simp only [trOp]; repeat' first | rfl | (apply bind_all; intro _) | (apply map_all; intro _) | split
theorem all_binOp {a b c d e} : (trOp P (.binOp a b c d e)).all still = true := by
  simp only [trOp]; repeat' first | rfl | (apply bind_all; intro _) | (apply map_all; intro _) | split
theorem all_unOp {a b c} : (trOp P (.unOp a b c)).all still = true := by
  simp only [trOp]; repeat' first | rfl | (apply bind_all; intro _) | (apply map_all; intro _) | split
theorem all_convert {a b c} : (trOp P (.convert a b c)).all still = true := by
  simp only [trOp]; repeat' first | rfl | (apply bind_all; intro _) | (apply map_all; intro _) | split
theorem all_makeFunc {a b c} : (trOp P (.makeFunc a b c)).all still = true := by
  cases a <;> simp only [trOp] <;> repeat' first | rfl | (apply bind_all; intro _) | (apply map_all; intro _) | split
theorem all_slice {a b c d e} : (trOp P (.slice a b c d e)).all still = true := by
  simp only [trOp]; repeat' first | rfl | (apply bind_all; intro _) | (apply map_all; intro _) | split
theorem all_fieldAddr {a b c} : (trOp P (.fieldAddr a b c)).all still = true := by
  simp only [trOp]; repeat' first | rfl | (apply bind_all; intro _) | (apply map_all; intro _) | split
theorem all_field {a b c} : (trOp P (.field a b c)).all still = true := by
  simp only [trOp]; repeat' first | rfl | (apply bind_all; intro _) | (apply map_all; intro _) | split
theorem all_indexAddr {a b c} : (trOp P (.indexAddr a b c)).all still = true := by
  simp only [trOp]; repeat' first | rfl | (apply bind_all; intro _) | (apply map_all; intro _) | split
theorem all_index {a b c} : (trOp P (.index a b c)).all still = true := by
  simp only [trOp]; repeat' first | rfl | (apply bind_all; intro _) | (apply map_all; intro _) | split
theorem all_extract {a b} : (trOp P (.extract a b)).all still = true := by
  simp only [trOp]; repeat' first | rfl | (apply bind_all; intro _) | (apply map_all; intro _) | split

theorem quiet_op (hS : CallOK P G S) {o : Oper} {iop : IOp} (ht : trOp P o.op = some iop) {ts : List V} {H0 H1 : Heap} {v : V} {wr : Bool} (h : ev1 G S wr ts H0 iop = some (v, H1)) (hq : quietK G ts wr iop = true) :
    (H1 = H0 ∨ ∃ b, H1 = H0 ++ [b]) ∧ ∀ φ Hb A w (a : Act), Good φ Hb A w → Sub H1 Hb → (∀ j, H0.length ≤ j → j < H1.length → φ j = none) → (∀ x ∈ o.op.operands, OR φ Hb A w ts a.eval x) → ∀ next Q,
      (∀ u w' φ' A', VR φ' Hb A' w' v u → Led φ Hb A w φ' Hb A' w' → (∀ i, φ' i ≠ φ i → H0.length ≤ i ∧ i < H1.length) → next (a.put o.dst u) w') → o.wp P a w next Q := by
  by_cases hst : still iop = true
  · have hH : H1 = H0 := still_heap hst h
    subst hH
    refine ⟨.inl rfl, fun φ Hb A w a g hs hf ho next Q hn => ?_⟩
    obtain ⟨_, u, hr, hv⟩ := still_sound (G := G) (S := S) (wr := wr) ht hst ho h
    exact wp_of_run hr (hn u w φ A hv (.refl g) (fun _ h => absurd rfl h))
  have one : ∀ {b : B}, H1 = H0 ++ [b] → (H1 = H0 ∨ ∃ b, H1 = H0 ++ [b]) := fun h => .inr ⟨_, h⟩
  cases hop : o.op with
  | alloc t =>
    rw [hop] at ht
    simp only [trOp, Option.map_eq_some_iff] at ht
    obtain ⟨z, hz, rfl⟩ := ht
    simp only [ev1, Option.some.injEq, Prod.mk.injEq] at h
    obtain ⟨rfl, rfl⟩ := h
    refine ⟨one rfl, fun φ Hb A w a g hs hf ho next Q hn => lays_wp (lays_alloc (old := .tuple #[]) g hz (hf _ (Nat.le_refl _) (by simp)) (hs _ _ (by simp))) (fun u w' hr => ?_) (by simpa using hn)⟩
    unfold execOp; rw [hop]; exact val_run hr
  | box t x =>
    rw [hop] at ht
    simp only [trOp, Option.map_eq_some_iff] at ht
    obtain ⟨y, hy, rfl⟩ := ht
    simp only [ev1] at h
    split at h
    case isFalse => cases h
    rename_i hnt
    simp only [Option.some.injEq, Prod.mk.injEq] at h
    obtain ⟨rfl, rfl⟩ := h
    refine ⟨one rfl, fun φ Hb A w a g hs hf ho next Q hn => lays_wp (lays_box (t := t) g (ho x (by simp [Op.operands]) y hy) hnt (hf _ (Nat.le_refl _) (by simp)) (hs _ _ (by simp))) (fun u w' hr => ?_) (by simpa using hn)⟩
    unfold execOp; rw [hop]; exact val_run hr
  | buildSlice t len ps =>
    rw [hop] at ht
    simp only [trOp] at ht
    split at ht
    case h_2 => cases ht
    rename_i e hu
    simp only [Option.bind_eq_some_iff] at ht
    obtain ⟨k, hk, z, hz, ht⟩ := ht
    split at ht
    · cases ht
    rename_i hc
    simp only [not_or, Nat.not_lt, Decidable.not_not, ne_eq, gt_iff_lt] at hc
    simp only [Option.map_eq_some_iff] at ht
    obtain ⟨l, hl, rfl⟩ := ht
    simp only [ev1] at h
    have hH : H1 = H0 ∨ ∃ b, H1 = H0 ++ [b] := by
      simp only [Option.map_eq_some_iff] at h
      obtain ⟨cs, _, h⟩ := h
      split at h
      · cases h; exact .inl rfl
      · cases h; exact .inr ⟨_, rfl⟩
    refine ⟨hH, fun φ Hb A w a g hs hf ho next Q hn => lays_wp (lays_bsl g hu hk hz hc.1 hc.2.1 hc.2.2 hl (fun p hp => ho p.2 (by simp only [Op.operands]; simpa using ⟨p.1, by simpa using hp⟩)) h hf hs) (fun u w' hr => ?_) hn⟩
    unfold execOp; rw [hop]; exact val_run hr
  | load t x =>
    rw [hop] at ht
    simp only [trOp, Option.bind_eq_some_iff] at ht
    obtain ⟨k, hk, ht⟩ := ht
    split at ht
    case isFalse => cases ht
    rename_i hok
    simp only [Option.map_eq_some_iff] at ht
    obtain ⟨y, hy, rfl⟩ := ht
    obtain ⟨hv, rfl⟩ := ret1_eq h
    refine ⟨.inl rfl, fun φ Hb A w a g hs hf ho next Q hn => lays_wp ((gives_load g hs hk hok (ho x (by simp [Op.operands]) y hy) hv).lays g _ _) (fun u w' hr => ?_) hn⟩
    unfold execOp; rw [hop]; exact val_run hr
  | makeMap t r =>
    rw [hop] at ht
    cases r <;> simp only [trOp, Option.some.injEq, reduceCtorEq] at ht
    subst ht
    simp only [ev1, Option.some.injEq, Prod.mk.injEq] at h
    obtain ⟨rfl, rfl⟩ := h
    refine ⟨one rfl, fun φ Hb A w a g hs hf ho next Q hn => lays_wp (lays_mkm (t := t) g (hf _ (Nat.le_refl _) (by simp)) (hs _ _ (by simp))) (fun u w' hr => ?_) (by simpa using hn)⟩
    unfold execOp; rw [hop]; exact val_run hr
  | makeSlice t l c =>
    rw [hop] at ht
    simp only [trOp] at ht
    split at ht
    case h_2 => cases ht
    rename_i e hu
    simp only [Option.bind_eq_some_iff] at ht
    obtain ⟨i, hi, z, hz, ht⟩ := ht
    split at ht
    · cases ht
    rename_i hc
    simp only [Bool.or_eq_true, decide_eq_true_eq, not_or, ne_eq, Decidable.not_not] at hc
    simp only [Option.bind_eq_some_iff, Option.map_eq_some_iff] at ht
    obtain ⟨l', hl, c', hcc, rfl⟩ := ht
    simp only [ev1] at h
    have hH : H1 = H0 ∨ ∃ b, H1 = H0 ++ [b] := by
      unfold mksV at h
      split at h
      · split at h
        · split at h
          · cases h; exact .inl rfl
          · cases h; exact .inr ⟨_, rfl⟩
        · cases h
      · cases h
    refine ⟨hH, fun φ Hb A w a g hs hf ho next Q hn => lays_wp (lays_mks g hu hi hz hc.1.1 hc.1.2 hc.2 (ho l (by simp [Op.operands]) l' hl) (ho c (by simp [Op.operands]) c' hcc) h hf hs) (fun u w' hr => ?_) hn⟩
    unfold execOp; rw [hop]; exact val_run hr
  | lookup t m k ok =>
    rw [hop] at ht
    simp only [trOp] at ht
    split at ht
    case h_2 => cases ht
    rename_i kt e hu
    simp only [Option.bind_eq_some_iff, Option.map_eq_some_iff] at ht
    obtain ⟨fk, hfk, z, hz, m', hm, k', hk, rfl⟩ := ht
    obtain ⟨hv, rfl⟩ := ret1_eq h
    refine ⟨.inl rfl, fun φ Hb A w a g hs hf ho next Q hn => lays_wp ((gives_lk g hs hu hfk hz (ho m (by simp [Op.operands]) m' hm) (ho k (by simp [Op.operands]) k' hk) hv).lays g _ _) (fun u w' hr => ?_) hn⟩
    unfold execOp; rw [hop]; exact val_run hr
  | range t x =>
    rw [hop] at ht
    simp only [trOp] at ht
    split at ht
    case h_2 => cases ht
    rename_i hu
    simp only [Option.map_eq_some_iff] at ht
    obtain ⟨y, hy, rfl⟩ := ht
    simp only [ev1] at h
    split at h
    case h_2 => cases h
    rename_i s hz
    simp only [Option.some.injEq, Prod.mk.injEq] at h
    obtain ⟨rfl, rfl⟩ := h
    refine ⟨one rfl, fun φ Hb A w a g hs hf ho next Q hn => lays_wp (lays_rng g hu (by have := ho x (by simp [Op.operands]) y hy; rwa [hz] at this) (hf _ (Nat.le_refl _) (by simp)) (hs _ _ (by simp))) (fun u w' hr => ?_) (by simpa using hn)⟩
    unfold execOp; rw [hop]; exact val_run hr
  | call c =>
    rw [hop] at ht
    simp only [trOp] at ht
    have hops : ∀ x ∈ c.args.toList, x ∈ (Op.call c).operands := fun x hx => by simp only [Op.operands, Call.operands]; simp at hx ⊢; exact .inr hx
    unfold trCall at ht
    split at ht
    · rename_i f hcal
      split at ht
      case isFalse => cases ht
      rename_i hb
      simp only [Option.map_eq_some_iff] at ht
      obtain ⟨l, hl, rfl⟩ := ht
      have hp : G.pur f = true := by simpa [quietK] using hq
      simp only [ev1, hp, or_true, if_true] at h
      obtain ⟨_, h1, _⟩ := hS _ _ _ _ _ h
      obtain ⟨hH, h1⟩ := h1 hp
      refine ⟨hH, fun φ Hb A w a g hs hf ho next Q hn => ?_⟩
      have := h1 φ Hb A w _ g (args_rel hl (fun x hx => ho x (hops x hx))) (sub_of_app hH hs) hs hf
      refine upon_calls (call_named hop hcal hb) this (fun e w' he => ?_)
      obtain ⟨u, φ', A', rfl, q1, q2, q3⟩ := he
      exact ⟨u, rfl, hn u w' φ' A' q1 q2 q3⟩
    · rename_i t hcal
      simp only [Option.map_eq_some_iff] at ht
      obtain ⟨l, hl, rfl⟩ := ht
      simp only [ev1] at h
      split at h
      case h_2 => cases h
      rename_i f caps hz
      have hp : G.pur f = true := by simp only [quietK, hz] at hq; exact hq
      simp only [hp, or_true, if_true] at h
      obtain ⟨hb, h1, _⟩ := hS _ _ _ _ _ h
      obtain ⟨hH, h1⟩ := h1 hp
      refine ⟨hH, fun φ Hb A w a g hs hf ho next Q hn => ?_⟩
      have ht0 := ho (.tmp t) (by simp [Op.operands, Call.operands, hcal]) (.t t) rfl
      rw [hz] at ht0
      obtain ⟨vs, hvs, hvl, hvr⟩ := ht0.fn'
      have := h1 φ Hb A w _ g ((args_rel hl (fun x hx => ho x (hops x hx))).append ⟨hvl, hvr⟩) (sub_of_app hH hs) hs hf
      refine upon_calls (call_value hop hcal hvs hb) this (fun e w' he => ?_)
      obtain ⟨u, φ', A', rfl, q1, q2, q3⟩ := he
      exact ⟨u, rfl, hn u w' φ' A' q1 q2 q3⟩
    · rename_i hcal
      split at ht
      case h_2 => cases ht
      rename_i x t ha hta
      simp only [Option.bind_eq_some_iff] at ht
      obtain ⟨x', hx, ht⟩ := ht
      have hargs : c.args = #[x] := by rw [← Array.toArray_toList (xs := c.args), ha]
      have htys : c.argTypes = #[t] := by rw [← Array.toArray_toList (xs := c.argTypes), hta]
      split at ht
      · cases ht; simp [still] at hst
      · cases ht; simp [still] at hst
      · rename_i kt e hu
        cases ht
        obtain ⟨hv, rfl⟩ := ret1_eq h
        refine ⟨.inl rfl, fun φ Hb A w a g hs hf ho next Q hn => lays_wp ((gives_lenm (ty := o.type) g hs hu (ho x (hops x (by rw [ha]; simp)) x' hx) hv).lays g _ _) (fun u w' hr => ?_) hn⟩
        rw [exec_call hop]
        simp [resolve, hcal, hargs, htys, invoke, builtin, hr]
      · cases ht
    · rename_i hcal
      split at ht
      case h_2 => cases ht
      rename_i s x t u ha hta
      split at ht
      case h_2 => cases ht
      rename_i e d hu hu'
      split at ht
      · cases ht
      rename_i hd
      simp only [Option.bind_eq_some_iff] at ht
      obtain ⟨i, hi, z, hz, ht⟩ := ht
      split at ht
      · cases ht
      rename_i hc
      simp only [not_or, ne_eq, Decidable.not_not] at hc
      simp only [Option.bind_eq_some_iff, Option.map_eq_some_iff] at ht
      obtain ⟨s', hs', x', hx', rfl⟩ := ht
      have hargs : c.args = #[s, x] := by rw [← Array.toArray_toList (xs := c.args), ha]
      have htys : c.argTypes = #[t, u] := by rw [← Array.toArray_toList (xs := c.argTypes), hta]
      simp only [ev1] at h
      have hq' : wr = false ∨ ∀ id off m cap k', look ts s' ≠ .sl id off m cap k' := by
        simp only [quietK, Bool.or_eq_true, Bool.not_eq_true'] at hq
        rcases hq with hq | hq
        · exact .inl hq
        · exact .inr (fun id off m cap k' he => by rw [he] at hq; cases hq)
      have hH : H1 = H0 ∨ ∃ b, H1 = H0 ++ [b] := by
        simp only [appV, Option.bind_eq_some_iff] at h
        obtain ⟨⟨xs, n⟩, _, h⟩ := h
        split at h
        · split at h
          · cases h; exact .inl rfl
          · cases h
        · split at h
          · split at h
            · cases h; exact .inr ⟨_, rfl⟩
            · cases h
          · split at h
            · cases h; exact .inr ⟨_, rfl⟩
            · cases h
          · rename_i hsl
            split at h
            · rename_i hkw
              rcases hq' with hq' | hq'
              · rw [hq'] at hkw; simp at hkw
              · exact absurd hsl (hq' _ _ _ _ _)
            · cases h
          · cases h
      refine ⟨hH, fun φ Hb A w a g hs hf ho next Q hn => ?_⟩
      obtain ⟨i2, uz, hi2, hiz, hvz, hnt⟩ := zeroV_sound hz φ Hb A w
      rw [hi] at hi2; cases hi2
      have hzs : uz.cells.size = i.size := by have := (hvz.cells hnt).length; simpa [hc.2.2] using this
      refine lays_wp (append_quiet (u := u) g hu hu' (by simpa using hd) hi hiz hzs hc.2.1 o.type (ho s (hops s (by rw [ha]; simp)) s' hs') (ho x (hops x (by rw [ha]; simp)) x' hx') h hq' (sub_of_app hH hs) hs hf) (fun u w' hr => ?_) hn
      rw [exec_call hop]
      simp [resolve, hcal, hargs, htys, invoke, builtin, hr]
    · split at ht
      · split at ht
        · simp only [Option.bind_eq_some_iff] at ht
          obtain ⟨i, hi, ht⟩ := ht
          split at ht
          · cases ht
          · simp only [Option.bind_eq_some_iff, Option.map_eq_some_iff] at ht
            obtain ⟨_, _, _, _, rfl⟩ := ht
            simp [quietK] at hq
        · cases ht
      · cases ht
    · split at ht
      · split at ht
        · simp only [Option.bind_eq_some_iff] at ht
          obtain ⟨i, hi, z, hz, ht⟩ := ht
          split at ht
          · cases ht
          · simp only [Option.map_eq_some_iff] at ht
            obtain ⟨_, _, rfl⟩ := ht
            simp [quietK] at hq
        · cases ht
      · cases ht
    · split at ht
      · simp only [Option.bind_eq_some_iff, Option.map_eq_some_iff] at ht
        obtain ⟨_, _, _, _, rfl⟩ := ht
        simp [still] at hst
      · cases ht
    · split at ht
      · simp only [Option.bind_eq_some_iff, Option.map_eq_some_iff] at ht
        obtain ⟨_, _, _, _, rfl⟩ := ht
        simp [still] at hst
      · cases ht
    · cases ht
  | store t x y => rw [hop] at ht; simp only [trOp, Option.bind_eq_some_iff, Option.map_eq_some_iff] at ht; obtain ⟨_, _, _, _, _, _, rfl⟩ := ht; simp [quietK] at hq
  | mapUpdate t m k v =>
    rw [hop] at ht; simp only [trOp] at ht
    split at ht
    · simp only [Option.bind_eq_some_iff, Option.map_eq_some_iff] at ht; obtain ⟨_, _, _, _, _, _, _, _, rfl⟩ := ht; simp [quietK] at hq
    · cases ht
  | next it b =>
    rw [hop] at ht
    cases b <;> simp only [trOp, Option.map_eq_some_iff, reduceCtorEq] at ht
    obtain ⟨_, _, rfl⟩ := ht; simp [quietK] at hq
  | move x => exact absurd (still_all (by rw [hop]; exact all_move) ht) hst
  | assign x => exact absurd (still_all (by rw [hop]; exact all_assign) ht) hst
  | pick c x y => exact absurd (still_all (by rw [hop]; exact all_pick) ht) hst
  | build t ps => exact absurd (still_all (by rw [hop]; exact all_build) ht) hst
  | nilCheck x => exact absurd (still_all (by rw [hop]; exact all_nilCheck) ht) hst
  | binOp op t x y z => exact absurd (still_all (by rw [hop]; exact all_binOp) ht) hst
  | unOp op t x => exact absurd (still_all (by rw [hop]; exact all_unOp) ht) hst
  | convert t u x => exact absurd (still_all (by rw [hop]; exact all_convert) ht) hst
  | makeFunc f x cs => exact absurd (still_all (by rw [hop]; exact all_makeFunc) ht) hst
  | slice t x lo hi mx => exact absurd (still_all (by rw [hop]; exact all_slice) ht) hst
  | fieldAddr t x f => exact absurd (still_all (by rw [hop]; exact all_fieldAddr) ht) hst
  | field t x f => exact absurd (still_all (by rw [hop]; exact all_field) ht) hst
  | indexAddr t x i => exact absurd (still_all (by rw [hop]; exact all_indexAddr) ht) hst
  | index t x i => exact absurd (still_all (by rw [hop]; exact all_index) ht) hst
  | extract x i => exact absurd (still_all (by rw [hop]; exact all_extract) ht) hst
  | _ => rw [hop] at ht; simp only [trOp, reduceCtorEq] at ht
end
end Go.Eng
