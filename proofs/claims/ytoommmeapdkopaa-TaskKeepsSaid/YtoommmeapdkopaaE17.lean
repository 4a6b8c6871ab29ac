/-
  ENGINE, part 17: operations that write, and operations one after the other.
-/
import Derived.Test.YtoommmeapdkopaaE16
namespace Go.Eng

section
variable {P : Program} {G : Prog} {S : Self}

theorem upon_skip' {s : Sem Unit} {w w' : World} (h : s.run P w = .ok () w') : ((do s; pure Next.skip) : Sem Next).run P w = .ok .skip w' := by simp [h]

theorem quiet_all {op : Op} {iop : IOp} {ts : List V} (h : (trOp P op).all (quietK G ts true) = true) (ht : trOp P op = some iop) : quietK G ts true iop = true := by rw [ht] at h; exact h
theorem still_quiet {iop : IOp} {ts : List V} (h : still iop = true) : quietK G ts true iop = true := by cases iop <;> first | rfl | (simp [still] at h; done)
theorem qa_still {x : Option IOp} {ts : List V} (h : x.all still = true) : x.all (quietK G ts true) = true := by cases x; rfl; exact still_quiet h
theorem qa_alloc {ts : List V} {a} : (trOp P (.alloc a)).all (quietK G ts true) = true := by
  simp only [trOp]; repeat' first | rfl | (apply bind_all; intro _) | (apply map_all; intro _) | split
theorem qa_box {ts : List V} {a b} : (trOp P (.box a b)).all (quietK G ts true) = true := by
  simp only [trOp]; repeat' first | rfl | (apply bind_all; intro _) | (apply map_all; intro _) | split
theorem qa_bsl {ts : List V} {a b c} : (trOp P (.buildSlice a b c)).all (quietK G ts true) = true := by
  simp only [trOp]; repeat' first | rfl | (apply bind_all; intro _) | (apply map_all; intro _) | split
theorem qa_load {ts : List V} {a b} : (trOp P (.load a b)).all (quietK G ts true) = true := by
  simp only [trOp]; repeat' first | rfl | (apply bind_all; intro _) | (apply map_all; intro _) | split
theorem qa_makeSlice {ts : List V} {a b c} : (trOp P (.makeSlice a b c)).all (quietK G ts true) = true := by
  simp only [trOp]; repeat' first | rfl | (apply bind_all; intro _) | (apply map_all; intro _) | split
theorem qa_lookup {ts : List V} {a b c d} : (trOp P (.lookup a b c d)).all (quietK G ts true) = true := by
  simp only [trOp]; repeat' first | rfl | (apply bind_all; intro _) | (apply map_all; intro _) | split
theorem qa_range {ts : List V} {a b} : (trOp P (.range a b)).all (quietK G ts true) = true := by
  simp only [trOp]; repeat' first | rfl | (apply bind_all; intro _) | (apply map_all; intro _) | split
theorem qa_makeMap {ts : List V} {a b} : (trOp P (.makeMap a b)).all (quietK G ts true) = true := by
  cases b <;> simp only [trOp] <;> repeat' first | rfl | (apply bind_all; intro _) | (apply map_all; intro _) | split

theorem write_op (hS : CallOK P G S) {o : Oper} {iop : IOp} (ht : trOp P o.op = some iop) {ts : List V} {H0 H1 : Heap} {v : V} (h : ev1 G S true ts H0 iop = some (v, H1)) (hq : quietK G ts true iop = false)
    {φ : Phi} {A : Nat → Prop} {w : World} {a : Act} (g : Good φ H0 A w) (ho : ∀ x ∈ o.op.operands, OR φ H0 A w ts a.eval x) {next : Act → World → Prop} {Q : Exit → Act → World → Prop}
    (hn : ∀ u w' φ' A', VR φ' H1 A' w' v u → Led φ H0 A w φ' H1 A' w' → next (a.put o.dst u) w') : o.wp P a w next Q := by
  have turns : ∀ {s : Sem Value}, Turns P φ H0 A w H1 s v → (∀ u w', s.run P w = .ok u w' → (execOp a.eval o).run P w = .ok (.value u) w') → o.wp P a w next Q := by
    intro s hs he
    obtain ⟨u, w', φ', h1, h2, h3⟩ := hs
    exact wp_of_run (he u w' h1) (hn u w' φ' A h2 h3)
  cases hop : o.op with
  | store t x y =>
    rw [hop] at ht
    simp only [trOp, Option.bind_eq_some_iff, Option.map_eq_some_iff] at ht
    obtain ⟨k, hk, x', hx, y', hy, rfl⟩ := ht
    simp only [ev1] at h
    split at h
    case isFalse => cases h
    rename_i hc
    simp only [Option.map_eq_some_iff, Prod.mk.injEq] at h
    obtain ⟨H', hw, rfl, rfl⟩ := h
    obtain ⟨w', hr, hl⟩ := turns_store g hk (ho x (by simp [hop, Op.operands]) x' hx) (ho y (by simp [hop, Op.operands]) y' hy) hc.2.2 hc.2.1 hw
    refine wp_of_skip (w' := w') ?_ (hn undef w' φ A .undef hl)
    unfold execOp; rw [hop]; exact upon_skip' hr
  | mapUpdate t m k x =>
    rw [hop] at ht
    simp only [trOp] at ht
    split at ht
    case h_2 => cases ht
    rename_i kt e hu
    simp only [Option.bind_eq_some_iff, Option.map_eq_some_iff] at ht
    obtain ⟨fk, hfk, m', hm, k', hk, x', hx, rfl⟩ := ht
    simp only [ev1, if_true, Option.map_eq_some_iff, Prod.mk.injEq] at h
    obtain ⟨H', hw, rfl, rfl⟩ := h
    obtain ⟨w', hr, hl⟩ := turns_mup g hu hfk (ho m (by simp [hop, Op.operands]) m' hm) (ho k (by simp [hop, Op.operands]) k' hk) (ho x (by simp [hop, Op.operands]) x' hx) hw
    refine wp_of_skip (w' := w') ?_ (hn undef w' φ A .undef hl)
    unfold execOp; rw [hop]; exact upon_skip' hr
  | next it b =>
    rw [hop] at ht
    cases b <;> simp only [trOp, Option.map_eq_some_iff, reduceCtorEq] at ht
    obtain ⟨it', hit, rfl⟩ := ht
    simp only [ev1, if_true] at h
    refine turns (turns_nxt (ty := o.type) g (ho it (by simp [hop, Op.operands]) it' hit) h) (fun u w' hr => ?_)
    unfold execOp; rw [hop]; exact val_run hr
  | call c =>
    rw [hop] at ht
    simp only [trOp] at ht
    have hops : ∀ x ∈ c.args.toList, x ∈ o.op.operands := fun x hx => by rw [hop]; simp only [Op.operands, Call.operands]; simp at hx ⊢; exact .inr hx
    unfold trCall at ht
    split at ht
    · rename_i f hcal
      split at ht
      case isFalse => cases ht
      rename_i hb
      simp only [Option.map_eq_some_iff] at ht
      obtain ⟨l, hl, rfl⟩ := ht
      simp only [quietK] at hq
      simp only [ev1, true_or, if_true] at h
      obtain ⟨_, _, h1⟩ := hS _ _ _ _ _ h
      have := h1 hq φ A w _ g (args_rel hl (fun x hx => ho x (hops x hx)))
      refine upon_calls (call_named hop hcal hb) this (fun e w' he => ?_)
      obtain ⟨u, φ', A', rfl, q1, q2⟩ := he
      exact ⟨u, rfl, hn u w' φ' A' q1 q2⟩
    · rename_i t hcal
      simp only [Option.map_eq_some_iff] at ht
      obtain ⟨l, hl, rfl⟩ := ht
      simp only [ev1, true_or, if_true] at h
      split at h
      case h_2 => cases h
      rename_i f caps hz
      simp only [quietK, hz] at hq
      obtain ⟨hb, _, h1⟩ := hS _ _ _ _ _ h
      have ht0 := ho (.tmp t) (by simp [hop, Op.operands, Call.operands, hcal]) (.t t) rfl
      rw [hz] at ht0
      obtain ⟨vs, hvs, hvl, hvr⟩ := ht0.fn'
      have := h1 hq φ A w _ g ((args_rel hl (fun x hx => ho x (hops x hx))).append ⟨hvl, hvr⟩)
      refine upon_calls (call_value hop hcal hvs hb) this (fun e w' he => ?_)
      obtain ⟨u, φ', A', rfl, q1, q2⟩ := he
      exact ⟨u, rfl, hn u w' φ' A' q1 q2⟩
    · split at ht
      · simp only [Option.bind_eq_some_iff] at ht
        obtain ⟨x', hx, ht⟩ := ht
        split at ht <;> first | (cases ht; done) | (cases ht; simp [quietK] at hq)
      · cases ht
    · rename_i hcal
      split at ht
      case h_2 => cases ht
      rename_i s x t u ha hta
      split at ht
      case h_2 => cases ht
      rename_i e d hu hu'
      split at ht
      · cases ht
      rename_i hd
      simp only [Option.bind_eq_some_iff] at ht
      obtain ⟨i, hi, z, hz, ht⟩ := ht
      split at ht
      · cases ht
      rename_i hc
      simp only [not_or, ne_eq, Decidable.not_not] at hc
      simp only [Option.bind_eq_some_iff, Option.map_eq_some_iff] at ht
      obtain ⟨s', hs', x', hx', rfl⟩ := ht
      have hargs : c.args = #[s, x] := by rw [← Array.toArray_toList (xs := c.args), ha]
      have htys : c.argTypes = #[t, u] := by rw [← Array.toArray_toList (xs := c.argTypes), hta]
      simp only [ev1] at h
      simp only [quietK, Bool.not_true, Bool.false_or] at hq
      have hv1 := ho s (hops s (by rw [ha]; simp)) s' hs'
      have hv2 := ho x (hops x (by rw [ha]; simp)) x' hx'
      split at hq
      case h_2 => cases hq
      rename_i hsl
      rw [hsl] at h hv1
      obtain ⟨i2, uz, hi2, hiz, hvz, hnt⟩ := zeroV_sound hz φ H0 A w
      rw [hi] at hi2; cases hi2
      have hzs : uz.cells.size = i.size := by have := (hvz.cells hnt).length; simpa [hc.2.2] using this
      refine turns (append_write g hu hu' (by simpa using hd) hi hiz hzs hc.2.1 o.type hv1 hv2 h) (fun u w' hr => ?_)
      rw [exec_call hop]
      simp [resolve, hcal, hargs, htys, invoke, builtin, hr]
    · rename_i hcal
      split at ht
      case h_2 => cases ht
      rename_i s x t tr ha hta
      split at ht
      case h_2 => cases ht
      rename_i e hu
      simp only [Option.bind_eq_some_iff] at ht
      obtain ⟨k, hk, ht⟩ := ht
      split at ht
      · cases ht
      simp only [Option.bind_eq_some_iff, Option.map_eq_some_iff] at ht
      obtain ⟨s', hs', x', hx', rfl⟩ := ht
      have hargs : c.args = #[s, x] := by rw [← Array.toArray_toList (xs := c.args), ha]
      have htys : c.argTypes[0]? = some t := by rw [← Array.getElem?_toList, hta]; rfl
      simp only [ev1, if_true] at h
      refine turns (turns_copy (tys := c.argTypes) g htys hu hk o.type (ho s (hops s (by rw [ha]; simp)) s' hs') (ho x (hops x (by rw [ha]; simp)) x' hx') h) (fun u w' hr => ?_)
      rw [exec_call hop]
      simp [resolve, hcal, hargs, invoke, builtin, hr]
    · rename_i hcal
      split at ht
      case h_2 => cases ht
      rename_i x t tr ha hta
      split at ht
      case h_2 => cases ht
      rename_i e hu
      simp only [Option.bind_eq_some_iff] at ht
      obtain ⟨k, hk, z, hz, ht⟩ := ht
      split at ht
      · cases ht
      rename_i hc
      simp only [not_or, ne_eq, Decidable.not_not] at hc
      simp only [Option.map_eq_some_iff] at ht
      obtain ⟨x', hx', rfl⟩ := ht
      have hargs : c.args = #[x] := by rw [← Array.toArray_toList (xs := c.args), ha]
      have htys : c.argTypes[0]? = some t := by rw [← Array.getElem?_toList, hta]; rfl
      simp only [ev1, if_true] at h
      refine turns (turns_clr (tys := c.argTypes) g htys hu hz hc.1 hc.2 o.type (ho x (hops x (by rw [ha]; simp)) x' hx') h) (fun u w' hr => ?_)
      rw [exec_call hop]
      simp [resolve, hcal, hargs, invoke, builtin, hr]
    · split at ht
      · simp only [Option.bind_eq_some_iff, Option.map_eq_some_iff] at ht
        obtain ⟨_, _, _, _, rfl⟩ := ht
        simp [quietK] at hq
      · cases ht
    · split at ht
      · simp only [Option.bind_eq_some_iff, Option.map_eq_some_iff] at ht
        obtain ⟨_, _, _, _, rfl⟩ := ht
        simp [quietK] at hq
      · cases ht
    · cases ht
  | _ => exact absurd hq (by rw [quiet_all (by rw [hop]; first | exact qa_alloc | exact qa_box | exact qa_bsl | exact qa_load | exact qa_makeMap | exact qa_makeSlice | exact qa_lookup | exact qa_range | exact qa_still all_move | exact qa_still all_assign | exact qa_still all_pick | exact qa_still all_build | exact qa_still all_nilCheck | exact qa_still all_binOp | exact qa_still all_unOp | exact qa_still all_convert | exact qa_still all_makeFunc | exact qa_still all_slice | exact qa_still all_fieldAddr | exact qa_still all_field | exact qa_still all_indexAddr | exact qa_still all_index | exact qa_still all_extract | rfl) ht]; simp)


def Alt (a b : IOp) : Prop := b = a ∨ (∃ x, a = .box x ∧ b = .boxr x) ∨ ∃ k ag x, a = .load k ag x ∧ b = .loadr k ag x
theorem altO_alt (pr : List Nat) (fz : Bool) (d : Option Nat) (a : IOp) : Alt a (altO pr fz d a) := by
  unfold altO
  split
  · split
    · split
      · exact .inr (.inl ⟨_, rfl, rfl⟩)
      · exact .inl rfl
    · exact .inl rfl
  · split
    · exact .inr (.inr ⟨_, _, _, rfl, rfl⟩)
    · exact .inl rfl
  · exact .inl rfl
theorem trA_some {pr : List Nat} {fz : Bool} {o : Oper} {ts : List V} {H0 : Heap} {wr : Bool} {r : V × Heap} (h : ev1 G S wr ts H0 (trA P pr fz o) = some r) : ∃ iop, trOp P o.op = some iop ∧ Alt iop (trA P pr fz o) := by
  cases ht : trOp P o.op with
  | none => unfold trA trO at h; rw [ht] at h; simp [altO, ev1] at h
  | some x => refine ⟨x, rfl, ?_⟩; have e : trO P o = x := by unfold trO; rw [ht]; rfl
              unfold trA; rw [e]; exact altO_alt ..

def notBox : IOp → Bool
  | .box _ => false
  | _ => true
theorem notBox_all (op : Op) (h : ∀ t x, op ≠ .box t x) : (trOp P op).all notBox = true := by
  cases op with
  | box t x => exact absurd rfl (h _ _)
  | makeFunc f a b => cases f <;> simp only [trOp] <;> repeat' first | rfl | (apply bind_all; intro _) | (apply map_all; intro _) | split
  | makeMap t r => cases r <;> simp only [trOp] <;> repeat' first | rfl | (apply bind_all; intro _) | (apply map_all; intro _) | split
  | next t r => cases r <;> simp only [trOp] <;> repeat' first | rfl | (apply bind_all; intro _) | (apply map_all; intro _) | split
  | call c => simp only [trOp, trCall]; repeat' first | rfl | (apply bind_all; intro _) | (apply map_all; intro _) | split
  | _ => simp only [trOp]; repeat' first | rfl | (apply bind_all; intro _) | (apply map_all; intro _) | split
theorem trOp_box {op : Op} {y : O} (h : trOp P op = some (.box y)) : ∃ t x, op = .box t x ∧ opd x = some y := by
  by_cases hb : ∃ t x, op = .box t x
  · obtain ⟨t, x, rfl⟩ := hb
    simp only [trOp, Option.map_eq_some_iff] at h
    obtain ⟨z, hz, h⟩ := h
    cases h
    exact ⟨t, x, rfl, hz⟩
  · have := notBox_all (P := P) op (fun t x e => hb ⟨t, x, e⟩)
    rw [h] at this
    cases this

theorem Led.froze {φ : Phi} {H : Heap} {A : Nat → Prop} {w : World} (g : Good φ H A w) (o : Obj) (hp : Plain o := by first | (intro c t f h; cases h; rfl) | (intro c t f h; cases h)) : Led φ H A w φ H (fun b => A b ∨ b = w.heap.size) (w.alloc o) := by
  have e : Ext φ A w φ (fun b => A b ∨ b = w.heap.size) (w.alloc o) := ⟨by simp, fun b hb _ => heap_alloc_lt w o hb, fun _ h => .inl h, fun b h => h.elim .inl (fun h => .inr (.inl (by omega))), fun _ h => .inl h, fun r s h => RowHas.same h (fun b hb => heap_alloc_lt w o hb), .alloc w hp⟩
  have k : Keeps φ H φ H := .refl ..
  refine ⟨⟨g.inj, fun i r hi => ?_, fun b hb => ?_⟩, e, k⟩
  · obtain ⟨h1, h2, b, h3, h4⟩ := g.dom i r hi
    exact ⟨by simp; omega, fun h => h.elim h2 (fun h => by omega), b, h3, h4.mono (fun v u h => h.ext g e k) (heap_alloc_lt w o h1)⟩
  · rcases hb with hb | rfl
    · have := g.fresh b hb; simp; omega
    · simp

theorem quiet_alt (hS : CallOK P G S) {o : Oper} {iop0 iop : IOp} (ht : trOp P o.op = some iop0) (ha : Alt iop0 iop) {ts : List V} {H0 H1 : Heap} {v : V} {wr : Bool} (h : ev1 G S wr ts H0 iop = some (v, H1)) (hq : quietK G ts wr iop = true) :
    (H1 = H0 ∨ ∃ b, H1 = H0 ++ [b]) ∧ ∀ φ Hb A w (a : Act), Good φ Hb A w → Sub H1 Hb → (∀ j, H0.length ≤ j → j < H1.length → φ j = none) → (∀ x ∈ o.op.operands, OR φ Hb A w ts a.eval x) → ∀ next Q,
      (∀ u w' φ' A', VR φ' Hb A' w' v u → Led φ Hb A w φ' Hb A' w' → (∀ i, φ' i ≠ φ i → H0.length ≤ i ∧ i < H1.length) → next (a.put o.dst u) w') → o.wp P a w next Q := by
  rcases ha with rfl | ⟨y, rfl, rfl⟩ | ⟨k, ag, y, rfl, rfl⟩
  · exact quiet_op hS ht h hq
  · simp only [ev1] at h
    split at h
    case isFalse => cases h
    rename_i hc
    simp only [Option.some.injEq, Prod.mk.injEq] at h
    obtain ⟨rfl, rfl⟩ := h
    refine ⟨.inl rfl, fun φ Hb A w a g hs hf ho next Q hn => ?_⟩
    obtain ⟨t, x, hop, hx⟩ := trOp_box ht
    have hv := ho x (by rw [hop]; simp [Op.operands]) y hx
    have hcl := hv.cells hc.1
    have hlen := hcl.length
    have hl := Led.froze g (.cells (a.eval x).cells t)
    refine wp_of_run (u := .pointer (some ⟨w.heap.size, 0, none⟩)) (w' := w.alloc (.cells (a.eval x).cells t)) ?_ (hn _ _ φ _ (.rr (.rptr (fun i => (a.eval x).cells.toList.getD i undef) (.inr rfl) rfl (fun i hi => ?_) (fun i hi => (hcl.index i hi).2) (fun i hi => ?_))) hl (fun _ h => absurd rfl h))
    · unfold execOp; rw [hop]; exact val_run (by simp [Instr.box, newVar, newRow])
    · have hh : (w.alloc (.cells (a.eval x).cells t)).heap[w.heap.size]? = some (.cells (a.eval x).cells t (0, 0)) := heap_alloc_self w _
      rw [Nat.zero_add, cell_row hh]
      have : i < (a.eval x).cells.size := by simpa [hi] using (show i < (a.eval x).cells.toList.length by omega)
      simp [List.getD, this]
    · exact (closed_rr (hcl.index i hi).1 (closed_list hc.2 i hi)).mono (fun _ h => .inl h) (fun b hb => heap_alloc_lt w _ (g.fresh b hb))
  · simp only [ev1] at h
    obtain ⟨hv, rfl⟩ := ret1_eq h
    have h' : ev1 G S wr ts [] (.load k ag y) = some (v, []) := by
      simp only [ev1]
      have : rd [] (look ts y) k = rdr (look ts y) k ∨ rdr (look ts y) k = none := by
        cases look ts y <;> simp [rd, rdr]
      rcases this with e | e
      · rw [e, hv]; rfl
      · rw [e] at hv; cases hv
    obtain ⟨_, hw⟩ := quiet_op hS ht h' (by simp [quietK])
    refine ⟨.inl rfl, fun φ Hb A w a g hs hf ho next Q hn => hw φ Hb A w a g (fun i b hb => by simp at hb) (fun j _ hj => by simp at hj) ho next Q (fun u w' φ' A' q1 q2 q3 => hn u w' φ' A' q1 q2 (fun i hi => ?_))⟩
    have := (q3 i hi).2
    simp at this

theorem still_any {iop : IOp} {ts : List V} {H0 H1 : Heap} {v : V} {wr : Bool} (hst : still iop = true) (h : ev1 G S wr ts H0 iop = some (v, H1)) (H : Heap) : ev1 G S wr ts H iop = some (v, H) := by
  have r : ∀ {x : Option V}, ret1 H0 x = some (v, H1) → ret1 H x = some (v, H) := fun hx => by rw [(ret1_eq hx).1]; rfl
  cases iop <;> first
    | (simp [still] at hst; done)
    | exact r h
    | (simp only [ev1, Option.some.injEq, Prod.mk.injEq] at h ⊢; exact ⟨h.1, trivial⟩)
    | (simp only [ev1] at h ⊢
       split at h <;> first
         | (cases h; done)
         | (simp only [Option.some.injEq, Prod.mk.injEq] at h ⊢; exact ⟨h.1, trivial⟩)
         | (simp only [Option.map_eq_some_iff, Prod.mk.injEq] at h ⊢; obtain ⟨z, h1, h2, _⟩ := h; exact ⟨z, h1, h2, trivial⟩)
         | (rename_i hz; rw [hz]; simp only [Option.some.injEq, Prod.mk.injEq] at h ⊢; exact ⟨h.1, trivial⟩)
         | (rename_i hz; rw [hz]; simp only [Option.map_eq_some_iff, Prod.mk.injEq] at h ⊢; obtain ⟨z, h1, h2, _⟩ := h; exact ⟨z, h1, h2, trivial⟩))

theorem quietK_still {iop : IOp} {ts : List V} {wr : Bool} (hst : still iop = true) : quietK G ts wr iop = true := by cases iop <;> first | rfl | (simp [still] at hst; done)

theorem still_alt (hS : CallOK P G S) {o : Oper} {iop0 iop : IOp} (ht : trOp P o.op = some iop0) (ha : Alt iop0 iop) (hst : still iop = true) {ts : List V} {H0 H1 : Heap} {v : V} {wr : Bool} (h : ev1 G S wr ts H0 iop = some (v, H1))
    {φ : Phi} {Hb : Heap} {A : Nat → Prop} {w : World} {a : Act} (g : Good φ Hb A w) (ho : ∀ x ∈ o.op.operands, OR φ Hb A w ts a.eval x) {next : Act → World → Prop} {Q : Exit → Act → World → Prop}
    (hn : ∀ u w' φ' A', VR φ' Hb A' w' v u → Led φ Hb A w φ' Hb A' w' → (∀ i, φ' i = φ i) → next (a.put o.dst u) w') : o.wp P a w next Q :=
  (quiet_alt hS ht ha (still_any hst h []) (quietK_still hst)).2 φ Hb A w a g (fun i b hb => by simp at hb) (fun j _ hj => by simp at hj) ho next Q (fun u w' φ' A' q1 q2 q3 => hn u w' φ' A' q1 q2 (fun i => by
    by_cases he : φ' i = φ i
    · exact he
    · have := (q3 i he).2; simp at this))

theorem seq_op (hS : CallOK P G S) {o : Oper} {iop0 iop : IOp} (ht : trOp P o.op = some iop0) (ha : Alt iop0 iop) {ts : List V} {H0 H1 : Heap} {v : V} (h : ev1 G S true ts H0 iop = some (v, H1))
    {φ : Phi} {A : Nat → Prop} {w : World} {a : Act} (g : Good φ H0 A w) (ho : ∀ x ∈ o.op.operands, OR φ H0 A w ts a.eval x) {next : Act → World → Prop} {Q : Exit → Act → World → Prop}
    (hn : ∀ u w' φ' A', VR φ' H1 A' w' v u → Led φ H0 A w φ' H1 A' w' → next (a.put o.dst u) w') : o.wp P a w next Q := by
  cases hq : quietK G ts true iop with
  | false =>
    rcases ha with rfl | ⟨y, rfl, rfl⟩ | ⟨k, ag, y, rfl, rfl⟩
    · exact write_op hS ht h hq g ho hn
    · simp [quietK] at hq
    · simp [quietK] at hq
  | true =>
    obtain ⟨hH, hw⟩ := quiet_alt hS ht ha h hq
    have hled : Led φ H0 A w φ H1 A w := by
      rcases hH with rfl | ⟨b, rfl⟩
      · exact .refl g
      · exact .grow g [b]
    refine hw φ H1 A w a hled.good (Sub.refl _) (fun j hj _ => ?_) (fun x hx o' ho' => hled.vr g (ho x hx o' ho')) next Q (fun u w' φ' A' q1 q2 _ => hn u w' φ' A' q1 (hled.trans q2))
    cases hφ : φ j with
    | none => rfl
    | some r => have := g.lt hφ; omega
end
end Go.Eng
