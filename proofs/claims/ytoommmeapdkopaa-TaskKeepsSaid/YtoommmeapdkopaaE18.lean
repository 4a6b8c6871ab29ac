/-
  ENGINE, part 18: regions in the order of the text; the code's other forms.
-/
import Derived.Test.YtoommmeapdkopaaE17
import Derived.LoopN
import Derived.Tactics
namespace Go.Eng

section
variable {P : Program} {G : Prog} {S : Self}

def SR (φ : Phi) (H : Heap) (A : Nat → Prop) (w : World) (ts : List V) (a : Act) : Prop := a.defers = [] ∧ TR φ H A w ts a.tmps

theorem put_defers (a : Act) (d : Option Tmp) (u : Value) : (a.put d u).defers = a.defers := by cases d <;> rfl
theorem getD_set (us : Array Value) (d : Nat) (u : Value) (i : Nat) : (us.setIfInBounds d u).getD i undef = if i = d ∧ d < us.size then u else us.getD i undef := by
  by_cases h : i = d
  · subst h
    by_cases hd : i < us.size
    · simp [Array.getD, hd]
    · simp [Array.getD, hd]
  · simp only [h, false_and, if_false]
    simp only [Array.getD, Array.size_setIfInBounds]
    split
    · rw [Array.getInternal_eq_getElem, Array.getInternal_eq_getElem, Array.getElem_setIfInBounds_ne]
      exact fun e => h e.symm
    · rfl
theorem getD_lset (ts : List V) (d : Nat) (v : V) (i : Nat) : (ts.set d v).getD i undefV = if i = d ∧ d < ts.length then v else ts.getD i undefV := by
  by_cases h : i = d
  · subst h
    by_cases hd : i < ts.length
    · simp [List.getD, hd]
    · simp only [hd, and_false, if_false]; rw [List.set_eq_of_length_le (by omega)]
  · simp only [h, false_and, if_false]
    simp only [List.getD, List.getElem?_set_ne (fun e => h e.symm)]

section
variable {φ : Phi} {H : Heap} {A : Nat → Prop} {w : World}
theorem TR.put {ts : List V} {us : Array Value} (h : TR φ H A w ts us) (d : Nat) {v : V} {u : Value} (hv : VR φ H A w v u) : TR φ H A w (ts.set d v) (us.setIfInBounds d u) := by
  refine ⟨by simp [h.1], fun i => ?_⟩
  rw [getD_set, getD_lset, h.1]
  split
  · exact hv
  · exact h.2 i
theorem SR.put {ts : List V} {a : Act} (h : SR φ H A w ts a) (d : Option Tmp) {v : V} {u : Value} (hv : VR φ H A w v u) : SR φ H A w (putT ts d v) (a.put d u) := by
  refine ⟨(put_defers a d u).trans h.1, ?_⟩
  cases d with
  | none => exact h.2
  | some d => exact h.2.put d hv
theorem SR.led {φ' H' A' w'} {ts : List V} {a : Act} (h : SR φ H A w ts a) (g : Good φ H A w) (l : Led φ H A w φ' H' A' w') : SR φ' H' A' w' ts a := ⟨h.1, h.2.1, fun i => l.vr g (h.2.2 i)⟩
theorem SR.opd {ts : List V} {a : Act} (h : SR φ H A w ts a) (x : Operand) : OR φ H A w ts a.eval x := .of_slot fun t _ => h.2.2 t

theorem wanted_rel {ops : Array Oper} (hg : guardsOk ops = true) {o : Oper} (ho : o ∈ ops.toList) {ts : List V} {tmps : Array Value} {b : Bool} (h : runs ts (trG ops o) = some b)
    (hv : ∀ j wnt t, o.guard = some (j, wnt) → (ops[j]?).bind (·.dst) = some t → VR φ H A w (ts.getD t undefV) (tmps.getD t undef)) : Region.wanted o (yielded ops tmps) = b := by
  unfold Region.wanted
  unfold trG runs at h
  cases hgd : o.guard with
  | none => rw [hgd] at h; simp at h; rw [← h]
  | some p =>
    obtain ⟨j, wnt⟩ := p
    rw [hgd] at h
    unfold guardsOk at hg
    rw [List.all_eq_true] at hg
    have hg' := hg o ho
    rw [hgd] at hg'
    simp only [Option.isSome_iff_exists] at hg'
    obtain ⟨t, ht⟩ := hg'
    have hv' := hv j wnt t hgd ht
    simp only [Option.map_some, ht, Option.getD_some] at h
    simp only [yielded, ht, Option.bind_some]
    have hget : ∀ u : Value, tmps.getD t undef = u → u ≠ undef → tmps[t]? = some u := by
      intro u hu hne
      simp only [Array.getD] at hu
      split at hu
      · rename_i hlt; rw [Array.getElem?_eq_getElem hlt, ← hu]; rfl
      · exact absurd hu.symm hne
    split at h
    · rename_i b' hb
      rw [hb] at hv'
      have := hget _ hv'.bool' (by intro e; cases e)
      rw [this]
      simp only [Option.some.injEq] at h
      subst h
      cases b' <;> cases wnt <;> rfl
    · rename_i hb
      rw [hb] at hv'
      obtain ⟨vs, hu, _⟩ := hv'.tup'
      simp only [Option.some.injEq] at h
      subst h
      have : ∀ z : Bool, tmps[t]? ≠ some (.bool z) := fun z hz => by
        have : tmps.getD t undef = .bool z := by simp only [Array.getD_eq_getD_getElem?, hz, Option.getD_some]
        rw [this] at hu; cases hu
      cases hq : tmps[t]? with
      | none => rfl
      | some y => cases y <;> first | rfl | exact absurd hq (this _)
    · cases h
end

theorem seq_region (hS : CallOK P G S) {pr : List Nat} {ops : Array Oper} (hg : guardsOk ops = true) : ∀ (l : List Oper), (∀ o ∈ l, o ∈ ops.toList) → ∀ (ts : List V) (H : Heap) (r : List V × Heap), evOps G S (l.map (trOper P pr ops false true)) ts H = some r →
    ∀ (φ : Phi) (A : Nat → Prop) (w : World) (a : Act), Good φ H A w → SR φ H A w ts a → ∀ Q : Exit → Act → World → Prop, (∀ a' w' φ' A', Led φ H A w φ' r.2 A' w' → SR φ' r.2 A' w' r.1 a' → Q .normal a' w') → wpList P ops Q l a w
  | [], _, ts, H, r, h, φ, A, w, a, g, hs, Q, hQ => by
    simp only [List.map_nil, evOps, Option.some.injEq] at h
    subst h
    exact hQ a w φ A (.refl g) hs
  | o :: l, hl, ts, H, r, h, φ, A, w, a, g, hs, Q, hQ => by
    simp only [List.map_cons, evOps, Option.bind_eq_some_iff] at h
    obtain ⟨go, hgo, h⟩ := h
    have hw := wanted_rel (φ := φ) (H := H) (A := A) (w := w) (tmps := a.tmps) hg (hl o (by simp)) hgo (fun _ _ t _ _ => hs.2.2 t)
    unfold wpList
    rw [hw]
    cases go with
    | true =>
      simp only [if_true, Option.bind_eq_some_iff] at h ⊢
      obtain ⟨⟨v, H1⟩, h1, h2⟩ := h
      obtain ⟨_, ht, ha⟩ := trA_some h1
      refine .inl (seq_op hS ht ha h1 g (fun x _ => hs.opd x) (fun u w' φ' A' q1 q2 => ?_))
      exact seq_region hS hg l (fun o ho => hl o (by simp [ho])) _ _ _ h2 φ' A' w' _ q2.good ((hs.led g q2).put o.dst q1) Q (fun a' w'' φ'' A'' l1 l2 => hQ a' w'' φ'' A'' (q2.trans l1) l2)
    | false =>
      simp only [Bool.false_eq_true, if_false] at h ⊢
      exact seq_region hS hg l (fun o ho => hl o (by simp [ho])) _ _ _ h φ A w _ g (hs.put o.dst .undef) Q hQ

def exOf : X → Exit
  | .n => .normal
  | .e id => .exit id
  | .r => .ret

def Post (φ : Phi) (H : Heap) (A : Nat → Prop) (w : World) (r : X × List V × Heap) (e : Exit) (a' : Act) (w' : World) : Prop :=
  e = exOf r.1 ∧ ∃ φ' A', Led φ H A w φ' r.2.2 A' w' ∧ SR φ' r.2.2 A' w' r.2.1 a'

def DrawOK (P : Program) (G : Prog) (S : Self) : Prop := ∀ (pr : List Nat) (ops : Array Oper) (id : Nat), guardsOk ops = true → openOk ops (Region.before ops) = true → ∀ (ts : List V) (H : Heap) (r : List V × Heap),
  evOps G S (ops.toList.zipIdx.map fun p => trOper P pr ops (frozen ops (Region.before ops) p.2) (mayWrite P pr ops (Region.before ops) p.2) p.1) ts H = some r →
  ∀ (φ : Phi) (A : Nat → Prop) (w : World) (a : Act), Good φ H A w → SR φ H A w ts a → (Code.region id ops true).wp P (Post φ H A w (.n, r.1, r.2)) a w

def AgainOK (P : Program) (S : Self) : Prop := ∀ (pr : List Nat) (c : Code) (ts : List V) (H : Heap) (r : X × List V × Heap), S.again (trCode P pr c) ts H = some r →
  ∃ n, ∀ (φ : Phi) (A : Nat → Prop) (w : World) (a : Act), Good φ H A w → SR φ H A w ts a → Code.rounds P c (Post φ H A w r) n a w

theorem Post.led {φ H A w φ' H' A' w'} {r : X × List V × Heap} {e : Exit} {a : Act} {w'' : World} (l : Led φ H A w φ' H' A' w') (h : Post φ' H' A' w' r e a w'') : Post φ H A w r e a w'' := by
  obtain ⟨he, φ'', A'', l', s⟩ := h
  exact ⟨he, φ'', A'', l.trans l', s⟩

theorem loop_ok (hA : AgainOK P S) {pr : List Nat} {c : Code} (hc : ∀ (ts : List V) (H : Heap) (r : X × List V × Heap), exec G S (trCode P pr c) ts H = some r → ∀ (φ : Phi) (A : Nat → Prop) (w : World) (a : Act), Good φ H A w → SR φ H A w ts a → c.wp P (Post φ H A w r) a w)
    {ts : List V} {H : Heap} {r : X × List V × Heap} (h : exec G S (.loop (trCode P pr c)) ts H = some r) :
    ∃ n, ∀ (φ : Phi) (A : Nat → Prop) (w : World) (a : Act), Good φ H A w → SR φ H A w ts a → Code.rounds P c (Post φ H A w r) n a w := by
  simp only [exec, Option.bind_eq_some_iff] at h
  obtain ⟨⟨x, ts1, H1⟩, h1, h2⟩ := h
  cases x with
  | n =>
    obtain ⟨n, hn⟩ := hA _ _ _ _ _ h2
    refine ⟨n + 1, fun φ A w a g hs => ?_⟩
    refine wp_mono (hc _ _ _ h1 φ A w a g hs) (fun e a' w' he => ?_)
    obtain ⟨rfl, φ', A', l, s⟩ := he
    have := hn φ' A' w' a' l.good s
    refine rounds_mono (fun e a w he => he.led l) n a' w' this
  | e id =>
    simp only [Option.some.injEq] at h2
    subst h2
    refine ⟨1, fun φ A w a g hs => wp_mono (hc _ _ _ h1 φ A w a g hs) (fun e a' w' he => ?_)⟩
    obtain ⟨rfl, h⟩ := he
    exact ⟨rfl, h⟩
  | r =>
    simp only [Option.some.injEq] at h2
    subst h2
    refine ⟨1, fun φ A w a g hs => wp_mono (hc _ _ _ h1 φ A w a g hs) (fun e a' w' he => ?_)⟩
    obtain ⟨rfl, h⟩ := he
    exact ⟨rfl, h⟩
where
  rounds_mono {c : Code} {Q Q' : Exit → Act → World → Prop} (hq : ∀ e a w, Q e a w → Q' e a w) : ∀ n a w, Code.rounds P c Q n a w → Code.rounds P c Q' n a w
    | 0, _, _, h => h
    | n + 1, a, w, h => wp_mono h (fun e a w he => by
        cases e with
        | normal => exact rounds_mono hq n a w he
        | _ => exact hq _ _ _ he)

theorem Led.freeze {φ : Phi} {H : Heap} {A : Nat → Prop} {w : World} (g : Good φ H A w) {id r : Nat} (hi : φ id = some r) : Led φ H A w (kil φ id) (H.set id .dead) (fun b => A b ∨ b = r) w := by
  have hlt := g.lt hi
  have hk : ∀ i q, kil φ id i = some q → i ≠ id ∧ φ i = some q := fun i q h => by
    by_cases he : i = id
    · rw [he, kil_self] at h; cases h
    · exact ⟨he, by rw [kil_other he] at h; exact h⟩
  have e : Ext φ A w (kil φ id) (fun b => A b ∨ b = r) w := ⟨Nat.le_refl _, fun _ _ _ => rfl, fun _ h => .inl h, fun b h => h.elim .inl (fun h => .inr (.inr ⟨id, h ▸ hi⟩)), fun b ⟨i, h⟩ => .inl ⟨i, (hk i b h).2⟩, fun _ _ h => h, .refl w⟩
  have k : Keeps φ H (kil φ id) (H.set id .dead) := ⟨fun i q h => by
      by_cases he : i = id
      · subst he; exact .inr (List.getElem?_set_self hlt)
      · exact .inl (by rw [kil_other he]; exact h),
    fun i h => by
      by_cases he : id = i
      · subst he; exact List.getElem?_set_self hlt
      · rw [List.getElem?_set_ne he]; exact h⟩
  refine ⟨⟨fun i j q h1 h2 => g.inj i j q (hk i q h1).2 (hk j q h2).2, fun i q h => ?_, fun b hb => hb.elim (g.fresh b) (fun hb => hb ▸ (g.dom id r hi).1)⟩, e, k⟩
  obtain ⟨he, hq⟩ := hk i q h
  obtain ⟨h1, h2, c, h3, h4⟩ := g.dom i q hq
  exact ⟨h1, fun h => h.elim h2 (fun h => he (g.inj i id r (h ▸ hq) hi)), c, by rw [List.getElem?_set_ne (fun h => he h.symm)]; exact h3, h4.mono (fun v u h => h.ext g e k) rfl⟩

theorem frz_post {φ : Phi} {H : Heap} {A : Nat → Prop} {w : World} {ts1 : List V} {H1 : Heap} {d : Nat} {v : V} {H2 : Heap} {e : Exit} {a' : Act} {w' : World} (hf : frzV H1 (ts1.getD d undefV) = some (v, H2)) (h : Post φ H A w (.n, ts1, H1) e a' w') : Post φ H A w (.n, ts1.set d v, H2) e a' w' := by
  obtain ⟨he, φ', A', l, s⟩ := h
  unfold frzV at hf
  split at hf
  case h_2 => cases hf
  rename_i id hp
  split at hf
  case h_2 => cases hf
  rename_i cs hb
  split at hf
  case isFalse => cases hf
  rename_i hc
  cases hf
  simp only at l s
  have hv := s.2.2 d
  rw [hp] at hv
  obtain ⟨r, hr⟩ : ∃ r, φ' id = some r ∧ a'.tmps.getD d undef = .pointer (some ⟨r, 0, none⟩) := by
    generalize a'.tmps.getD d undef = u at hv ⊢
    cases hv with
    | rr h => cases h
    | ptr h => exact ⟨_, h, rfl⟩
    | pdead a hd => rw [hb] at hd; cases hd
  have lf := Led.freeze l.good hr.1
  have s' : SR (kil φ' id) (H1.set id .dead) (fun b => A' b ∨ b = r) w' (ts1.set d (.rptr cs)) a' := by
    have s1 := s.led l.good lf
    refine ⟨s1.1, by simpa using s1.2.1, fun i => ?_⟩
    rw [getD_lset]
    split
    · rename_i hi
      obtain ⟨rfl, _⟩ := hi
      rw [hr.2]
      obtain ⟨_, _, b, hb', hbr⟩ := l.good.dom id r hr.1
      rw [hb] at hb'
      cases hb'
      obtain ⟨arr, elem, h1, h2, h3⟩ := hbr
      refine .rr (.rptr (fun i => arr.getD i undef) (.inr rfl) rfl (fun i hi => ?_) (fun i hi => (h3 i hi).2) (fun i hi => ?_))
      · have : i < arr.size := by omega
        simp only [World.cell?, h1, Nat.zero_add]
        simp [this]
      · exact (closed_rr (h3 i hi).1 (closed_list hc i hi)).mono (fun b hb => .inl hb) (fun _ _ => rfl)
    · exact s1.2.2 i
  exact ⟨he, _, _, l.trans lf, s'⟩

theorem frzs_ok {ts : List V} {H : Heap} {c : IC} {Wp : X × List V × Heap → Prop} {φ : Phi} {H0 : Heap} {A : Nat → Prop} {w : World} (hm : ∀ r r', r.1 = X.n → (∀ e a' w', Post φ H0 A w r e a' w' → Post φ H0 A w r' e a' w') → Wp r → Wp r') (hc : ∀ r, exec G S c ts H = some r → r.1 = .n ∧ Wp r) :
    ∀ (l : List Nat) (r : X × List V × Heap), exec G S (frzs l c) ts H = some r → r.1 = .n ∧ Wp r
  | [], r, h => hc r h
  | d :: l, r, h => by
    simp only [frzs, exec, Option.bind_eq_some_iff] at h
    obtain ⟨⟨x, ts1, H1⟩, h1, h2⟩ := h
    obtain ⟨hx, hw⟩ := frzs_ok hm hc l _ h1
    simp only at hx
    subst hx
    simp only [Option.map_eq_some_iff] at h2
    obtain ⟨⟨v, H2⟩, hf, rfl⟩ := h2
    exact ⟨rfl, hm _ _ rfl (fun e a' w' he => frz_post hf he) hw⟩

theorem code_ok (hS : CallOK P G S) (hA : AgainOK P S) (hD : DrawOK P G S) (pr : List Nat) : ∀ (c : Code) (ts : List V) (H : Heap) (r : X × List V × Heap), exec G S (trCode P pr c) ts H = some r →
    ∀ (φ : Phi) (A : Nat → Prop) (w : World) (a : Act), Good φ H A w → SR φ H A w ts a → c.wp P (Post φ H A w r) a w := by
  intro c
  induction c with
  | skip => intro ts H r h φ A w a g hs; simp only [trCode, exec, Option.some.injEq] at h; subst h; exact wp_skip ⟨rfl, φ, A, .refl g, hs⟩
  | label l => intro ts H r h φ A w a g hs; simp only [trCode, exec, Option.some.injEq] at h; subst h; exact wp_label ⟨rfl, φ, A, .refl g, hs⟩
  | region id ops draw =>
    intro ts H r h φ A w a g hs
    simp only [trCode] at h
    split at h
    · simp only [exec] at h; cases h
    rename_i hg
    simp only [Bool.not_eq_true', Bool.not_eq_false] at hg
    cases draw with
    | true =>
      simp only [if_true] at h
      split at h
      case isFalse => simp only [exec] at h; cases h
      rename_i ho
      simp only [exec, Option.map_eq_some_iff] at h
      obtain ⟨r', h, rfl⟩ := h
      exact hD pr ops id hg ho ts H r' h φ A w a g hs
    | false =>
      simp only [Bool.false_eq_true, if_false] at h
      refine (frzs_ok (φ := φ) (H0 := H) (A := A) (w := w) (Wp := fun r => (Code.region id ops false).wp P (Post φ H A w r) a w) (fun r r' hn hr hw => ?_) (fun r' h => ?_) _ _ h).2
      · exact wp_mono hw (fun e a' w' he => hr e a' w' he)
      · simp only [exec, Option.map_eq_some_iff] at h
        obtain ⟨r'', h, rfl⟩ := h
        exact ⟨rfl, wp_region_list (seq_region hS hg _ (fun _ h => h) _ _ _ h φ A w a g hs _ (fun a' w' φ' A' l s => ⟨rfl, φ', A', l, s⟩))⟩
  | seq x y ihx ihy =>
    intro ts H r h φ A w a g hs
    simp only [trCode, exec, Option.bind_eq_some_iff] at h
    obtain ⟨⟨x1, ts1, H1⟩, h1, h2⟩ := h
    refine wp_seq (wp_mono (ihx _ _ _ h1 φ A w a g hs) (fun e a' w' he => ?_))
    obtain ⟨rfl, φ', A', l, s⟩ := he
    cases x1 with
    | n => exact wp_mono (ihy _ _ _ h2 φ' A' w' a' l.good s) (fun e a'' w'' he => he.led l)
    | e id => simp only [Option.some.injEq] at h2; subst h2; exact ⟨rfl, φ', A', l, s⟩
    | r => simp only [Option.some.injEq] at h2; subst h2; exact ⟨rfl, φ', A', l, s⟩
  | cond cnd x y ihx ihy =>
    intro ts H r h φ A w a g hs
    simp only [trCode] at h
    split at h
    case h_2 => simp only [exec] at h; cases h
    rename_i o ho
    simp only [exec] at h
    split at h
    case h_2 => cases h
    rename_i t hz
    have hc := hs.opd cnd o ho
    rw [hz] at hc
    refine wp_cond hc.bool' ?_
    cases t with
    | true => simp only [if_true] at h ⊢; exact ihx _ _ _ h φ A w a g hs
    | false => simp only [Bool.false_eq_true, if_false] at h ⊢; exact ihy _ _ _ h φ A w a g hs
  | block id c ih =>
    intro ts H r h φ A w a g hs
    simp only [trCode, exec, Option.map_eq_some_iff] at h
    obtain ⟨⟨x1, ts1, H1⟩, h1, rfl⟩ := h
    refine wp_block (wp_mono (ih _ _ _ h1 φ A w a g hs) (fun e a' w' he => ?_))
    obtain ⟨rfl, h⟩ := he
    cases x1 with
    | n => exact ⟨rfl, h⟩
    | r => exact ⟨rfl, h⟩
    | e id' =>
      simp only [exOf, Exit.inBlock]
      split
      · exact ⟨rfl, h⟩
      · exact ⟨rfl, h⟩
  | loop c ih =>
    intro ts H r h φ A w a g hs
    simp only [trCode] at h
    obtain ⟨n, hn⟩ := loop_ok hA ih h
    exact wp_loop_rounds n (hn φ A w a g hs)
  | exit id => intro ts H r h φ A w a g hs; simp only [trCode, exec, Option.some.injEq] at h; subst h; exact wp_exit ⟨rfl, φ, A, .refl g, hs⟩
  | ret => intro ts H r h φ A w a g hs; simp only [trCode, exec, Option.some.injEq] at h; subst h; exact wp_ret ⟨rfl, φ, A, .refl g, hs⟩
  | _ => intro ts H r h; simp only [trCode, exec] at h; cases h
end
end Go.Eng
