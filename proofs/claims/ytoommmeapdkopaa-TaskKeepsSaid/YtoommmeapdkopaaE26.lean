/-
  ENGINE, part 26: loops by an invariant whose number grows up to a bound; where continuations go on.
-/
import Derived.Test.YtoommmeapdkopaaE25
namespace Go.Eng

section
variable {G : Prog} {id id' : Nat} {b : IC} {Q : Cont} {ts : List V} {H : Heap}
@[simp] theorem seqQ_n : seqQ G b Q .n ts H = wp G b ts H Q := nrfl
@[simp] theorem seqQ_e : seqQ G b Q (.e id) ts H = Q (.e id) ts H := nrfl
@[simp] theorem seqQ_r : seqQ G b Q .r ts H = Q .r ts H := nrfl
@[simp] theorem blockQ_n : blockQ id Q .n ts H = Q .n ts H := nrfl
@[simp] theorem blockQ_r : blockQ id Q .r ts H = Q .r ts H := nrfl
@[simp] theorem blockQ_e : blockQ id Q (.e id') ts H = if id' = id then Q .n ts H else Q (.e id') ts H := nrfl

def upQ (M : Nat) (S : Nat → List V → Heap → Prop) (i : Nat) (Q : Cont) : Cont := fun x ts H => match x with
  | .n => ∃ j, i < j ∧ j ≤ M ∧ S j ts H
  | x => Q x ts H
@[simp] theorem upQ_n {M : Nat} {S : Nat → List V → Heap → Prop} {i : Nat} : upQ M S i Q .n ts H = ∃ j, i < j ∧ j ≤ M ∧ S j ts H := nrfl
@[simp] theorem upQ_e {M : Nat} {S : Nat → List V → Heap → Prop} {i : Nat} : upQ M S i Q (.e id) ts H = Q (.e id) ts H := nrfl
@[simp] theorem upQ_r {M : Nat} {S : Nat → List V → Heap → Prop} {i : Nat} : upQ M S i Q .r ts H = Q .r ts H := nrfl

theorem Lp.up {M : Nat} {S : Nat → List V → Heap → Prop} (step : ∀ i ts H, i ≤ M → S i ts H → wp G b ts H (upQ M S i Q)) : ∀ d i ts H, M - i = d → i ≤ M → S i ts H → Lp G b ts H Q := by
  intro d
  induction d using Nat.strongRecOn with
  | ind d ih =>
    intro i ts H hd hi hS
    obtain ⟨n, x, ts1, H1, h1, h2⟩ := wp_sound (step i ts H hi hS)
    cases x with
    | n =>
      obtain ⟨j, hj, hM, h2⟩ := h2
      obtain ⟨m, x, ts2, H2, h3, h4⟩ := ih (M - j) (by omega) j ts1 H1 rfl hM h2
      refine ⟨max n (m + 1), x, ts2, H2, ?_, h4⟩
      simp only [exec, exec_mono (evN_le (Nat.le_max_left n (m + 1))) h1, Option.bind_some]
      exact (evN_le (Nat.le_max_right n (m + 1))).2 b ts1 H1 _ h3
    | e id => exact ⟨n, _, _, _, by simp only [exec, h1, Option.bind_some], h2⟩
    | r => exact ⟨n, _, _, _, by simp only [exec, h1, Option.bind_some], h2⟩
end

def tabF (ts : List V) : Nat → Nat → List V
  | _, 0 => []
  | a, k + 1 => ts.getD a undefV :: tabF ts (a + 1) k
theorem tabF_drop (ts : List V) : ∀ k a, a + k = ts.length → ts.drop a = tabF ts a k
  | 0, a, h => by simp [tabF]; omega
  | k + 1, a, h => by
    have ha : a < ts.length := by omega
    rw [List.drop_eq_getElem_cons ha, tabF, tabF_drop ts k (a + 1) (by omega)]
    simp [List.getD_eq_getElem?_getD, ha]
theorem tabF_eq {ts : List V} {n : Nat} (h : ts.length = n) : ts = tabF ts 0 n := by
  have := tabF_drop ts n 0 (by omega)
  simpa using this

@[congr] theorem bd_congr {α : Type} {o o' : Option α} {k : α → Prop} (h : o = o') : bd o k = bd o' k := by rw [h]
@[congr] theorem bd2_congr {o o' : Option (V × Heap)} {k : V → Heap → Prop} (h : o = o') : bd2 o k = bd2 o' k := by rw [h]
@[congr] theorem ifB_congr {v v' : V} {p q : Prop} (h : v = v') : ifB v p q = ifB v' p q := by rw [h]
@[congr] theorem wpg_congr {o o' : Option Bool} {H : Heap} {m : (V → Heap → Prop) → Prop} {k : V → Heap → Prop} (h : o = o') : wpg o H m k = wpg o' H m k := by rw [h]
@[congr] theorem Cl_congr {G : Prog} {f : FuncId} {as as' : List V} {H : Heap} {k : V → Heap → Prop} (h : as = as') : Cl G f as H k = Cl G f as' H k := by rw [h]
@[congr] theorem Lp_congr {G : Prog} {b : IC} {ts : List V} {H : Heap} {Q : Cont} : Lp G b ts H Q = Lp G b ts H Q := rfl
@[congr] theorem wp_congr {G : Prog} {b : IC} {ts : List V} {H : Heap} {Q : Cont} : wp G b ts H Q = wp G b ts H Q := rfl

def hq (m : Nat) (H : Heap) (k : V → Heap → Prop) : V → Heap → Prop := fun v H1 => bd2 (handV m H1 v H) k
section
variable {H H1 : Heap} {k : V → Heap → Prop}
@[simp] theorem hq_bool {b : Bool} : hq 1 H k (.bool b) H1 = k (.bool b) H := nrfl
@[simp] theorem hq_int {κ : IntKind} {n : Int} : hq 1 H k (.int κ n) H1 = k (.int κ n) H := nrfl
@[simp] theorem hq_str {s : List UInt8} : hq 1 H k (.str s) H1 = k (.str s) H := nrfl
@[simp] theorem hq_tup0 : hq 1 H k (.tup []) H1 = k (.tup []) H := nrfl
@[simp] theorem hq_nils : hq 1 H k .nils H1 = k .nils H := nrfl
@[simp] theorem hq_z0 : hq 1 H k .z0 H1 = k .z0 H := nrfl
@[simp] theorem hq_e0 : hq 1 H k .e0 H1 = k .e0 H := nrfl
end
theorem hq_some {H H1 : Heap} {k : V → Heap → Prop} {v v' : V} (h : closeV H1 closeDepth v = some v') (hk : k v' H) : hq 1 H k v H1 := by
  unfold hq handV
  rw [if_pos rfl, h]
  exact hk
theorem Cl.mode1 {G : Prog} {f : FuncId} {F : IFun} (hg : G.get f = some F) (hm : F.mode = 1) {args : List V} (hc : closedVs args = true) {H : Heap} {k : V → Heap → Prop} (h : runW G F args [] (hq 1 H k)) : Cl G f args H k := by
  refine Cl.closed hg (by omega) hc ?_
  rw [hm]
  exact h

mutual
theorem closeV_closed {H : Heap} : ∀ (d : Nat) (v v' : V), closedV v = true → closeV H d v = some v' → v' = v
  | 0, _, _, _, h => by simp [closeV] at h
  | d + 1, v, v', hc, h => by
    cases v with
    | ptr | sl | map => simp [closedV] at hc
    | fn f cs =>
      simp only [closeV, Option.map_eq_some_iff] at h
      obtain ⟨l, h1, rfl⟩ := h
      rw [closeVs_closed d cs l (by simpa [closedV] using hc) h1]
    | agg cs =>
      simp only [closeV, Option.map_eq_some_iff] at h
      obtain ⟨l, h1, rfl⟩ := h
      rw [closeVs_closed d cs l (by simpa [closedV] using hc) h1]
    | tup cs =>
      simp only [closeV, Option.map_eq_some_iff] at h
      obtain ⟨l, h1, rfl⟩ := h
      rw [closeVs_closed d cs l (by simpa [closedV] using hc) h1]
    | iface t v =>
      simp only [closeV, Option.map_eq_some_iff] at h
      obtain ⟨l, h1, rfl⟩ := h
      rw [closeV_closed d v l (by simpa [closedV] using hc) h1]
    | _ => simp only [closeV, Option.some.injEq] at h; exact h.symm
theorem closeVs_closed {H : Heap} : ∀ (d : Nat) (vs vs' : List V), closedVs vs = true → mapO (closeV H d) vs = some vs' → vs' = vs
  | _, [], _, _, h => by simp [mapO] at h; exact h
  | d, v :: vs, vs', hc, h => by
    simp only [closedVs, Bool.and_eq_true] at hc
    simp only [mapO, Option.bind_eq_some_iff, Option.map_eq_some_iff] at h
    obtain ⟨a, h1, b, h2, rfl⟩ := h
    rw [closeV_closed d v a hc.1 h1, closeVs_closed d vs b hc.2 h2]
end

def lq (H : Heap) (k : V → Heap → Prop) : V → Heap → Prop := fun v H' => (scalarV v = true ∨ scalarRow H'[H.length]? = true) ∧ k v H'
@[simp] theorem lq_bool {H H1 : Heap} {k : V → Heap → Prop} {b : Bool} : lq H k (.bool b) H1 = k (.bool b) H1 := by simp [lq, scalarV]
@[simp] theorem lq_int {H H1 : Heap} {k : V → Heap → Prop} {κ : IntKind} {n : Int} : lq H k (.int κ n) H1 = k (.int κ n) H1 := by simp [lq, scalarV]
@[simp] theorem lq_str {H H1 : Heap} {k : V → Heap → Prop} {s : List UInt8} : lq H k (.str s) H1 = k (.str s) H1 := by simp [lq, scalarV]

theorem Cl.any {G : Prog} {f : FuncId} {F : IFun} (hg : G.get f = some F) (hm : F.mode = 1) {args args' : List V} {H : Heap} (ha : mapO (closeV H closeDepth) args = some args') {k : V → Heap → Prop}
    (h : runW G F args' [] (hq 1 H (lq H k))) : Cl G f args H k := by
  cases hc : closedVs args with
  | false =>
    refine Cl.lent hg (by omega) hc ha ?_
    rw [hm]
    exact h
  | true =>
    obtain rfl := closeVs_closed _ _ _ hc ha
    obtain ⟨n, v, H', h1, h2⟩ := runW_sound h
    unfold hq at h2
    rw [bd2_iff] at h2
    obtain ⟨v', H'', h3, _, h4⟩ := h2
    refine ⟨n + 1, v', H'', ?_, h4⟩
    simp only [evN, stepS, callS, hg, hm, hc, if_true, h1, Option.bind_some, h3, Nat.one_ne_zero, if_false]

def Sh {α : Type} (H : Heap) (k : Nat) (R : α → List V → Prop) (v : V) (l : List α) : Prop := ∃ v', closeV H closeDepth v = some v' ∧ Arr k R v' l
theorem Arr.sh {α : Type} {k : Nat} {R : α → List V → Prop} {v : V} {l : List α} (h : Arr k R v l) (H : Heap) : Sh H k R v l := by
  refine ⟨v, ?_, h⟩
  obtain ⟨_, _, _, _, _, _, rfl | ⟨_, rfl | rfl | rfl⟩⟩ := h <;> rfl
@[simp] theorem close_bool {H : Heap} {b : Bool} : closeV H closeDepth (.bool b) = some (.bool b) := nrfl
@[simp] theorem close_int {H : Heap} {κ : IntKind} {n : Int} : closeV H closeDepth (.int κ n) = some (.int κ n) := nrfl
@[simp] theorem close_str {H : Heap} {s : List UInt8} : closeV H closeDepth (.str s) = some (.str s) := nrfl
@[simp] theorem close_fn0 {H : Heap} {f : FuncId} : closeV H closeDepth (.fn f []) = some (.fn f []) := nrfl
end Go.Eng
