/-
  ENGINE, part 2: what a value of the interpreter says of a value of the machine, in which memory; how that is kept.
-/
import Derived.Test.YtoommmeapdkopaaE1
import Derived.WalkKit
namespace Go.Eng

abbrev Phi := Nat → Option Nat
def ran (φ : Phi) (b : Nat) : Prop := ∃ i, φ i = some b

inductive RR (A : Nat → Prop) (w : World) : V → Value → Prop
  | bool (b : Bool) : RR A w (.bool b) (.bool b)
  | int (k : IntKind) (n : Int) : RR A w (.int k n) (.int k n)
  | str (s : ByteArray) : RR A w (.str s.data.toList) (.string s)
  | nilp : RR A w .nilp (.pointer none)
  | rptr {cs : List V} {a : Addr} (ys : Nat → Value) (hA : A a.block) (hs : a.spot = none)
      (hc : ∀ i, i < cs.length → w.cell? ⟨a.block, a.off + i, none⟩ = some (ys i)) (h1 : ∀ i, i < cs.length → (ys i).oneCell' = true)
      (hr : ∀ i (h : i < cs.length), RR A w cs[i] (ys i)) : RR A w (.rptr cs) (.pointer (some a))
  | nils : RR A w .nils (.slice none 0 0)
  | z0 (a : Addr) : RR A w .z0 (.slice (some a) 0 0)
  | e0 (a : Addr) (c : Nat) : RR A w .e0 (.slice (some a) 0 c)
  | ro {cs : List V} {n : Nat} {a : Addr} {c : Nat} (ys : Nat → Value) (hA : A a.block) (hs : a.spot = none) (hn : n ≤ c)
      (hc : ∀ i, i < cs.length → w.cell? ⟨a.block, a.off + i, none⟩ = some (ys i)) (h1 : ∀ i, i < cs.length → (ys i).oneCell' = true)
      (hr : ∀ i (h : i < cs.length), RR A w cs[i] (ys i)) : RR A w (.ro cs n) (.slice (some a) n c)
  | fn {f : FuncId} {cs : List V} {vs : Array Value} (hl : vs.size = cs.length) (hr : ∀ i (h : i < cs.length), RR A w cs[i] (vs.getD i undef)) : RR A w (.fn f cs) (.func (.func f) #[] vs)
  | nilf : RR A w .nilf .nilFunc
  | agg {cs : List V} {vs : Array Value} (hl : vs.size = cs.length) (h1 : ∀ i, i < cs.length → (vs.getD i undef).oneCell' = true) (hr : ∀ i (h : i < cs.length), RR A w cs[i] (vs.getD i undef)) : RR A w (.agg cs) (.agg vs)
  | tup {cs : List V} {vs : Array Value} (hl : vs.size = cs.length) (hr : ∀ i (h : i < cs.length), RR A w cs[i] (vs.getD i undef)) : RR A w (.tup cs) (.tuple vs)
  | nilm : RR A w .nilm (.map none)
  | iface (t : TypeId) {v : V} {u : Value} (h : RR A w v u) : RR A w (.iface t v) (.iface t u)
  | nili : RR A w .nili .nilIface

def RowHas (w : World) (r s : Nat) : Prop := ∃ t n, w.shape? r = some (t, n) ∧ s ≤ n

inductive VR (φ : Phi) (H : Heap) (A : Nat → Prop) (w : World) : V → Value → Prop
  | rr {v : V} {u : Value} (h : RR A w v u) : VR φ H A w v u
  | ptr {id off r : Nat} (h : φ id = some r) : VR φ H A w (.ptr id off) (.pointer (some ⟨r, off, none⟩))
  | pdead {id off : Nat} (a : Addr) (h : H[id]? = some B.dead) : VR φ H A w (.ptr id off) (.pointer (some a))
  | sl {id off n cap k r c : Nat} (h : φ id = some r) (hn : n ≤ c) (hc : cap ≤ c) (hx : c = cap ∨ RowHas w r (off + c * k)) : VR φ H A w (.sl id off n cap k) (.slice (some ⟨r, off, none⟩) n c)
  | sdead {id off n cap k : Nat} (a : Addr) (c : Nat) (h : H[id]? = some B.dead) (hn : n ≤ c) (hc : cap ≤ c) : VR φ H A w (.sl id off n cap k) (.slice (some a) n c)
  | map {id r : Nat} (h : φ id = some r) : VR φ H A w (.map id) (.map (some r))
  | mdead {id : Nat} (r : Nat) (h : H[id]? = some B.dead) : VR φ H A w (.map id) (.map (some r))
  | fn {f : FuncId} {cs : List V} {vs : Array Value} (hl : vs.size = cs.length) (hr : ∀ i (h : i < cs.length), VR φ H A w cs[i] (vs.getD i undef)) : VR φ H A w (.fn f cs) (.func (.func f) #[] vs)
  | agg {cs : List V} {vs : Array Value} (hl : vs.size = cs.length) (h1 : ∀ i, i < cs.length → (vs.getD i undef).oneCell' = true) (hr : ∀ i (h : i < cs.length), VR φ H A w cs[i] (vs.getD i undef)) : VR φ H A w (.agg cs) (.agg vs)
  | tup {cs : List V} {vs : Array Value} (hl : vs.size = cs.length) (hr : ∀ i (h : i < cs.length), VR φ H A w cs[i] (vs.getD i undef)) : VR φ H A w (.tup cs) (.tuple vs)
  | iface (t : TypeId) {v : V} {u : Value} (h : VR φ H A w v u) : VR φ H A w (.iface t v) (.iface t u)

def BR (φ : Phi) (H : Heap) (A : Nat → Prop) (w : World) (b : B) (r : Nat) : Prop :=
  match b with
  | .cells cs => ∃ arr elem, w.heap[r]? = some (.cells arr elem (0, 0)) ∧ cs.length ≤ arr.size ∧ ∀ i (h : i < cs.length), VR φ H A w cs[i] (arr.getD i undef) ∧ (arr.getD i undef).oneCell' = true
  | .map es => ∃ ents clock, w.heap[r]? = some (.map ents clock) ∧ ents.size = es.length ∧
      ∀ i (h : i < es.length), VR φ H A w es[i].1 (ents.getD i default).key ∧ VR φ H A w es[i].2 (ents.getD i default).val
  | .siter s pos => ∃ s', w.heap[r]? = some (.stringIter s' pos) ∧ s'.data.toList = s
  | .dead => False

structure Good (φ : Phi) (H : Heap) (A : Nat → Prop) (w : World) : Prop where
  inj : ∀ i j r, φ i = some r → φ j = some r → i = j
  dom : ∀ i r, φ i = some r → r < w.heap.size ∧ ¬ A r ∧ ∃ b, H[i]? = some b ∧ BR φ H A w b r
  fresh : ∀ b, A b → b < w.heap.size

def Plain (o : Obj) : Prop := ∀ c t f, o = .cells c t f → f = (0, 0)
def Calm (w w' : World) : Prop := w'.os = w.os ∧ (w'.output = w.output ∧ w'.tape = w.tape) ∧ ∀ a, w'.frozen? a = w.frozen? a
theorem Calm.refl (w : World) : Calm w w := ⟨rfl, ⟨rfl, rfl⟩, fun _ => rfl⟩
theorem Calm.trans {w w' w'' : World} (h : Calm w w') (h' : Calm w' w'') : Calm w w'' := ⟨h'.1.trans h.1, ⟨h'.2.1.1.trans h.2.1.1, h'.2.1.2.trans h.2.1.2⟩, fun a => (h'.2.2 a).trans (h.2.2 a)⟩
theorem frozen_plain {w : World} {a : Addr} (h : ∀ o, w.heap[a.block]? = some o → Plain o) : w.frozen? a = false := by
  unfold World.frozen?
  split
  · rename_i c t lo hi hh
    have := h _ hh c t (lo, hi) rfl
    cases this
    simp
  · rfl
theorem Calm.alloc (w : World) {o : Obj} (h : Plain o) : Calm w (w.alloc o) := by
  refine ⟨rfl, ⟨rfl, rfl⟩, fun a => ?_⟩
  have hh : (w.alloc o).heap[a.block]? = if a.block = w.heap.size then some o else w.heap[a.block]? := by
    show (w.heap.push o)[a.block]? = _
    rw [Array.getElem?_push]
  by_cases he : a.block = w.heap.size
  · rw [if_pos he] at hh
    rw [frozen_plain (fun o' ho' => by rw [hh] at ho'; cases ho'; exact h), frozen_plain (fun o' ho' => by rw [he] at ho'; simp at ho')]
  · rw [if_neg he] at hh
    unfold World.frozen?
    rw [hh]
theorem Calm.put {w w' : World} {r : Nat} (hq : w'.os = w.os ∧ w'.output = w.output ∧ w'.tape = w.tape) (ho : ∀ k, k ≠ r → w'.heap[k]? = w.heap[k]?) (h1 : ∀ o, w.heap[r]? = some o → Plain o) (h2 : ∀ o, w'.heap[r]? = some o → Plain o) : Calm w w' := by
  refine ⟨hq.1, hq.2, fun a => ?_⟩
  by_cases he : a.block = r
  · subst he; rw [frozen_plain h1, frozen_plain h2]
  · unfold World.frozen?; rw [ho _ he]

structure Ext (φ : Phi) (A : Nat → Prop) (w : World) (φ' : Phi) (A' : Nat → Prop) (w' : World) : Prop where
  size : w.heap.size ≤ w'.heap.size
  old : ∀ b, b < w.heap.size → ¬ ran φ b → w'.heap[b]? = w.heap[b]?
  amono : ∀ b, A b → A' b
  anew : ∀ b, A' b → A b ∨ w.heap.size ≤ b ∨ ran φ b
  rnew : ∀ b, ran φ' b → ran φ b ∨ w.heap.size ≤ b
  shape : ∀ r s, RowHas w r s → RowHas w' r s
  calm : Calm w w'

structure Keeps (φ : Phi) (H : Heap) (φ' : Phi) (H' : Heap) : Prop where
  keep : ∀ (i r : Nat), φ i = some r → φ' i = some r ∨ H'[i]? = some B.dead
  dead : ∀ i : Nat, H[i]? = some B.dead → H'[i]? = some B.dead

theorem Ext.refl (φ : Phi) (A : Nat → Prop) (w : World) : Ext φ A w φ A w :=
  ⟨Nat.le_refl _, fun _ _ _ => rfl, fun _ h => h, fun _ h => .inl h, fun _ h => .inl h, fun _ _ h => h, .refl w⟩
theorem Ext.trans {φ A w φ' A' w' φ'' A'' w''} (h : Ext φ A w φ' A' w') (h' : Ext φ' A' w' φ'' A'' w'') : Ext φ A w φ'' A'' w'' where
  size := Nat.le_trans h.size h'.size
  old b hb hr := by
    rw [h'.old b (Nat.lt_of_lt_of_le hb h.size) (fun hr' => (h.rnew b hr').elim hr (fun hs => by omega)), h.old b hb hr]
  amono b hb := h'.amono b (h.amono b hb)
  anew b hb := by
    rcases h'.anew b hb with ha | hs | hr
    · exact h.anew b ha
    · exact .inr (.inl (Nat.le_trans h.size hs))
    · rcases h.rnew b hr with hr | hs
      · exact .inr (.inr hr)
      · exact .inr (.inl hs)
  rnew b hb := by
    rcases h'.rnew b hb with hr | hs
    · exact h.rnew b hr
    · exact .inr (Nat.le_trans h.size hs)
  shape r s hs := h'.shape r s (h.shape r s hs)
  calm := h.calm.trans h'.calm
theorem Keeps.refl (φ : Phi) (H : Heap) : Keeps φ H φ H := ⟨fun _ _ h => .inl h, fun _ h => h⟩
theorem Keeps.trans {φ H φ' H' φ'' H''} (h : Keeps φ H φ' H') (h' : Keeps φ' H' φ'' H'') : Keeps φ H φ'' H'' where
  keep i r hi := (h.keep i r hi).elim (fun h => h'.keep i r h) (fun h => .inr (h'.dead i h))
  dead i hi := h'.dead i (h.dead i hi)

theorem cell?_congr {w w' : World} {a : Addr} (h : w'.heap[a.block]? = w.heap[a.block]?) : w'.cell? a = w.cell? a := by
  unfold World.cell?; rw [h]

theorem RR.mono {A A' : Nat → Prop} {w w' : World} {v : V} {u : Value} (h : RR A w v u) (hA : ∀ b, A b → A' b) (hw : ∀ b, A b → w'.heap[b]? = w.heap[b]?) : RR A' w' v u := by
  induction h with
  | bool b => exact .bool b
  | int k n => exact .int k n
  | str s => exact .str s
  | nilp => exact .nilp
  | rptr ys a s c o r ih => exact .rptr ys (hA _ a) s (fun i hi => (cell?_congr (a := ⟨_, _, none⟩) (hw _ a)).trans (c i hi)) o ih
  | nils => exact .nils
  | z0 a => exact .z0 a
  | e0 a c => exact .e0 a c
  | ro ys a s n c o r ih => exact .ro ys (hA _ a) s n (fun i hi => (cell?_congr (a := ⟨_, _, none⟩) (hw _ a)).trans (c i hi)) o ih
  | fn hl hr ih => exact .fn hl ih
  | nilf => exact .nilf
  | agg hl h1 hr ih => exact .agg hl h1 ih
  | tup hl hr ih => exact .tup hl ih
  | nilm => exact .nilm
  | iface t h ih => exact .iface t ih
  | nili => exact .nili

theorem Good.stay {φ H A w} (g : Good φ H A w) {φ' A' w'} (e : Ext φ A w φ' A' w') (b : Nat) (hb : A b) : w'.heap[b]? = w.heap[b]? :=
  e.old b (g.fresh b hb) (fun ⟨i, hi⟩ => (g.dom i b hi).2.1 hb)

theorem RR.ext {φ H A w φ' A' w'} {v : V} {u : Value} (h : RR A w v u) (g : Good φ H A w) (e : Ext φ A w φ' A' w') : RR A' w' v u :=
  h.mono e.amono (g.stay e)

theorem VR.mono {φ H A w φ' H' A' w'} {v : V} {u : Value} (h : VR φ H A w v u) (hr : ∀ v u, RR A w v u → RR A' w' v u) (hs : ∀ r s, RowHas w r s → RowHas w' r s) (p : Keeps φ H φ' H') : VR φ' H' A' w' v u := by
  induction h with
  | rr h => exact .rr (hr _ _ h)
  | ptr h => exact (p.keep _ _ h).elim (fun h => .ptr h) (fun h => .pdead _ h)
  | pdead a h => exact .pdead a (p.dead _ h)
  | sl h hn hc hx => exact (p.keep _ _ h).elim (fun h => .sl h hn hc (hx.imp id (hs _ _))) (fun h => .sdead _ _ h hn hc)
  | sdead a c h hn hc => exact .sdead a c (p.dead _ h) hn hc
  | map h => exact (p.keep _ _ h).elim (fun h => .map h) (fun h => .mdead _ h)
  | mdead r h => exact .mdead r (p.dead _ h)
  | fn hl hr ih => exact .fn hl ih
  | agg hl h1 hr ih => exact .agg hl h1 ih
  | tup hl hr ih => exact .tup hl ih
  | iface t h ih => exact .iface t ih

theorem VR.ext {φ H A w φ' H' A' w'} {v : V} {u : Value} (h : VR φ H A w v u) (g : Good φ H A w) (e : Ext φ A w φ' A' w') (p : Keeps φ H φ' H') : VR φ' H' A' w' v u :=
  h.mono (fun _ _ h => h.ext g e) e.shape p

section
variable {φ : Phi} {H : Heap} {A : Nat → Prop} {w : World}
theorem VR.bool' {b : Bool} {u : Value} (h : VR φ H A w (.bool b) u) : u = .bool b := by
  cases h with | rr h => cases h; rfl
theorem VR.int' {k : IntKind} {n : Int} {u : Value} (h : VR φ H A w (.int k n) u) : u = .int k n := by
  cases h with | rr h => cases h; rfl
theorem VR.str' {s : List UInt8} {u : Value} (h : VR φ H A w (.str s) u) : ∃ t : ByteArray, u = .string t ∧ t.data.toList = s := by
  cases h with | rr h => cases h; exact ⟨_, rfl, rfl⟩
theorem VR.nilp' {u : Value} (h : VR φ H A w .nilp u) : u = .pointer none := by
  cases h with | rr h => cases h; rfl
theorem VR.nils' {u : Value} (h : VR φ H A w .nils u) : u = .slice none 0 0 := by
  cases h with | rr h => cases h; rfl
theorem VR.nilm' {u : Value} (h : VR φ H A w .nilm u) : u = .map none := by
  cases h with | rr h => cases h; rfl
theorem VR.nilf' {u : Value} (h : VR φ H A w .nilf u) : u = .nilFunc := by
  cases h with | rr h => cases h; rfl
theorem VR.z0' {u : Value} (h : VR φ H A w .z0 u) : ∃ a, u = .slice (some a) 0 0 := by
  cases h with | rr h => cases h; exact ⟨_, rfl⟩
theorem VR.e0' {u : Value} (h : VR φ H A w .e0 u) : ∃ a c, u = .slice (some a) 0 c := by
  cases h with | rr h => cases h; exact ⟨_, _, rfl⟩
theorem VR.undef : VR φ H A w undefV Go.undef := .rr (.tup rfl (fun i h => absurd h (by simp)))
theorem VR.agg' {cs : List V} {u : Value} (h : VR φ H A w (.agg cs) u) : ∃ vs : Array Value, u = .agg vs ∧ vs.size = cs.length ∧ (∀ i, i < cs.length → (vs.getD i Go.undef).oneCell' = true) ∧ ∀ i (h : i < cs.length), VR φ H A w cs[i] (vs.getD i Go.undef) := by
  cases h with
  | rr h => cases h with | agg hl h1 hr => exact ⟨_, rfl, hl, h1, fun i h => .rr (hr i h)⟩
  | agg hl h1 hr => exact ⟨_, rfl, hl, h1, hr⟩
theorem VR.tup' {cs : List V} {u : Value} (h : VR φ H A w (.tup cs) u) : ∃ vs : Array Value, u = .tuple vs ∧ vs.size = cs.length ∧ ∀ i (h : i < cs.length), VR φ H A w cs[i] (vs.getD i Go.undef) := by
  cases h with
  | rr h => cases h with | tup hl hr => exact ⟨_, rfl, hl, fun i h => .rr (hr i h)⟩
  | tup hl hr => exact ⟨_, rfl, hl, hr⟩
theorem VR.fn' {f : FuncId} {cs : List V} {u : Value} (h : VR φ H A w (.fn f cs) u) : ∃ vs : Array Value, u = .func (.func f) #[] vs ∧ vs.size = cs.length ∧ ∀ i (h : i < cs.length), VR φ H A w cs[i] (vs.getD i Go.undef) := by
  cases h with
  | rr h => cases h with | fn hl hr => exact ⟨_, rfl, hl, fun i h => .rr (hr i h)⟩
  | fn hl hr => exact ⟨_, rfl, hl, hr⟩
theorem VR.slice' {v : V} {u : Value} (h : VR φ H A w v u) (hs : isSlice v = true) : ∃ a n c, u = .slice a n c ∧ n ≤ c ∧ (v = .nils → a = none) ∧ (v ≠ .nils → ∃ b, a = some b) := by
  cases h with
  | rr h => cases h <;> first | (simp [isSlice] at hs; done) | exact ⟨_, _, _, rfl, by omega, by simp, by simp⟩
  | sl h hn hc hx => exact ⟨_, _, _, rfl, hn, by simp, by simp⟩
  | sdead a c h hn hc => exact ⟨_, _, _, rfl, hn, by simp, by simp⟩
  | _ => simp [isSlice] at hs
theorem VR.one {v : V} {u : Value} (h : VR φ H A w v u) (hv : oneC v = true) : u.oneCell' = true := by
  cases h with
  | rr h => cases h <;> first | rfl | (simp [oneC] at hv; done)
  | agg => simp [oneC] at hv
  | tup => simp [oneC] at hv
  | _ => rfl
end
end Go.Eng
