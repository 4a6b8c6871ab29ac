/-
  ENGINE, part 22: more fuel keeps what was found; the weakest precondition over the interpreter.
-/
import Derived.Test.YtoommmeapdkopaaE21
universe u
namespace Go.Eng

section
variable {G : Prog}

def Self.le (S S' : Self) : Prop := (∀ f a H r, S.call f a H = some r → S'.call f a H = some r) ∧ ∀ b ts H r, S.again b ts H = some r → S'.again b ts H = some r

theorem ev1_mono {S S' : Self} (h : S.le S') {wr : Bool} {ts : List V} {H : Heap} {op : IOp} {r : V × Heap} (he : ev1 G S wr ts H op = some r) : ev1 G S' wr ts H op = some r := by
  cases op with
  | callf f args =>
    simp only [ev1] at he ⊢
    split at he
    · rename_i hc; rw [if_pos hc]; exact h.1 _ _ _ _ he
    · cases he
  | callv x args =>
    simp only [ev1] at he ⊢
    cases hz : look ts x with
    | fn f caps =>
      rw [hz] at he
      simp only at he ⊢
      split at he
      · rename_i hc; rw [if_pos hc]; exact h.1 _ _ _ _ he
      · cases he
    | _ => rw [hz] at he; cases he
  | _ => exact he

theorem evOps_mono {S S' : Self} (h : S.le S') : ∀ {ops : List IOper} {ts : List V} {H : Heap} {r : List V × Heap}, evOps G S ops ts H = some r → evOps G S' ops ts H = some r
  | [], _, _, _, he => he
  | o :: rest, ts, H, r, he => by
    simp only [evOps, Option.bind_eq_some_iff] at he ⊢
    obtain ⟨go, hgo, he⟩ := he
    refine ⟨go, hgo, ?_⟩
    split at he
    · rename_i hg
      rw [if_pos hg]
      simp only [Option.bind_eq_some_iff] at he ⊢
      obtain ⟨r1, h1, h2⟩ := he
      exact ⟨r1, ev1_mono h h1, evOps_mono h h2⟩
    · rename_i hg
      rw [if_neg hg]
      exact evOps_mono h he

theorem exec_mono {S S' : Self} (h : S.le S') : ∀ {c : IC} {ts : List V} {H : Heap} {r : X × List V × Heap}, exec G S c ts H = some r → exec G S' c ts H = some r := by
  intro c
  induction c with
  | skip => intro ts H r he; exact he
  | reg ops =>
    intro ts H r he
    simp only [exec, Option.map_eq_some_iff] at he ⊢
    obtain ⟨r1, h1, h2⟩ := he
    exact ⟨r1, evOps_mono h h1, h2⟩
  | seq a b iha ihb =>
    intro ts H r he
    simp only [exec, Option.bind_eq_some_iff] at he ⊢
    obtain ⟨⟨x, ts1, H1⟩, h1, h2⟩ := he
    refine ⟨_, iha h1, ?_⟩
    cases x
    · exact ihb h2
    · exact h2
    · exact h2
  | cond c a b iha ihb =>
    intro ts H r he
    simp only [exec] at he ⊢
    split at he
    · split at he
      · rename_i ht; rw [if_pos ht]; exact iha he
      · rename_i ht; rw [if_neg ht]; exact ihb he
    · cases he
  | block id b ih =>
    intro ts H r he
    simp only [exec, Option.map_eq_some_iff] at he ⊢
    obtain ⟨r1, h1, h2⟩ := he
    exact ⟨r1, ih h1, h2⟩
  | loop b ih =>
    intro ts H r he
    simp only [exec, Option.bind_eq_some_iff] at he ⊢
    obtain ⟨⟨x, ts1, H1⟩, h1, h2⟩ := he
    refine ⟨_, ih h1, ?_⟩
    cases x
    · exact h.2 _ _ _ _ h2
    · exact h2
    · exact h2
  | exit id => intro ts H r he; exact he
  | ret => intro ts H r he; exact he
  | frz d => intro ts H r he; exact he
  | bad => intro ts H r he; exact he

theorem runF_mono {S S' : Self} (h : S.le S') {F : IFun} {args : List V} {H : Heap} {r : V × Heap} (he : runF G S F args H = some r) : runF G S' F args H = some r := by
  simp only [runF, Option.bind_eq_some_iff] at he ⊢
  obtain ⟨r1, h1, h2⟩ := he
  exact ⟨r1, exec_mono h h1, h2⟩

theorem callS_mono {S S' : Self} (h : S.le S') {f : FuncId} {args : List V} {H : Heap} {r : V × Heap} (he : callS G S f args H = some r) : callS G S' f args H = some r := by
  simp only [callS] at he ⊢
  cases hg : G.get f with
  | none => rw [hg] at he; cases he
  | some F =>
    rw [hg] at he
    simp only at he ⊢
    split at he
    · rename_i hm; rw [if_pos hm]; exact runF_mono h he
    · rename_i hm
      rw [if_neg hm]
      split at he
      · rename_i hc
        rw [if_pos hc]
        simp only [Option.bind_eq_some_iff] at he ⊢
        obtain ⟨r1, h1, h2⟩ := he
        exact ⟨r1, runF_mono h h1, h2⟩
      · rename_i hc
        rw [if_neg hc]
        simp only [Option.bind_eq_some_iff] at he ⊢
        obtain ⟨a', ha, r1, h1, h2⟩ := he
        exact ⟨a', ha, r1, runF_mono h h1, h2⟩

theorem stepS_mono {S S' : Self} (h : S.le S') : Self.le (stepS G S) (stepS G S') :=
  ⟨fun _ _ _ _ he => callS_mono h he, fun _ _ _ _ he => exec_mono h he⟩

theorem evN_succ : ∀ n, Self.le (evN G n) (evN G (n + 1))
  | 0 => ⟨fun _ _ _ _ he => by simp [evN] at he, fun _ _ _ _ he => by simp [evN] at he⟩
  | n + 1 => stepS_mono (evN_succ n)
theorem Self.le_refl (S : Self) : S.le S := ⟨fun _ _ _ _ h => h, fun _ _ _ _ h => h⟩
theorem Self.le_trans {S S' S'' : Self} (h : S.le S') (h' : S'.le S'') : S.le S'' := ⟨fun _ _ _ _ he => h'.1 _ _ _ _ (h.1 _ _ _ _ he), fun _ _ _ _ he => h'.2 _ _ _ _ (h.2 _ _ _ _ he)⟩
theorem evN_add (n : Nat) : ∀ k, Self.le (evN G n) (evN G (n + k))
  | 0 => Self.le_refl _
  | k + 1 => Self.le_trans (evN_add n k) (evN_succ (n + k))
theorem evN_le {n m : Nat} (h : n ≤ m) : Self.le (evN G n) (evN G m) := by
  obtain ⟨k, rfl⟩ := Nat.exists_eq_add_of_le h
  exact evN_add n k
end

theorem nrfl {α : Sort u} {a : α} : a = a := Eq.trans (Eq.refl a) (Eq.refl a)
def bd {α : Type} (o : Option α) (k : α → Prop) : Prop := match o with | some x => k x | none => False
@[simp] theorem bd_some {α : Type} (x : α) (k : α → Prop) : bd (some x) k = k x := nrfl
@[simp] theorem bd_none {α : Type} (k : α → Prop) : bd none k = False := nrfl
theorem bd_iff {α : Type} {o : Option α} {k : α → Prop} : bd o k ↔ ∃ x, o = some x ∧ k x := by cases o <;> simp [bd]
def bd2 (o : Option (V × Heap)) (k : V → Heap → Prop) : Prop := match o with | some x => k x.1 x.2 | none => False
@[simp] theorem bd2_some (x : V × Heap) (k : V → Heap → Prop) : bd2 (some x) k = k x.1 x.2 := nrfl
@[simp] theorem bd2_none (k : V → Heap → Prop) : bd2 none k = False := nrfl
theorem bd2_iff {o : Option (V × Heap)} {k : V → Heap → Prop} : bd2 o k ↔ ∃ v H, o = some (v, H) ∧ k v H := by
  cases o with
  | none => simp [bd2]
  | some x => exact ⟨fun h => ⟨x.1, x.2, rfl, h⟩, fun ⟨v, H, h1, h2⟩ => by cases h1; exact h2⟩
def ifB (v : V) (p q : Prop) : Prop := match v with | .bool true => p | .bool false => q | _ => False
@[simp] theorem ifB_bool (b : Bool) (p q : Prop) : ifB (.bool b) p q = if b = true then p else q := by cases b <;> exact nrfl
def newM (H : Heap) (k : V → Heap → Prop) : Prop := k (.map H.length) (H ++ [.map []])
def newB (H : Heap) (b : B) (k : V → Heap → Prop) : Prop := k (.ptr H.length 0) (H ++ [b])
def wpg (o : Option Bool) (H : Heap) (m : (V → Heap → Prop) → Prop) (k : V → Heap → Prop) : Prop := match o with | some true => m k | some false => k undefV H | none => False
@[simp] theorem wpg_true (H : Heap) (m : (V → Heap → Prop) → Prop) (k : V → Heap → Prop) : wpg (some true) H m k = m k := nrfl
@[simp] theorem wpg_false (H : Heap) (m : (V → Heap → Prop) → Prop) (k : V → Heap → Prop) : wpg (some false) H m k = k undefV H := nrfl

def pickV (c a b : V) : Option V := match c with | .bool b' => some (if b' then a else b) | _ => none
def boxV (x : V) : Option B := if notTup x = true then some (.cells (cellsV x)) else none
def bxrV (x : V) : Option V := if notTup x = true ∧ closedVs (cellsV x) = true then some (.rptr (cellsV x)) else none
def ldrV (a : V) (k : Nat) (ag : Bool) : Option V := (rdr a k).bind (packV ag)
def bslV (k len : Nat) (zs : List V) (ps : List (Nat × Nat × V)) (H : Heap) : Option (V × Heap) := (fillV (rep len zs) ps).map fun cs => if len = 0 then (.z0, H) else (.sl H.length 0 len len k, H ++ [.cells cs])
def ldV (H : Heap) (a : V) (k : Nat) (ag : Bool) : Option V := (rd H a k).bind (packV ag)
def stV (H : Heap) (k : Nat) (a x : V) : Option Heap := if (cellsV x).length = k ∧ notTup x = true then wrt H a (cellsV x) else none
def eqnV (cls : EqC) (neg : Bool) (x y : V) : Option V := (eqV cls x y).map fun b => .bool (if neg then !b else b)
def convV (k : IntKind) (x : V) : Option V := match x with | .int _ n => some (.int k (k.wrap n)) | _ => none
def sameV (x : V) : Option V := match x with | .str s => some (.str s) | _ => none
def lentV (x : V) : Option V := match x with | .str s => some (.int .i64 s.length) | _ => none
def maxV (x y : V) : Option V := match x, y with | .int k a, .int _ b => some (.int k (if b > a then b else a)) | _, _ => none
def minV (x y : V) : Option V := match x, y with | .int k a, .int _ b => some (.int k (if b < a then b else a)) | _, _ => none
def rngV (x : V) : Option B := match x with | .str s => some (.siter s 0) | _ => none
def extV (i : Nat) (x : V) : Option V := match x with | .tup vs => vs[i]? | _ => none
def bldV (zs : List V) (ps : List (Nat × Nat × V)) : Option V := (fillV zs ps).map .agg
def callV (x : V) : Option (FuncId × List V) := match x with | .fn f caps => some (f, caps) | _ => none
def gdV (v : V) (want : Bool) : Option Bool := match v with | .bool b => some (b == want) | .tup [] => some false | _ => none

def Cl (G : Prog) (f : FuncId) (args : List V) (H : Heap) (k : V → Heap → Prop) : Prop := ∃ n v H', (evN G n).call f args H = some (v, H') ∧ k v H'
def Lp (G : Prog) (b : IC) (ts : List V) (H : Heap) (Q : X → List V → Heap → Prop) : Prop := ∃ n x ts' H', exec G (evN G n) (.loop b) ts H = some (x, ts', H') ∧ Q x ts' H'

def wp1 (G : Prog) (w : Bool) (ts : List V) (H : Heap) (k : V → Heap → Prop) : IOp → Prop
  | .mv x => k (look ts x) H
  | .pick c a b => bd (pickV (look ts c) (look ts a) (look ts b)) fun v => k v H
  | .alloc zs => newB H (.cells zs) k
  | .box x => bd (boxV (look ts x)) fun b => newB H b k
  | .boxr x => bd (bxrV (look ts x)) fun v => k v H
  | .loadr m ag a => bd (ldrV (look ts a) m ag) fun v => k v H
  | .build zs ps => bd (bldV zs (lookPs ts ps)) fun v => k v H
  | .bsl m len zs ps => bd2 (bslV m len zs (lookPs ts ps) H) k
  | .load m ag a => bd (ldV H (look ts a) m ag) fun v => k v H
  | .store m a x => w = true ∧ bd (stV H m (look ts a) (look ts x)) fun H' => k undefV H'
  | .nilck x => bd (nilckV (look ts x)) fun v => k v H
  | .bin op x y => bd (binV op (look ts x) (look ts y)) fun v => k v H
  | .eq cls neg x y => bd (eqnV cls neg (look ts x) (look ts y)) fun v => k v H
  | .un op x => bd (unV op (look ts x)) fun v => k v H
  | .conv m x => bd (convV m (look ts x)) fun v => k v H
  | .same x => bd (sameV (look ts x)) fun v => k v H
  | .fadr off x => bd (fadrV off (look ts x)) fun v => k v H
  | .fld off m ag x => bd (fldV off m ag (look ts x)) fun v => k v H
  | .iadr m x i => bd (iadrV m (look ts x) (look ts i)) fun v => k v H
  | .aadr len m x i => bd (aadrV len m (look ts x) (look ts i)) fun v => k v H
  | .aidx len m ag x i => bd (aidxV len m ag (look ts x) (look ts i)) fun v => k v H
  | .sidx x i => bd (sidxV (look ts x) (look ts i)) fun v => k v H
  | .slc m x lo hi mx => bd (slcV m (look ts x) (lookO ts lo) (lookO ts hi) (lookO ts mx)) fun v => k v H
  | .ssl x lo hi => bd (sslV (look ts x) (lookO ts lo) (lookO ts hi)) fun v => k v H
  | .asl len m x lo hi mx => bd (aslV len m (look ts x) (lookO ts lo) (lookO ts hi) (lookO ts mx)) fun v => k v H
  | .lens x => bd (lensV (look ts x)) fun v => k v H
  | .lent x => bd (lentV (look ts x)) fun v => k v H
  | .lenm x => bd (lenmV H (look ts x)) fun v => k v H
  | .app m bytes s x => bd2 (appV m bytes w H (look ts s) (look ts x)) k
  | .copy m d s => w = true ∧ bd2 (copyV m H (look ts d) (look ts s)) k
  | .clr m zs x => w = true ∧ bd2 (clrV m zs H (look ts x)) k
  | .maxi x y => bd (maxV (look ts x) (look ts y)) fun v => k v H
  | .mini x y => bd (minV (look ts x) (look ts y)) fun v => k v H
  | .mks m bytes zs l c => bd2 (mksV m bytes zs H (look ts l) (look ts c)) k
  | .mkm => newM H k
  | .lk fk zero ok m key => bd (lkV H fk zero ok (look ts m) (look ts key)) fun v => k v H
  | .mup fk m key v => w = true ∧ bd (mupV H fk (look ts m) (look ts key) (look ts v)) fun H' => k undefV H'
  | .rng x => bd (rngV (look ts x)) fun b => newB H b k
  | .nxt it => w = true ∧ bd2 (nxtV H (look ts it)) k
  | .ext i x => bd (extV i (look ts x)) fun v => k v H
  | .mkf f caps => k (.fn f (caps.map (look ts))) H
  | .callf f args => (w || G.pur f) = true ∧ Cl G f (args.map (look ts)) H k
  | .callv x args => bd (callV (look ts x)) fun c => (w || G.pur c.1) = true ∧ Cl G c.1 (args.map (look ts) ++ c.2) H k
  | .bad => False

def wpo (G : Prog) (K : List V → Heap → Prop) : List IOper → List V → Heap → Prop
  | [], ts, H => K ts H
  | o :: rest, ts, H => match o.g with
    | none => wp1 G o.w ts H (fun v H' => wpo G K rest (putT ts o.dst v) H') o.op
    | some (j, want) => wpg (gdV (ts.getD j undefV) want) H (fun k => wp1 G o.w ts H k o.op) (fun v H' => wpo G K rest (putT ts o.dst v) H')

abbrev Cont := X → List V → Heap → Prop
mutual
def wp (G : Prog) : IC → List V → Heap → Cont → Prop
  | .skip, ts, H, Q => Q .n ts H
  | .reg ops, ts, H, Q => wpo G (Q .n) ops ts H
  | .seq a b, ts, H, Q => wp G a ts H (fun x ts H => match x with | .n => wp G b ts H Q | x => Q x ts H)
  | .cond c a b, ts, H, Q => ifB (look ts c) (wp G a ts H Q) (wp G b ts H Q)
  | .block id b, ts, H, Q => wp G b ts H (fun x ts H => match x with | .e id' => if id' = id then Q .n ts H else Q (.e id') ts H | x => Q x ts H)
  | .loop b, ts, H, Q => Lp G b ts H Q
  | .exit id, ts, H, Q => Q (.e id) ts H
  | .ret, ts, H, Q => Q .r ts H
  | .frz d, ts, H, Q => bd2 (frzV H (ts.getD d undefV)) fun v H' => Q .n (ts.set d v) H'
  | .bad, _, _, _ => False
end
def seqQ (G : Prog) (b : IC) (Q : Cont) : Cont := fun x ts H => match x with | .n => wp G b ts H Q | x => Q x ts H
def blockQ (id : Nat) (Q : Cont) : Cont := fun x ts H => match x with | .e id' => if id' = id then Q .n ts H else Q (.e id') ts H | x => Q x ts H
def loopQ (G : Prog) (b : IC) (Q : Cont) : Cont := fun x ts H => match x with | .n => Lp G b ts H Q | x => Q x ts H

section
variable {G : Prog}
theorem Cl.mono {f : FuncId} {args : List V} {H : Heap} {k k' : V → Heap → Prop} (h : Cl G f args H k) (hk : ∀ v H, k v H → k' v H) : Cl G f args H k' := by
  obtain ⟨n, v, H', h1, h2⟩ := h
  exact ⟨n, v, H', h1, hk _ _ h2⟩
theorem wp1_sound {w : Bool} {ts : List V} {H : Heap} {k : V → Heap → Prop} {op : IOp} (h : wp1 G w ts H k op) : ∃ n v H', ev1 G (evN G n) w ts H op = some (v, H') ∧ k v H' := by
  cases op with
  | callf f args =>
    obtain ⟨hw, n, v, H', h1, h2⟩ := h
    refine ⟨n, v, H', ?_, h2⟩
    simp only [ev1]
    rw [if_pos (by simpa using hw)]
    exact h1
  | callv x args =>
    simp only [wp1, bd_iff] at h
    obtain ⟨c, hc, hw, n, v, H', h1, h2⟩ := h
    refine ⟨n, v, H', ?_, h2⟩
    simp only [ev1]
    unfold callV at hc
    split at hc
    · rename_i hz
      cases hc
      simp only [hz]
      rw [if_pos (by simpa using hw)]
      exact h1
    · cases hc
  | bad => exact h.elim
  | mv x => exact ⟨0, _, _, rfl, h⟩
  | alloc zs => exact ⟨0, _, _, rfl, h⟩
  | mkm => exact ⟨0, _, _, rfl, h⟩
  | mkf f caps => exact ⟨0, _, _, rfl, h⟩
  | box x =>
    simp only [wp1, bd_iff, boxV] at h
    obtain ⟨b, hb, h⟩ := h
    split at hb
    · rename_i hc; cases hb; exact ⟨0, _, _, by simp only [ev1]; rw [if_pos hc], h⟩
    · cases hb
  | rng x =>
    simp only [wp1, bd_iff, rngV] at h
    obtain ⟨b, hb, h⟩ := h
    split at hb
    · rename_i hc; cases hb; exact ⟨0, _, _, by simp only [ev1, hc], h⟩
    · cases hb
  | store m a x =>
    simp only [wp1, bd_iff, stV] at h
    obtain ⟨hw, H', hb, h⟩ := h
    split at hb
    · rename_i hc; exact ⟨0, _, _, by simp only [ev1]; rw [if_pos ⟨hw, hc⟩, hb]; rfl, h⟩
    · cases hb
  | mup fk m key v =>
    simp only [wp1, bd_iff] at h
    obtain ⟨hw, H', hb, h⟩ := h
    exact ⟨0, _, _, by simp only [ev1]; rw [if_pos hw, hb]; rfl, h⟩
  | app m bytes s x => simp only [wp1, bd2_iff] at h; obtain ⟨v, H', h1, h2⟩ := h; exact ⟨0, v, H', h1, h2⟩
  | mks m bytes zs l c => simp only [wp1, bd2_iff] at h; obtain ⟨v, H', h1, h2⟩ := h; exact ⟨0, v, H', h1, h2⟩
  | bsl m len zs ps => simp only [wp1, bd2_iff] at h; obtain ⟨v, H', h1, h2⟩ := h; exact ⟨0, v, H', h1, h2⟩
  | copy m d s => simp only [wp1, bd2_iff] at h; obtain ⟨hw, v, H', h1, h2⟩ := h; exact ⟨0, v, H', by simp only [ev1]; rw [if_pos hw]; exact h1, h2⟩
  | clr m zs x => simp only [wp1, bd2_iff] at h; obtain ⟨hw, v, H', h1, h2⟩ := h; exact ⟨0, v, H', by simp only [ev1]; rw [if_pos hw]; exact h1, h2⟩
  | nxt it => simp only [wp1, bd2_iff] at h; obtain ⟨hw, v, H', h1, h2⟩ := h; exact ⟨0, v, H', by simp only [ev1]; rw [if_pos hw]; exact h1, h2⟩
  | _ =>
    simp only [wp1, bd_iff] at h
    obtain ⟨v, h1, h2⟩ := h
    refine ⟨0, v, H, ?_, h2⟩
    simp only [ev1]
    first
      | (simp only [h1, ret1, Option.map_some]; done)
      | (have h1' := h1; simp only [bldV, ldV, ldrV, eqnV] at h1'; simp only [h1', ret1, Option.map_some]; done)
      | (unfold bxrV at h1; split at h1 <;> simp_all; done)
      | (unfold pickV at h1; split at h1 <;> simp_all; done)
      | (unfold convV at h1; split at h1 <;> simp_all; done)
      | (unfold sameV at h1; split at h1 <;> first | (cases h1; done) | (rename_i hz; cases h1; rw [hz]; done))
      | (unfold lentV at h1; split at h1 <;> simp_all; done)
      | (unfold extV at h1; split at h1 <;> simp_all; done)
      | (unfold maxV at h1; split at h1 <;> simp_all; done)
      | (unfold minV at h1; split at h1 <;> simp_all; done)

theorem wpo_sound {K : List V → Heap → Prop} : ∀ {ops : List IOper} {ts : List V} {H : Heap}, wpo G K ops ts H → ∃ n ts' H', evOps G (evN G n) ops ts H = some (ts', H') ∧ K ts' H'
  | [], ts, H, h => ⟨0, ts, H, rfl, h⟩
  | o :: rest, ts, H, h => by
    have both : ∀ {v H1} n1, ev1 G (evN G n1) o.w ts H o.op = some (v, H1) → runs ts o.g = some true → wpo G K rest (putT ts o.dst v) H1 → ∃ n ts' H', evOps G (evN G n) (o :: rest) ts H = some (ts', H') ∧ K ts' H' := by
      intro v H1 n1 h1 hg h2
      obtain ⟨n2, ts', H', h3, h4⟩ := wpo_sound h2
      refine ⟨max n1 n2, ts', H', ?_, h4⟩
      simp only [evOps, hg, Option.bind_some, if_true]
      rw [ev1_mono (evN_le (Nat.le_max_left n1 n2)) h1]
      exact evOps_mono (evN_le (Nat.le_max_right n1 n2)) h3
    simp only [wpo] at h
    split at h
    · rename_i hg
      obtain ⟨n1, v, H1, h1, h2⟩ := wp1_sound h
      exact both n1 h1 (by rw [hg]; rfl) h2
    · rename_i j want hg
      have hr : gdV (ts.getD j undefV) want = runs ts o.g := by rw [hg]; rfl
      rw [hr] at h
      unfold wpg at h
      split at h
      · rename_i hgo
        obtain ⟨n1, v, H1, h1, h2⟩ := wp1_sound h
        exact both n1 h1 hgo h2
      · rename_i hgo
        obtain ⟨n2, ts', H', h3, h4⟩ := wpo_sound h
        refine ⟨n2, ts', H', ?_, h4⟩
        simp only [evOps, hgo, Option.bind_some, Bool.false_eq_true, if_false]
        exact h3
      · exact h.elim

theorem wp_sound : ∀ {c : IC} {ts : List V} {H : Heap} {Q : Cont}, wp G c ts H Q → ∃ n x ts' H', exec G (evN G n) c ts H = some (x, ts', H') ∧ Q x ts' H' := by
  intro c
  induction c with
  | skip => intro ts H Q h; exact ⟨0, _, _, _, rfl, h⟩
  | reg ops =>
    intro ts H Q h
    obtain ⟨n, ts', H', h1, h2⟩ := wpo_sound h
    exact ⟨n, _, _, _, by simp only [exec, h1, Option.map_some], h2⟩
  | seq a b iha ihb =>
    intro ts H Q h
    simp only [wp] at h
    obtain ⟨n, x, ts1, H1, h1, h2⟩ := iha h
    cases x with
    | n =>
      obtain ⟨m, x, ts2, H2, h3, h4⟩ := ihb h2
      refine ⟨max n m, x, ts2, H2, ?_, h4⟩
      simp only [exec, exec_mono (evN_le (Nat.le_max_left n m)) h1, Option.bind_some]
      exact exec_mono (evN_le (Nat.le_max_right n m)) h3
    | e id => exact ⟨n, _, _, _, by simp only [exec, h1, Option.bind_some], h2⟩
    | r => exact ⟨n, _, _, _, by simp only [exec, h1, Option.bind_some], h2⟩
  | cond c a b iha ihb =>
    intro ts H Q h
    simp only [wp, ifB] at h
    split at h
    · rename_i hz
      obtain ⟨n, x, ts1, H1, h1, h2⟩ := iha h
      exact ⟨n, _, _, _, by simp only [exec, hz, if_true, h1], h2⟩
    · rename_i hz
      obtain ⟨n, x, ts1, H1, h1, h2⟩ := ihb h
      exact ⟨n, _, _, _, by simp only [exec, hz, Bool.false_eq_true, if_false, h1], h2⟩
    · exact h.elim
  | block id b ih =>
    intro ts H Q h
    simp only [wp] at h
    obtain ⟨n, x, ts1, H1, h1, h2⟩ := ih h
    cases x with
    | n => exact ⟨n, _, _, _, by simp only [exec, h1, Option.map_some], h2⟩
    | r => exact ⟨n, _, _, _, by simp only [exec, h1, Option.map_some], h2⟩
    | e id' =>
      simp only at h2
      split at h2
      · rename_i he; exact ⟨n, .n, ts1, H1, by simp only [exec, h1, Option.map_some, he, if_true], h2⟩
      · rename_i he; exact ⟨n, .e id', ts1, H1, by simp only [exec, h1, Option.map_some, he, if_false], h2⟩
  | loop b ih => intro ts H Q h; exact h
  | exit id => intro ts H Q h; exact ⟨0, _, _, _, rfl, h⟩
  | ret => intro ts H Q h; exact ⟨0, _, _, _, rfl, h⟩
  | frz d =>
    intro ts H Q h
    simp only [wp, bd2_iff] at h
    obtain ⟨v, H', h1, h2⟩ := h
    exact ⟨0, _, _, _, by simp only [exec, h1, Option.map_some], h2⟩
  | bad => intro ts H Q h; exact h.elim

theorem Lp.step {b : IC} {ts : List V} {H : Heap} {Q : Cont} (h : wp G b ts H (loopQ G b Q)) : Lp G b ts H Q := by
  obtain ⟨n, x, ts1, H1, h1, h2⟩ := wp_sound h
  cases x with
  | n =>
    obtain ⟨m, x, ts2, H2, h3, h4⟩ := h2
    refine ⟨max n (m + 1), x, ts2, H2, ?_, h4⟩
    simp only [exec, exec_mono (evN_le (Nat.le_max_left n (m + 1))) h1, Option.bind_some]
    exact (evN_le (Nat.le_max_right n (m + 1))).2 b ts1 H1 _ h3
  | e id => exact ⟨n, _, _, _, by simp only [exec, h1, Option.bind_some], h2⟩
  | r => exact ⟨n, _, _, _, by simp only [exec, h1, Option.bind_some], h2⟩

def retQ (F : IFun) (k : V → Heap → Prop) : Cont := fun x ts H => match x with | .e _ => False | _ => bd (resultV ts H F.res) fun v => k v H
def runW (G : Prog) (F : IFun) (args : List V) (H : Heap) (k : V → Heap → Prop) : Prop := wp G F.code (args ++ List.replicate (F.ntmps - args.length) undefV) H (retQ F k)

theorem runW_sound {F : IFun} {args : List V} {H : Heap} {k : V → Heap → Prop} (h : runW G F args H k) : ∃ n v H', runF G (evN G n) F args H = some (v, H') ∧ k v H' := by
  obtain ⟨n, x, ts, H', h1, h2⟩ := wp_sound h
  cases x with
  | e id => exact h2.elim
  | n =>
    simp only [retQ, bd_iff] at h2
    obtain ⟨v, h3, h4⟩ := h2
    exact ⟨n, v, H', by simp only [runF, h1, Option.bind_some, h3, Option.map_some], h4⟩
  | r =>
    simp only [retQ, bd_iff] at h2
    obtain ⟨v, h3, h4⟩ := h2
    exact ⟨n, v, H', by simp only [runF, h1, Option.bind_some, h3, Option.map_some], h4⟩

theorem Cl.inline {f : FuncId} {F : IFun} (hg : G.get f = some F) (hm : F.mode = 0) {args : List V} {H : Heap} {k : V → Heap → Prop} (h : runW G F args H k) : Cl G f args H k := by
  obtain ⟨n, v, H', h1, h2⟩ := runW_sound h
  refine ⟨n + 1, v, H', ?_, h2⟩
  simp only [evN, stepS, callS, hg, hm, if_true, h1]
theorem Cl.closed {f : FuncId} {F : IFun} (hg : G.get f = some F) (hm : F.mode ≠ 0) {args : List V} (hc : closedVs args = true) {H : Heap} {k : V → Heap → Prop} (h : runW G F args [] (fun v H1 => bd2 (handV F.mode H1 v H) k)) : Cl G f args H k := by
  obtain ⟨n, v, H', h1, h2⟩ := runW_sound h
  rw [bd2_iff] at h2
  obtain ⟨v', H'', h3, h4⟩ := h2
  refine ⟨n + 1, v', H'', ?_, h4⟩
  simp only [evN, stepS, callS, hg, hm, if_false, hc, if_true, h1, Option.bind_some, h3]
theorem Cl.lent {f : FuncId} {F : IFun} (hg : G.get f = some F) (hm : F.mode ≠ 0) {args args' : List V} (hc : closedVs args = false) {H : Heap} (ha : mapO (closeV H closeDepth) args = some args') {k : V → Heap → Prop}
    (h : runW G F args' [] (fun v H1 => bd2 (handV F.mode H1 v H) fun v' H' => (scalarV v' = true ∨ scalarRow H'[H.length]? = true) ∧ k v' H')) : Cl G f args H k := by
  obtain ⟨n, v, H', h1, h2⟩ := runW_sound h
  rw [bd2_iff] at h2
  obtain ⟨v', H'', h3, h5, h4⟩ := h2
  refine ⟨n + 1, v', H'', ?_, h4⟩
  simp only [evN, stepS, callS, hg, hm, if_false, hc, Bool.false_eq_true, ha, h1, Option.bind_some, h3]
  rw [if_pos h5]
end
attribute [irreducible] wp
end Go.Eng
