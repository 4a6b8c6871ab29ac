/-
  ENGINE, part 1: from the loaded code to the interpreter's code. Definitions alone.
-/
import Derived.Test.YtoommmeapdkopaaE0
namespace Go.Eng

def absC : Nat → Value → Option V
  | 0, _ => none
  | d + 1, v => match v with
    | .bool b => some (.bool b)
    | .int k n => some (.int k n)
    | .string s => some (.str s.data.toList)
    | .pointer none => some .nilp
    | .slice none 0 0 => some .nils
    | .nilFunc => some .nilf
    | .nilIface => some .nili
    | .map none => some .nilm
    | .agg cs => (mapO (absC d) cs.toList).bind fun l => if l.all oneC then some (.agg l) else none
    | .tuple cs => (mapO (absC d) cs.toList).map .tup
    | _ => none

def opd : Operand → Option O
  | .tmp t => some (.t t)
  | .const v => (absC 3 v).map .c
  | .func f => some (.c (.fn f []))
  | .global _ => none
def opdO : Option Operand → Option (Option O)
  | none => some none
  | some x => (opd x).map some

section
variable (P : Program)
def aggT (t : TypeId) : Bool := match P.underlying t with
  | some (.struct _) | some (.array _ _) => true
  | _ => false
def sizeT (t : TypeId) : Option Nat := (P.info? t).map (·.size)
def okT (t : TypeId) (k : Nat) : Bool := aggT P t || (k == 1 && (P.underlying t).isSome)
def flat1 (t : TypeId) : Option FK := match P.underlying t with
  | some .bool => some .b
  | some (.int _) => some .i
  | some .string => some .s
  | _ => none
def flatFields : Nat → List Field → Option (List FK)
  | _, [] => some []
  | i, f :: r => if f.offset == i && f.name != "_" && !aggT P f.type then (flat1 P f.type).bind fun k => (flatFields (i + 1) r).map fun ks => k :: ks else none
def eqC (t : TypeId) : Option EqC := match P.underlying t with
  | some .bool => some .bool
  | some (.slice _) => some .slice
  | some (.func ..) => some .func
  | some (.pointer _) => some .ptr
  | some (.map ..) => some .map
  | some (.struct fs) => if !P.stoodInHeld t && !P.eqGuardType P.depth t then (flatFields P 0 fs.toList).map .flat else none
  | some (.array n e) => if sizeT P e == some 1 && !aggT P e && !P.eqGuardType P.depth t then (flat1 P e).map fun k => .flat (List.replicate n k) else none
  | _ => none
def zeroV (t : TypeId) : Option V := (P.info? t).bind fun i => i.zero.bind fun z => (absC 3 z).bind fun v => if notTup v then some v else none
def hasBody (f : FuncId) : Bool := match P.funcs[f]? with
  | some fn => fn.body.isSome && fn.name != "runtime.NumGoroutine"
  | none => false

def trBuild (t : TypeId) (ps : List (Nat × Operand)) : Option (List (Nat × Nat × O)) :=
  match P.underlying t with
  | some (.struct fs) => if (fs.toList.mapM (fun f => (P.info? f.type).map fun i => (f.offset, i.size))).isNone then none else mapO (fun p => (fs[p.1]?).bind fun f => (sizeT P f.type).bind fun s => (opd p.2).map fun x => (f.offset, s, x)) ps
  | some (.array _ e) => (sizeT P e).bind fun s => mapO (fun p => (opd p.2).map fun x => (p.1 * s, s, x)) ps
  | _ => none

def okSrc : TypeDesc → Bool
  | .slice _ | .string => true
  | _ => false
def trCall (c : Call) : Option IOp :=
  match c.callee with
  | .value (.func g) => if hasBody P g then (mapO opd c.args.toList).map (.callf g) else none
  | .value (.tmp t) => (mapO opd c.args.toList).map (.callv (.t t))
  | .builtin .len => match c.args.toList, c.argTypes.toList with
    | [x], [t] => (opd x).bind fun x => match P.underlying t with
      | some .string => some (.lent x)
      | some (.slice _) => some (.lens x)
      | some (.map ..) => some (.lenm x)
      | _ => none
    | _, _ => none
  | .builtin .append => match c.args.toList, c.argTypes.toList with
    | [s, x], [t, u] => match P.underlying t, P.underlying u with
      | some (.slice e), some d => if !okSrc d then none else
          (P.info? e).bind fun i => (zeroV P e).bind fun z => if i.size = 0 ∨ i.bytes = 0 ∨ (cellsV z).length ≠ i.size then none else
            (opd s).bind fun s => (opd x).map fun x => .app i.size i.bytes s x
      | _, _ => none
    | _, _ => none
  | .builtin .copy => match c.args.toList, c.argTypes.toList with
    | [s, x], t :: _ => match P.underlying t with
      | some (.slice e) => (sizeT P e).bind fun k => if k = 0 then none else (opd s).bind fun s => (opd x).map fun x => .copy k s x
      | _ => none
    | _, _ => none
  | .builtin .clear => match c.args.toList, c.argTypes.toList with
    | [x], t :: _ => match P.underlying t with
      | some (.slice e) => (sizeT P e).bind fun k => (zeroV P e).bind fun z => if k = 0 ∨ (cellsV z).length ≠ k then none else (opd x).map fun x => .clr k (cellsV z) x
      | _ => none
    | _, _ => none
  | .builtin .max => match c.args.toList with
    | [x, y] => (opd x).bind fun x => (opd y).map fun y => .maxi x y
    | _ => none
  | .builtin .min => match c.args.toList with
    | [x, y] => (opd x).bind fun x => (opd y).map fun y => .mini x y
    | _ => none
  | _ => none

def trOp : Op → Option IOp
  | .move x | .assign x => (opd x).map .mv
  | .pick c a b => (opd c).bind fun c => (opd a).bind fun a => (opd b).map fun b => .pick c a b
  | .alloc t => (zeroV P t).map fun z => .alloc (cellsV z)
  | .box _ x => (opd x).map .box
  | .build t ps => (zeroV P t).bind fun z => (trBuild P t ps.toList).map fun l => .build (cellsV z) l
  | .buildSlice t len ps => match P.underlying t with
    | some (.slice e) => (sizeT P e).bind fun k => (zeroV P e).bind fun z =>
        if k = 0 ∨ len * k > 2 ^ 24 ∨ (cellsV z).length ≠ k then none else
        (mapO (fun (p : Nat × Operand) => (opd p.2).map fun x => (p.1 * k, k, x)) ps.toList).map fun l => .bsl k len (cellsV z) l
    | _ => none
  | .load t a => (sizeT P t).bind fun k => if okT P t k then (opd a).map fun a => .load k (aggT P t) a else none
  | .store t a x => (sizeT P t).bind fun k => (opd a).bind fun a => (opd x).map fun x => .store k a x
  | .nilCheck x => (opd x).map .nilck
  | .binOp op t x y _ => (opd x).bind fun x => (opd y).bind fun y =>
      match op with
      | .eql | .neq => match P.underlying t with
        | some (.int _) | some .string => some (.bin op x y)
        | _ => (eqC P t).map fun c => .eq c (op matches .neq) x y
      | _ => some (.bin op x y)
  | .unOp op _ x => (opd x).map fun x => .un op x
  | .convert s d x => (opd x).bind fun x => match P.underlying s, P.underlying d with
    | some (.int _), some (.int k) => some (.conv k x)
    | some .string, some .string => some (.same x)
    | _, _ => none
  | .makeFunc (.func f) first caps => if first.size = 0 then (mapO opd caps.toList).map fun l => .mkf f l else none
  | .makeMap _ none => some .mkm
  | .makeSlice t l c => match P.underlying t with
    | some (.slice e) => (P.info? e).bind fun i => (zeroV P e).bind fun z =>
        if i.size = 0 || i.bytes = 0 || (cellsV z).length ≠ i.size then none else (opd l).bind fun l => (opd c).map fun c => .mks i.size i.bytes (cellsV z) l c
    | _ => none
  | .slice t x lo hi mx => (opd x).bind fun x => (opdO lo).bind fun lo => (opdO hi).bind fun hi => (opdO mx).bind fun mx =>
      match P.underlying t with
      | some (.slice e) => (sizeT P e).bind fun k => if k = 0 then none else some (.slc k x lo hi mx)
      | some .string => if mx.isSome then none else some (.ssl x lo hi)
      | some (.array n e) => (sizeT P e).bind fun k => if k = 0 then none else some (.asl n k x lo hi mx)
      | some (.pointer a) => match P.underlying a with
        | some (.array n e) => (sizeT P e).bind fun k => if k = 0 then none else some (.asl n k x lo hi mx)
        | _ => none
      | _ => none
  | .fieldAddr t x f => match P.underlying t with
    | some (.struct fs) => (fs[f]?).bind fun f => (sizeT P f.type).bind fun s => if s = 0 then none else (opd x).map fun x => .fadr f.offset x
    | _ => none
  | .field t x f => match P.underlying t with
    | some (.struct fs) => (fs[f]?).bind fun f => (sizeT P f.type).bind fun k => if okT P f.type k then (opd x).map fun x => .fld f.offset k (aggT P f.type) x else none
    | _ => none
  | .indexAddr t x i => (opd x).bind fun x => (opd i).bind fun i => match P.underlying t with
    | some (.slice e) => (sizeT P e).map fun k => .iadr k x i
    | some (.array n e) => (sizeT P e).map fun k => .aadr n k x i
    | _ => none
  | .index t x i => (opd x).bind fun x => (opd i).bind fun i => match P.underlying t with
    | some (.array n e) => (sizeT P e).bind fun k => if okT P e k then some (.aidx n k (aggT P e) x i) else none
    | some .string => some (.sidx x i)
    | _ => none
  | .lookup t m k ok => match P.underlying t with
    | some (.map kt e) => (flat1 P kt).bind fun fk => (zeroV P e).bind fun z => (opd m).bind fun m => (opd k).map fun k => .lk fk z ok m k
    | _ => none
  | .mapUpdate t m k v => match P.underlying t with
    | some (.map kt _) => (flat1 P kt).bind fun fk => (opd m).bind fun m => (opd k).bind fun k => (opd v).map fun v => .mup fk m k v
    | _ => none
  | .range t x => match P.underlying t with
    | some .string => (opd x).map .rng
    | _ => none
  | .next it true => (opd it).map .nxt
  | .extract x i => (opd x).map fun x => .ext i x
  | .call c => trCall P c
  | _ => none

def still : IOp → Bool
  | .mv _ | .pick .. | .build .. | .nilck _ | .bin .. | .eq .. | .un .. | .conv .. | .same _ | .fadr .. | .fld .. | .iadr .. | .aadr .. | .aidx .. | .sidx .. | .slc .. | .ssl .. | .asl .. | .lens _ | .lent _
  | .maxi .. | .mini .. | .ext .. | .mkf .. | .loadr .. => true
  | _ => false

def trO (o : Oper) : IOp := (trOp P o.op).getD .bad
def trG (ops : Array Oper) (o : Oper) : Option (Nat × Bool) := o.guard.map fun g => (((ops[g.1]?).bind (·.dst)).getD 1000000, g.2)
def adrPr (pr : List Nat) : O → Bool
  | .t t => pr.contains (t + 1000000)
  | .c _ => false
def altO (pr : List Nat) (fz : Bool) (d : Option Nat) : IOp → IOp
  | .box x => match d with
    | some d => if pr.contains d then .boxr x else .box x
    | none => .box x
  | .load k ag a => if fz || adrPr pr a then .loadr k ag a else .load k ag a
  | x => x
def trA (pr : List Nat) (fz : Bool) (o : Oper) : IOp := altO pr fz o.dst (trO P o)
def trOper (pr : List Nat) (ops : Array Oper) (fz w : Bool) (o : Oper) : IOper := { dst := o.dst, op := trA P pr fz o, g := trG ops o, w }

def ordered (b : Array Nat) (i j : Nat) : Bool := (j < i && (b.getD i 0).testBit j) || (i < j && (b.getD j 0).testBit i)
def readsOk (ops : Array Oper) (b : Array Nat) (i : Nat) : Bool :=
  match ops[i]? with
  | none => false
  | some o => (List.range ops.size).all fun j => match ((ops[j]?).bind (·.dst)) with
    | none => true
    | some d => i == j || !(o.looksAt ops).contains d || ordered b i j
def noDup (ops : Array Oper) : Bool :=
  (List.range ops.size).all fun i => (List.range ops.size).all fun j => i == j || (match (ops[i]?).bind (·.dst), (ops[j]?).bind (·.dst) with | some a, some b => a != b | _, _ => true)
def edgesOk (ops : Array Oper) : Bool := ops.toList.zipIdx.all fun (o, i) => o.after.toList.all fun e => !Region.binds .any e || e.on < i
def guardsOk (ops : Array Oper) : Bool := ops.toList.all fun o => match o.guard with
  | none => true
  | some (j, _) => ((ops[j]?).bind (·.dst)).isSome
def openOk (ops : Array Oper) (b : Array Nat) : Bool :=
  edgesOk ops && noDup ops && (List.range ops.size).all (readsOk ops b)
def isLoad : Op → Bool
  | .load .. => true
  | _ => false
def isStore : Op → Bool
  | .store .. => true
  | _ => false
def frozen (ops : Array Oper) (b : Array Nat) (j : Nat) : Bool :=
  (match ops[j]? with | some o => isLoad o.op | none => false) && (List.range ops.size).any fun i => i != j && !ordered b i j && (match ops[i]? with | some o => isStore o.op | none => false)
def mayWrite (pr : List Nat) (ops : Array Oper) (b : Array Nat) (i : Nat) : Bool :=
  (List.range ops.size).all fun j => i == j || ordered b i j || (match ops[j]? with | some o => still (trA P pr (frozen ops b j) o) | none => true)

def storesTo (pr : List Nat) (ops : Array Oper) : List Nat := ops.toList.filterMap fun o => match o.op with
  | .store _ (.tmp d) _ => if pr.contains d then some d else none
  | _ => none
def frzs : List Nat → IC → IC
  | [], c => c
  | d :: l, c => .seq (frzs l c) (.frz d)

def trCode (pr : List Nat) : Code → IC
  | .skip => .skip
  | .label _ => .skip
  | .region _ ops draw =>
    if !guardsOk ops then .bad
    else if draw then
      if openOk ops (Region.before ops) then .reg (ops.toList.zipIdx.map fun p => trOper P pr ops (frozen ops (Region.before ops) p.2) (mayWrite P pr ops (Region.before ops) p.2) p.1) else .bad
    else frzs (storesTo pr ops) (.reg (ops.toList.map (trOper P pr ops false true)))
  | .seq a b => .seq (trCode pr a) (trCode pr b)
  | .cond c a b => match opd c with
    | some c => .cond c (trCode pr a) (trCode pr b)
    | none => .bad
  | .block id b => .block id (trCode pr b)
  | .loop b => .loop (trCode pr b)
  | .exit id => .exit id
  | .ret => .ret
  | _ => .bad

def trRes : ResultVar → Option IRes
  | .tmp t => some (.t t)
  | .cell a t => (sizeT P t).bind fun k => if okT P t k then some (.cell a k (aggT P t)) else none

def trFun (f : FuncId) (mode : Nat) (pr : List Nat) : Option IFun :=
  (P.funcs[f]?).bind fun fn => fn.body.bind fun c => if fn.name == "runtime.NumGoroutine" then none else
    (mapO (trRes P) fn.results.toList).map fun rs => ⟨trCode P pr c, fn.ntmps, rs, mode, pr⟩
end
def Ties (P : Program) (G : Prog) : Prop := P.follows .mixedOrders = true ∧ ∀ p ∈ G, trFun P p.1 p.2.mode p.2.pr = some p.2

end Go.Eng
