/-
  ENGINE, part 0: an interpreter of the loaded code over values without real addresses. Definitions alone.
-/
import Derived.Orders
import Derived.Laws.Append
namespace Go.Eng

inductive V where
  | bool (b : Bool)
  | int (k : IntKind) (n : Int)
  | str (s : List UInt8)
  | nilp
  | ptr (id off : Nat)
  | rptr (cs : List V)
  | nils
  | z0
  | e0
  | ro (cs : List V) (n : Nat)
  | sl (id off n cap k : Nat)
  | fn (f : FuncId) (caps : List V)
  | nilf
  | agg (cs : List V)
  | tup (vs : List V)
  | map (id : Nat)
  | nilm
  | iface (t : TypeId) (v : V)
  | nili
  deriving Inhabited

inductive B where
  | cells (cs : List V)
  | map (es : List (V × V))
  | siter (s : List UInt8) (pos : Nat)
  | dead
  deriving Inhabited

abbrev Heap := List B
def undefV : V := .tup []

inductive O where
  | t (i : Nat)
  | c (v : V)
  deriving Inhabited

inductive FK where
  | b | i | s
  deriving Inhabited
inductive EqC where
  | bool | slice | func | ptr | map
  | flat (ks : List FK)
  deriving Inhabited

inductive IOp where
  | mv (x : O)
  | pick (c a b : O)
  | alloc (zs : List V)
  | box (x : O)
  | boxr (x : O)
  | loadr (k : Nat) (ag : Bool) (a : O)
  | build (zs : List V) (ps : List (Nat × Nat × O))
  | bsl (k len : Nat) (zs : List V) (ps : List (Nat × Nat × O))
  | load (k : Nat) (ag : Bool) (a : O)
  | store (k : Nat) (a x : O)
  | nilck (x : O)
  | bin (op : BinOp) (x y : O)
  | eq (cls : EqC) (neg : Bool) (x y : O)
  | un (op : UnOp) (x : O)
  | conv (k : IntKind) (x : O)
  | same (x : O)
  | fadr (off : Nat) (x : O)
  | fld (off k : Nat) (ag : Bool) (x : O)
  | iadr (k : Nat) (x i : O)
  | aadr (len k : Nat) (x i : O)
  | aidx (len k : Nat) (ag : Bool) (x i : O)
  | sidx (x i : O)
  | slc (k : Nat) (x : O) (lo hi mx : Option O)
  | ssl (x : O) (lo hi : Option O)
  | asl (len k : Nat) (x : O) (lo hi mx : Option O)
  | lens (x : O)
  | lent (x : O)
  | lenm (x : O)
  | app (k bytes : Nat) (s x : O)
  | copy (k : Nat) (d s : O)
  | clr (k : Nat) (zs : List V) (x : O)
  | maxi (x y : O)
  | mini (x y : O)
  | mks (k bytes : Nat) (zs : List V) (l c : O)
  | mkm
  | lk (fk : FK) (zero : V) (ok : Bool) (m key : O)
  | mup (fk : FK) (m key v : O)
  | rng (x : O)
  | nxt (it : O)
  | ext (i : Nat) (x : O)
  | mkf (f : FuncId) (caps : List O)
  | callf (f : FuncId) (args : List O)
  | callv (x : O) (args : List O)
  | bad
  deriving Inhabited

structure IOper where
  dst : Option Nat
  op : IOp
  g : Option (Nat × Bool)
  w : Bool
  deriving Inhabited

inductive X where
  | n
  | e (id : Nat)
  | r
  deriving Inhabited, DecidableEq

inductive IC where
  | skip
  | reg (ops : List IOper)
  | seq (a b : IC)
  | cond (c : O) (a b : IC)
  | block (id : Nat) (b : IC)
  | loop (b : IC)
  | exit (id : Nat)
  | ret
  | frz (d : Nat)
  | bad
  deriving Inhabited

inductive IRes where
  | t (i : Nat)
  | cell (i k : Nat) (ag : Bool)
  deriving Inhabited

structure IFun where
  code : IC
  ntmps : Nat
  res : List IRes
  mode : Nat
  pr : List Nat
  deriving Inhabited

abbrev Prog := List (Nat × IFun)
def Prog.get (P : Prog) (f : FuncId) : Option IFun :=
  match P with
  | [] => none
  | (g, F) :: r => if Nat.beq g f then some F else Prog.get r f
def Prog.pur (P : Prog) (f : FuncId) : Bool := match P.get f with | some F => F.mode != 0 | none => false

def look (ts : List V) : O → V
  | .t i => ts.getD i undefV
  | .c v => v
def lookO (ts : List V) (o : Option O) : Option V := o.map (look ts)

def cellsV : V → List V
  | .agg cs => cs
  | v => [v]

def rd (H : Heap) (p : V) (k : Nat) : Option (List V) :=
  match p with
  | .ptr id off => match H[id]? with
    | some (.cells cs) => if off + k ≤ cs.length then some ((cs.drop off).take k) else none
    | _ => none
  | .rptr cs => if k ≤ cs.length then some (cs.take k) else none
  | _ => none

def rdr (p : V) (k : Nat) : Option (List V) :=
  match p with
  | .rptr cs => if k ≤ cs.length then some (cs.take k) else none
  | _ => none

def packV (ag : Bool) (l : List V) : Option V :=
  if ag then some (.agg l) else match l with | [x] => some x | _ => none

def oneC : V → Bool
  | .agg _ | .tup _ => false
  | _ => true
def notTup : V → Bool
  | .tup _ => false
  | _ => true

def ovl (cs : List V) (o : Nat) (xs : List V) : List V :=
  match xs with
  | [x] => cs.set o x
  | xs => cs.take o ++ xs ++ cs.drop (o + xs.length)

def wrt (H : Heap) (p : V) (xs : List V) : Option Heap :=
  match p with
  | .ptr id off => match H[id]? with
    | some (.cells cs) => if off + xs.length ≤ cs.length then some (H.set id (.cells (ovl cs off xs))) else none
    | _ => none
  | _ => none

def fillV (cells : List V) : List (Nat × Nat × V) → Option (List V)
  | [] => some cells
  | (off, size, v) :: rest =>
    if (cellsV v).length = size ∧ off + size ≤ cells.length ∧ notTup v = true then fillV (ovl cells off (cellsV v)) rest else none

def lookPs (ts : List V) (ps : List (Nat × Nat × O)) : List (Nat × Nat × V) := ps.map fun p => (p.1, p.2.1, look ts p.2.2)

def rep (n : Nat) (zs : List V) : List V := (List.replicate n zs).flatten

def sliceCells (H : Heap) (x : V) (k : Nat) : Option (List V × Nat) :=
  match x with
  | .nils | .z0 | .e0 => some ([], 0)
  | .ro cs n => if n * k ≤ cs.length then some (cs.take (n * k), n) else none
  | .sl id off n _ _ => match H[id]? with
    | some (.cells cs) => if off + n * k ≤ cs.length then some ((cs.drop off).take (n * k), n) else none
    | _ => none
  | .str s => if k = 1 then some (s.map (fun b => .int .u8 b.toNat), s.length) else none
  | _ => none

def isSlice : V → Bool
  | .nils | .z0 | .e0 | .ro _ _ | .sl _ _ _ _ _ => true
  | _ => false

def room : Nat := 70368744177664

def appV (k bytes : Nat) (wr : Bool) (H : Heap) (s x : V) : Option (V × Heap) :=
  (sliceCells H x k).bind fun (xs, n) =>
  if n = 0 then (if isSlice s then some (s, H) else none)
  else match s with
    | .nils | .z0 => if n * bytes ≤ room then some (.sl H.length 0 n n k, H ++ [.cells xs]) else none
    | .sl id off m cap k' => if k' = k ∧ wr = true then
        match H[id]? with
        | some (.cells cs) =>
          if m + n ≤ cap then
            (if off + (m + n) * k ≤ cs.length then some (.sl id off (m + n) cap k, H.set id (.cells (ovl cs (off + m * k) xs))) else none)
          else if off = 0 ∧ m * k ≤ cs.length ∧ (m + n) * bytes ≤ room then
            some (.sl H.length 0 (m + n) (m + n) k, H.set id .dead ++ [.cells (cs.take (m * k) ++ xs)])
          else none
        | _ => none
      else none
    | _ => none

def bnd (v : Option V) (dflt top : Nat) : Option Nat :=
  match v with
  | none => some dflt
  | some (.int _ i) => if 0 ≤ i ∧ i ≤ top then some i.toNat else none
  | _ => none

def bnds (len cap : Nat) (lo hi mx : Option V) : Option (Nat × Nat × Nat) :=
  if mx.isSome && hi.isNone then none else (bnd mx cap cap).bind fun m => (bnd hi len m).bind fun h => (bnd lo 0 h).bind fun l => if h ≤ m then some (l, h, m) else none

def slcV (k : Nat) (x : V) (lo hi mx : Option V) : Option V :=
  match x with
  | .nils => (bnds 0 0 lo hi mx).map fun _ => .nils
  | .z0 => (bnds 0 0 lo hi mx).map fun _ => .z0
  | .ro cs n => (bnds n n lo hi mx).map fun (l, h, m) =>
      if mx.isSome ∧ m = l then .z0 else if h = l then .e0 else .ro ((cs.drop (l * k)).take ((h - l) * k)) (h - l)
  | .sl id off n cap k' => if k' = k then (bnds n cap lo hi mx).map fun (l, h, m) =>
      if m = l then (if mx.isSome then .z0 else .e0) else .sl id (off + l * k) (h - l) (m - l) k
    else none
  | _ => none

def sslV (x : V) (lo hi : Option V) : Option V :=
  match x with
  | .str s => (bnds s.length s.length lo hi none).map fun (l, h, _) => .str ((s.drop l).take (h - l))
  | _ => none

def aslV (len k : Nat) (x : V) (lo hi mx : Option V) : Option V :=
  match x with
  | .ptr id off => (bnds len len lo hi mx).map fun (l, h, m) => if m = l then .z0 else .sl id (off + l * k) (h - l) (m - l) k
  | .rptr cs => (bnds len len lo hi mx).map fun (l, h, m) => if m = l then .z0 else if h = l then .e0 else .ro ((cs.drop (l * k)).take ((h - l) * k)) (h - l)
  | _ => none

def iadrV (k : Nat) (x i : V) : Option V :=
  match i with
  | .int _ i =>
    match x with
    | .ro cs n => if 0 ≤ i ∧ i < n then some (.rptr (cs.drop (i.toNat * k))) else none
    | .sl id off n _ _ => if 0 ≤ i ∧ i < n then some (.ptr id (off + i.toNat * k)) else none
    | _ => none
  | _ => none

def aadrV (len k : Nat) (x i : V) : Option V :=
  match i with
  | .int _ i =>
    match x with
    | .rptr cs => if 0 ≤ i ∧ i < len then some (.rptr (cs.drop (i.toNat * k))) else none
    | .ptr id off => if 0 ≤ i ∧ i < len then some (.ptr id (off + i.toNat * k)) else none
    | _ => none
  | _ => none

def fadrV (off : Nat) (x : V) : Option V :=
  match x with
  | .rptr cs => some (.rptr (cs.drop off))
  | .ptr id o => some (.ptr id (o + off))
  | _ => none

def fldV (off k : Nat) (ag : Bool) (x : V) : Option V :=
  match x with
  | .agg cs => if off + k ≤ cs.length then packV ag ((cs.drop off).take k) else none
  | _ => none

def aidxV (len k : Nat) (ag : Bool) (x i : V) : Option V :=
  match i with
  | .int _ i => if 0 ≤ i ∧ i < len then fldV (i.toNat * k) k ag x else none
  | _ => none

def sidxV (x i : V) : Option V :=
  match x, i with
  | .str s, .int _ i => if 0 ≤ i then (s[i.toNat]?).map fun b => .int .u8 b.toNat else none
  | _, _ => none

def eq1 : FK → V → V → Option Bool
  | .b, .bool a, .bool b => some (a == b)
  | .i, .int k a, .int k' b => if k = k' then some (a == b) else none
  | .s, .str a, .str b => some (a == b)
  | _, _, _ => none
def eqs : List FK → List V → List V → Option Bool
  | [], [], [] => some true
  | k :: ks, x :: xs, y :: ys => (eq1 k x y).bind fun a => (eqs ks xs ys).map fun b => a && b
  | _, _, _ => none
def eqV (cls : EqC) (x y : V) : Option Bool :=
  match cls with
  | .bool => match x, y with
    | .bool a, .bool b => some (a == b)
    | _, _ => none
  | .flat ks => match x, y with
    | .agg xs, .agg ys => eqs ks xs ys
    | _, _ => none
  | .slice => match x, y with
    | .nils, .nils => some true
    | .nils, .z0 | .nils, .e0 | .nils, .ro _ _ | .nils, .sl _ _ _ _ _ => some false
    | .z0, .nils | .e0, .nils | .ro _ _, .nils | .sl _ _ _ _ _, .nils => some false
    | _, _ => none
  | .func => match x, y with
    | .nilf, .nilf => some true
    | .nilf, .fn _ _ | .fn _ _, .nilf => some false
    | _, _ => none
  | .ptr => match x, y with
    | .nilp, .nilp => some true
    | .nilp, .ptr _ _ | .ptr _ _, .nilp | .nilp, .rptr _ | .rptr _, .nilp => some false
    | _, _ => none
  | .map => match x, y with
    | .nilm, .nilm => some true
    | .nilm, .map _ | .map _, .nilm => some false
    | _, _ => none

def bitsV (k : IntKind) (op : BinOp) (x y : Int) : Int :=
  let a := BitVec.ofInt k.bits x
  let b := BitVec.ofInt k.bits y
  match op with
  | .and => k.wrap (a &&& b).toNat
  | .or => k.wrap (a ||| b).toNat
  | .xor => k.wrap (a ^^^ b).toNat
  | _ => k.wrap (a &&& ~~~b).toNat

def binV (op : BinOp) (x y : V) : Option V :=
  match x, y with
  | .int k a, .int k' b =>
    match op with
    | .shl => if b < 0 then none else some (.int k (k.wrap (a * 2 ^ (min b.toNat k.bits))))
    | .shr => if b < 0 then none else some (.int k (a.fdiv (2 ^ (min b.toNat k.bits))))
    | op => if k = k' then
        match op with
        | .add => some (.int k (k.wrap (a + b)))
        | .sub => some (.int k (k.wrap (a - b)))
        | .mul => some (.int k (k.wrap (a * b)))
        | .quo => if b = 0 then none else some (.int k (k.wrap (a.tdiv b)))
        | .rem => if b = 0 then none else some (.int k (a.tmod b))
        | .and | .or | .xor | .andNot => some (.int k (bitsV k op a b))
        | .eql => some (.bool (a == b))
        | .neq => some (.bool (a != b))
        | .lss => some (.bool (decide (a < b)))
        | .leq => some (.bool (decide (a ≤ b)))
        | .gtr => some (.bool (decide (a > b)))
        | .geq => some (.bool (decide (a ≥ b)))
        | _ => none
      else none
  | .str a, .str b =>
    match op with
    | .add => if a.length + b.length ≤ room then some (.str (a ++ b)) else none
    | .eql => some (.bool (a == b))
    | .neq => some (.bool (!(a == b)))
    | .lss => some (.bool (Op.bytesLess a b))
    | .leq => some (.bool (Op.bytesLess a b || (a == b)))
    | .gtr => some (.bool (!(Op.bytesLess a b || (a == b))))
    | .geq => some (.bool (!(Op.bytesLess a b)))
    | _ => none
  | _, _ => none

def unV (op : UnOp) (x : V) : Option V :=
  match op, x with
  | .neg, .int k n => some (.int k (k.wrap (0 - n)))
  | .xor, .int k n => some (.int k (bitsV k .xor (if k.signed then -1 else k.max) n))
  | .not, .bool b => some (.bool !b)
  | _, _ => none

def nilckV : V → Option V
  | .ptr id off => some (.ptr id off)
  | .rptr cs => some (.rptr cs)
  | .fn f cs => some (.fn f cs)
  | _ => none

def keyIs : FK → V → Bool
  | .b, .bool _ | .i, .int _ _ | .s, .str _ => true
  | _, _ => false
def findK (fk : FK) (k : V) : List (V × V) → Option (Option Nat)
  | [] => some none
  | e :: es => (eq1 fk k e.1).bind fun b => if b then some (some 0) else (findK fk k es).map fun r => r.map (· + 1)

def lkV (H : Heap) (fk : FK) (zero : V) (ok : Bool) (m key : V) : Option V :=
  let out (v : V) (b : Bool) : V := if ok then .tup [v, .bool b] else v
  if keyIs fk key = true then match m with
    | .nilm => some (out zero false)
    | .map id => match H[id]? with
      | some (.map es) => (findK fk key es).bind fun r => match r with
        | some i => (es[i]?).map fun e => out e.2 true
        | none => some (out zero false)
      | _ => none
    | _ => none
  else none

def mupV (H : Heap) (fk : FK) (m key v : V) : Option Heap :=
  if keyIs fk key = true then match m with
    | .map id => match H[id]? with
      | some (.map es) => (findK fk key es).map fun r => match r with
        | some i => H.set id (.map (es.modify i fun _ => (key, v)))
        | none => H.set id (.map (es ++ [(key, v)]))
      | _ => none
    | _ => none
  else none

def decodeAt (s : List UInt8) (pos : Nat) : Int × Nat := let r := Utf8.decode ⟨s.toArray⟩ pos; (r.1, r.2)

def nxtV (H : Heap) (it : V) : Option (V × Heap) :=
  match it with
  | .ptr id 0 => match H[id]? with
    | some (.siter s pos) =>
      if pos < s.length then
        some (.tup [.bool true, .int .i64 pos, .int .i32 (decodeAt s pos).1], H.set id (.siter s (pos + (decodeAt s pos).2)))
      else some (.tup [.bool false], H)
    | _ => none
  | _ => none

def lenmV (H : Heap) (m : V) : Option V :=
  match m with
  | .nilm => some (.int .i64 0)
  | .map id => match H[id]? with
    | some (.map es) => some (.int .i64 es.length)
    | _ => none
  | _ => none

def lensV (x : V) : Option V :=
  match x with
  | .nils | .z0 | .e0 => some (.int .i64 0)
  | .ro _ n => some (.int .i64 n)
  | .sl _ _ n _ _ => some (.int .i64 n)
  | _ => none

def copyV (k : Nat) (H : Heap) (d s : V) : Option (V × Heap) :=
  (sliceCells H s k).bind fun (xs, n) =>
  match d with
  | .nils | .z0 | .e0 => some (.int .i64 0, H)
  | .sl id off m _ _ => match H[id]? with
    | some (.cells cs) =>
      if off + (min n m) * k ≤ cs.length then some (.int .i64 (min n m : Nat), H.set id (.cells (ovl cs off (xs.take ((min n m) * k))))) else none
    | _ => none
  | _ => none

def clrV (k : Nat) (zs : List V) (H : Heap) (x : V) : Option (V × Heap) :=
  match x with
  | .nils | .z0 | .e0 => some (undefV, H)
  | .sl id off n _ _ => match H[id]? with
    | some (.cells cs) => if off + n * k ≤ cs.length then some (undefV, H.set id (.cells (ovl cs off (rep n zs)))) else none
    | _ => none
  | _ => none

def mksV (k bytes : Nat) (zs : List V) (H : Heap) (l c : V) : Option (V × Heap) :=
  match l, c with
  | .int _ l, .int _ c =>
    if 0 ≤ l ∧ l ≤ c ∧ c * bytes ≤ room then
      if c = 0 then some (.z0, H) else some (.sl H.length 0 l.toNat c.toNat k, H ++ [.cells (rep c.toNat zs)])
    else none
  | _, _ => none

mutual
def closedV : V → Bool
  | .ptr _ _ | .sl _ _ _ _ _ | .map _ => false
  | .fn _ cs => closedVs cs
  | .agg cs => closedVs cs
  | .tup cs => closedVs cs
  | .iface _ v => closedV v
  | _ => true
def closedVs : List V → Bool
  | [] => true
  | v :: r => closedV v && closedVs r
end
mutual
def scalarV : V → Bool
  | .ptr _ _ | .sl _ _ _ _ _ | .map _ | .ro _ _ | .rptr _ => false
  | .fn _ cs => scalarVs cs
  | .agg cs => scalarVs cs
  | .tup cs => scalarVs cs
  | .iface _ v => scalarV v
  | _ => true
def scalarVs : List V → Bool
  | [] => true
  | v :: r => scalarV v && scalarVs r
end

def scalarRow : Option B → Bool
  | some (.cells cs) => scalarVs cs
  | _ => false

def mapO {α β : Type} (f : α → Option β) : List α → Option (List β)
  | [] => some []
  | x :: r => (f x).bind fun y => (mapO f r).map fun ys => y :: ys

def closeV (H : Heap) : Nat → V → Option V
  | 0, _ => none
  | d + 1, v => match v with
    | .ptr id off => match H[id]? with
      | some (.cells cs) => (mapO (closeV H d) (cs.drop off)).map .rptr
      | _ => none
    | .sl id off n _ k => match H[id]? with
      | some (.cells cs) => if off + n * k ≤ cs.length then (mapO (closeV H d) ((cs.drop off).take (n * k))).map fun l => .ro l n else none
      | _ => none
    | .fn f cs => (mapO (closeV H d) cs).map (.fn f)
    | .agg cs => (mapO (closeV H d) cs).map .agg
    | .tup cs => (mapO (closeV H d) cs).map .tup
    | .iface t v => (closeV H d v).map (.iface t)
    | .map _ => none
    | v => some v

def closeDepth : Nat := 12

def handV (mode : Nat) (H1 : Heap) (v : V) (H : Heap) : Option (V × Heap) :=
  if mode = 1 then (closeV H1 closeDepth v).map fun v => (v, H)
  else match v with
    | .sl id off n cap k => match H1[id]? with
      | some (.cells cs) => if off = 0 ∧ n * k ≤ cs.length ∧ cap * k ≤ cs.length then (mapO (closeV (H1.set id .dead) closeDepth) (cs.take (n * k))).map fun l => (.sl H.length 0 n n k, H ++ [.cells l]) else none
      | _ => none
    | .map id => match H1[id]? with
      | some (.map es) => (mapO (fun (e : V × V) => (closeV (H1.set id .dead) closeDepth e.1).bind fun a => (closeV (H1.set id .dead) closeDepth e.2).map fun b => (a, b)) es).map fun l => (.map H.length, H ++ [.map l])
      | _ => none
    | v => (closeV H1 closeDepth v).map fun v => (v, H)

structure Self where
  call : FuncId → List V → Heap → Option (V × Heap)
  again : IC → List V → Heap → Option (X × List V × Heap)

def ret1 (H : Heap) (v : Option V) : Option (V × Heap) := v.map fun v => (v, H)

def ev1 (P : Prog) (S : Self) (wr : Bool) (ts : List V) (H : Heap) : IOp → Option (V × Heap)
  | .mv x => some (look ts x, H)
  | .pick c a b => match look ts c with
    | .bool b' => some (if b' then look ts a else look ts b, H)
    | _ => none
  | .alloc zs => some (.ptr H.length 0, H ++ [.cells zs])
  | .box x => if notTup (look ts x) = true then some (.ptr H.length 0, H ++ [.cells (cellsV (look ts x))]) else none
  | .boxr x => if notTup (look ts x) = true ∧ closedVs (cellsV (look ts x)) = true then some (.rptr (cellsV (look ts x)), H) else none
  | .loadr k ag a => ret1 H ((rdr (look ts a) k).bind (packV ag))
  | .build zs ps => ret1 H ((fillV zs (lookPs ts ps)).map .agg)
  | .bsl k len zs ps => (fillV (rep len zs) (lookPs ts ps)).map fun cs =>
      if len = 0 then (.z0, H) else (.sl H.length 0 len len k, H ++ [.cells cs])
  | .load k ag a => ret1 H ((rd H (look ts a) k).bind (packV ag))
  | .store k a x => if wr = true ∧ (cellsV (look ts x)).length = k ∧ notTup (look ts x) = true then (wrt H (look ts a) (cellsV (look ts x))).map fun H' => (undefV, H') else none
  | .nilck x => ret1 H (nilckV (look ts x))
  | .bin op x y => ret1 H (binV op (look ts x) (look ts y))
  | .eq cls neg x y => ret1 H ((eqV cls (look ts x) (look ts y)).map fun b => .bool (if neg then !b else b))
  | .un op x => ret1 H (unV op (look ts x))
  | .conv k x => match look ts x with
    | .int _ n => some (.int k (k.wrap n), H)
    | _ => none
  | .same x => match look ts x with
    | .str s => some (.str s, H)
    | _ => none
  | .fadr off x => ret1 H (fadrV off (look ts x))
  | .fld off k ag x => ret1 H (fldV off k ag (look ts x))
  | .iadr k x i => ret1 H (iadrV k (look ts x) (look ts i))
  | .aadr len k x i => ret1 H (aadrV len k (look ts x) (look ts i))
  | .aidx len k ag x i => ret1 H (aidxV len k ag (look ts x) (look ts i))
  | .sidx x i => ret1 H (sidxV (look ts x) (look ts i))
  | .slc k x lo hi mx => ret1 H (slcV k (look ts x) (lookO ts lo) (lookO ts hi) (lookO ts mx))
  | .ssl x lo hi => ret1 H (sslV (look ts x) (lookO ts lo) (lookO ts hi))
  | .asl len k x lo hi mx => ret1 H (aslV len k (look ts x) (lookO ts lo) (lookO ts hi) (lookO ts mx))
  | .lens x => ret1 H (lensV (look ts x))
  | .lent x => match look ts x with
    | .str s => some (.int .i64 s.length, H)
    | _ => none
  | .lenm x => ret1 H (lenmV H (look ts x))
  | .app k bytes s x => appV k bytes wr H (look ts s) (look ts x)
  | .copy k d s => if wr = true then copyV k H (look ts d) (look ts s) else none
  | .clr k zs x => if wr = true then clrV k zs H (look ts x) else none
  | .maxi x y => match look ts x, look ts y with
    | .int k a, .int _ b => some (.int k (if b > a then b else a), H)
    | _, _ => none
  | .mini x y => match look ts x, look ts y with
    | .int k a, .int _ b => some (.int k (if b < a then b else a), H)
    | _, _ => none
  | .mks k bytes zs l c => mksV k bytes zs H (look ts l) (look ts c)
  | .mkm => some (.map H.length, H ++ [.map []])
  | .lk fk zero ok m key => ret1 H (lkV H fk zero ok (look ts m) (look ts key))
  | .mup fk m key v => if wr = true then (mupV H fk (look ts m) (look ts key) (look ts v)).map fun H' => (undefV, H') else none
  | .rng x => match look ts x with
    | .str s => some (.ptr H.length 0, H ++ [.siter s 0])
    | _ => none
  | .nxt it => if wr = true then nxtV H (look ts it) else none
  | .ext i x => match look ts x with
    | .tup vs => (vs[i]?).map fun v => (v, H)
    | _ => none
  | .mkf f caps => some (.fn f (caps.map (look ts)), H)
  | .callf f args => if wr = true ∨ P.pur f = true then S.call f (args.map (look ts)) H else none
  | .callv x args => match look ts x with
    | .fn f caps => if wr = true ∨ P.pur f = true then S.call f (args.map (look ts) ++ caps) H else none
    | _ => none
  | .bad => none

def putT (ts : List V) (d : Option Nat) (v : V) : List V :=
  match d with
  | some d => ts.set d v
  | none => ts

def runs (ts : List V) (g : Option (Nat × Bool)) : Option Bool :=
  match g with
  | none => some true
  | some (j, want) => match ts.getD j undefV with
    | .bool b => some (b == want)
    | .tup [] => some false
    | _ => none

def evOps (P : Prog) (S : Self) : List IOper → List V → Heap → Option (List V × Heap)
  | [], ts, H => some (ts, H)
  | o :: rest, ts, H =>
    (runs ts o.g).bind fun go =>
      if go = true then (ev1 P S o.w ts H o.op).bind fun r => evOps P S rest (putT ts o.dst r.1) r.2
      else evOps P S rest (putT ts o.dst undefV) H

def frzV (H : Heap) (v : V) : Option (V × Heap) :=
  match v with
  | .ptr id 0 => match H[id]? with
    | some (.cells cs) => if closedVs cs = true then some (.rptr cs, H.set id .dead) else none
    | _ => none
  | _ => none

def exec (P : Prog) (S : Self) : IC → List V → Heap → Option (X × List V × Heap)
  | .skip, ts, H => some (.n, ts, H)
  | .reg ops, ts, H => (evOps P S ops ts H).map fun r => (.n, r.1, r.2)
  | .seq a b, ts, H => (exec P S a ts H).bind fun r => match r.1 with
    | .n => exec P S b r.2.1 r.2.2
    | _ => some r
  | .cond c a b, ts, H => match look ts c with
    | .bool t => if t = true then exec P S a ts H else exec P S b ts H
    | _ => none
  | .block id b, ts, H => (exec P S b ts H).map fun r => match r.1 with
    | .e id' => if id' = id then (.n, r.2.1, r.2.2) else r
    | _ => r
  | .loop b, ts, H => (exec P S b ts H).bind fun r => match r.1 with
    | .n => S.again b r.2.1 r.2.2
    | _ => some r
  | .exit id, ts, H => some (.e id, ts, H)
  | .ret, ts, H => some (.r, ts, H)
  | .frz d, ts, H => (frzV H (ts.getD d undefV)).map fun r => (.n, ts.set d r.1, r.2)
  | .bad, _, _ => none

def result1 (ts : List V) (H : Heap) : IRes → Option V
  | .t i => some (ts.getD i undefV)
  | .cell i k ag => (rd H (ts.getD i undefV) k).bind (packV ag)
def resultV (ts : List V) (H : Heap) (rs : List IRes) : Option V :=
  (mapO (result1 ts H) rs).map fun vs => match vs with | [v] => v | vs => .tup vs

def runF (P : Prog) (S : Self) (F : IFun) (args : List V) (H : Heap) : Option (V × Heap) :=
  (exec P S F.code (args ++ List.replicate (F.ntmps - args.length) undefV) H).bind fun r =>
    match r.1 with
    | .e _ => none
    | _ => (resultV r.2.1 r.2.2 F.res).map fun v => (v, r.2.2)

def callS (P : Prog) (S : Self) (f : FuncId) (args : List V) (H : Heap) : Option (V × Heap) :=
  match P.get f with
  | none => none
  | some F =>
    if F.mode = 0 then runF P S F args H
    else if closedVs args = true then (runF P S F args []).bind fun r => handV F.mode r.2 r.1 H
    else (mapO (closeV H closeDepth) args).bind fun args' => (runF P S F args' []).bind fun r => (handV F.mode r.2 r.1 H).bind fun h =>
      if scalarV h.1 = true ∨ scalarRow h.2[H.length]? = true then some h else none

def stepS (P : Prog) (S : Self) : Self := ⟨callS P S, fun b ts H => exec P S (.loop b) ts H⟩
def evN (P : Prog) : Nat → Self
  | 0 => ⟨fun _ _ _ => none, fun _ _ _ => none⟩
  | n + 1 => stepS P (evN P n)

end Go.Eng
