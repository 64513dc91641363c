/- Definitions alone: an abstract interpreter of the loaded Go code. Abstract values, heaps of own blocks, code with its types resolved, and its evaluation with fuel.
   Conditions: none (nothing is proved here). -/
import GoSem.Dispatch
namespace Go.Abs

/-! ### Abstract values -/
/-- What a Go value is, seen from one call: 'lst': a slice that is never written again (its elements, each a row of cells; full: nothing can be appended in place);
'vptr': a pointer into such a row; 'mp': such a map; 'ptr', 'sl', 'mref': into a block of the call's own (number, version); 'own': (in results) a slice whose block nobody else has. -/
inductive AV where
  | int (k : IntKind) (n : Int)
  | bool (b : Bool)
  | str (s : ByteArray)
  | flt (k : FloatKind) (bits : Nat)
  | nilptr
  | nilfn
  | nilif
  | lst (es : List (List AV)) (full : Bool)
  | vptr (row : List AV) (o : Nat)
  | mp (es : List (Int × AV))
  | ptr (b v i o : Nat)
  | sl (b v o n : Nat)
  | mref (b : Nat)
  | func (fn : Fn) (first captured : List AV)
  | iface (t : TypeId) (v : AV)
  | agg (cs : List AV)
  | tuple (vs : List AV)
  | own (es : List (List AV))
  deriving Inhabited

abbrev Row := List AV
abbrev Rows := List Row

/-- What a block holds: rows of cells (each of sz cells), or a map's entries. -/
inductive Kind where
  | cells (sz : Nat) (es : Rows)
  | mp (es : List (Int × AV))
  | gone
  deriving Inhabited

def Kind.isGone : Kind → Bool
  | .gone => true
  | _ => false

structure Blk where
  ver : Nat
  ro : Bool
  kind : Kind
  deriving Inhabited

abbrev Heap := List Blk

def rowOf : AV → Row
  | .agg cs => cs
  | .tuple _ => []
  | a => [a]

def unrow (agg : Bool) (r : Row) : Option AV :=
  if agg then some (.agg r) else
    match r with
    | [a] => some a
    | _ => none

/-! ### Code -/
inductive Opd where
  | tmp (t : Nat)
  | const (a : AV)
  deriving Inhabited

/-- How a call is made: by itself; what it answers taken over as own; in the caller's own memory. -/
inductive Mode where
  | auto | thaw | shared
  deriving DecidableEq, Inhabited

/-- How a method's receiver comes out of what an interface value holds: as it is; read through a pointer. -/
inductive Recv where
  | plain
  | deref (agg : Bool) (sz : Nat)
  deriving DecidableEq, Inhabited

inductive Op1 where
  | mov (x : Opd)
  | pick (c a b : Opd)
  | box (sz : Nat) (x : Opd)
  | build (zero : Row) (parts : List (Nat × Nat × Opd))
  | buildSlice (sz : Nat) (rows : Rows) (parts : List (Nat × Opd))
  | mkMap
  | insert (m k v : Opd)
  | load (agg : Bool) (sz : Nat) (a : Opd)
  | store (sz : Nat) (a v : Opd)
  | nilCheck (x : Opd)
  | bin (op : BinOp) (x y : Opd)
  | eqs (neg : Bool) (n : Nat) (x y : Opd)
  | eqB (neg : Bool) (x y : Opd)
  | eqS (neg : Bool) (x y : Opd)
  | un (op : UnOp) (x : Opd)
  | conv (k : IntKind) (x : Opd)
  | bytesStr (x : Opd)
  | mkIface (t : TypeId) (x : Opd)
  | mkFunc (f : FuncId) (first captured : List Opd)
  | mkSlice (sz bytes : Nat) (zero : Row) (len cap : Opd)
  | slice (sz : Nat) (x : Opd) (lo hi max : Option Opd)
  | fieldAddr (off : Nat) (x : Opd)
  | field (agg : Bool) (off sz : Nat) (x : Opd)
  | indexAddr (sz : Nat) (x i : Opd)
  | indexArr (sz len : Nat) (x i : Opd)
  | strIndex (x i : Opd)
  | lookup (zero : AV) (ok : Bool) (m k : Opd)
  | typeAssert (t : TypeId) (x : Opd)
  | extract (x : Opd) (i : Nat)
  | call (f : FuncId) (args : List Opd) (m : Mode)
  | dyn (f : Opd) (args : List Opd) (m : Mode)
  | invoke (r : Opd) (tab : List (TypeId × FuncId × Recv)) (args : List Opd) (m : Mode)
  | len (x : Opd)
  | strLen (x : Opd)
  | isNil (neg : Bool) (x : Opd)
  | append (sz bytes : Nat) (s x : Opd)
  | min (x y : Opd)
  | max (x y : Opd)
  | copy (sz : Nat) (d s : Opd)
  | stuck
  deriving Inhabited

structure Oper1 where
  dst : Option Nat
  op : Op1
  guard : Option (Nat × Bool)
  deriving Inhabited

inductive Code1 where
  | skip
  | reg (ops : List Oper1)
  | regd (ops : List Oper1) (pairs : List (Nat × Nat))
  | seq (a b : Code1)
  | cond (c : Opd) (a b : Code1)
  | block (id : Nat) (c : Code1)
  | loop (live : List Nat) (c : Code1)
  | exit (id : Nat)
  | ret
  | stuck
  deriving Inhabited

inductive Res1 where
  | tmp (t : Nat)
  | cell (t : Nat) (agg : Bool) (sz : Nat)
  deriving Inhabited

structure Func1 where
  nparams : Nat
  body : Code1
  results : List Res1
  deriving Inhabited

/-! ### Evaluation -/
abbrev Env := List (Nat × AV)

def Env.get : Env → Nat → Option AV
  | [], _ => none
  | (u, a) :: r, t => bif Nat.beq u t then some a else Env.get r t

def Env.put : Env → Nat → AV → Env
  | [], t, a => [(t, a)]
  | (u, x) :: r, t, a => bif Nat.beq u t then (t, a) :: r else (u, x) :: Env.put r t a

/-- What is known of the slots that are named, and no others. -/
def Env.only (e : Env) : List Nat → Env
  | [] => []
  | t :: l => match e.get t with
    | some a => (t, a) :: Env.only e l
    | none => Env.only e l

def Env.del : Env → Nat → Env
  | [], _ => []
  | (u, x) :: r, t => bif Nat.beq u t then Env.del r t else (u, x) :: Env.del r t

def opd (e : Env) : Opd → Option AV
  | .tmp t => e.get t
  | .const a => some a

def opds (e : Env) : List Opd → Option (List AV)
  | [] => some []
  | x :: l => (opd e x).bind fun a => (opds e l).bind fun as => some (a :: as)

/-- A value as one that may be handed to a call of its own: own slices as lists that are not written meanwhile. -/
def frzAll (f : AV → Option AV) : List AV → Option (List AV)
  | [] => some []
  | a :: l => (f a).bind fun x => (frzAll f l).bind fun xs => some (x :: xs)

def frzRows (f : AV → Option AV) : Rows → Option Rows
  | [] => some []
  | r :: l => (frzAll f r).bind fun x => (frzRows f l).bind fun xs => some (x :: xs)

/-- The rows of an own slice. -/
def rowsOf (H : Heap) (b v o n : Nat) : Option Rows :=
  match H[b]? with
  | some ⟨v', _, .cells _ es⟩ => bif Nat.beq v' v && Nat.ble (o + n) es.length then some ((es.drop o).take n) else none
  | _ => none

def frz : Nat → Heap → AV → Option AV
  | 0, _, _ => none
  | d + 1, H, a =>
    match a with
    | .sl b v o n => (rowsOf H b v o n).bind fun rows => (frzRows (frz d H) rows).bind fun rows' => some (.lst rows' false)
    | .agg cs => (frzAll (frz d H) cs).bind fun cs' => some (.agg cs')
    | .tuple vs => (frzAll (frz d H) vs).bind fun vs' => some (.tuple vs')
    | .iface t v => (frz d H v).bind fun v' => some (.iface t v')
    | .func f x y => (frzAll (frz d H) x).bind fun x' => (frzAll (frz d H) y).bind fun y' => some (.func f x' y')
    | .mref b => match H[b]? with
      | some ⟨0, _, .mp es⟩ => (frzAll (frz d H) (es.map (·.2))).bind fun vs => some (.mp ((es.map (·.1)).zip vs))
      | _ => none
    | .ptr .. => none
    | .own _ => none
    | a => some a

/-- The own blocks that 'frz' looks into. -/
def metAll (f : AV → List Nat) : List AV → List Nat
  | [] => []
  | a :: l => f a ++ metAll f l

def metRows (f : AV → List Nat) : Rows → List Nat
  | [] => []
  | r :: l => metAll f r ++ metRows f l

def met : Nat → Heap → AV → List Nat
  | 0, _, _ => []
  | d + 1, H, a =>
    match a with
    | .sl b v o n => b :: (match rowsOf H b v o n with | some rows => metRows (met d H) rows | none => [])
    | .agg cs => metAll (met d H) cs
    | .tuple vs => metAll (met d H) vs
    | .iface _ v => met d H v
    | .func _ x y => metAll (met d H) x ++ metAll (met d H) y
    | .mref b => b :: (match H[b]? with
      | some ⟨_, _, .mp es⟩ => metAll (met d H) (es.map (·.2))
      | _ => [])
    | _ => []

def deep : Nat := 6

/-- Does a value lead to memory that is never written again? -/
def lstAll (f : AV → Bool) : List AV → Bool
  | [] => false
  | a :: l => f a || lstAll f l

def lstRows (f : AV → Bool) : Rows → Bool
  | [] => false
  | r :: l => lstAll f r || lstRows f l

def hasLst : Nat → AV → Bool
  | 0, _ => true
  | d + 1, a =>
    match a with
    | .int .. | .bool _ | .str _ | .flt .. | .nilptr | .nilfn | .nilif => false
    | .lst es _ => !es.isEmpty
    | .agg cs | .tuple cs => lstAll (hasLst d) cs
    | .iface _ v => hasLst d v
    | .own es => lstRows (hasLst d) es
    | _ => true

/-- The own slices on top of a value. -/
def tops : Nat → AV → List Nat
  | 0, _ => []
  | d + 1, a =>
    match a with
    | .sl b _ _ _ => [b]
    | .agg cs | .tuple cs => metAll (tops d) cs
    | .iface _ v => tops d v
    | _ => []

/-- What stands below the own slices on top. -/
def unders (H : Heap) : Nat → AV → List Nat
  | 0, _ => []
  | d + 1, a =>
    match a with
    | .sl b v o n => (match rowsOf H b v o n with | some rows => metRows (met d H) rows | none => [])
    | .agg cs | .tuple cs => metAll (unders H d) cs
    | .iface _ v => unders H d v
    | a => met d H a

/-- A value as the caller gets it: the slices on top as own ones. -/
def give : Nat → Heap → AV → Option AV
  | 0, _, _ => none
  | d + 1, H, a =>
    match a with
    | .sl b v o n => (rowsOf H b v o n).bind fun rows => (frzRows (frz d H) rows).bind fun rows' => some (.own rows')
    | .agg cs => (frzAll (give d H) cs).bind fun cs' => some (.agg cs')
    | .tuple vs => (frzAll (give d H) vs).bind fun vs' => some (.tuple vs')
    | .iface t v => (give d H v).bind fun v' => some (.iface t v')
    | a => frz d H a

def nodup : List Nat → Bool
  | [] => true
  | b :: l => !(l.any (Nat.beq b)) && nodup l

def apart (l m : List Nat) : Bool := l.all fun b => !(m.any (Nat.beq b))

def freeBlk (H : Heap) (b : Nat) : Bool :=
  match H[b]? with
  | some k => !k.ro
  | none => false

/-- What a call of its own answers. -/
def answer (H : Heap) (a : AV) : Option AV :=
  bif nodup (tops deep a) && apart (tops deep a) (unders H deep a) && (tops deep a).all (freeBlk H) then give deep H a else frz deep H a

/-- Own slices as lists. -/
def settle : Nat → AV → AV
  | 0, a => a
  | d + 1, a =>
    match a with
    | .own es => .lst es false
    | .agg cs => .agg (cs.map (settle d))
    | .tuple vs => .tuple (vs.map (settle d))
    | .iface t v => .iface t (settle d v)
    | a => a

/-- Own slices taken into a heap. (sz: cells of an element: known of a first row; of none there is no need.) -/
def takeAll (f : Heap → AV → AV × Heap) : Heap → List AV → List AV × Heap
  | H, [] => ([], H)
  | H, a :: l => let (x, H1) := f H a; let (xs, H2) := takeAll f H1 l; (x :: xs, H2)

def take : Nat → Heap → AV → AV × Heap
  | 0, H, a => (a, H)
  | d + 1, H, a =>
    match a with
    | .own [] => (.lst [] false, H)
    | .own (r :: es) => (.sl H.length 0 0 (es.length + 1), H ++ [⟨0, false, .cells r.length (r :: es)⟩])
    | .agg cs => let (xs, H1) := takeAll (take d) H cs; (.agg xs, H1)
    | .tuple vs => let (xs, H1) := takeAll (take d) H vs; (.tuple xs, H1)
    | .iface t v => let (x, H1) := take d H v; (.iface t x, H1)
    | a => (a, H)

def setRo (H : Heap) : List Nat → Heap
  | [] => H
  | b :: l => setRo (H.modify b fun k => { k with ro := true }) l

abbrev CallT := FuncId → List AV → Heap → Option (AV × Heap)

/-- A call in memory of its own. -/
def pure1 (call : CallT) (f : FuncId) (args : List AV) : Option AV :=
  (call f args []).bind fun r => answer r.2 r.1

/-- What was lent is not written any more, where what came back may lead there. -/
def lentBack (H : Heap) (r : AV) : List Nat → Heap
  | [] => H
  | b :: bs => bif hasLst deep r then setRo H (b :: bs) else H

def doCall (call : CallT) (f : FuncId) (args : List AV) (m : Mode) (H : Heap) : Option (AV × Heap) :=
  match m, frzAll (frz deep H) args with
  | .auto, some args' => (pure1 call f args').bind fun r =>
      some (settle deep r, lentBack H r (metAll (met deep H) args))
  | .thaw, some args' => (pure1 call f args').bind fun r =>
      some (take deep (lentBack H r (metAll (met deep H) args)) r)
  | _, _ => call f args H

/-! #### Numbers -/
def binInt (op : BinOp) (k : IntKind) (x y : Int) : Option AV :=
  match op with
  | .add => some (.int k (k.wrap (x + y)))
  | .sub => some (.int k (k.wrap (x - y)))
  | .mul => some (.int k (k.wrap (x * y)))
  | .quo => if y = 0 then none else some (.int k (k.wrap (x.tdiv y)))
  | .rem => if y = 0 then none else some (.int k (x.tmod y))
  | .and => some (.int k (k.wrap (BitVec.ofInt k.bits x &&& BitVec.ofInt k.bits y).toNat))
  | .or => some (.int k (k.wrap (BitVec.ofInt k.bits x ||| BitVec.ofInt k.bits y).toNat))
  | .xor => some (.int k (k.wrap (BitVec.ofInt k.bits x ^^^ BitVec.ofInt k.bits y).toNat))
  | .andNot => some (.int k (k.wrap (BitVec.ofInt k.bits x &&& ~~~(BitVec.ofInt k.bits y)).toNat))
  | .eql => some (.bool (x == y))
  | .neq => some (.bool (x != y))
  | .lss => some (.bool (decide (x < y)))
  | .leq => some (.bool (decide (x ≤ y)))
  | .gtr => some (.bool (decide (x > y)))
  | .geq => some (.bool (decide (x ≥ y)))
  | _ => none

def shift1 (op : BinOp) (k : IntKind) (x y : Int) : Option AV :=
  if y < 0 then none else
    match op with
    | .shl => some (.int k (k.wrap (x * 2 ^ Min.min y.toNat k.bits)))
    | .shr => some (.int k (x.fdiv (2 ^ Min.min y.toNat k.bits)))
    | _ => none

def bin1 (op : BinOp) (a b : AV) : Option AV :=
  match op, a, b with
  | .shl, .int k x, .int _ y => shift1 .shl k x y
  | .shr, .int k x, .int _ y => shift1 .shr k x y
  | op, .int k x, .int j y => if k = j then binInt op k x y else none
  | _, _, _ => none

def eqInts : List AV → List AV → Option Bool
  | [], [] => some true
  | .int k x :: l, .int j y :: m => if k = j then (eqInts l m).bind fun r => some (x == y && r) else none
  | _, _ => none

def un1 (op : UnOp) (a : AV) : Option AV :=
  match op, a with
  | .neg, .int k n => some (.int k (k.wrap (0 - n)))
  | .xor, .int k n => some (.int k (k.wrap (BitVec.ofInt k.bits (if k.signed then -1 else k.max) ^^^ BitVec.ofInt k.bits n).toNat))
  | .not, .bool b => some (.bool !b)
  | _, _ => none

def bytes1 : Rows → Option (List UInt8)
  | [] => some []
  | [.int .u8 n] :: l => (bytes1 l).bind fun r => some (UInt8.ofNat n.toNat :: r)
  | _ => none

/-! #### Memory -/
def loadRow (H : Heap) (a : AV) (sz : Nat) : Option Row :=
  match a with
  | .ptr b v i o =>
    match H[b]? with
    | some ⟨v', _, .cells _ es⟩ =>
      match es[i]? with
      | some r => bif Nat.beq v' v && Nat.ble (o + sz) r.length then some ((r.drop o).take sz) else none
      | none => none
    | _ => none
  | .vptr r o => bif Nat.ble (o + sz) r.length then some ((r.drop o).take sz) else none
  | _ => none

def putRow : Row → Nat → Row → Row
  | r, o, new => r.take o ++ new ++ r.drop (o + new.length)

def storeRow (H : Heap) (a : AV) (sz : Nat) (new : Row) : Option Heap :=
  match a with
  | .ptr b v i o =>
    match H[b]? with
    | some ⟨v', ro, .cells s es⟩ =>
      match es[i]? with
      | some r => bif Nat.beq v' v && !ro && Nat.ble (o + sz) r.length && Nat.beq new.length sz
          then some (H.set b ⟨v', ro, .cells s (es.set i (putRow r o new))⟩) else none
      | none => none
    | _ => none
  | _ => none

/-- The rows of any slice. -/
def rowsAny (H : Heap) : AV → Option Rows
  | .lst es _ => some es
  | .sl b v o n => rowsOf H b v o n
  | _ => none

/-- The own slice is of the block as it stands, and so are its elements' sizes. -/
def hdr (H : Heap) (b v sz : Nat) : Bool :=
  match H[b]? with
  | some ⟨v', _, .cells s _⟩ => Nat.beq v' v && Nat.beq s sz
  | _ => false

def szOk (sz : Nat) (es : Rows) : Bool := es.all fun r => Nat.beq r.length sz

def append1 (H : Heap) (sz bytes : Nat) (s x : AV) : Option (AV × Heap) :=
  (rowsAny H x).bind fun new =>
    bif !(szOk sz new) then none else
    match s with
    | .lst es true =>
      match new with
      | [] => some (.lst es true, H)
      | _ => bif !(szOk sz es && Nat.ble ((es.length + new.length) * bytes) 1099511627776) then none else
          some (.sl H.length 0 0 (es.length + new.length), H ++ [⟨0, false, .cells sz (es ++ new)⟩])
    | .sl b v o n =>
      match H[b]?, x with
      | some ⟨v', ro, .cells s es⟩, .lst .. =>
        bif Nat.beq v' v && !ro && Nat.ble (o + n) es.length && Nat.beq s sz && Nat.ble ((n + new.length) * bytes) 1099511627776
          then some (.sl b (v + 1) 0 (n + new.length), H.set b ⟨v + 1, ro, .cells s ((es.drop o).take n ++ new)⟩) else none
      | some ⟨v', ro, .cells s es⟩, .sl b' _ _ _ =>
        bif Nat.beq v' v && !ro && Nat.ble (o + n) es.length && Nat.beq s sz && Nat.ble ((n + new.length) * bytes) 1099511627776 && !(Nat.beq b b')
          then some (.sl b (v + 1) 0 (n + new.length), H.set b ⟨v + 1, ro, .cells s ((es.drop o).take n ++ new)⟩) else none
      | _, _ => none
    | _ => none

def copy1 (H : Heap) (sz : Nat) (d x : AV) : Option (AV × Heap) :=
  (rowsAny H x).bind fun new =>
    bif !(szOk sz new) then none else
    match d with
    | .lst [] _ => some (.int .i64 0, H)
    | .sl b v o n =>
      match H[b]?, (match x with | .sl b' _ _ _ => !(Nat.beq b b') | _ => true) with
      | some ⟨v', ro, .cells s es⟩, true =>
        bif Nat.beq v' v && !ro && Nat.ble (o + n) es.length && Nat.beq s sz
          then some (.int .i64 (Nat.min new.length n : Nat), H.set b ⟨v', ro, .cells s (es.take o ++ new.take (Nat.min new.length n) ++ es.drop (o + Nat.min new.length n))⟩) else none
      | _, _ => none
    | _ => none

def natOf : AV → Option Nat
  | .int _ n => if 0 ≤ n then some n.toNat else none
  | _ => none

def natOpt (e : Env) (d : Nat) : Option Opd → Option Nat
  | none => some d
  | some x => (opd e x).bind natOf

def slice1 (H : Heap) (sz : Nat) (x : AV) (lo hi : Nat) (max : Option Nat) : Option AV :=
  bif !(Nat.ble lo hi) then none else
  match x, max with
  | .lst es _, none => bif szOk sz es && Nat.ble hi es.length then some (.lst ((es.drop lo).take (hi - lo)) false) else none
  | .lst es _, some m => bif szOk sz es && Nat.ble hi m && Nat.ble m es.length then some (.lst ((es.drop lo).take (hi - lo)) false) else none
  | .sl b v o n, none => bif hdr H b v sz && Nat.ble hi n then some (bif Nat.blt 0 lo && Nat.beq lo hi then .lst [] false else .sl b v (o + lo) (hi - lo)) else none
  | .sl b v o n, some m => bif hdr H b v sz && Nat.ble hi m && Nat.ble m n then some (bif Nat.blt 0 lo && Nat.beq lo hi then .lst [] false else .sl b v (o + lo) (hi - lo)) else none
  | _, _ => none

def lenOf1 : AV → Option Nat
  | .lst es _ => some es.length
  | .sl _ _ _ n => some n
  | _ => none

def setParts (zero : Row) (e : Env) : List (Nat × Nat × Opd) → Option Row
  | [] => some zero
  | (off, sz, x) :: l => (opd e x).bind fun a =>
      bif Nat.beq (rowOf a).length sz && Nat.ble (off + sz) zero.length then setParts (putRow zero off (rowOf a)) e l else none

def setRows (rows : Rows) (sz : Nat) (e : Env) : List (Nat × Opd) → Option Rows
  | [] => some rows
  | (i, x) :: l => (opd e x).bind fun a =>
      bif Nat.beq (rowOf a).length sz && Nat.blt i rows.length then setRows (rows.set i (rowOf a)) sz e l else none

def findInt (k : Int) : List (Int × AV) → Option AV
  | [] => none
  | (j, a) :: l => if k = j then some a else findInt k l

def findType (t : TypeId) : List (TypeId × FuncId × Recv) → Option (FuncId × Recv)
  | [] => none
  | (u, f, r) :: l => bif Nat.beq u t then some (f, r) else findType t l

/-- Does a value lead to no block of the call's own? -/
def cloAll (f : AV → Bool) : List AV → Bool
  | [] => true
  | a :: l => f a && cloAll f l

def cloRows (f : AV → Bool) : Rows → Bool
  | [] => true
  | r :: l => cloAll f r && cloRows f l

def clo : Nat → AV → Bool
  | 0, _ => false
  | d + 1, a =>
    match a with
    | .int .. | .bool _ | .str _ | .flt .. | .nilptr | .nilfn | .nilif | .lst .. | .vptr .. | .mp _ => true
    | .func _ x y => cloAll (clo d) x && cloAll (clo d) y
    | .iface _ v => clo d v
    | .agg cs => cloAll (clo d) cs
    | _ => false

def freshRows (H : Heap) (sz : Nat) (rows : Rows) : AV × Heap :=
  (.sl H.length 0 0 rows.length, H ++ [⟨0, false, .cells sz rows⟩])

/-- One operation: its value, and the heap behind it. -/
def ev1 (call : CallT) (e : Env) (H : Heap) : Op1 → Option (AV × Heap)
  | .mov x => (opd e x).bind fun a => some (a, H)
  | .pick c x y => (opd e c).bind fun c => match c with
      | .bool true => (opd e x).bind fun a => some (a, H)
      | .bool false => (opd e y).bind fun a => some (a, H)
      | _ => none
  | .box sz x => (opd e x).bind fun a => bif Nat.beq (rowOf a).length sz then some (.ptr H.length 0 0 0, H ++ [⟨0, false, .cells sz [rowOf a]⟩]) else none
  | .build zero parts => (setParts zero e parts).bind fun r => some (.agg r, H)
  | .buildSlice sz rows parts =>
      match rows with
      | [] => some (freshRows H sz [])
      | _ => (setRows rows sz e parts).bind fun rows => some (bif cloRows (clo deep) rows then (.lst rows true, H) else freshRows H sz rows)
  | .mkMap => some (.mref H.length, H ++ [⟨0, false, .mp []⟩])
  | .insert m k v => (opd e m).bind fun m => (opd e k).bind fun k => (opd e v).bind fun v =>
      match m, k with
      | .mref b, .int .i64 k => match H[b]? with
        | some ⟨0, false, .mp es⟩ => match findInt k es with
          | none => some (.tuple [], H.set b ⟨0, false, .mp (es ++ [(k, v)])⟩)
          | some _ => none
        | _ => none
      | _, _ => none
  | .load agg sz x => (opd e x).bind fun a => (loadRow H a sz).bind fun r => (unrow agg r).bind fun v => some (v, H)
  | .store sz x y => (opd e x).bind fun a => (opd e y).bind fun v => (storeRow H a sz (rowOf v)).bind fun H' => some (.tuple [], H')
  | .nilCheck x => (opd e x).bind fun a => match a with
      | .ptr .. | .vptr .. => some (a, H)
      | .func (.func _) .. => some (a, H)
      | _ => none
  | .bin op x y => (opd e x).bind fun a => (opd e y).bind fun b => (bin1 op a b).bind fun v => some (v, H)
  | .eqs neg n x y => (opd e x).bind fun a => (opd e y).bind fun b => match a, b with
      | .agg cs, .agg ds => bif Nat.beq cs.length n && Nat.beq ds.length n then (eqInts cs ds).bind fun r => some (.bool (xor neg r), H) else none
      | _, _ => none
  | .eqB neg x y => (opd e x).bind fun a => (opd e y).bind fun b => match a, b with
      | .bool p, .bool q => some (.bool (xor neg (p == q)), H)
      | _, _ => none
  | .eqS neg x y => (opd e x).bind fun a => (opd e y).bind fun b => match a, b with
      | .str p, .str q => some (.bool (xor neg (p.toList == q.toList)), H)
      | _, _ => none
  | .un op x => (opd e x).bind fun a => (un1 op a).bind fun v => some (v, H)
  | .conv k x => (opd e x).bind fun a => match a with
      | .int _ n => some (.int k (k.wrap n), H)
      | _ => none
  | .bytesStr x => (opd e x).bind fun a => (rowsAny H a).bind fun rows => (bytes1 rows).bind fun l => some (.str ⟨l.toArray⟩, H)
  | .mkIface t x => (opd e x).bind fun a => some (.iface t a, H)
  | .mkFunc f first captured => (opds e first).bind fun a => (opds e captured).bind fun b => some (.func (.func f) a b, H)
  | .mkSlice sz bytes zero len cap => (opd e len).bind fun l => (opd e cap).bind fun c => match l, c with
      | .int .i64 l, .int .i64 c => if 0 ≤ l ∧ l ≤ c ∧ (bytes : Int) * c ≤ 2 ^ 47 ∧ c ≤ 2 ^ 47 then some (freshRows H sz (List.replicate l.toNat zero)) else none
      | _, _ => none
  | .slice sz x lo hi max => (opd e x).bind fun a => (lenOf1 a).bind fun n => (natOpt e 0 lo).bind fun l => (natOpt e n hi).bind fun h =>
      match max with
      | none => (slice1 H sz a l h none).bind fun v => some (v, H)
      | some m => ((opd e m).bind natOf).bind fun m => (slice1 H sz a l h (some m)).bind fun v => some (v, H)
  | .fieldAddr off x => (opd e x).bind fun a => match a with
      | .ptr b v i o => some (.ptr b v i (o + off), H)
      | .vptr r o => some (.vptr r (o + off), H)
      | _ => none
  | .field agg off sz x => (opd e x).bind fun a => match a with
      | .agg cs => bif Nat.ble (off + sz) cs.length then (unrow agg ((cs.drop off).take sz)).bind fun v => some (v, H) else none
      | _ => none
  | .indexAddr sz x i => (opd e x).bind fun a => ((opd e i).bind natOf).bind fun i => match a with
      | .sl b v o n => bif hdr H b v sz && Nat.blt i n then some (.ptr b v (o + i) 0, H) else none
      | .lst es _ => (es[i]?).bind fun r => bif Nat.beq r.length sz then some (.vptr r 0, H) else none
      | _ => none
  | .indexArr sz len x i => (opd e x).bind fun a => ((opd e i).bind natOf).bind fun i => bif !(Nat.blt i len) then none else match a with
      | .ptr b v j o => some (.ptr b v j (o + i * sz), H)
      | .vptr r o => some (.vptr r (o + i * sz), H)
      | _ => none
  | .strIndex x i => (opd e x).bind fun a => ((opd e i).bind natOf).bind fun i => match a with
      | .str s => (s[i]?).bind fun c => some (.int .u8 c.toNat, H)
      | _ => none
  | .lookup zero ok m k => (opd e m).bind fun m => (opd e k).bind fun k => match k with
      | .int .i64 k =>
        (match m with
          | .mref b => match H[b]? with
            | some ⟨0, _, .mp es⟩ => some es
            | _ => none
          | .mp es => some es
          | _ => none).bind fun es =>
        match findInt k es with
        | some v => some (bif ok then .tuple [v, .bool true] else v, H)
        | none => some (bif ok then .tuple [zero, .bool false] else zero, H)
      | _ => none
  | .typeAssert t x => (opd e x).bind fun a => match a with
      | .iface u v => bif Nat.beq u t then some (v, H) else none
      | _ => none
  | .extract x i => (opd e x).bind fun a => match a with
      | .tuple vs => (vs[i]?).bind fun v => some (v, H)
      | _ => none
  | .call f args m => (opds e args).bind fun as => doCall call f as m H
  | .dyn f args m => (opd e f).bind fun f => (opds e args).bind fun as => match f with
      | .func (.func f) first captured => doCall call f (first ++ as ++ captured) m H
      | _ => none
  | .invoke r tab args m => (opd e r).bind fun r => (opds e args).bind fun as => match r with
      | .iface t v => (findType t tab).bind fun fr => match fr.2 with
        | .plain => doCall call fr.1 (v :: as) m H
        | .deref agg sz => (loadRow H v sz).bind fun row => (unrow agg row).bind fun x => doCall call fr.1 (x :: as) m H
      | _ => none
  | .len x => (opd e x).bind fun a => (lenOf1 a).bind fun n => some (.int .i64 n, H)
  | .isNil neg x => (opd e x).bind fun a => match a with
      | .lst (_ :: _) _ => some (.bool neg, H)
      | .sl .. => some (.bool neg, H)
      | _ => none
  | .strLen x => (opd e x).bind fun a => match a with
      | .str s => some (.int .i64 s.size, H)
      | _ => none
  | .append sz bytes s x => (opd e s).bind fun s => (opd e x).bind fun x => append1 H sz bytes s x
  | .min x y => (opd e x).bind fun a => (opd e y).bind fun b => match a, b with
      | .int k x, .int j y => if k = j then some (.int k (if y < x then y else x), H) else none
      | _, _ => none
  | .max x y => (opd e x).bind fun a => (opd e y).bind fun b => match a, b with
      | .int k x, .int j y => if k = j then some (.int k (if y > x then y else x), H) else none
      | _, _ => none
  | .copy sz d s => (opd e d).bind fun d => (opd e s).bind fun s => copy1 H sz d s
  | .stuck => none

def want1 (e : Env) : Option (Nat × Bool) → Option Bool
  | none => some true
  | some (t, w) => match e.get t with
    | some (.bool b) => some (b == w)
    | some (.tuple []) => some false
    | _ => none

def step1 (call : CallT) (o : Oper1) (e : Env) (H : Heap) : Option (Env × Heap) :=
  match want1 e o.guard with
  | some true => (ev1 call e H o.op).bind fun r => some (match o.dst with | some d => e.put d r.1 | none => e, r.2)
  | some false => some (match o.dst with | some d => e.put d (.tuple []) | none => e, H)
  | none => none

def steps (call : CallT) : List Oper1 → Env → Heap → Option (Env × Heap)
  | [], e, H => some (e, H)
  | o :: l, e, H => (step1 call o e H).bind fun r => steps call l r.1 r.2

/-! #### A statement whose order is open: each operation sees the blocks at its feet alone -/
/-- The blocks that a value names, and those that stand in these. -/
def refs : Nat → AV → List Nat
  | 0, _ => []
  | d + 1, a =>
    match a with
    | .ptr b .. => [b]
    | .sl b .. => [b]
    | .mref b => [b]
    | .agg cs => metAll (refs d) cs
    | .tuple vs => metAll (refs d) vs
    | .iface _ v => refs d v
    | .func _ x y => metAll (refs d) x ++ metAll (refs d) y
    | _ => []

def inside (H : Heap) (b : Nat) : List Nat :=
  match H[b]? with
  | some ⟨_, _, .cells _ es⟩ => metRows (refs deep) es
  | some ⟨_, _, .mp es⟩ => metAll (refs deep) (es.map (·.2))
  | _ => []

def reach : Nat → Heap → List Nat → List Nat
  | 0, _, l => l
  | d + 1, H, l => l ++ reach d H (l.flatMap (inside H))

def callFeet (H : Heap) (as : List AV) (m : Mode) : List Nat × List Nat :=
  match m, frzAll (frz deep H) as with
  | .shared, _ | _, none => let r := reach 3 H (metAll (refs deep) as); ([], r)
  | _, some _ => ([], metAll (met deep H) as)

/-- What an operation looks at, and what it changes, of the blocks that are there. -/
def feet (e : Env) (H : Heap) : Op1 → List Nat × List Nat
  | .load _ _ x => match opd e x with | some (.ptr b ..) => ([b], []) | _ => ([], [])
  | .store _ x _ => match opd e x with | some (.ptr b ..) => ([], [b]) | _ => ([], [])
  | .insert m _ _ => match opd e m with | some (.mref b) => ([], [b]) | _ => ([], [])
  | .lookup _ _ m _ => match opd e m with | some (.mref b) => ([b], []) | _ => ([], [])
  | .bytesStr x => match opd e x with | some (.sl b ..) => ([b], []) | _ => ([], [])
  | .indexAddr _ x _ => match opd e x with | some (.sl b ..) => ([b], []) | _ => ([], [])
  | .slice _ x _ _ _ => match opd e x with | some (.sl b ..) => ([b], []) | _ => ([], [])
  | .copy _ s x => ((match opd e x with | some (.sl b ..) => [b] | _ => []), (match opd e s with | some (.sl b ..) => [b] | _ => []))
  | .append _ _ s x => ((match opd e x with | some (.sl b ..) => [b] | _ => []), (match opd e s with | some (.sl b ..) => [b] | _ => []))
  | .call _ args m => match opds e args with | some as => callFeet H as m | none => ([], [])
  | .dyn f args m => match opd e f, opds e args with
    | some (.func _ first captured), some as => callFeet H (first ++ as ++ captured) m
    | _, _ => ([], [])
  | .invoke r _ args _ => match opd e r, opds e args with
    | some (.iface _ v), some as => let r := reach 3 H (metAll (refs deep) (v :: as)); ([], r)
    | _, _ => ([], [])
  | _ => ([], [])

def has (l : List Nat) (b : Nat) : Bool := l.any (Nat.beq b)

def maskFrom (R W : List Nat) : Nat → Heap → Heap
  | _, [] => []
  | i, k :: H => (bif has W i || has R i then k else { k with kind := .gone, ro := true }) :: maskFrom R W (i + 1) H

def unmaskFrom (W : List Nat) : Nat → Heap → Heap → Heap
  | _, [], M => M
  | i, k :: H, m :: M => (bif has W i then m else k) :: unmaskFrom W (i + 1) H M
  | _, k :: H, [] => k :: H

def evD (call : CallT) (e : Env) (H : Heap) (op : Op1) : Option (AV × Heap) :=
  let f := feet e H op
  (ev1 call e (maskFrom f.1 f.2 0 H) op).bind fun r => some (r.1, unmaskFrom f.2 0 H r.2)

def stepD (call : CallT) (o : Oper1) (e : Env) (H : Heap) : Option (Env × Heap) :=
  match want1 e o.guard with
  | some true => (evD call e H o.op).bind fun r => some (match o.dst with | some d => e.put d r.1 | none => e, r.2)
  | some false => some (match o.dst with | some d => e.put d (.tuple []) | none => e, H)
  | none => none

/-- An operation's feet (new blocks are at the changing one). -/
def foot (o : Oper1) (e : Env) (H H' : Heap) : List Nat × List Nat :=
  match want1 e o.guard with
  | some true => ((feet e H o.op).1, (feet e H o.op).2 ++ List.range' H.length (H'.length - H.length))
  | _ => ([], [])

/-- All operations in the text's order; behind each its feet. -/
def stepsD (call : CallT) : List Oper1 → Env → Heap → Option (List (List Nat × List Nat) × Env × Heap)
  | [], e, H => some ([], e, H)
  | o :: l, e, H => (stepD call o e H).bind fun r => (stepsD call l r.1 r.2).bind fun s =>
      some (foot o e H r.2 :: s.1, s.2)

def apartL (l m : List Nat) : Bool := l.all fun b => !(has m b)

def pairOk (fs : List (List Nat × List Nat)) (p : Nat × Nat) : Bool :=
  match fs[p.1]?, fs[p.2]? with
  | some a, some b => apartL a.2 b.1 && apartL a.2 b.2 && apartL b.2 a.1
  | _, _ => false

inductive Ctl where
  | norm | exit (id : Nat) | ret
  deriving DecidableEq, Inhabited

abbrev St := Ctl × Env × Heap

def loop1 (body : Env → Heap → Option St) (live : List Nat) : Nat → Env → Heap → Option St
  | 0, _, _ => none
  | n + 1, e, H => (body (e.only live) H).bind fun s =>
      match s.1 with
      | .norm => loop1 body live n s.2.1 s.2.2
      | _ => some s

def run1 (n : Nat) (call : CallT) : Code1 → Env → Heap → Option St
  | .skip, e, H => some (.norm, e, H)
  | .reg ops, e, H => (steps call ops e H).bind fun r => some (.norm, r)
  | .regd ops pairs, e, H => (stepsD call ops e H).bind fun r => bif pairs.all (pairOk r.1) then some (.norm, r.2) else none
  | .seq a b, e, H => (run1 n call a e H).bind fun s => match s.1 with
      | .norm => run1 n call b s.2.1 s.2.2
      | _ => some s
  | .cond c a b, e, H => (opd e c).bind fun c => match c with
      | .bool true => run1 n call a e H
      | .bool false => run1 n call b e H
      | _ => none
  | .block id c, e, H => (run1 n call c e H).bind fun s => match s.1 with
      | .exit i => some (bif Nat.beq i id then .norm else .exit i, s.2)
      | _ => some s
  | .loop live c, e, H => loop1 (run1 n call c) live n e H
  | .exit id, e, H => some (.exit id, e, H)
  | .ret, e, H => some (.ret, e, H)
  | .stuck, _, _ => none

def res1 (e : Env) (H : Heap) : List Res1 → Option (List AV)
  | [] => some []
  | .tmp t :: l => (e.get t).bind fun a => (res1 e H l).bind fun as => some (a :: as)
  | .cell t agg sz :: l => (e.get t).bind fun p => (loadRow H p sz).bind fun r => (unrow agg r).bind fun a => (res1 e H l).bind fun as => some (a :: as)

def args1 : Nat → List AV → Env
  | _, [] => []
  | i, a :: l => (i, a) :: args1 (i + 1) l

def back1 (rs : List Res1) (s : St) : Option (AV × Heap) :=
  match s.1 with
  | .exit _ => none
  | _ => (res1 s.2.1 s.2.2 rs).bind fun vs => some (match vs with | [a] => a | vs => .tuple vs, s.2.2)

/-- A program for the interpreter: each function's code, and what special functions do. -/
structure Prog1 where
  code : FuncId → Option Func1
  prim : FuncId → Option (List AV → Heap → Option (AV × Heap))

def pcall (Q : Prog1) : Nat → CallT
  | 0, _, _, _ => none
  | n + 1, f, as, H =>
    match Q.prim f with
    | some g => g as H
    | none => match Q.code f with
      | some F => bif Nat.beq as.length F.nparams then (run1 n (pcall Q n) F.body (args1 0 as) H).bind (back1 F.results) else none
      | none => none

end Go.Abs
