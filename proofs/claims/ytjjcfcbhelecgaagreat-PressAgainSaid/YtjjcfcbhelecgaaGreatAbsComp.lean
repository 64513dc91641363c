/- From the loaded code to the interpreter's: types resolved. Conditions: none (definitions alone). -/
import Derived.Test.YtjjcfcbhelecgaaGreatAbsDef
set_option linter.unusedVariables false
namespace Go.Abs

def ofVal : Value → Option AV
  | .int k n => some (.int k n)
  | .bool b => some (.bool b)
  | .string s => some (.str s)
  | .float k n => some (.flt k n)
  | .pointer none => some .nilptr
  | .slice none 0 0 => some (.lst [] true)
  | .nilFunc => some .nilfn
  | .map none => some (.mp [])
  | .nilIface => some .nilif
  | _ => none

def ofVals : List Value → Option (List AV)
  | [] => some []
  | v :: l => (ofVal v).bind fun a => (ofVals l).bind fun as => some (a :: as)

/-- A zero value. -/
def ofZero : Value → Option AV
  | .agg cs => (ofVals cs.toList).bind fun l => some (.agg l)
  | v => ofVal v

def opd1 : Operand → Option Opd
  | .tmp t => some (.tmp t)
  | .const v => (ofVal v).bind fun a => some (.const a)
  | .func f => some (.const (.func (.func f) [] []))
  | .global _ => none

def opds1 : List Operand → Option (List Opd)
  | [] => some []
  | x :: l => (opd1 x).bind fun a => (opds1 l).bind fun as => some (a :: as)

def aggOf (P : Program) (t : TypeId) : Option Bool :=
  match P.underlying t with
  | some (.struct _) => some true
  | some (.array _ _) => some true
  | some _ => some false
  | none => none

def sizeOf1 (P : Program) (t : TypeId) : Option Nat := (P.info? t).map (·.size)

def zeroOf (P : Program) (t : TypeId) : Option AV := (P.info? t).bind fun i => i.zero.bind ofZero

def parts1 (place : Nat → Option (Nat × Nat)) : List (Nat × Operand) → Option (List (Nat × Nat × Opd))
  | [] => some []
  | (i, x) :: l => (place i).bind fun p => (opd1 x).bind fun a => (parts1 place l).bind fun r => bif Nat.blt 0 p.2 then some ((p.1, p.2, a) :: r) else none

def rparts1 : List (Nat × Operand) → Option (List (Nat × Opd))
  | [] => some []
  | (i, x) :: l => (opd1 x).bind fun a => (rparts1 l).bind fun r => some ((i, a) :: r)

/-- An array or struct of whole numbers alone, that may be compared: how many. -/
def intsOf (P : Program) (t : TypeId) : Option Nat :=
  match P.underlying t with
  | some (.array n e) => match P.underlying e, sizeOf1 P e with
    | some (.int _), some 1 => bif Nat.ble n 4 then some n else none
    | _, _ => none
  | some (.struct fs) =>
    bif Nat.ble fs.size 4 && !P.stoodInHeld t && (List.range fs.size).all fun i => match fs[i]? with
      | some f => Nat.beq f.offset i && (f.name != "_") && (match P.underlying f.type with | some (.int _) => true | _ => false)
      | none => false
    then some fs.size else none
  | _ => none

/-- The methods of a name: type, function, how the receiver is found. -/
def methodsOf (P : Program) (name : String) : Nat → List TypeInfo → List (TypeId × FuncId × Recv)
  | _, [] => []
  | t, i :: l =>
    match i.methods.find? (·.name == name) with
    | some m =>
      bif m.path.isEmpty then
        match m.func with
        | some (f, true) => match P.underlying t with
          | some (.pointer _) => (t, f, .plain) :: methodsOf P name (t + 1) l
          | _ => methodsOf P name (t + 1) l
        | some (f, false) => match P.underlying t with
          | some (.pointer e) => match aggOf P e, sizeOf1 P e with
            | some a, some s => bif a || Nat.beq s 1 then (t, f, .deref a s) :: methodsOf P name (t + 1) l else methodsOf P name (t + 1) l
            | _, _ => methodsOf P name (t + 1) l
          | some (.interface _) => methodsOf P name (t + 1) l
          | some _ => (t, f, .plain) :: methodsOf P name (t + 1) l
          | none => methodsOf P name (t + 1) l
        | none => methodsOf P name (t + 1) l
      else methodsOf P name (t + 1) l
    | none => methodsOf P name (t + 1) l

def opt1 : Option Operand → Option (Option Opd)
  | none => some none
  | some x => (opd1 x).bind fun a => some (some a)

def canCall (P : Program) (f : FuncId) : Bool :=
  match P.funcs[f]? with
  | some fn => fn.body.isSome && fn.name != "runtime.NumGoroutine"
  | none => false

def compCall (P : Program) (m : Mode) (type : TypeId) (c : Call) : Option Op1 :=
  (opds1 c.args.toList).bind fun args =>
  match c.callee with
  | .value (.func f) => bif canCall P f then some (.call f args m) else none
  | .value x => (opd1 x).bind fun x => some (.dyn x args m)
  | .invoke r name => (opd1 r).bind fun r => some (.invoke r (methodsOf P name 0 P.types.toList) args m)
  | .builtin b =>
    match b, args, c.argTypes.toList with
    | .len, [x], [t] => match P.underlying t with
      | some (.slice _) => some (.len x)
      | some .string => some (.strLen x)
      | _ => none
    | .append, [s, x], [t, u] => match P.underlying t, P.underlying u with
      | some (.slice e), some (.slice _) => (P.info? e).bind fun i => match i.zero with
        | some z => bif Nat.blt 0 i.size && Nat.blt 0 i.bytes && Nat.beq z.cells.size i.size then some (.append i.size i.bytes s x) else none
        | none => none
      | _, _ => none
    | .min, [x, y], _ => some (.min x y)
    | .max, [x, y], _ => some (.max x y)
    | .copy, [d, x], [t, u] => match P.underlying t, P.underlying u with
      | some (.slice e), some (.slice _) => (sizeOf1 P e).bind fun s => bif Nat.blt 0 s then some (.copy s d x) else none
      | _, _ => none
    | _, _, _ => none

def comp0 (P : Program) (m : Mode) (o : Oper) : Option Op1 :=
  match o.op with
  | .move x | .assign x => (opd1 x).bind fun x => some (.mov x)
  | .pick c x y => (opd1 c).bind fun c => (opd1 x).bind fun x => (opd1 y).bind fun y => some (.pick c x y)
  | .alloc t => (sizeOf1 P t).bind fun s => (zeroOf P t).bind fun z => bif Nat.blt 0 s then some (.box s (.const z)) else none
  | .box t x => (sizeOf1 P t).bind fun s => (opd1 x).bind fun x => bif Nat.blt 0 s then some (.box s x) else none
  | .build t parts => (zeroOf P t).bind fun z =>
    match P.underlying t with
    | some (.struct fs) => (fs.toList.mapM fun f => (P.info? f.type).map fun i => (f.offset, i.size)).bind fun places =>
        (parts1 (places.toArray[·]?) parts.toList).bind fun ps => bif Nat.blt 0 (rowOf z).length then some (.build (rowOf z) ps) else none
    | some (.array _ e) => (sizeOf1 P e).bind fun s => (parts1 (fun i => some (i * s, s)) parts.toList).bind fun ps => bif Nat.blt 0 (rowOf z).length then some (.build (rowOf z) ps) else none
    | _ => none
  | .buildSlice t n parts =>
    match P.underlying t with
    | some (.slice e) => (sizeOf1 P e).bind fun s => (zeroOf P e).bind fun z => (rparts1 parts.toList).bind fun ps =>
        bif Nat.blt 0 s && Nat.ble (n * s) 1000 && Nat.beq (rowOf z).length s && (Nat.blt 0 n || ps.isEmpty) then some (.buildSlice s (List.replicate n (rowOf z)) ps) else none
    | _ => none
  | .makeMap _ none => some .mkMap
  | .insert t mp k v =>
    match P.underlying t with
    | some (.map kt _) => match P.underlying kt with
      | some (.int _) => (opd1 mp).bind fun mp => (opd1 k).bind fun k => (opd1 v).bind fun v => some (.insert mp k v)
      | _ => none
    | _ => none
  | .load t a => (aggOf P t).bind fun g => (sizeOf1 P t).bind fun s => (opd1 a).bind fun a => bif Nat.blt 0 s && (g || Nat.beq s 1) then some (.load g s a) else none
  | .store t a v => (sizeOf1 P t).bind fun s => (opd1 a).bind fun a => (opd1 v).bind fun v => bif Nat.blt 0 s then some (.store s a v) else none
  | .nilCheck x => (opd1 x).bind fun x => some (.nilCheck x)
  | .binOp op t x y0 _ => (opd1 x).bind fun x => (opd1 y0).bind fun y =>
    match P.underlying t with
    | some (.int _) => some (.bin op x y)
    | some (.slice _) => match op, y0 with
      | .eql, .const (.slice none 0 0) => some (.isNil false x)
      | .neq, .const (.slice none 0 0) => some (.isNil true x)
      | _, _ => none
    | some .bool => match op with
      | .eql => some (.eqB false x y)
      | .neq => some (.eqB true x y)
      | _ => none
    | some .string => match op with
      | .eql => some (.eqS false x y)
      | .neq => some (.eqS true x y)
      | _ => none
    | some _ => bif !(P.eqGuardType P.depth t) then
        match op with
        | .eql => (intsOf P t).bind fun n => some (.eqs false n x y)
        | .neq => (intsOf P t).bind fun n => some (.eqs true n x y)
        | _ => none
      else none
    | none => none
  | .unOp op _ x => (opd1 x).bind fun x => some (.un op x)
  | .convert s d x => (opd1 x).bind fun x =>
    match P.underlying s, P.underlying d with
    | some (.int _), some (.int k) => some (.conv k x)
    | some (.slice e), some .string => match P.underlying e, sizeOf1 P e with
      | some (.int .u8), some 1 => some (.bytesStr x)
      | _, _ => none
    | _, _ => none
  | .makeInterface t x =>
    match P.underlying t with
    | some (.interface _) => none
    | some _ => (opd1 x).bind fun x => some (.mkIface t x)
    | none => none
  | .makeFunc (.func f) first captured => (opds1 first.toList).bind fun a => (opds1 captured.toList).bind fun b => some (.mkFunc f a b)
  | .makeSlice t l c =>
    match P.underlying t with
    | some (.slice e) => (P.info? e).bind fun i => (zeroOf P e).bind fun z => (opd1 l).bind fun l => (opd1 c).bind fun c =>
        bif Nat.blt 0 i.size && Nat.beq (rowOf z).length i.size && Nat.ble i.size i.bytes then some (.mkSlice i.size i.bytes (rowOf z) l c) else none
    | _ => none
  | .slice t x lo hi mx =>
    match P.underlying t with
    | some (.slice e) => (sizeOf1 P e).bind fun s => (opd1 x).bind fun x => (opt1 lo).bind fun lo => (opt1 hi).bind fun hi => (opt1 mx).bind fun mx =>
        bif Nat.blt 0 s && (mx.isNone || hi.isSome) then some (.slice s x lo hi mx) else none
    | _ => none
  | .fieldAddr t x f =>
    match P.underlying t with
    | some (.struct fs) => fs[f]?.bind fun f => (sizeOf1 P f.type).bind fun s => (opd1 x).bind fun x => bif Nat.blt 0 s then some (.fieldAddr f.offset x) else none
    | _ => none
  | .field t x f =>
    match P.underlying t with
    | some (.struct fs) => fs[f]?.bind fun f => (aggOf P f.type).bind fun g => (sizeOf1 P f.type).bind fun s => (opd1 x).bind fun x =>
        bif Nat.blt 0 s && (g || Nat.beq s 1) then some (.field g f.offset s x) else none
    | _ => none
  | .indexAddr t x i =>
    match P.underlying t with
    | some (.slice e) => (sizeOf1 P e).bind fun s => (opd1 x).bind fun x => (opd1 i).bind fun i => bif Nat.blt 0 s then some (.indexAddr s x i) else none
    | some (.array n e) => (sizeOf1 P e).bind fun s => (opd1 x).bind fun x => (opd1 i).bind fun i => some (.indexArr s n x i)
    | _ => none
  | .index t x i =>
    match P.underlying t with
    | some .string => (opd1 x).bind fun x => (opd1 i).bind fun i => some (.strIndex x i)
    | _ => none
  | .lookup t mp k ok =>
    match P.underlying t with
    | some (.map kt e) => match P.underlying kt with
      | some (.int _) => (zeroOf P e).bind fun z => (opd1 mp).bind fun mp => (opd1 k).bind fun k => some (.lookup z ok mp k)
      | _ => none
    | _ => none
  | .typeAssert x _ t false =>
    match P.underlying t with
    | some (.interface _) => none
    | some _ => (opd1 x).bind fun x => some (.typeAssert t x)
    | none => none
  | .extract x i => (opd1 x).bind fun x => some (.extract x i)
  | .call c => compCall P m o.type c
  | _ => none

/-- (What is not known is never run.) -/
def comp (P : Program) (m : Mode) (o : Oper) : Op1 := (comp0 P m o).getD .stuck

/-! ### Regions -/
def guardOf (ops : Array Oper) : Option (Nat × Bool) → Option (Option (Nat × Bool))
  | none => some none
  | some (j, w) => (ops[j]?).bind fun o => o.dst.bind fun d => some (some (d, w))

abbrev Modes := FuncId → Nat → Nat → Mode

/-- Modes by a list: region, operation, mode. -/
def modesOf (l : List (Nat × Nat × Mode)) : Modes := fun _ id i => match l.find? fun x => Nat.beq x.1 id && Nat.beq x.2.1 i with
  | some x => x.2.2
  | none => .auto

def compOper (P : Program) (md : Modes) (fn id : Nat) (ops : Array Oper) (i : Nat) (o : Oper) : Option Oper1 :=
  (guardOf ops o.guard).bind fun g => some ⟨o.dst, comp P (md fn id i) o, g⟩

def compOps (P : Program) (md : Modes) (fn id : Nat) (ops : Array Oper) : Nat → List Oper → Option (List Oper1)
  | _, [] => some []
  | i, o :: l => (compOper P md fn id ops i o).bind fun a => (compOps P md fn id ops (i + 1) l).bind fun r => some (a :: r)

/-- Behind which operations one comes, whatever the order. -/
def beforeOf (ops : Array Oper) (acc : List (List Nat)) (o : Oper) : List Nat :=
  o.after.toList.flatMap fun e => bif Region.binds .any e then e.on :: acc.getD e.on [] else []

def befores (ops : Array Oper) : List Oper → List (List Nat) → List (List Nat)
  | [], acc => acc
  | o :: l, acc => befores ops l (acc ++ [(beforeOf ops acc o).eraseDups])

/-- How an operation stands to memory: 0: not at all, 1: it reads, 2: it writes or makes blocks. -/
def heft : Op1 → Nat
  | .mov _ | .pick .. | .build .. | .nilCheck _ | .bin .. | .eqs .. | .eqB .. | .eqS .. | .un .. | .conv .. | .mkIface .. | .mkFunc .. | .fieldAddr .. | .field .. | .indexArr .. | .strIndex ..
  | .typeAssert .. | .extract .. | .len _ | .strLen _ | .isNil .. | .min .. | .max .. => 0
  | .load .. | .bytesStr _ | .slice .. | .indexAddr .. | .lookup .. => 1
  | _ => 2

def opdTmp : Opd → List Nat
  | .tmp t => [t]
  | _ => []

def optTmp : Option Opd → List Nat
  | some x => opdTmp x
  | none => []

def seesOp : Op1 → List Nat
  | .mov x | .box _ x | .load _ _ x | .nilCheck x | .un _ x | .conv _ x | .bytesStr x | .mkIface _ x | .fieldAddr _ x | .field _ _ _ x | .typeAssert _ x | .extract x _ | .len x | .strLen x | .isNil _ x => opdTmp x
  | .pick a b c | .insert a b c => opdTmp a ++ opdTmp b ++ opdTmp c
  | .build _ ps => ps.flatMap fun p => opdTmp p.2.2
  | .buildSlice _ _ ps => ps.flatMap fun p => opdTmp p.2
  | .mkMap | .stuck => []
  | .store _ a b | .bin _ a b | .eqs _ _ a b | .eqB _ a b | .eqS _ a b | .mkSlice _ _ _ a b | .indexAddr _ a b | .indexArr _ _ a b | .strIndex a b | .lookup _ _ a b | .append _ _ a b | .min a b | .max a b | .copy _ a b => opdTmp a ++ opdTmp b
  | .mkFunc _ a b => a.flatMap opdTmp ++ b.flatMap opdTmp
  | .slice _ x a b c => opdTmp x ++ optTmp a ++ optTmp b ++ optTmp c
  | .call _ as _ => as.flatMap opdTmp
  | .dyn f as _ => opdTmp f ++ as.flatMap opdTmp
  | .invoke r _ as _ => opdTmp r ++ as.flatMap opdTmp

def sees (o : Oper1) : List Nat := seesOp o.op ++ (match o.guard with | some (t, _) => [t] | none => [])

/-- Neither writes a slot that the other one looks at or writes. -/
def free1 (a b : Oper1) : Bool :=
  (match a.dst with | some d => !(has (sees b) d) && b.dst != some d | none => true) &&
  (match b.dst with | some d => !(has (sees a) d) | none => true)

/-- The pairs whose order is open: each must leave the other's slots alone; what is to be watched of them. -/
def openPairs (bs : List (List Nat)) (os : List Oper1) : Option (List (Nat × Nat)) :=
  let all := (List.range os.length).flatMap fun j => (List.range j).flatMap fun i => bif has (bs.getD j []) i || has (bs.getD i []) j then [] else [(i, j)]
  bif all.all fun p => match os[p.1]?, os[p.2]? with | some a, some b => free1 a b | _, _ => false
  then some (all.filter fun p => match os[p.1]?, os[p.2]? with | some a, some b => Nat.blt 2 (heft a.op + heft b.op) && Nat.blt 0 (heft a.op) && Nat.blt 0 (heft b.op) | _, _ => true) else none

def forward (ops : Array Oper) : Bool := (List.range ops.size).all fun j => match ops[j]? with
  | some o => o.after.all fun e => !(Region.binds .any e) || Nat.blt e.on j
  | none => false

abbrev Lives := FuncId → List (List Nat)

/-- (The loops' live slots are handed in, in the text's order; any serve.) -/
def compCode (P : Program) (md : Modes) (fn : Nat) : Code → List (List Nat) → Option (Code1 × List (List Nat))
  | .skip, ls => some (.skip, ls)
  | .region id ops d, ls => (compOps P md fn id ops 0 ops.toList).bind fun os =>
      bif d then (bif forward ops then (openPairs (befores ops ops.toList []) os).bind fun ps => some (.regd os ps, ls) else none) else some (.reg os, ls)
  | .seq a b, ls => (compCode P md fn a ls).bind fun x => (compCode P md fn b x.2).bind fun y => some (.seq x.1 y.1, y.2)
  | .cond c a b, ls => (opd1 c).bind fun c => (compCode P md fn a ls).bind fun x => (compCode P md fn b x.2).bind fun y => some (.cond c x.1 y.1, y.2)
  | .block id c, ls => (compCode P md fn c ls).bind fun x => some (.block id x.1, x.2)
  | .loop c, ls => match ls with
    | [] => none
    | live :: ls => (compCode P md fn c ls).bind fun x => some (.loop live x.1, x.2)
  | .exit id, ls => some (.exit id, ls)
  | .ret, ls => some (.ret, ls)
  | _, ls => some (.stuck, ls)

def compRes (P : Program) : List ResultVar → Option (List Res1)
  | [] => some []
  | .tmp t :: l => (compRes P l).bind fun r => some (.tmp t :: r)
  | .cell a t :: l => (aggOf P t).bind fun g => (sizeOf1 P t).bind fun s => (compRes P l).bind fun r => bif Nat.blt 0 s && (g || Nat.beq s 1) then some (.cell a g s :: r) else none

/-- All slots that are written are there. -/
def slotsOk (n : Nat) : Code1 → Bool
  | .reg os => os.all fun o => match o.dst with | some d => Nat.blt d n | none => true
  | .regd os _ => os.all fun o => match o.dst with | some d => Nat.blt d n | none => true
  | .seq a b => slotsOk n a && slotsOk n b
  | .cond _ a b => slotsOk n a && slotsOk n b
  | .block _ c => slotsOk n c
  | .loop _ c => slotsOk n c
  | _ => true

def compFunc (P : Program) (md : Modes) (lv : Lives) (f : FuncId) : Option Func1 :=
  (P.funcs[f]?).bind fun fn => fn.body.bind fun c => (compCode P md f c (lv f)).bind fun x => (compRes P fn.results.toList).bind fun rs =>
    bif canCall P f && Nat.ble (fn.params.size + fn.nfree) fn.ntmps && slotsOk fn.ntmps x.1 then some ⟨fn.params.size + fn.nfree, x.1, rs⟩ else none

end Go.Abs
