/-
  From the model's code to the small code: a checked reading (plain definitions over a program).
-/
import Derived.Test.YtpddngcgajjacaaAbs1
namespace Go.Zz

def cScalar : Value → Option AV
  | .int k n => some (.int k n)
  | .bool b => some (.bool b)
  | .pointer none => some .pnil
  | .slice none 0 0 => some .snil
  | .nilFunc => some .nilFunc
  | _ => none

def cCells : List Value → Option (List AV)
  | [] => some []
  | v :: r => match cScalar v, cCells r with
    | some a, some l => some (a :: l)
    | _, _ => none

def cVal : Value → Option AV
  | .agg cs => (cCells cs.toList).map .agg
  | v => cScalar v

def cOpd : Operand → Option Opd
  | .tmp t => some (.tmp t)
  | .const v => (cVal v).map .con
  | .func f => some (.con (.func f [] []))
  | .global _ => none

def cOpds : List Operand → Option (List Opd)
  | [] => some []
  | x :: r => match cOpd x, cOpds r with
    | some a, some l => some (a :: l)
    | _, _ => none

def cOpdO : Option Operand → Option (Option Opd)
  | none => some none
  | some x => (cOpd x).map some

section
variable (P : Program)

/-- The size in cells, above 0. -/
def szOf (t : TypeId) : Option Nat := (P.info? t).bind fun i => if 0 < i.size then some i.size else none

def aggOf (t : TypeId) : Option Bool := (P.underlying t).map fun | .struct _ | .array _ _ => true | _ => false

/-- The zero value's cells: as many as the size says. -/
def zeroOf (t : TypeId) : Option (List AV) := (P.info? t).bind fun i => match i.zero with
  | some z => (cCells z.cells.toList).bind fun l => if l.length = i.size ∧ 0 < i.size then some l else none
  | none => none

def sigFs (g : TypeId → Option (List Bool)) : List Field → Nat → Option (List Bool)
  | [], _ => some []
  | f :: r, o => if f.name ≠ "_" ∧ f.offset = o then
      match g f.type with
      | some (x :: a) => match sigFs g r (o + (x :: a).length) with
        | some b => some (x :: a ++ b)
        | none => none
      | _ => none
    else none

def reps (l : List Bool) : Nat → List Bool
  | 0 => []
  | n + 1 => l ++ reps l n

/-- The kinds of the cells of a type whose equality is cell by cell: true an integer, false a bool. -/
def sigOf : (depth : Nat) → TypeId → Option (List Bool)
  | 0, _ => none
  | d + 1, t => match P.underlying t, P.info? t with
    | some .bool, some i => if i.size = 1 then some [false] else none
    | some (.int _), some i => if i.size = 1 then some [true] else none
    | some (.struct fs), some i => if P.stoodInHeld t then none else match sigFs (sigOf d) fs.toList 0 with
      | some sg => if sg.length = i.size then some sg else none
      | none => none
    | some (.array n e), some i => match sigOf d e with
      | some (x :: se) => if n * (x :: se).length = i.size then some (reps (x :: se) n) else none
      | _ => none
    | _, _ => none

def eqDepth : Nat := 20

def cParts (place : Nat → Option (Nat × Nat)) : List (Nat × Operand) → Option (List (Nat × Nat × Opd))
  | [] => some []
  | (i, x) :: r => match place i, cOpd x, cParts place r with
    | some (o, s), some a, some l => some ((o, s, a) :: l)
    | _, _, _ => none

def cBuiltin (b : Builtin) (tys : List TypeId) (args : List Operand) : Option IOp :=
  match b, tys, args with
  | .len, [t], [x] => match P.underlying t with
    | some (.slice _) => (cOpd x).map .lenS
    | some (.array n _) => some (.lenC n)
    | _ => none
  | .cap, [t], [x] => match P.underlying t with
    | some (.slice _) => (cOpd x).map .capS
    | _ => none
  | .min, _, args => (cOpds args).map (.minmax false)
  | .max, _, args => (cOpds args).map (.minmax true)
  | .append, [t, u], [s, x] => match P.underlying t with
    | some (.slice e) => match szOf P e, P.info? e, zeroOf P e, cOpd s, cOpd x with
      | some sz, some i, some _, some s, some x => if t = u then some (.append sz i.bytes s x) else none
      | _, _, _, _, _ => none
    | _ => none
  | .copy, [t, u], [d, x] => match P.underlying t, P.underlying u with
    | some (.slice e), some (.slice _) => match szOf P e, cOpd d, cOpd x with
      | some sz, some d, some x => some (.copy sz d x)
      | _, _, _ => none
    | _, _ => none
  | .clear, [t], [x] => match P.underlying t with
    | some (.slice e) => match szOf P e, zeroOf P e, cOpd x with
      | some sz, some z, some x => some (.clear sz z x)
      | _, _, _ => none
    | _ => none
  | _, _, _ => none

/-- What an operation is in the small code. -/
def cOp (op : Op) : Option IOp :=
  match op with
  | .move x | .assign x => (cOpd x).map .move
  | .pick c a b => match cOpd c, cOpd a, cOpd b with
    | some c, some a, some b => some (.pick c a b)
    | _, _, _ => none
  | .alloc e => (zeroOf P e).map .alloc
  | .box _ x => (cOpd x).map .box
  | .build t parts => match zeroOf P t, P.underlying t with
    | some z, some (.struct fs) => (cParts (fun i => (fs[i]?).bind fun f => (szOf P f.type).map fun s => (f.offset, s)) parts.toList).bind fun ps =>
        if fs.toList.all (fun f => (P.info? f.type).isSome) then some (.build z ps) else none
    | some z, some (.array _ e) => match szOf P e with
      | some s => (cParts (fun i => some (i * s, s)) parts.toList).map fun ps => .build z ps
      | none => none
    | _, _ => none
  | .buildSlice t len parts => match P.underlying t with
    | some (.slice e) => match szOf P e, zeroOf P e with
      | some s, some z => if len * s ≤ 2 ^ 24 then (cParts (fun i => some (i * s, s)) parts.toList).map fun ps => .buildSlice len s z ps else none
      | _, _ => none
    | _ => none
  | .load t a => match aggOf P t, szOf P t, cOpd a with
    | some g, some s, some a => some (.load g s a)
    | _, _, _ => none
  | .store t a x => match szOf P t, cOpd a, cOpd x with
    | some s, some a, some x => some (.store s a x)
    | _, _, _ => none
  | .nilCheck x => (cOpd x).map .nilCheck
  | .binOp op t x y _ => match cOpd x, cOpd y, P.underlying t with
    | some x, some y, some (.int _) => some (.bin op x y)
    | some x, some y, some .bool => match op with
      | .eql => some (.beq false x y)
      | .neq => some (.beq true x y)
      | _ => none
    | some x, some y, some (.struct _) | some x, some y, some (.array _ _) => match op, sigOf P eqDepth t with
      | .eql, some sg => if P.eqGuardType P.depth t then none else some (.aggEq false sg x y)
      | .neq, some sg => if P.eqGuardType P.depth t then none else some (.aggEq true sg x y)
      | _, _ => none
    | some x, some y, some (.slice _) => match op with
      | .eql => some (.nilEq 0 false x y)
      | .neq => some (.nilEq 0 true x y)
      | _ => none
    | some x, some y, some (.pointer _) => match op with
      | .eql => some (.nilEq 1 false x y)
      | .neq => some (.nilEq 1 true x y)
      | _ => none
    | some x, some y, some (.func ..) => match op with
      | .eql => some (.nilEq 2 false x y)
      | .neq => some (.nilEq 2 true x y)
      | _ => none
    | _, _, _ => none
  | .unOp op _ x => (cOpd x).map (.un op)
  | .convert s t x => match P.underlying s, P.underlying t, cOpd x with
    | some (.int _), some (.int k), some x => some (.conv k x)
    | _, _, _ => none
  | .makeFunc (.func f) first cap => match cOpds first.toList, cOpds cap.toList with
    | some a, some b => some (.makeFunc f a b)
    | _, _ => none
  | .makeSlice t l c => match P.underlying t with
    | some (.slice e) => match szOf P e, P.info? e, zeroOf P e, cOpd l, cOpd c with
      | some s, some i, some z, some l, some c => some (.makeSlice s i.bytes z l c)
      | _, _, _, _, _ => none
    | _ => none
  | .slice t x lo hi mx => match P.underlying t, cOpd x, cOpdO lo, cOpdO hi, cOpdO mx with
    | some (.slice e), some x, some lo, some hi, some mx => (szOf P e).map fun s => .slice s x lo hi mx
    | some (.array n e), some x, some lo, some hi, some mx => (szOf P e).map fun s => .sliceArr n s x lo hi mx
    | _, _, _, _, _ => none
  | .fieldAddr t x f => match P.underlying t with
    | some (.struct fs) => (fs[f]?).bind fun fl => match szOf P fl.type, cOpd x with
      | some _, some x => some (.fieldAddr fl.offset x)
      | _, _ => none
    | _ => none
  | .field t x f => match P.underlying t with
    | some (.struct fs) => (fs[f]?).bind fun fl => match aggOf P fl.type, szOf P fl.type, cOpd x with
      | some g, some s, some x => some (.field g fl.offset s x)
      | _, _, _ => none
    | _ => none
  | .indexAddr t x i => match P.underlying t, cOpd x, cOpd i with
    | some (.slice e), some x, some i => (szOf P e).map fun s => .indexAddr s x i
    | some (.array n e), some x, some i => (szOf P e).map fun s => .indexAddrArr n s x i
    | _, _, _ => none
  | .index t x i => match P.underlying t, cOpd x, cOpd i with
    | some (.array n e), some x, some i => match aggOf P e, szOf P e with
      | some g, some s => some (.index n g s x i)
      | _, _ => none
    | _, _, _ => none
  | .extract x i => (cOpd x).map fun x => .extract x i
  | .call c => match c.callee with
    | .value f => match cOpd f, cOpds c.args.toList with
      | some f, some a => some (.call f a)
      | _, _ => none
    | .builtin b => cBuiltin P b c.argTypes.toList c.args.toList
    | .invoke _ _ => none
  | _ => none

def cGuard (ops : Array Oper) : Option (Nat × Bool) → Option (Option (Nat × Bool))
  | none => some none
  | some (j, want) => match (ops[j]?).bind (·.dst) with
    | some t => some (some (t, want))
    | none => none

def cOper (ops : Array Oper) (o : Oper) : Option IOper :=
  match cOp P o.op, cGuard ops o.guard with
  | some op, some g => some ⟨g, o.dst, op⟩
  | _, _ => none

def cOpers (ops : Array Oper) : List Oper → Option (List IOper)
  | [] => some []
  | o :: r => match cOper P ops o, cOpers ops r with
    | some a, some l => some (a :: l)
    | _, _ => none

def isCallI : IOp → Bool
  | .call .. => true
  | _ => false

/-- Operations that make no block. -/
def makesNone : IOp → Bool
  | .load .. | .sliceArr .. | .slice .. | .store .. => true
  | op => freeOp op

/-- Operations that look at little, and are done early. -/
def smallOp : Op → Bool
  | .call c => match c.callee with
    | .builtin .append | .builtin .copy | .builtin .clear => false
    | .builtin _ => true
    | _ => false
  | _ => true

def unord (b : Array Nat) (i j : Nat) : Bool := i != j && !(b.getD j 0).testBit i && !(b.getD i 0).testBit j

/-- For operation j: which earlier ones touch what it must not see. -/
def masksOf (b : Array Nat) (ops : List IOper) (j : Nat) (o : IOper) : List Nat :=
  (List.range j).filter fun i => unord b i j && (match ops[i]? with | some oi => !freeOp oi.op && !(readOp oi.op && readOp o.op) | none => false)

def dOper (b : Array Nat) (ops : List IOper) (o : IOper) (j : Nat) : DOper :=
  if freeOp o.op then ⟨o, []⟩ else ⟨o, masksOf b ops j o⟩

def cOpersAt (ops : Array Oper) : List Nat → Option (List IOper)
  | [] => some []
  | i :: r => match ops[i]? with
    | some o => match cOper P ops o, cOpersAt ops r with
      | some a, some l => some (a :: l)
      | _, _ => none
    | none => none

def Opd.slots : Opd → List Nat
  | .tmp t => [t]
  | .con _ => []

def slotsO : Option Opd → List Nat
  | some x => x.slots
  | none => []

def slotsL : List Opd → List Nat
  | [] => []
  | x :: r => x.slots ++ slotsL r

def slotsP : List (Nat × Nat × Opd) → List Nat
  | [] => []
  | (_, _, x) :: r => x.slots ++ slotsP r

/-- The slots that an operation reads. -/
def IOp.slots : IOp → List Nat
  | .move x | .box x | .load _ _ x | .nilCheck x | .un _ x | .conv _ x | .fieldAddr _ x | .field _ _ _ x | .extract x _ | .lenS x | .capS x | .clear _ _ x => x.slots
  | .pick c a b => c.slots ++ (a.slots ++ b.slots)
  | .alloc _ | .lenC _ => []
  | .build _ ps | .buildSlice _ _ _ ps => slotsP ps
  | .store _ x y | .bin _ x y | .beq _ x y | .aggEq _ _ x y | .nilEq _ _ x y | .makeSlice _ _ _ x y | .indexAddr _ x y | .indexAddrArr _ _ x y | .index _ _ _ x y | .append _ _ x y | .copy _ x y => x.slots ++ y.slots
  | .makeFunc _ a b => slotsL a ++ slotsL b
  | .slice _ x lo hi mx | .sliceArr _ _ x lo hi mx => x.slots ++ (slotsO lo ++ (slotsO hi ++ slotsO mx))
  | .minmax _ xs => slotsL xs
  | .call f args => f.slots ++ slotsL args

/-- The slots that it has to do with. -/
def IOper.slots (o : IOper) : List Nat :=
  o.op.slots ++ ((match o.guard with | some (t, _) => [t] | none => []) ++ (match o.dst with | some t => [t] | none => []))

def ordered (b : Array Nat) (i j : Nat) : Bool := (b.getD j 0).testBit i || (b.getD i 0).testBit j

/-- Who writes a slot stands in order with all that have to do with it. -/
def slotsOk (b : Array Nat) (l : List IOper) : Bool :=
  l.zipIdx.all fun (oj, j) => l.zipIdx.all fun (oi, i) => i == j || (match oi.dst with | some t => !(oj.slots.contains t) || ordered b i j | none => true)

/-- Behind a call, in no order with it, nothing makes a block. -/
def callsOk (b : Array Nat) (l : List IOper) : Bool :=
  l.zipIdx.all fun (oj, j) => !isCallI oj.op || l.zipIdx.all fun (oi, i) => decide (i ≤ j) || ordered b i j || makesNone oi.op

/-- An order in which the operations may stand: little ones first. -/
def pickOrder (ops : Array Oper) : Nat → List Nat → List Nat
  | 0, done => done
  | n + 1, done =>
    let ready := (List.range ops.size).filter fun i => !done.contains i && (match ops[i]? with | some o => o.after.all fun e => !Region.binds .any e || done.contains e.on | none => false)
    match ready.find? fun i => match ops[i]? with | some o => smallOp o.op | none => false with
    | some i => pickOrder ops n (done ++ [i])
    | none => match ready with
      | i :: _ => pickOrder ops n (done ++ [i])
      | [] => done

/-- The table of the order, by places. -/
def tableOf (ops : Array Oper) (perm : List Nat) : Array Nat :=
  perm.foldl (fun b i => b.push (match ops[i]? with
    | some o => o.after.foldl (fun m e => if Region.binds .any e then m ||| (1 <<< perm.idxOf e.on) ||| b.getD (perm.idxOf e.on) 0 else m) 0
    | none => 0)) #[]

def permOk (n : Nat) (perm : List Nat) : Bool :=
  perm.length == n && ((List.range n).all fun i => perm.contains i) && (List.range n).all fun p => (List.range n).all fun q => p == q || perm.getD p n != perm.getD q n

/-- The table says no more than the edges do; the edges point back. -/
def closedOk (b : Array Nat) (ops : Array Oper) (perm : List Nat) : Bool :=
  (List.range ops.size).all fun p => match ops[perm.getD p ops.size]? with
    | some o => (o.after.all fun e => !Region.binds .any e || (List.range p).any fun q => perm.getD q ops.size == e.on) &&
        (List.range ops.size).all fun i => !(b.getD p 0).testBit i || o.after.any fun e => Region.binds .any e && (List.range p).any fun q => perm.getD q ops.size == e.on && (q == i || (b.getD q 0).testBit i)
    | none => false

def cCode : Code → Option IR
  | .skip => some .skip
  | .region _ ops false => (cOpers P ops ops.toList).map .region
  | .region _ ops true => match cOpersAt P ops (pickOrder ops ops.size []) with
    | some l =>
        if P.follows .mixedOrders && permOk ops.size (pickOrder ops ops.size []) && closedOk (tableOf ops (pickOrder ops ops.size [])) ops (pickOrder ops ops.size []) && slotsOk (tableOf ops (pickOrder ops ops.size [])) l && callsOk (tableOf ops (pickOrder ops ops.size [])) l then
          some (.draw (l.zipIdx.map fun (o, j) => dOper (tableOf ops (pickOrder ops ops.size [])) l o j))
        else none
    | none => none
  | .seq a b => match cCode a, cCode b with
    | some x, some y => some (.seq x y)
    | _, _ => none
  | .cond c a b => match cOpd c, cCode a, cCode b with
    | some c, some x, some y => some (.cond c x y)
    | _, _, _ => none
  | .block id b => (cCode b).map (.block id)
  | .loop b => (cCode b).map .loop
  | .rangeFunc f ps a b => match cOpd f, cCode a, cCode b with
    | some f, some x, some y => some (.rangeFunc f ps.toList x y)
    | _, _, _ => none
  | .exit id => some (.exit id)
  | .ret => some .ret
  | _ => none

def cRes : List ResultVar → Option (List IRes)
  | [] => some []
  | .tmp t :: r => (cRes r).map (.tmp t :: ·)
  | .cell t ty :: r => match aggOf P ty, szOf P ty, cRes r with
    | some g, some s, some l => some (.cell t g s :: l)
    | _, _, _ => none

def cFunc (fn : Func) : Option IFunc :=
  match fn.body with
  | some c => match cCode P c, cRes P fn.results.toList with
    | some b, some rs => if fn.name == "runtime.NumGoroutine" then none else some ⟨fn.ntmps, rs, b⟩
    | _, _ => none
  | none => none
end
end Go.Zz
