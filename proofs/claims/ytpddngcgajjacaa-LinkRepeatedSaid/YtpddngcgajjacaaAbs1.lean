/-
  The abstract machine: values, memory, a small code, and its evaluation (plain definitions; no program in sight).
-/
import Derived.RangeFuncIn
namespace Go.Zz

/-- Abstract values. -/
inductive AV where
  | int (k : IntKind) (n : Int)
  | bool (b : Bool)
  | agg (l : List AV)
  | tuple (l : List AV)
  | snil
  | sval (full : Bool) (len : Nat) (l : List AV)
  | sref (id g off sz len : Nat) (cap : Option Nat)
  | pnil
  | pref (id g off : Nat)
  | pval (l : List AV)
  | func (f : Nat) (first captured : List AV)
  | yield (k : Nat)
  | nilFunc
  deriving Inhabited

abbrev und : AV := .tuple []

def gt : List AV → Nat → AV
  | [], _ => und
  | x :: _, 0 => x
  | _ :: l, n + 1 => gt l n

def pt : List AV → Nat → AV → List AV
  | [], _, _ => []
  | _ :: l, 0, v => v :: l
  | x :: l, n + 1, v => x :: pt l n v

inductive Opd where
  | tmp (t : Nat)
  | con (v : AV)
  deriving Inhabited

def Opd.ev (T : List AV) : Opd → AV
  | .tmp t => gt T t
  | .con v => v

structure Blk where
  gen : Nat
  cells : List AV
  deriving Inhabited

abbrev Hp := List (Option Blk)

inductive IOp where
  | move (x : Opd)
  | pick (c a b : Opd)
  | alloc (zero : List AV)
  | box (x : Opd)
  | build (zero : List AV) (parts : List (Nat × Nat × Opd))
  | buildSlice (len sz : Nat) (zero : List AV) (parts : List (Nat × Nat × Opd))
  | load (agg : Bool) (size : Nat) (x : Opd)
  | store (size : Nat) (a x : Opd)
  | nilCheck (x : Opd)
  | bin (op : BinOp) (x y : Opd)
  | beq (neg : Bool) (x y : Opd)
  | aggEq (neg : Bool) (sg : List Bool) (x y : Opd)
  | nilEq (k : Nat) (neg : Bool) (x y : Opd)
  | un (op : UnOp) (x : Opd)
  | conv (k : IntKind) (x : Opd)
  | makeFunc (f : Nat) (first captured : List Opd)
  | makeSlice (sz bytes : Nat) (zero : List AV) (l c : Opd)
  | slice (sz : Nat) (x : Opd) (lo hi mx : Option Opd)
  | sliceArr (n sz : Nat) (x : Opd) (lo hi mx : Option Opd)
  | fieldAddr (off : Nat) (x : Opd)
  | field (agg : Bool) (off size : Nat) (x : Opd)
  | indexAddr (sz : Nat) (x i : Opd)
  | indexAddrArr (n sz : Nat) (x i : Opd)
  | index (n : Nat) (agg : Bool) (sz : Nat) (x i : Opd)
  | extract (x : Opd) (i : Nat)
  | lenS (x : Opd)
  | lenC (n : Nat)
  | capS (x : Opd)
  | minmax (mx : Bool) (xs : List Opd)
  | append (sz bytes : Nat) (s x : Opd)
  | copy (sz : Nat) (d x : Opd)
  | clear (sz : Nat) (zero : List AV) (x : Opd)
  | call (f : Opd) (args : List Opd)
  deriving Inhabited

structure IOper where
  guard : Option (Nat × Bool)
  dst : Option Nat
  op : IOp
  deriving Inhabited

/-- In a region that draws its order: an operation; the earlier ones with which it stands in no order: what they touch it must not see. -/
structure DOper where
  o : IOper
  ms : List Nat
  deriving Inhabited

inductive IR where
  | skip
  | region (ops : List IOper)
  | draw (ops : List DOper)
  | seq (a b : IR)
  | cond (c : Opd) (a b : IR)
  | block (id : Nat) (b : IR)
  | loop (b : IR)
  | rangeFunc (f : Opd) (params : List Nat) (assign body : IR)
  | exit (id : Nat)
  | ret
  deriving Inhabited

inductive Ex where
  | normal
  | exit (id : Nat)
  | ret
  deriving Inhabited, DecidableEq

structure ALoop where
  ready : Bool
  pending : Option Ex
  tmps : List AV
  params : List Nat
  assign : IR
  body : IR

structure Mem where
  heap : Hp
  loops : List (Option ALoop)

structure St where
  T : List AV
  heap : Hp
  loops : List (Option ALoop)

def St.mem (s : St) : Mem := ⟨s.heap, s.loops⟩
def St.put (s : St) (d : Option Nat) (v : AV) (m : Mem) : St :=
  ⟨match d with | some d => pt s.T d v | none => s.T, m.heap, m.loops⟩

/-! ### Pieces -/

def look (H : Hp) (id g : Nat) : Option (List AV) :=
  match H[id]? with
  | some (some b) => if b.gen = g then some b.cells else none
  | _ => none

def AV.cells : AV → Option (List AV)
  | .agg l => some l
  | .tuple _ => none
  | v => some [v]

/-- n cells of l from off on. -/
def cut (l : List AV) (off n : Nat) : Option (List AV) :=
  if off + n ≤ l.length then some ((l.drop off).take n) else none

/-- xs written into l from off on. -/
def over (l : List AV) (off : Nat) (xs : List AV) : Option (List AV) :=
  if off + xs.length ≤ l.length then some (l.take off ++ xs ++ l.drop (off + xs.length)) else none

def fillP (T : List AV) : List AV → List (Nat × Nat × Opd) → Option (List AV)
  | cs, [] => some cs
  | cs, (off, size, x) :: r => do
    let c ← (x.ev T).cells
    if c.length = size then
      let cs' ← over cs off c
      fillP T cs' r
    else none

def loadCs (agg : Bool) (size : Nat) (l : List AV) (off : Nat) : Option AV :=
  if agg then (cut l off size).map .agg else l[off]?

def loadAV (H : Hp) (agg : Bool) (size : Nat) : AV → Option AV
  | .pref id g off => (look H id g).bind fun l => loadCs agg size l off
  | .pval l => loadCs agg size l 0
  | _ => none

def capAV : AV → Option AV
  | .snil => some (.int .i64 0)
  | .sval true n _ => some (.int .i64 n)
  | .sref _ _ _ _ _ (some c) => some (.int .i64 c)
  | _ => none

def setBlk (H : Hp) (id g : Nat) (cs : List AV) : Hp := H.set id (some ⟨g, cs⟩)

def storeAt (H : Hp) (id g off : Nat) (xs : List AV) : Option Hp := do
  let l ← look H id g
  let l' ← over l off xs
  some (setBlk H id g l')

def newBlk (m : Mem) (cs : List AV) : Mem := ⟨m.heap ++ [some ⟨0, cs⟩], m.loops⟩

/-- The cells of a slice. -/
def scells (H : Hp) (sz : Nat) : AV → Option (List AV)
  | .snil => some []
  | .sval _ n l => if l.length = n * sz then some l else none
  | .sref id g off sz' n _ => if sz' = sz then (look H id g).bind fun l => cut l off (n * sz) else none
  | _ => none

def slen : AV → Option Nat
  | .snil => some 0
  | .sval _ n _ => some n
  | .sref _ _ _ _ n _ => some n
  | _ => none

def bnd (v : AV) (y : Nat) : Option Nat :=
  match v with
  | .int _ i => if 0 ≤ i ∧ i ≤ (y : Int) then some i.toNat else none
  | _ => none

def bndO (v : Option AV) (y d : Nat) : Option Nat :=
  match v with
  | some v => bnd v y
  | none => some d

/-- The three bounds of a slice expression; the last is 'none' where the capacity is not known. -/
def bnds (len : Nat) (cap : Option Nat) (lo hi mx : Option AV) : Option (Nat × Nat × Option Nat) :=
  match mx with
  | none => match bndO hi (cap.getD len) len with
    | some h => match bndO lo h 0 with
      | some l => some (l, h, cap)
      | none => none
    | none => none
  | some v => match bnd v (cap.getD len), hi with
    | some m, some hv => match bnd hv m with
      | some h => match bndO lo h 0 with
        | some l => some (l, h, some m)
        | none => none
      | none => none
    | _, _ => none

def binInt (op : BinOp) (k : IntKind) (a b : Int) : Option AV :=
  match op with
  | .add => some (.int k (k.wrap (a + b)))
  | .sub => some (.int k (k.wrap (a - b)))
  | .mul => some (.int k (k.wrap (a * b)))
  | .quo => if b = 0 then none else some (.int k (k.wrap (a.tdiv b)))
  | .rem => if b = 0 then none else some (.int k (a.tmod b))
  | .and => some (.int k (k.wrap (BitVec.ofInt k.bits a &&& BitVec.ofInt k.bits b).toNat))
  | .or => some (.int k (k.wrap (BitVec.ofInt k.bits a ||| BitVec.ofInt k.bits b).toNat))
  | .xor => some (.int k (k.wrap (BitVec.ofInt k.bits a ^^^ BitVec.ofInt k.bits b).toNat))
  | .andNot => some (.int k (k.wrap (BitVec.ofInt k.bits a &&& ~~~ BitVec.ofInt k.bits b).toNat))
  | .eql => some (.bool (a == b))
  | .neq => some (.bool (a != b))
  | .lss => some (.bool (a < b))
  | .leq => some (.bool (a ≤ b))
  | .gtr => some (.bool (a > b))
  | .geq => some (.bool (a ≥ b))
  | .shl => if b < 0 then none else some (.int k (k.wrap (a * 2 ^ (min b.toNat k.bits))))
  | .shr => if b < 0 then none else some (.int k (a.fdiv (2 ^ (min b.toNat k.bits))))

def isShift : BinOp → Bool
  | .shl | .shr => true
  | _ => false

def binAV (op : BinOp) (x y : AV) : Option AV :=
  match x, y with
  | .int k a, .int k' b => if isShift op || k = k' then binInt op k a b else none
  | _, _ => none

/-- Equality of two cells that are integers (true) or bools (false). -/
def cellEq (k : Bool) : AV → AV → Option Bool
  | .int k1 a, .int k2 b => if k = true ∧ k1 = k2 then some (a == b) else none
  | .bool a, .bool b => if k = false then some (a == b) else none
  | _, _ => none

def cellsEq : List Bool → List AV → List AV → Option Bool
  | [], [], [] => some true
  | k :: s, x :: l, y :: r => match cellEq k x y with
    | some c => (cellsEq s l r).map fun q => c && q
    | none => none
  | _, _, _ => none

/-- Equality where one side is nil: 0 slices, 1 pointers, 2 functions. -/
def nilEqAV (k : Nat) (x y : AV) : Option Bool :=
  match k, x, y with
  | 0, .snil, .snil => some true
  | 0, .snil, .sval _ _ _ | 0, .snil, .sref .. | 0, .sval _ _ _, .snil | 0, .sref .., .snil => some false
  | 1, .pnil, .pnil => some true
  | 1, .pnil, .pref .. | 1, .pnil, .pval _ | 1, .pref .., .pnil | 1, .pval _, .pnil => some false
  | 2, .nilFunc, .nilFunc => some true
  | 2, .nilFunc, .func .. | 2, .nilFunc, .yield _ | 2, .func .., .nilFunc | 2, .yield _, .nilFunc => some false
  | _, _, _ => none

def unAV (op : UnOp) (x : AV) : Option AV :=
  match op, x with
  | .neg, .int k n => some (.int k (k.wrap (0 - n)))
  | .xor, .int k n => some (.int k (k.wrap (BitVec.ofInt k.bits (if k.signed then -1 else k.max) ^^^ BitVec.ofInt k.bits n).toNat))
  | .not, .bool b => some (.bool !b)
  | _, _ => none

/-- How many elements a slice can hold at least. -/
def kcap (H : Hp) (sz id g off n : Nat) : Nat :=
  match look H id g with
  | some l => max n ((l.length - off) / sz)
  | none => n

def sliceAV (H : Hp) (sz : Nat) (x : AV) (lo hi mx : Option AV) : Option AV :=
  match x with
  | .snil => (bnds 0 (some 0) lo hi mx).map fun _ => .snil
  | .sval full n l => if l.length = n * sz then
      (bnds n (if full then some n else none) lo hi mx).map fun (a, b, m) =>
        .sval (match m with | some c => c == b | none => false) (b - a) ((l.drop (a * sz)).take ((b - a) * sz))
    else none
  | .sref id g off sz' n cap => if sz' = sz then
      (bnds (if cap.isNone && hi.isSome then kcap H sz id g off n else n) cap lo hi mx).bind fun (a, b, m) =>
        match m with
        | some c => some (.sref id g (if c = a then off else off + a * sz) sz (b - a) (some (c - a)))
        | none => if a = 0 then some (.sref id g off sz b none)
                  else if b - a = 0 then some (.sval false 0 [])
                  else some (.sref id g (off + a * sz) sz (b - a) none)
    else none
  | _ => none

def sliceArrAV (H : Hp) (n sz : Nat) (x : AV) (lo hi mx : Option AV) : Option AV :=
  match x with
  | .pref id g off => (look H id g).bind fun l => if off + n * sz ≤ l.length then
      (bnds n (some n) lo hi mx).bind fun (a, b, m) =>
        match m with
        | some c => some (.sref id g (if c = a then off else off + a * sz) sz (b - a) (some (c - a)))
        | none => none
    else none
  | .pval l => if n * sz ≤ l.length then (bnds n (some n) lo hi mx).bind fun (a, b, m) =>
      match m with
      | some c => some (.sval (c == b) (b - a) ((l.drop (a * sz)).take ((b - a) * sz)))
      | none => none
    else none
  | _ => none

def idx (v : AV) (n : Nat) : Option Nat :=
  match v with
  | .int _ i => if 0 ≤ i ∧ i < (n : Int) then some i.toNat else none
  | _ => none

def ptrAdd (off : Nat) : AV → Option AV
  | .pref id g o => some (.pref id g (o + off))
  | .pval l => some (.pval (l.drop off))
  | _ => none

def indexAddrAV (sz : Nat) (x i : AV) : Option AV :=
  match x with
  | .sval _ n l => (idx i n).map fun j => .pval (l.drop (j * sz))
  | .sref id g off sz' n _ => if sz' = sz then (idx i n).map fun j => .pref id g (off + j * sz) else none
  | _ => none

def mmGo (mx : Bool) (k : IntKind) : Int → List AV → Option AV
  | a, [] => some (.int k a)
  | a, .int k' b :: r => if k = k' then mmGo mx k (if mx then (if b > a then b else a) else (if b < a then b else a)) r else none
  | _, _ => none

def minmaxAV (mx : Bool) : List AV → Option AV
  | .int k a :: r => mmGo mx k a r
  | _ => none

def appendAV (sz bytes : Nat) (m : Mem) (s x : AV) : Option (AV × Mem) := do
  let xs ← scells m.heap sz x
  let n ← slen x
  match s with
  | .snil =>
    if n = 0 then some (.snil, m)
    else if n * bytes ≤ 70368744177664 ∧ n ≤ 70368744177664 then some (.sref m.heap.length 0 0 sz n none, newBlk m xs) else none
  | .sval full len l =>
    if n = 0 then some (s, m)
    else if full ∧ l.length = len * sz ∧ (len + n) * bytes ≤ 70368744177664 ∧ len + n ≤ 70368744177664 then
      some (.sref m.heap.length 0 0 sz (len + n) none, newBlk m (l ++ xs)) else none
  | .sref id g off sz' len cap =>
    if sz' = sz then do
      let l ← look m.heap id g
      let old ← cut l off (len * sz)
      match cap with
      | some c =>
        if len + n ≤ c then do
          let H ← storeAt m.heap id g (off + len * sz) xs
          some (.sref id g off sz (len + n) cap, ⟨H, m.loops⟩)
        else if (len + n) * bytes ≤ 70368744177664 ∧ len + n ≤ 70368744177664 then
          some (.sref m.heap.length 0 0 sz (len + n) none, newBlk m (old ++ xs))
        else none
      | none =>
        if off + (len + n) * sz ≤ l.length then do
          let H ← storeAt m.heap id g (off + len * sz) xs
          some (.sref id g off sz (len + n) none, ⟨H, m.loops⟩)
        else if (len + n) * bytes ≤ 70368744177664 ∧ len + n ≤ 70368744177664 then
          some (.sref id (g + 1) 0 sz (len + n) none, ⟨setBlk m.heap id (g + 1) (old ++ xs), m.loops⟩)
        else none
    else none
  | _ => none

def copyAV (sz : Nat) (m : Mem) (d x : AV) : Option (AV × Mem) := do
  let xs ← scells m.heap sz x
  let n ← slen x
  match d with
  | .snil => some (.int .i64 0, m)
  | .sref id g off sz' len _ => if sz' = sz then do
      let H ← storeAt m.heap id g off (xs.take (Nat.min n len * sz))
      some (.int .i64 (Nat.min n len), ⟨H, m.loops⟩) else none
  | _ => none

def zeros (zero : List AV) : Nat → List AV
  | 0 => []
  | n + 1 => zero ++ zeros zero n

def clearAV (zero : List AV) (m : Mem) (x : AV) : Option Mem :=
  match x with
  | .snil => some m
  | .sval _ 0 _ => some m
  | .sref id g off _ n _ => if n = 0 then some m else (storeAt m.heap id g off (zeros zero n)).map fun H => ⟨H, m.loops⟩
  | _ => none

def nilCheckAV : AV → Option AV
  | .pref id g o => some (.pref id g o)
  | .pval l => some (.pval l)
  | .func f a c => some (.func f a c)
  | .yield k => some (.yield k)
  | _ => none

/-- One operation. 'call' answers calls of function values. -/
def evOp (call : AV → List AV → Mem → Option (AV × Mem)) (T : List AV) (m : Mem) : IOp → Option (AV × Mem)
  | .move x => some (x.ev T, m)
  | .pick c a b => match c.ev T with | .bool t => some (if t then a.ev T else b.ev T, m) | _ => none
  | .alloc zero => some (.pref m.heap.length 0 0, newBlk m zero)
  | .box x => (x.ev T).cells.map fun c => (.pref m.heap.length 0 0, newBlk m c)
  | .build zero parts => (fillP T zero parts).map fun c => (.agg c, m)
  | .buildSlice len sz zero parts =>
    (fillP T (zeros zero len) parts).map fun c => (.sref m.heap.length 0 0 sz len (some len), newBlk m c)
  | .load agg size x => (loadAV m.heap agg size (x.ev T)).map fun v => (v, m)
  | .store size a x => match a.ev T with
    | .pref id g off => (x.ev T).cells.bind fun c => if c.length = size then (storeAt m.heap id g off c).map fun H => (und, ⟨H, m.loops⟩) else none
    | _ => none
  | .nilCheck x => (nilCheckAV (x.ev T)).map fun v => (v, m)
  | .bin op x y => (binAV op (x.ev T) (y.ev T)).map fun v => (v, m)
  | .beq neg x y => match x.ev T, y.ev T with
    | .bool a, .bool b => some (.bool (if neg then !(a == b) else a == b), m)
    | _, _ => none
  | .aggEq neg sg x y => match x.ev T, y.ev T with
    | .agg a, .agg b => (cellsEq sg a b).map fun r => (.bool (if neg then !r else r), m)
    | _, _ => none
  | .nilEq k neg x y => (nilEqAV k (x.ev T) (y.ev T)).map fun r => (.bool (if neg then !r else r), m)
  | .un op x => (unAV op (x.ev T)).map fun v => (v, m)
  | .conv k x => match x.ev T with | .int _ n => some (.int k (k.wrap n), m) | _ => none
  | .makeFunc f first cap => some (.func f (first.map (·.ev T)) (cap.map (·.ev T)), m)
  | .makeSlice sz bytes zero l c => match l.ev T, c.ev T with
    | .int _ a, .int _ b => if 0 ≤ a ∧ a ≤ b ∧ b * bytes ≤ 70368744177664 ∧ b ≤ 70368744177664 then
        some (.sref m.heap.length 0 0 sz a.toNat (some b.toNat), newBlk m (zeros zero b.toNat)) else none
    | _, _ => none
  | .slice sz x lo hi mx => (sliceAV m.heap sz (x.ev T) (lo.map (·.ev T)) (hi.map (·.ev T)) (mx.map (·.ev T))).map fun v => (v, m)
  | .sliceArr n sz x lo hi mx => (sliceArrAV m.heap n sz (x.ev T) (lo.map (·.ev T)) (hi.map (·.ev T)) (mx.map (·.ev T))).map fun v => (v, m)
  | .fieldAddr off x => (ptrAdd off (x.ev T)).map fun v => (v, m)
  | .field agg off size x => match x.ev T with
    | .agg l => (loadCs agg size l off).map fun v => (v, m)
    | _ => none
  | .indexAddr sz x i => (indexAddrAV sz (x.ev T) (i.ev T)).map fun v => (v, m)
  | .indexAddrArr n sz x i => (idx (i.ev T) n).bind fun j => (ptrAdd (j * sz) (x.ev T)).map fun v => (v, m)
  | .index n agg sz x i => match x.ev T with
    | .agg l => (idx (i.ev T) n).bind fun j => (loadCs agg sz l (j * sz)).map fun v => (v, m)
    | _ => none
  | .extract x i => match x.ev T with
    | .tuple l => l[i]?.map fun v => (v, m)
    | _ => none
  | .lenS x => (slen (x.ev T)).map fun n => (.int .i64 n, m)
  | .lenC n => some (.int .i64 n, m)
  | .capS x => (capAV (x.ev T)).map fun v => (v, m)
  | .minmax mx xs => (minmaxAV mx (xs.map (·.ev T))).map fun v => (v, m)
  | .append sz bytes s x => appendAV sz bytes m (s.ev T) (x.ev T)
  | .copy sz d x => copyAV sz m (d.ev T) (x.ev T)
  | .clear _ zero x => (clearAV zero m (x.ev T)).map fun m' => (und, m')
  | .call f args => call (f.ev T) (args.map (·.ev T)) m

def wantedI (T : List AV) : Option (Nat × Bool) → Bool
  | none => true
  | some (t, want) => match gt T t with | .bool b => b == want | _ => false

def evOps (call : AV → List AV → Mem → Option (AV × Mem)) : List IOper → St → Option St
  | [], s => some s
  | o :: r, s =>
    if wantedI s.T o.guard then
      match evOp call s.T s.mem o.op with
      | some (v, m) => evOps call r (s.put o.dst v m)
      | none => none
    else evOps call r (s.put o.dst und s.mem)

/-! ### A region that draws its order: each operation over what it may see. -/

/-- Operations that look at no memory and leave none: they may stand anywhere. -/
def freeOp : IOp → Bool
  | .alloc _ | .box _ | .buildSlice .. | .load .. | .store .. | .makeSlice .. | .append .. | .copy .. | .clear .. | .call .. | .sliceArr .. | .slice .. => false
  | _ => true

/-- Operations that only look. -/
def readOp : IOp → Bool
  | .load .. | .sliceArr .. | .slice .. => true
  | _ => false

def blanks (H : Hp) : Hp := H.map fun _ => none

/-- Nothing but one block. -/
def onlyAt : Hp → Nat → Hp
  | [], _ => []
  | h :: H, 0 => h :: blanks H
  | _ :: H, n + 1 => none :: onlyAt H n

/-- What an operation looks at, of what it may see. -/
def limit (T : List AV) (op : IOp) (H : Hp) : Hp :=
  match op with
  | .load _ _ x | .store _ x _ | .sliceArr _ _ x _ _ _ => match x.ev T with
    | .pref id _ _ => onlyAt H id
    | _ => blanks H
  | .slice _ x _ _ _ => match x.ev T with
    | .sref id _ _ _ _ _ => onlyAt H id
    | _ => blanks H
  | .alloc _ | .box _ | .buildSlice .. | .makeSlice .. => blanks H
  | _ => H

/-- Without what lies in V. -/
def strikeV : Hp → Hp → Hp
  | [], _ => []
  | H, [] => H
  | _ :: H, some _ :: V => none :: strikeV H V
  | h :: H, none :: V => h :: strikeV H V

/-- Blocks from a to b (b not among them) struck. -/
def strike (H : Hp) (a b : Nat) : Hp := if a < b then H.take a ++ List.replicate (b - a) none ++ H.drop b else H

/-- Without what the operations touched. -/
def strikes (H : Hp) (seen : List (Hp × Nat × Nat)) : List Nat → Hp
  | [] => H
  | i :: r => match seen[i]? with
    | some (V, a, b) => strikes (strikeV (strike H a b) V) seen r
    | none => strikes H seen r

/-- What was seen is as it is now; what was not, as it was; what is new comes behind. -/
def back : Hp → Hp → Hp → Hp
  | [], _, H' => H'
  | h :: H, v :: V, h' :: H' => (match v with | some _ => h' | none => h) :: back H V H'
  | H, _, _ => H

/-- What was not there to be seen is not there now. -/
def stillDead : Hp → Hp → Bool
  | [], _ => true
  | none :: V, none :: H' => stillDead V H'
  | some _ :: V, _ :: H' => stillDead V H'
  | _, _ => false

def evDraw (call : AV → List AV → Mem → Option (AV × Mem)) : List DOper → St → List (Hp × Nat × Nat) → Option St
  | [], s, _ => some s
  | d :: r, s, seen =>
    if wantedI s.T d.o.guard then
      if freeOp d.o.op then
        match evOp call s.T s.mem d.o.op with
        | some (v, m') => evDraw call r (s.put d.o.dst v m') (seen ++ [([], 0, 0)])
        | none => none
      else
        match evOp call s.T ⟨limit s.T d.o.op (strikes s.heap seen d.ms), s.loops⟩ d.o.op with
        | some (v, m') =>
          if stillDead (limit s.T d.o.op (strikes s.heap seen d.ms)) m'.heap then
            evDraw call r (s.put d.o.dst v ⟨back s.heap (limit s.T d.o.op (strikes s.heap seen d.ms)) m'.heap, m'.loops⟩) (seen ++ [(limit s.T d.o.op (strikes s.heap seen d.ms), s.heap.length, m'.heap.length)])
          else none
        | none => none
    else evDraw call r (s.put d.o.dst und s.mem) (seen ++ [([], 0, 0)])

/-! ### Functions, code -/

inductive IRes where
  | tmp (t : Nat)
  | cell (t : Nat) (agg : Bool) (size : Nat)

structure IFunc where
  ntmps : Nat
  results : List IRes
  body : IR

/-- What is known of functions: their text ('fn'); an answer for a whole call ('spec'). -/
structure Env where
  fn : Nat → Option IFunc
  spec : Nat → Option (List AV → Mem → Option (AV × Mem))

def evRes (T : List AV) (H : Hp) : List IRes → Option (List AV)
  | [] => some []
  | .tmp t :: r => (evRes T H r).map (gt T t :: ·)
  | .cell t agg size :: r => match gt T t with
    | .pref id g off => (look H id g).bind fun l => (loadCs agg size l off).bind fun v => (evRes T H r).map (v :: ·)
    | _ => none

def oneRes : List AV → AV
  | [v] => v
  | l => .tuple l

def padTo (n : Nat) : List AV → List AV
  | [] => List.replicate n und
  | x :: l => match n with
    | 0 => x :: l
    | n + 1 => x :: padTo n l

def setAll (T : List AV) : List Nat → List AV → List AV
  | p :: ps, v :: vs => setAll (pt T p v) ps vs
  | _, _ => T

def setLoop (L : List (Option ALoop)) (k : Nat) (x : Option ALoop) : List (Option ALoop) := L.set k x

mutual
/-- A code, with so much fuel. -/
def evC (Γ : Env) : Nat → IR → St → Option (Ex × St)
  | 0, _, _ => none
  | n + 1, c, s =>
    match c with
    | .skip => some (.normal, s)
    | .region ops => (evOps (fun f args m => evF Γ n f args m) ops s).map fun s => (.normal, s)
    | .draw ops => (evDraw (fun f args m => evF Γ n f args m) ops s []).map fun s => (.normal, s)
    | .seq a b => match evC Γ n a s with
      | some (.normal, s') => evC Γ n b s'
      | r => r
    | .cond c a b => match c.ev s.T with
      | .bool t => if t then evC Γ n a s else evC Γ n b s
      | _ => none
    | .block id b => match evC Γ n b s with
      | some (.exit id', s') => if id' = id then some (.normal, s') else some (.exit id', s')
      | r => r
    | .loop b => match evC Γ n b s with
      | some (.normal, s') => evC Γ n (.loop b) s'
      | r => r
    | .exit id => some (.exit id, s)
    | .ret => some (.ret, s)
    | .rangeFunc f ps assign body =>
      match (match f.ev s.T with
        | .func g a c => evF Γ n (.func g a c) [.yield s.loops.length] ⟨s.heap, s.loops ++ [some ⟨true, none, s.T, ps, assign, body⟩]⟩
        | _ => (none : Option (AV × Mem))) with
      | some ((_ : AV), (m : Mem)) => match m.loops[s.loops.length]? with
        | some (some r) => match r.pending with
          | none => if r.ready then some (.normal, ⟨s.T, m.heap, setLoop m.loops s.loops.length none⟩) else none
          | some e => some (e, ⟨s.T, m.heap, setLoop m.loops s.loops.length none⟩)
        | _ => none
      | none => none
/-- A call of a function value. -/
def evF (Γ : Env) : Nat → AV → List AV → Mem → Option (AV × Mem)
  | 0, _, _, _ => none
  | n + 1, f, args, m =>
    match f with
    | .func f first cap =>
      match Γ.spec f with
      | some S => S (first ++ args ++ cap) m
      | none => match Γ.fn f with
        | some fn => if (first ++ args ++ cap).length ≤ fn.ntmps then
            match evC Γ n fn.body ⟨padTo fn.ntmps (first ++ args ++ cap), m.heap, m.loops⟩ with
            | some (.normal, s) | some (.ret, s) => (evRes s.T s.heap fn.results).map fun l => (oneRes l, s.mem)
            | _ => none
          else none
        | none => none
    | .yield k =>
      match m.loops[k]? with
      | some (some r) => if r.ready && decide (args.length = r.params.length) then
          match evC Γ n r.assign ⟨setAll r.tmps r.params args, m.heap, m.loops⟩ with
          | some (.normal, s₁) =>
            match s₁.loops[k]? with
            | some (some r₁) => if r₁.ready then
                match evC Γ n r.body ⟨s₁.T, s₁.heap, setLoop s₁.loops k (some { r₁ with ready := false })⟩ with
                | some (e, s₂) => match s₂.loops[k]? with
                  | some (some r₂) => match e with
                    | .normal => some (.bool true, ⟨s₂.heap, setLoop s₂.loops k (some { r₂ with ready := true, pending := none })⟩)
                    | e => some (.bool false, ⟨s₂.heap, setLoop s₂.loops k (some { r₂ with ready := false, pending := some e })⟩)
                  | _ => none
                | none => none
              else none
            | _ => none
          | _ => none
        else none
      | _ => none
    | _ => none
end

end Go.Zz
