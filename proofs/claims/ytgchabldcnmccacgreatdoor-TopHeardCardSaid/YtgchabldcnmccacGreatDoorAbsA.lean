import Derived.RangeFuncIn
import Derived.ArgAppend
import Derived.Deep.MidRow
import Derived.Laws.StructEq
import Derived.ChangeKeysEq
import Derived.Laws.MakeOwn
import Derived.Laws.Slices
import Derived.Laws.Tables

namespace Go.Zz
inductive AV where
 | int (k : IntKind) (n : Int)
 | bool (b : Bool)
 | agg (l : List AV)
 | tuple (l : List AV)
 | snil
 | sval (full : Bool) (len : Nat) (l : List AV)
 | sref (id g off sz len : Nat) (cap : Option Nat)
 | pnil
 | pref (id g off : Nat)
 | pval (l : List AV)
 | func (f : Nat) (first captured : List AV)
 | yield (k : Nat)
 | nilFunc
 | mnil
 | mref (k : Nat)
 | str (s : ByteArray)
 | inil
 | ifc (t : Nat) (v : AV)
 deriving Inhabited
inductive KK where
 | int (k : IntKind)
 | str
 | agg (ks : List IntKind)
 deriving Inhabited, DecidableEq
def okInts : List IntKind → List AV → Bool
 | [], [] => true
 | k :: ks, .int k' _ :: l => decide (k' = k) && okInts ks l
 | _, _ => false
def eqInts : List AV → List AV → Bool
 | .int _ a :: l, .int _ b :: r => (a == b) && eqInts l r
 | [], [] => true
 | _, _ => false
def KK.of : KK → AV → Bool
 | .int k, .int k' _ => decide (k' = k)
 | .str, .str _ => true
 | .agg ks, .agg l => okInts ks l
 | _, _ => false
def keyEq : AV → AV → Bool
 | .int _ n, .int _ m => decide (n = m)
 | .str a, .str b => decide (a = b)
 | .agg a, .agg b => eqInts a b
 | _, _ => false
inductive SOp where
 | len
 | index
 | slice (lo hi : Bool)
 | eql (neg : Bool)
 deriving Inhabited, DecidableEq
abbrev und : AV := .tuple []
def gt : List AV → Nat → AV
 | [], _ => und
 | x :: _, 0 => x
 | _ :: l, n + 1 => gt l n
def pt : List AV → Nat → AV → List AV
 | [], _, _ => []
 | _ :: l, 0, v => v :: l
 | x :: l, n + 1, v => x :: pt l n v
inductive Opd where
 | tmp (t : Nat)
 | con (v : AV)
 deriving Inhabited
def Opd.ev (T : List AV) : Opd → AV
 | .tmp t => gt T t
 | .con v => v
structure Blk where
 gen : Nat
 cells : List AV
 deriving Inhabited
abbrev Hp := List (Option Blk)
inductive IOp where
 | move (x : Opd)
 | pick (c a b : Opd)
 | alloc (zero : List AV)
 | box (x : Opd)
 | build (zero : List AV) (parts : List (Nat × Nat × Opd))
 | buildSlice (len sz : Nat) (zero : List AV) (parts : List (Nat × Nat × Opd))
 | load (agg : Bool) (size : Nat) (x : Opd)
 | store (size : Nat) (a x : Opd)
 | nilCheck (x : Opd)
 | bin (op : BinOp) (x y : Opd)
 | beq (neg : Bool) (x y : Opd)
 | aggEq (neg : Bool) (sg : List Bool) (x y : Opd)
 | nilEq (k : Nat) (neg : Bool) (x y : Opd)
 | un (op : UnOp) (x : Opd)
 | conv (k : IntKind) (x : Opd)
 | makeFunc (f : Nat) (first captured : List Opd)
 | makeSlice (sz bytes : Nat) (zero : List AV) (l c : Opd)
 | slice (sz : Nat) (x : Opd) (lo hi mx : Option Opd)
 | sliceArr (n sz : Nat) (x : Opd) (lo hi mx : Option Opd)
 | fieldAddr (off : Nat) (x : Opd)
 | field (agg : Bool) (off size : Nat) (x : Opd)
 | indexAddr (sz : Nat) (x i : Opd)
 | indexAddrArr (n sz : Nat) (x i : Opd)
 | index (n : Nat) (agg : Bool) (sz : Nat) (x i : Opd)
 | extract (x : Opd) (i : Nat)
 | lenS (x : Opd)
 | lenC (n : Nat)
 | capS (x : Opd)
 | minmax (mx : Bool) (xs : List Opd)
 | append (sz bytes : Nat) (s x : Opd)
 | appendZ (sz bytes : Nat) (zero : List AV) (s n : Opd)
 | copy (sz : Nat) (d x : Opd)
 | clear (sz : Nat) (zero : List AV) (x : Opd)
 | makeMap
 | mapSet (kd : KK) (x k v : Opd)
 | mapGet (kd : KK) (ok : Bool) (zero : AV) (x k : Opd)
 | lenM (x : Opd)
 | strOp (k : SOp) (xs : List Opd)
 | mkIf (t : Nat) (x : Opd)
 | ifNil (neg : Bool) (x : Opd)
 | call (f : Opd) (args : List Opd)
 deriving Inhabited
structure IOper where
 guard : Option (Nat × Bool)
 dst : Option Nat
 op : IOp
 deriving Inhabited
structure DOper where
 o : IOper
 ms : List Nat
 deriving Inhabited
inductive IR where
 | skip
 | region (ops : List IOper)
 | draw (ops : List DOper)
 | seq (a b : IR)
 | cond (c : Opd) (a b : IR)
 | block (id : Nat) (b : IR)
 | loop (b : IR)
 | rangeFunc (f : Opd) (params : List Nat) (assign body : IR)
 | exit (id : Nat)
 | ret
 deriving Inhabited
inductive Ex where
 | normal
 | exit (id : Nat)
 | ret
 deriving Inhabited, DecidableEq
structure ALoop where
 ready : Bool
 pending : Option Ex
 tmps : List AV
 params : List Nat
 assign : IR
 body : IR
structure Mem where
 heap : Hp
 loops : List (Option ALoop)
structure St where
 T : List AV
 heap : Hp
 loops : List (Option ALoop)
def mapObj (es : List AV) : ALoop := ⟨false, some .normal, es, [], .skip, .skip⟩
def isMap (r : ALoop) : Bool := match r.ready, r.pending with | false, some .normal => true | _, _ => false
def mkeys (kd : KK) : List AV → Bool
 | [] => true
 | a :: _ :: r => kd.of a && mkeys kd r
 | _ => false
def mfind (n : AV) : List AV → Option AV
 | m :: v :: r => if keyEq n m then some v else mfind n r
 | _ => none
def mput (n : AV) (v : AV) : List AV → List AV
 | m :: w :: r => if keyEq n m then m :: v :: r else m :: w :: mput n v r
 | _ => [n, v]
def St.mem (s : St) : Mem := ⟨s.heap, s.loops⟩
def St.put (s : St) (d : Option Nat) (v : AV) (m : Mem) : St :=
 ⟨match d with | some d => pt s.T d v | none => s.T, m.heap, m.loops⟩
def look (H : Hp) (id g : Nat) : Option (List AV) :=
 match H[id]? with
 | some (some b) => if b.gen = g then some b.cells else none
 | _ => none
def AV.cells : AV → Option (List AV)
 | .agg l => some l
 | .tuple _ => none
 | v => some [v]
def cut (l : List AV) (off n : Nat) : Option (List AV) :=
 if off + n ≤ l.length then some ((l.drop off).take n) else none
def over (l : List AV) (off : Nat) (xs : List AV) : Option (List AV) :=
 if off + xs.length ≤ l.length then some (l.take off ++ xs ++ l.drop (off + xs.length)) else none
def fillP (T : List AV) : List AV → List (Nat × Nat × Opd) → Option (List AV)
 | cs, [] => some cs
 | cs, (off, size, x) :: r => do
  let c ← (x.ev T).cells
  if c.length = size then
   let cs' ← over cs off c
   fillP T cs' r
  else none
def loadCs (agg : Bool) (size : Nat) (l : List AV) (off : Nat) : Option AV :=
 if agg then (cut l off size).map .agg else l[off]?
def loadAV (H : Hp) (agg : Bool) (size : Nat) : AV → Option AV
 | .pref id g off => (look H id g).bind fun l => loadCs agg size l off
 | .pval l => loadCs agg size l 0
 | _ => none
def capAV : AV → Option AV
 | .snil => some (.int .i64 0)
 | .sval true n _ => some (.int .i64 n)
 | .sref _ _ _ _ _ (some c) => some (.int .i64 c)
 | _ => none
def setBlk (H : Hp) (id g : Nat) (cs : List AV) : Hp := H.set id (some ⟨g, cs⟩)
def storeAt (H : Hp) (id g off : Nat) (xs : List AV) : Option Hp := do
 let l ← look H id g
 let l' ← over l off xs
 some (setBlk H id g l')
def newBlk (m : Mem) (cs : List AV) : Mem := ⟨m.heap ++ [some ⟨0, cs⟩], m.loops⟩
def scells (H : Hp) (sz : Nat) : AV → Option (List AV)
 | .snil => some []
 | .sval _ n l => if l.length = n * sz then some l else none
 | .sref id g off sz' n _ => if sz' = sz then (look H id g).bind fun l => cut l off (n * sz) else none
 | _ => none
def slen : AV → Option Nat
 | .snil => some 0
 | .sval _ n _ => some n
 | .sref _ _ _ _ n _ => some n
 | _ => none
def bnd (v : AV) (y : Nat) : Option Nat :=
 match v with
 | .int _ i => if 0 ≤ i ∧ i ≤ (y : Int) then some i.toNat else none
 | _ => none
def bndO (v : Option AV) (y d : Nat) : Option Nat :=
 match v with
 | some v => bnd v y
 | none => some d
def bnds (len : Nat) (cap : Option Nat) (lo hi mx : Option AV) : Option (Nat × Nat × Option Nat) :=
 match mx with
 | none => match bndO hi (cap.getD len) len with
  | some h => match bndO lo h 0 with
   | some l => some (l, h, cap)
   | none => none
  | none => none
 | some v => match bnd v (cap.getD len), hi with
  | some m, some hv => match bnd hv m with
   | some h => match bndO lo h 0 with
    | some l => some (l, h, some m)
    | none => none
   | none => none
  | _, _ => none
def binInt (op : BinOp) (k : IntKind) (a b : Int) : Option AV :=
 match op with
 | .add => some (.int k (k.wrap (a + b)))
 | .sub => some (.int k (k.wrap (a - b)))
 | .mul => some (.int k (k.wrap (a * b)))
 | .quo => if b = 0 then none else some (.int k (k.wrap (a.tdiv b)))
 | .rem => if b = 0 then none else some (.int k (a.tmod b))
 | .and => some (.int k (k.wrap (BitVec.ofInt k.bits a &&& BitVec.ofInt k.bits b).toNat))
 | .or => some (.int k (k.wrap (BitVec.ofInt k.bits a ||| BitVec.ofInt k.bits b).toNat))
 | .xor => some (.int k (k.wrap (BitVec.ofInt k.bits a ^^^ BitVec.ofInt k.bits b).toNat))
 | .andNot => some (.int k (k.wrap (BitVec.ofInt k.bits a &&& ~~~ BitVec.ofInt k.bits b).toNat))
 | .eql => some (.bool (a == b))
 | .neq => some (.bool (a != b))
 | .lss => some (.bool (a < b))
 | .leq => some (.bool (a ≤ b))
 | .gtr => some (.bool (a > b))
 | .geq => some (.bool (a ≥ b))
 | .shl => if b < 0 then none else some (.int k (k.wrap (a * 2 ^ (min b.toNat k.bits))))
 | .shr => if b < 0 then none else some (.int k (a.fdiv (2 ^ (min b.toNat k.bits))))
def isShift : BinOp → Bool
 | .shl | .shr => true
 | _ => false
def binAV (op : BinOp) (x y : AV) : Option AV :=
 match x, y with
 | .int k a, .int k' b => if isShift op || k = k' then binInt op k a b else none
 | _, _ => none
def cellEq (k : Bool) : AV → AV → Option Bool
 | .int k1 a, .int k2 b => if k = true ∧ k1 = k2 then some (a == b) else none
 | .bool a, .bool b => if k = false then some (a == b) else none
 | _, _ => none
def cellsEq : List Bool → List AV → List AV → Option Bool
 | [], [], [] => some true
 | k :: s, x :: l, y :: r => match cellEq k x y with
  | some c => (cellsEq s l r).map fun q => c && q
  | none => none
 | _, _, _ => none
def nilEqAV (k : Nat) (x y : AV) : Option Bool :=
 match k, x, y with
 | 0, .snil, .snil => some true
 | 0, .snil, .sval _ _ _ | 0, .snil, .sref .. | 0, .sval _ _ _, .snil | 0, .sref .., .snil => some false
 | 1, .pnil, .pnil => some true
 | 1, .pnil, .pref .. | 1, .pnil, .pval _ | 1, .pref .., .pnil | 1, .pval _, .pnil => some false
 | 2, .nilFunc, .nilFunc => some true
 | 2, .nilFunc, .func .. | 2, .nilFunc, .yield _ | 2, .func .., .nilFunc | 2, .yield _, .nilFunc => some false
 | _, _, _ => none
def isNilAV : AV → Option Bool
 | .inil => some true
 | .ifc _ _ => some false
 | _ => none
def unAV (op : UnOp) (x : AV) : Option AV :=
 match op, x with
 | .neg, .int k n => some (.int k (k.wrap (0 - n)))
 | .xor, .int k n => some (.int k (k.wrap (BitVec.ofInt k.bits (if k.signed then -1 else k.max) ^^^ BitVec.ofInt k.bits n).toNat))
 | .not, .bool b => some (.bool !b)
 | _, _ => none
def kcap (H : Hp) (sz id g off n : Nat) : Nat :=
 match look H id g with
 | some l => max n ((l.length - off) / sz)
 | none => n
def sliceAV (H : Hp) (sz : Nat) (x : AV) (lo hi mx : Option AV) : Option AV :=
  match x with
  | .snil => (bnds 0 (some 0) lo hi mx).map fun _ => .snil
  | .sval full n l => if l.length = n * sz then
      (bnds n (if full then some n else none) lo hi mx).map fun (a, b, m) =>
        .sval (match m with | some c => c == b | none => false) (b - a) ((l.drop (a * sz)).take ((b - a) * sz))
    else none
  | .sref id g off sz' n cap => if sz' = sz then
      (bnds (if cap.isNone && hi.isSome then kcap H sz id g off n else n) cap lo hi mx).bind fun (a, b, m) =>
        match m with
        | some c => some (.sref id g (if c = a then off else off + a * sz) sz (b - a) (some (c - a)))
        | none => if a = 0 then some (.sref id g off sz b none)
                  else if b - a = 0 then some (.sval false 0 [])
                  else some (.sref id g (off + a * sz) sz (b - a) none)
    else none
  | _ => none
def sliceArrAV (H : Hp) (n sz : Nat) (x : AV) (lo hi mx : Option AV) : Option AV :=
 match x with
 | .pref id g off => (look H id g).bind fun l => if off + n * sz ≤ l.length then
   (bnds n (some n) lo hi mx).bind fun (a, b, m) =>
    match m with
    | some c => some (.sref id g (if c = a then off else off + a * sz) sz (b - a) (some (c - a)))
    | none => none
  else none
 | .pval l => if n * sz ≤ l.length then (bnds n (some n) lo hi mx).bind fun (a, b, m) =>
   match m with
   | some c => some (.sval (c == b) (b - a) ((l.drop (a * sz)).take ((b - a) * sz)))
   | none => none
  else none
 | _ => none
def idx (v : AV) (n : Nat) : Option Nat :=
 match v with
 | .int _ i => if 0 ≤ i ∧ i < (n : Int) then some i.toNat else none
 | _ => none
def ptrAdd (off : Nat) : AV → Option AV
 | .pref id g o => some (.pref id g (o + off))
 | .pval l => some (.pval (l.drop off))
 | _ => none
def indexAddrAV (sz : Nat) (x i : AV) : Option AV :=
 match x with
 | .sval _ n l => (idx i n).map fun j => .pval (l.drop (j * sz))
 | .sref id g off sz' n _ => if sz' = sz then (idx i n).map fun j => .pref id g (off + j * sz) else none
 | _ => none
def mmGo (mx : Bool) (k : IntKind) : Int → List AV → Option AV
 | a, [] => some (.int k a)
 | a, .int k' b :: r => if k = k' then mmGo mx k (if mx then (if b > a then b else a) else (if b < a then b else a)) r else none
 | _, _ => none
def minmaxAV (mx : Bool) : List AV → Option AV
 | .int k a :: r => mmGo mx k a r
 | _ => none
def appendAV (sz bytes : Nat) (m : Mem) (s x : AV) : Option (AV × Mem) := do
 let xs ← scells m.heap sz x
 let n ← slen x
 match s with
 | .snil =>
  if n = 0 then some (.snil, m)
  else if n * bytes ≤ 140737488355328 ∧ n ≤ 140737488355328 then some (.sref m.heap.length 0 0 sz n none, newBlk m xs) else none
 | .sval full len l =>
  if n = 0 then some (s, m)
  else if full ∧ l.length = len * sz ∧ (len + n) * bytes ≤ 140737488355328 ∧ len + n ≤ 140737488355328 then
   some (.sref m.heap.length 0 0 sz (len + n) none, newBlk m (l ++ xs)) else none
 | .sref id g off sz' len cap =>
  if sz' = sz then do
   let l ← look m.heap id g
   let old ← cut l off (len * sz)
   match cap with
   | some c =>
    if len + n ≤ c then do
     let H ← storeAt m.heap id g (off + len * sz) xs
     some (.sref id g off sz (len + n) cap, ⟨H, m.loops⟩)
    else if (len + n) * bytes ≤ 140737488355328 ∧ len + n ≤ 140737488355328 then
     some (.sref m.heap.length 0 0 sz (len + n) none, newBlk m (old ++ xs))
    else none
   | none =>
    if off + (len + n) * sz ≤ l.length then do
     let H ← storeAt m.heap id g (off + len * sz) xs
     some (.sref id g off sz (len + n) none, ⟨H, m.loops⟩)
    else if (len + n) * bytes ≤ 140737488355328 ∧ len + n ≤ 140737488355328 then
     some (.sref id (g + 1) 0 sz (len + n) none, ⟨setBlk m.heap id (g + 1) (old ++ xs), m.loops⟩)
    else none
  else none
 | _ => none
def copyAV (sz : Nat) (m : Mem) (d x : AV) : Option (AV × Mem) := do
 let xs ← scells m.heap sz x
 let n ← slen x
 match d with
 | .snil => some (.int .i64 0, m)
 | .sref id g off sz' len _ => if sz' = sz then do
   let H ← storeAt m.heap id g off (xs.take (Nat.min n len * sz))
   some (.int .i64 (Nat.min n len), ⟨H, m.loops⟩) else none
 | _ => none
def zeros (zero : List AV) : Nat → List AV
 | 0 => []
 | n + 1 => zero ++ zeros zero n
def appendZAV (sz bytes : Nat) (zero : List AV) (m : Mem) (s n : AV) : Option (AV × Mem) :=
 match s, n with
 | .snil, .int _ k => if 0 < k ∧ k * bytes ≤ 70368744177664 ∧ k ≤ 70368744177664 then some (.sref m.heap.length 0 0 sz k.toNat none, newBlk m (zeros zero k.toNat)) else none
 | _, _ => none
def clearAV (zero : List AV) (m : Mem) (x : AV) : Option Mem :=
 match x with
 | .snil => some m
 | .sval _ 0 _ => some m
 | .sref id g off _ n _ => if n = 0 then some m else (storeAt m.heap id g off (zeros zero n)).map fun H => ⟨H, m.loops⟩
 | _ => none
def nilCheckAV : AV → Option AV
 | .pref id g o => some (.pref id g o)
 | .pval l => some (.pval l)
 | .func f a c => some (.func f a c)
 | .yield k => some (.yield k)
 | _ => none
def strSl (s : ByteArray) (lo hi : Option AV) : Option AV :=
 (bnds s.size (some s.size) lo hi none).map fun r => .str (s.extract r.1 r.2.1)
def strAV : SOp → List AV → Option AV
 | .len, [.str s] => some (.int .i64 s.size)
 | .index, [.str s, i] => (idx i s.size).bind fun j => (s[j]?).map fun b => .int .u8 b.toNat
 | .slice false false, [.str s] => strSl s none none
 | .slice true false, [.str s, l] => strSl s (some l) none
 | .slice false true, [.str s, h] => strSl s none (some h)
 | .slice true true, [.str s, l, h] => strSl s (some l) (some h)
 | .eql neg, [.str a, .str b] => some (.bool (if neg then !(a.toList == b.toList) else a.toList == b.toList))
 | _, _ => none
def evOp (call : AV → List AV → Mem → Option (AV × Mem)) (T : List AV) (m : Mem) : IOp → Option (AV × Mem)
 | .move x => some (x.ev T, m)
 | .pick c a b => match c.ev T with | .bool t => some (if t then a.ev T else b.ev T, m) | _ => none
 | .alloc zero => some (.pref m.heap.length 0 0, newBlk m zero)
 | .box x => (x.ev T).cells.map fun c => (.pref m.heap.length 0 0, newBlk m c)
 | .build zero parts => (fillP T zero parts).map fun c => (.agg c, m)
 | .buildSlice len sz zero parts =>
  (fillP T (zeros zero len) parts).map fun c => (.sref m.heap.length 0 0 sz len (some len), newBlk m c)
 | .load agg size x => (loadAV m.heap agg size (x.ev T)).map fun v => (v, m)
 | .store size a x => match a.ev T with
  | .pref id g off => (x.ev T).cells.bind fun c => if c.length = size then (storeAt m.heap id g off c).map fun H => (und, ⟨H, m.loops⟩) else none
  | _ => none
 | .nilCheck x => (nilCheckAV (x.ev T)).map fun v => (v, m)
 | .bin op x y => (binAV op (x.ev T) (y.ev T)).map fun v => (v, m)
 | .beq neg x y => match x.ev T, y.ev T with
  | .bool a, .bool b => some (.bool (if neg then !(a == b) else a == b), m)
  | _, _ => none
 | .aggEq neg sg x y => match x.ev T, y.ev T with
  | .agg a, .agg b => (cellsEq sg a b).map fun r => (.bool (if neg then !r else r), m)
  | _, _ => none
 | .strOp k xs => (strAV k (xs.map (·.ev T))).map fun v => (v, m)
 | .mkIf t x => some (.ifc t (x.ev T), m)
 | .ifNil neg x => (isNilAV (x.ev T)).map fun r => (.bool (if neg then !r else r), m)
 | .nilEq k neg x y => (nilEqAV k (x.ev T) (y.ev T)).map fun r => (.bool (if neg then !r else r), m)
 | .un op x => (unAV op (x.ev T)).map fun v => (v, m)
 | .conv k x => match x.ev T with | .int _ n => some (.int k (k.wrap n), m) | _ => none
 | .makeFunc f first cap => some (.func f (first.map (·.ev T)) (cap.map (·.ev T)), m)
 | .makeSlice sz bytes zero l c => match l.ev T, c.ev T with
  | .int _ a, .int _ b => if 0 ≤ a ∧ a ≤ b ∧ b * bytes ≤ 70368744177664 ∧ b ≤ 70368744177664 then
    some (.sref m.heap.length 0 0 sz a.toNat (some b.toNat), newBlk m (zeros zero b.toNat)) else none
  | _, _ => none
 | .slice sz x lo hi mx => (sliceAV m.heap sz (x.ev T) (lo.map (·.ev T)) (hi.map (·.ev T)) (mx.map (·.ev T))).map fun v => (v, m)
 | .sliceArr n sz x lo hi mx => (sliceArrAV m.heap n sz (x.ev T) (lo.map (·.ev T)) (hi.map (·.ev T)) (mx.map (·.ev T))).map fun v => (v, m)
 | .fieldAddr off x => (ptrAdd off (x.ev T)).map fun v => (v, m)
 | .field agg off size x => match x.ev T with
  | .agg l => (loadCs agg size l off).map fun v => (v, m)
  | _ => none
 | .indexAddr sz x i => (indexAddrAV sz (x.ev T) (i.ev T)).map fun v => (v, m)
 | .indexAddrArr n sz x i => (idx (i.ev T) n).bind fun j => (ptrAdd (j * sz) (x.ev T)).map fun v => (v, m)
 | .index n agg sz x i => match x.ev T with
  | .agg l => (idx (i.ev T) n).bind fun j => (loadCs agg sz l (j * sz)).map fun v => (v, m)
  | _ => none
 | .extract x i => match x.ev T with
  | .tuple l => l[i]?.map fun v => (v, m)
  | _ => none
 | .lenS x => (slen (x.ev T)).map fun n => (.int .i64 n, m)
 | .lenC n => some (.int .i64 n, m)
 | .capS x => (capAV (x.ev T)).map fun v => (v, m)
 | .minmax mx xs => (minmaxAV mx (xs.map (·.ev T))).map fun v => (v, m)
 | .append sz bytes s x => appendAV sz bytes m (s.ev T) (x.ev T)
 | .appendZ sz bytes zero s n => appendZAV sz bytes zero m (s.ev T) (n.ev T)
 | .copy sz d x => copyAV sz m (d.ev T) (x.ev T)
 | .clear _ zero x => (clearAV zero m (x.ev T)).map fun m' => (und, m')
 | .makeMap => some (.mref m.loops.length, ⟨m.heap, m.loops ++ [some (mapObj [])]⟩)
 | .mapSet kd x k v => match x.ev T with
  | .mref i => match m.loops[i]? with
   | some (some r) => if isMap r = true ∧ kd.of (k.ev T) = true ∧ mkeys kd r.tmps = true then some (und, ⟨m.heap, m.loops.set i (some (mapObj (mput (k.ev T) (v.ev T) r.tmps)))⟩) else none
   | _ => none
  | _ => none
 | .mapGet kd ok zero x k => match x.ev T with
  | .mref i => match m.loops[i]? with
   | some (some r) => if isMap r = true ∧ kd.of (k.ev T) = true ∧ mkeys kd r.tmps = true then some (if ok then .tuple [(mfind (k.ev T) r.tmps).getD zero, .bool (mfind (k.ev T) r.tmps).isSome] else (mfind (k.ev T) r.tmps).getD zero, m) else none
   | _ => none
  | _ => none
 | .lenM x => match x.ev T with
  | .mref i => match m.loops[i]? with
   | some (some r) => if isMap r = true then some (.int .i64 (r.tmps.length / 2 : Nat), m) else none
   | _ => none
  | _ => none
 | .call f args => call (f.ev T) (args.map (·.ev T)) m
def wantedI (T : List AV) : Option (Nat × Bool) → Bool
 | none => true
 | some (t, want) => match gt T t with | .bool b => b == want | _ => false
def evOps (call : AV → List AV → Mem → Option (AV × Mem)) : List IOper → St → Option St
 | [], s => some s
 | o :: r, s =>
  if wantedI s.T o.guard then
   match evOp call s.T s.mem o.op with
   | some (v, m) => evOps call r (s.put o.dst v m)
   | none => none
  else evOps call r (s.put o.dst und s.mem)
def freeOp : IOp → Bool
 | .alloc _ | .box _ | .buildSlice .. | .load .. | .store .. | .makeSlice .. | .append .. | .appendZ .. | .copy .. | .clear .. | .call .. | .sliceArr .. | .slice .. | .makeMap | .mapSet .. | .mapGet .. | .lenM _ => false
 | _ => true
def readOp : IOp → Bool
 | .load .. | .sliceArr .. | .slice .. => true
 | _ => false
def blanks (H : Hp) : Hp := H.map fun _ => none
def onlyAt : Hp → Nat → Hp
 | [], _ => []
 | h :: H, 0 => h :: blanks H
 | _ :: H, n + 1 => none :: onlyAt H n
def limit (T : List AV) (op : IOp) (H : Hp) : Hp :=
 match op with
 | .load _ _ x | .store _ x _ | .sliceArr _ _ x _ _ _ => match x.ev T with
  | .pref id _ _ => onlyAt H id
  | _ => blanks H
 | .slice _ x _ hi _ => match hi with
  | none => blanks H
  | some _ => match x.ev T with
   | .sref id _ _ _ _ _ => onlyAt H id
   | _ => blanks H
 | .alloc _ | .box _ | .buildSlice .. | .makeSlice .. => blanks H
 | _ => H
def strikeV : Hp → Hp → Hp
 | [], _ => []
 | H, [] => H
 | _ :: H, some _ :: V => none :: strikeV H V
 | h :: H, none :: V => h :: strikeV H V
def strike (H : Hp) (a b : Nat) : Hp := if a < b then H.take a ++ List.replicate (b - a) none ++ H.drop b else H
def strikes (H : Hp) (seen : List (Hp × Nat × Nat)) : List Nat → Hp
 | [] => H
 | i :: r => match seen[i]? with
  | some (V, a, b) => strikes (strikeV (strike H a b) V) seen r
  | none => strikes H seen r
def back : Hp → Hp → Hp → Hp
 | [], _, H' => H'
 | h :: H, v :: V, h' :: H' => (match v with | some _ => h' | none => h) :: back H V H'
 | H, _, _ => H
def stillDead : Hp → Hp → Bool
 | [], _ => true
 | none :: V, none :: H' => stillDead V H'
 | some _ :: V, _ :: H' => stillDead V H'
 | _, _ => false
def evDraw (call : AV → List AV → Mem → Option (AV × Mem)) : List DOper → St → List (Hp × Nat × Nat) → Option St
 | [], s, _ => some s
 | d :: r, s, seen =>
  if wantedI s.T d.o.guard then
   if freeOp d.o.op then
    match evOp call s.T s.mem d.o.op with
    | some (v, m') => evDraw call r (s.put d.o.dst v m') (seen ++ [([], 0, 0)])
    | none => none
   else
    match evOp call s.T ⟨limit s.T d.o.op (strikes s.heap seen d.ms), s.loops⟩ d.o.op with
    | some (v, m') =>
     if stillDead (limit s.T d.o.op (strikes s.heap seen d.ms)) m'.heap then
      evDraw call r (s.put d.o.dst v ⟨back s.heap (limit s.T d.o.op (strikes s.heap seen d.ms)) m'.heap, m'.loops⟩) (seen ++ [(limit s.T d.o.op (strikes s.heap seen d.ms), s.heap.length, m'.heap.length)])
     else none
    | none => none
  else evDraw call r (s.put d.o.dst und s.mem) (seen ++ [([], 0, 0)])
inductive IRes where
 | tmp (t : Nat)
 | cell (t : Nat) (agg : Bool) (size : Nat)
structure IFunc where
 ntmps : Nat
 results : List IRes
 body : IR
structure Env where
 fn : Nat → Option IFunc
 spec : Nat → Option (List AV → Mem → Option (AV × Mem))
def evRes (T : List AV) (H : Hp) : List IRes → Option (List AV)
 | [] => some []
 | .tmp t :: r => (evRes T H r).map (gt T t :: ·)
 | .cell t agg size :: r => match gt T t with
  | .pref id g off => (look H id g).bind fun l => (loadCs agg size l off).bind fun v => (evRes T H r).map (v :: ·)
  | _ => none
def oneRes : List AV → AV
 | [v] => v
 | l => .tuple l
def padTo (n : Nat) : List AV → List AV
 | [] => List.replicate n und
 | x :: l => match n with
  | 0 => x :: l
  | n + 1 => x :: padTo n l
def setAll (T : List AV) : List Nat → List AV → List AV
 | p :: ps, v :: vs => setAll (pt T p v) ps vs
 | _, _ => T
def setLoop (L : List (Option ALoop)) (k : Nat) (x : Option ALoop) : List (Option ALoop) := L.set k x
mutual
def evC (Γ : Env) : Nat → IR → St → Option (Ex × St)
 | 0, _, _ => none
 | n + 1, c, s =>
  match c with
  | .skip => some (.normal, s)
  | .region ops => (evOps (fun f args m => evF Γ n f args m) ops s).map fun s => (.normal, s)
  | .draw ops => (evDraw (fun f args m => evF Γ n f args m) ops s []).map fun s => (.normal, s)
  | .seq a b => match evC Γ n a s with
   | some (.normal, s') => evC Γ n b s'
   | r => r
  | .cond c a b => match c.ev s.T with
   | .bool t => if t then evC Γ n a s else evC Γ n b s
   | _ => none
  | .block id b => match evC Γ n b s with
   | some (.exit id', s') => if id' = id then some (.normal, s') else some (.exit id', s')
   | r => r
  | .loop b => match evC Γ n b s with
   | some (.normal, s') => evC Γ n (.loop b) s'
   | r => r
  | .exit id => some (.exit id, s)
  | .ret => some (.ret, s)
  | .rangeFunc f ps assign body =>
   match (match f.ev s.T with
    | .func g a c => evF Γ n (.func g a c) [.yield s.loops.length] ⟨s.heap, s.loops ++ [some ⟨true, none, s.T, ps, assign, body⟩]⟩
    | _ => (none : Option (AV × Mem))) with
   | some ((_ : AV), (m : Mem)) => match m.loops[s.loops.length]? with
    | some (some r) => if isMap r then none else match r.pending with
     | none => if r.ready then some (.normal, ⟨s.T, m.heap, setLoop m.loops s.loops.length none⟩) else none
     | some e => some (e, ⟨s.T, m.heap, setLoop m.loops s.loops.length none⟩)
    | _ => none
   | none => none
def evF (Γ : Env) : Nat → AV → List AV → Mem → Option (AV × Mem)
 | 0, _, _, _ => none
 | n + 1, f, args, m =>
  match f with
  | .func f first cap =>
   match Γ.spec f with
   | some S => S (first ++ args ++ cap) m
   | none => match Γ.fn f with
    | some fn => if (first ++ args ++ cap).length ≤ fn.ntmps then
      match evC Γ n fn.body ⟨padTo fn.ntmps (first ++ args ++ cap), m.heap, m.loops⟩ with
      | some (.normal, s) | some (.ret, s) => (evRes s.T s.heap fn.results).map fun l => (oneRes l, s.mem)
      | _ => none
     else none
    | none => none
  | .yield k =>
   match m.loops[k]? with
   | some (some r) => if r.ready && decide (args.length = r.params.length) then
     match evC Γ n r.assign ⟨setAll r.tmps r.params args, m.heap, m.loops⟩ with
     | some (.normal, s₁) =>
      match s₁.loops[k]? with
      | some (some r₁) => if r₁.ready then
        match evC Γ n r.body ⟨s₁.T, s₁.heap, setLoop s₁.loops k (some { r₁ with ready := false })⟩ with
        | some (e, s₂) => match s₂.loops[k]? with
         | some (some r₂) => if isMap r₂ then none else match e with
          | .normal => some (.bool true, ⟨s₂.heap, setLoop s₂.loops k (some { r₂ with ready := true, pending := none })⟩)
          | e => some (.bool false, ⟨s₂.heap, setLoop s₂.loops k (some { r₂ with ready := false, pending := some e })⟩)
         | _ => none
        | none => none
       else none
      | _ => none
     | _ => none
    else none
   | _ => none
  | _ => none
end
class Globs where
 val : Nat → Option (List AV)
end Go.Zz


namespace Go.Zz
def cScalar : Value → Option AV
 | .int k n => some (.int k n)
 | .bool b => some (.bool b)
 | .pointer none => some .pnil
 | .slice none 0 0 => some .snil
 | .nilFunc => some .nilFunc
 | .map none => some .mnil
 | .string s => some (.str s)
 | .nilIface => some .inil
 | _ => none
def cCells : List Value → Option (List AV)
 | [] => some []
 | v :: r => match cScalar v, cCells r with
  | some a, some l => some (a :: l)
  | _, _ => none
def cVal : Value → Option AV
 | .agg cs => (cCells cs.toList).map .agg
 | v => cScalar v
def cOpd [Globs] : Operand → Option Opd
 | .tmp t => some (.tmp t)
 | .const v => (cVal v).map .con
 | .func f => some (.con (.func f [] []))
 | .global g => (Globs.val g).map fun l => .con (.pval l)
def cOpds [Globs] : List Operand → Option (List Opd)
 | [] => some []
 | x :: r => match cOpd x, cOpds r with
  | some a, some l => some (a :: l)
  | _, _ => none
def cOpdO [Globs] : Option Operand → Option (Option Opd)
 | none => some none
 | some x => (cOpd x).map some
section
variable (P : Program)
def szOf (t : TypeId) : Option Nat := (P.info? t).bind fun i => if 0 < i.size then some i.size else none
def aggOf (t : TypeId) : Option Bool := (P.underlying t).map fun | .struct _ | .array _ _ => true | _ => false
def zeroOf (t : TypeId) : Option (List AV) := (P.info? t).bind fun i => match i.zero with
 | some z => (cCells z.cells.toList).bind fun l => if l.length = i.size ∧ 0 < i.size then some l else none
 | none => none
def sigFs (g : TypeId → Option (List Bool)) : List Field → Nat → Option (List Bool)
 | [], _ => some []
 | f :: r, o => if f.name ≠ "_" ∧ f.offset = o then
   match g f.type with
   | some (x :: a) => match sigFs g r (o + (x :: a).length) with
    | some b => some (x :: a ++ b)
    | none => none
   | _ => none
  else none
def reps (l : List Bool) : Nat → List Bool
 | 0 => []
 | n + 1 => l ++ reps l n
def sigOf : (depth : Nat) → TypeId → Option (List Bool)
 | 0, _ => none
 | d + 1, t => match P.underlying t, P.info? t with
  | some .bool, some i => if i.size = 1 then some [false] else none
  | some (.int _), some i => if i.size = 1 then some [true] else none
  | some (.struct fs), some i => if P.stoodInHeld t then none else match sigFs (sigOf d) fs.toList 0 with
   | some sg => if sg.length = i.size then some sg else none
   | none => none
  | some (.array n e), some i => match sigOf d e with
   | some (x :: se) => if n * (x :: se).length = i.size then some (reps (x :: se) n) else none
   | _ => none
  | _, _ => none
def eqDepth : Nat := 20
def keyTy : Nat → TypeId → Bool
 | 0, _ => false
 | d + 1, t => match P.underlying t with
  | some (.int _) | some .bool => true
  | some (.struct fs) => fs.toList.all fun f => keyTy d f.type
  | _ => false
def kindsOf : List AV → Option (List IntKind)
 | [] => some []
 | .int k _ :: l => (kindsOf l).map (k :: ·)
 | _ => none
def aggKind (t : TypeId) : Option (List IntKind) := match P.underlying t, sigOf P eqDepth t, zeroOf P t with
 | some (.struct _), some sg, some z => (kindsOf z).bind fun ks => if sg = ks.map (fun _ => true) ∧ keyTy P eqDepth t = true then some ks else none
 | _, _, _ => none
def keyKind (t : TypeId) : Option KK := match P.underlying t with
 | some (.int k) => some (.int k)
 | some .string => some .str
 | some (.struct _) => (aggKind P t).map .agg
 | _ => none
def cParts [Globs] (place : Nat → Option (Nat × Nat)) : List (Nat × Operand) → Option (List (Nat × Nat × Opd))
 | [] => some []
 | (i, x) :: r => match place i, cOpd x, cParts place r with
  | some (o, s), some a, some l => some ((o, s, a) :: l)
  | _, _, _ => none
def zeroVal (t : TypeId) : Option AV := (P.info? t).bind fun i => i.zero.bind cVal
def cBuiltin [Globs] (b : Builtin) (tys : List TypeId) (args : List Operand) : Option IOp :=
 match b, tys, args with
 | .len, [t], [x] => match P.underlying t with
  | some (.slice _) => (cOpd x).map .lenS
  | some (.array n _) => some (.lenC n)
  | some (.map _ _) => (cOpd x).map .lenM
  | some .string => (cOpd x).map fun x => .strOp .len [x]
  | _ => none
 | .cap, [t], [x] => match P.underlying t with
  | some (.slice _) => (cOpd x).map .capS
  | _ => none
 | .min, _, args => (cOpds args).map (.minmax false)
 | .max, _, args => (cOpds args).map (.minmax true)
 | .append, [t, u], [s, x] => match P.underlying t with
  | some (.slice e) => match szOf P e, P.info? e, zeroOf P e, cOpd s, cOpd x with
   | some sz, some i, some z, some s, some x => if t = u then some (.append sz i.bytes s x) else match P.underlying u with
    | some (.int _) => some (.appendZ sz i.bytes z s x)
    | _ => none
   | _, _, _, _, _ => none
  | _ => none
 | .copy, [t, u], [d, x] => match P.underlying t, P.underlying u with
  | some (.slice e), some (.slice _) => match szOf P e, cOpd d, cOpd x with
   | some sz, some d, some x => some (.copy sz d x)
   | _, _, _ => none
  | _, _ => none
 | .clear, [t], [x] => match P.underlying t with
  | some (.slice e) => match szOf P e, zeroOf P e, cOpd x with
   | some sz, some z, some x => some (.clear sz z x)
   | _, _, _ => none
  | _ => none
 | _, _, _ => none
def cOp [Globs] (op : Op) : Option IOp :=
 match op with
 | .move x | .assign x => (cOpd x).map .move
 | .pick c a b => match cOpd c, cOpd a, cOpd b with
  | some c, some a, some b => some (.pick c a b)
  | _, _, _ => none
 | .alloc e => (zeroOf P e).map .alloc
 | .box _ x => (cOpd x).map .box
 | .build t parts => match zeroOf P t, P.underlying t with
  | some z, some (.struct fs) => (cParts (fun i => (fs[i]?).bind fun f => (szOf P f.type).map fun s => (f.offset, s)) parts.toList).bind fun ps =>
    if fs.toList.all (fun f => (P.info? f.type).isSome) then some (.build z ps) else none
  | some z, some (.array _ e) => match szOf P e with
   | some s => (cParts (fun i => some (i * s, s)) parts.toList).map fun ps => .build z ps
   | none => none
  | _, _ => none
 | .buildSlice t len parts => match P.underlying t with
  | some (.slice e) => match szOf P e, zeroOf P e with
   | some s, some z => if len * s ≤ 2 ^ 24 then (cParts (fun i => some (i * s, s)) parts.toList).map fun ps => .buildSlice len s z ps else none
   | _, _ => none
  | _ => none
 | .load t a => match aggOf P t, szOf P t, cOpd a with
  | some g, some s, some a => some (.load g s a)
  | _, _, _ => none
 | .store t a x => match szOf P t, cOpd a, cOpd x with
  | some s, some a, some x => some (.store s a x)
  | _, _, _ => none
 | .nilCheck x => (cOpd x).map .nilCheck
 | .binOp op t x y _ => match cOpd x, cOpd y, P.underlying t with
  | some x, some y, some (.int _) => some (.bin op x y)
  | some x, some y, some .bool => match op with
   | .eql => some (.beq false x y)
   | .neq => some (.beq true x y)
   | _ => none
  | some x, some y, some .string => match op with
   | .eql => some (.strOp (.eql false) [x, y])
   | .neq => some (.strOp (.eql true) [x, y])
   | _ => none
  | some x, some y, some (.struct _) | some x, some y, some (.array _ _) => match op, sigOf P eqDepth t with
   | .eql, some sg => if P.eqGuardType P.depth t then none else some (.aggEq false sg x y)
   | .neq, some sg => if P.eqGuardType P.depth t then none else some (.aggEq true sg x y)
   | _, _ => none
  | some x, some y, some (.slice _) => match op with
   | .eql => some (.nilEq 0 false x y)
   | .neq => some (.nilEq 0 true x y)
   | _ => none
  | some x, some y, some (.pointer _) => match op with
   | .eql => some (.nilEq 1 false x y)
   | .neq => some (.nilEq 1 true x y)
   | _ => none
  | some x, some y, some (.func ..) => match op with
   | .eql => some (.nilEq 2 false x y)
   | .neq => some (.nilEq 2 true x y)
   | _ => none
  | some x, some _, some (.interface _) => match op, y with
   | .eql, .const .nilIface => some (.ifNil false x)
   | .neq, .const .nilIface => some (.ifNil true x)
   | _, _ => none
  | _, _, _ => none
 | .unOp op _ x => (cOpd x).map (.un op)
 | .makeInterface t x => match P.underlying t with
  | some (.interface _) => none
  | some _ => (cOpd x).map (.mkIf t)
  | none => none
 | .convert s t x => match P.underlying s, P.underlying t, cOpd x with
  | some (.int _), some (.int k), some x => some (.conv k x)
  | _, _, _ => none
 | .makeFunc (.func f) first cap => match cOpds first.toList, cOpds cap.toList with
  | some a, some b => some (.makeFunc f a b)
  | _, _ => none
 | .makeSlice t l c => match P.underlying t with
  | some (.slice e) => match szOf P e, P.info? e, zeroOf P e, cOpd l, cOpd c with
   | some s, some i, some z, some l, some c => some (.makeSlice s i.bytes z l c)
   | _, _, _, _, _ => none
  | _ => none
 | .slice t x lo hi mx => match P.underlying t, cOpd x, cOpdO lo, cOpdO hi, cOpdO mx with
  | some (.slice e), some x, some lo, some hi, some mx => (szOf P e).map fun s => .slice s x lo hi mx
  | some (.array n e), some x, some lo, some hi, some mx => (szOf P e).map fun s => .sliceArr n s x lo hi mx
  | some .string, some x, some lo, some hi, some none => some (.strOp (.slice lo.isSome hi.isSome) (x :: lo.toList ++ hi.toList))
  | _, _, _, _, _ => none
 | .fieldAddr t x f => match P.underlying t with
  | some (.struct fs) => (fs[f]?).bind fun fl => match szOf P fl.type, cOpd x with
   | some _, some x => some (.fieldAddr fl.offset x)
   | _, _ => none
  | _ => none
 | .field t x f => match P.underlying t with
  | some (.struct fs) => (fs[f]?).bind fun fl => match aggOf P fl.type, szOf P fl.type, cOpd x with
   | some g, some s, some x => some (.field g fl.offset s x)
   | _, _, _ => none
  | _ => none
 | .indexAddr t x i => match P.underlying t, cOpd x, cOpd i with
  | some (.slice e), some x, some i => (szOf P e).map fun s => .indexAddr s x i
  | some (.array n e), some x, some i => (szOf P e).map fun s => .indexAddrArr n s x i
  | _, _, _ => none
 | .index t x i => match P.underlying t, cOpd x, cOpd i with
  | some (.array n e), some x, some i => match aggOf P e, szOf P e with
   | some g, some s => some (.index n g s x i)
   | _, _ => none
  | some .string, some x, some i => some (.strOp .index [x, i])
  | _, _, _ => none
 | .extract x i => (cOpd x).map fun x => .extract x i
 | .makeMap t none => match P.underlying t with
  | some (.map _ _) => some .makeMap
  | _ => none
 | .mapUpdate t x k v | .insert t x k v => match P.underlying t, cOpd x, cOpd k, cOpd v with
  | some (.map kt _), some x, some k, some v => (keyKind P kt).map fun kd => .mapSet kd x k v
  | _, _, _, _ => none
 | .lookup t x k ok => match P.underlying t, cOpd x, cOpd k with
  | some (.map kt e), some x, some k => match keyKind P kt, zeroVal P e with
   | some kd, some z => some (.mapGet kd ok z x k)
   | _, _ => none
  | _, _, _ => none
 | .call c => match c.callee with
  | .value f => match cOpd f, cOpds c.args.toList with
   | some f, some a => some (.call f a)
   | _, _ => none
  | .builtin b => cBuiltin P b c.argTypes.toList c.args.toList
  | .invoke _ _ => none
 | _ => none
def cGuard (ops : Array Oper) : Option (Nat × Bool) → Option (Option (Nat × Bool))
 | none => some none
 | some (j, want) => match (ops[j]?).bind (·.dst) with
  | some t => some (some (t, want))
  | none => none
def cOper [Globs] (ops : Array Oper) (o : Oper) : Option IOper :=
 match cOp P o.op, cGuard ops o.guard with
 | some op, some g => some ⟨g, o.dst, op⟩
 | _, _ => none
def cOpers [Globs] (ops : Array Oper) : List Oper → Option (List IOper)
 | [] => some []
 | o :: r => match cOper P ops o, cOpers ops r with
  | some a, some l => some (a :: l)
  | _, _ => none
def isCallI : IOp → Bool
 | .call .. | .makeMap | .mapSet .. | .mapGet .. | .lenM _ => true
 | _ => false
def makesNone : IOp → Bool
 | .load .. | .sliceArr .. | .slice .. | .store .. => true
 | op => freeOp op
def smallOp : Op → Bool
 | .call c => match c.callee with
  | .builtin .append | .builtin .copy | .builtin .clear => false
  | .builtin _ => true
  | _ => false
 | .makeMap .. | .mapUpdate .. | .insert .. | .lookup .. => false
 | _ => true
def unord (b : Array Nat) (i j : Nat) : Bool := i != j && !(b.getD j 0).testBit i && !(b.getD i 0).testBit j
def masksOf (b : Array Nat) (ops : List IOper) (j : Nat) (o : IOper) : List Nat :=
 (List.range j).filter fun i => unord b i j && (match ops[i]? with | some oi => !freeOp oi.op && !(readOp oi.op && readOp o.op) | none => false)
def dOper (b : Array Nat) (ops : List IOper) (o : IOper) (j : Nat) : DOper :=
 if freeOp o.op then ⟨o, []⟩ else ⟨o, masksOf b ops j o⟩
def cOpersAt [Globs] (ops : Array Oper) : List Nat → Option (List IOper)
 | [] => some []
 | i :: r => match ops[i]? with
  | some o => match cOper P ops o, cOpersAt ops r with
   | some a, some l => some (a :: l)
   | _, _ => none
  | none => none
def Opd.slots : Opd → List Nat
 | .tmp t => [t]
 | .con _ => []
def slotsO : Option Opd → List Nat
 | some x => x.slots
 | none => []
def slotsL : List Opd → List Nat
 | [] => []
 | x :: r => x.slots ++ slotsL r
def slotsP : List (Nat × Nat × Opd) → List Nat
 | [] => []
 | (_, _, x) :: r => x.slots ++ slotsP r
def IOp.slots : IOp → List Nat
 | .move x | .box x | .load _ _ x | .nilCheck x | .un _ x | .conv _ x | .fieldAddr _ x | .field _ _ _ x | .extract x _ | .lenS x | .capS x | .clear _ _ x => x.slots
 | .pick c a b => c.slots ++ (a.slots ++ b.slots)
 | .alloc _ | .lenC _ | .makeMap => []
 | .lenM x => x.slots
 | .mapSet _ x k v => x.slots ++ (k.slots ++ v.slots)
 | .mapGet _ _ _ x k => x.slots ++ k.slots
 | .build _ ps | .buildSlice _ _ _ ps => slotsP ps
 | .store _ x y | .bin _ x y | .beq _ x y | .aggEq _ _ x y | .nilEq _ _ x y | .makeSlice _ _ _ x y | .indexAddr _ x y | .indexAddrArr _ _ x y | .index _ _ _ x y | .append _ _ x y | .appendZ _ _ _ x y | .copy _ x y => x.slots ++ y.slots
 | .makeFunc _ a b => slotsL a ++ slotsL b
 | .slice _ x lo hi mx | .sliceArr _ _ x lo hi mx => x.slots ++ (slotsO lo ++ (slotsO hi ++ slotsO mx))
 | .minmax _ xs => slotsL xs
 | .strOp _ xs => slotsL xs
 | .mkIf _ x | .ifNil _ x => x.slots
 | .call f args => f.slots ++ slotsL args
def IOper.slots (o : IOper) : List Nat :=
 o.op.slots ++ ((match o.guard with | some (t, _) => [t] | none => []) ++ (match o.dst with | some t => [t] | none => []))
def ordered (b : Array Nat) (i j : Nat) : Bool := (b.getD j 0).testBit i || (b.getD i 0).testBit j
def slotsOk [Globs] (b : Array Nat) (l : List IOper) : Bool :=
 l.zipIdx.all fun (oj, j) => l.zipIdx.all fun (oi, i) => i == j || (match oi.dst with | some t => !(oj.slots.contains t) || ordered b i j | none => true)
def callsOk (b : Array Nat) (l : List IOper) : Bool :=
 l.zipIdx.all fun (oj, j) => !isCallI oj.op || l.zipIdx.all fun (oi, i) => decide (i ≤ j) || ordered b i j || makesNone oi.op
def pickOrder (ops : Array Oper) : Nat → List Nat → List Nat
 | 0, done => done
 | n + 1, done =>
  let ready := (List.range ops.size).filter fun i => !done.contains i && (match ops[i]? with | some o => o.after.all fun e => !Region.binds .any e || done.contains e.on | none => false)
  match ready.find? fun i => match ops[i]? with | some o => smallOp o.op | none => false with
  | some i => pickOrder ops n (done ++ [i])
  | none => match ready with
   | i :: _ => pickOrder ops n (done ++ [i])
   | [] => done
def tableOf (ops : Array Oper) (perm : List Nat) : Array Nat :=
 perm.foldl (fun b i => b.push (match ops[i]? with
  | some o => o.after.foldl (fun m e => if Region.binds .any e then m ||| (1 <<< perm.idxOf e.on) ||| b.getD (perm.idxOf e.on) 0 else m) 0
  | none => 0)) #[]
def permOk (n : Nat) (perm : List Nat) : Bool :=
 perm.length == n && ((List.range n).all fun i => perm.contains i) && (List.range n).all fun p => (List.range n).all fun q => p == q || perm.getD p n != perm.getD q n
def closedOk (b : Array Nat) (ops : Array Oper) (perm : List Nat) : Bool :=
 (List.range ops.size).all fun p => match ops[perm.getD p ops.size]? with
  | some o => (o.after.all fun e => !Region.binds .any e || (List.range p).any fun q => perm.getD q ops.size == e.on) &&
    (List.range ops.size).all fun i => !(b.getD p 0).testBit i || o.after.any fun e => Region.binds .any e && (List.range p).any fun q => perm.getD q ops.size == e.on && (q == i || (b.getD q 0).testBit i)
  | none => false
def cCode [Globs] : Code → Option IR
 | .skip => some .skip
 | .region _ ops false => match cOpers P ops ops.toList with
  | some l => some (.region l)
  | none => if ops.any (fun o => match o.op with | .panic _ => true | _ => false) then some (.loop .skip) else none
 | .region _ ops true => match cOpersAt P ops (pickOrder ops ops.size []) with
  | some l =>
    if P.follows .mixedOrders && permOk ops.size (pickOrder ops ops.size []) && closedOk (tableOf ops (pickOrder ops ops.size [])) ops (pickOrder ops ops.size []) && slotsOk (tableOf ops (pickOrder ops ops.size [])) l && callsOk (tableOf ops (pickOrder ops ops.size [])) l then
     some (.draw (l.zipIdx.map fun (o, j) => dOper (tableOf ops (pickOrder ops ops.size [])) l o j))
    else none
  | none => none
 | .seq a b => match cCode a, cCode b with
  | some x, some y => some (.seq x y)
  | _, _ => none
 | .cond c a b => match cOpd c, cCode a, cCode b with
  | some c, some x, some y => some (.cond c x y)
  | _, _, _ => none
 | .block id b => (cCode b).map (.block id)
 | .loop b => (cCode b).map .loop
 | .rangeFunc f ps a b => match cOpd f, cCode a, cCode b with
  | some f, some x, some y => some (.rangeFunc f ps.toList x y)
  | _, _, _ => none
 | .exit id => some (.exit id)
 | .scope b => (cCode b).map fun x => .seq x .skip
 | .label _ => some .skip
 | .ret => some .ret
 | _ => none
def cRes : List ResultVar → Option (List IRes)
 | [] => some []
 | .tmp t :: r => (cRes r).map (.tmp t :: ·)
 | .cell t ty :: r => match aggOf P ty, szOf P ty, cRes r with
  | some g, some s, some l => some (.cell t g s :: l)
  | _, _, _ => none
def cFunc [Globs] (fn : Func) : Option IFunc :=
 match fn.body with
 | some c => match cCode P c, cRes P fn.results.toList with
  | some b, some rs => if fn.name == "runtime.NumGoroutine" then none else some ⟨fn.ntmps, rs, b⟩
  | _, _ => none
 | none => none
end
end Go.Zz


namespace Go.Zz
structure Loc where
 blk : Nat
 base : Nat
 len : Nat
 room : Nat
def FlatV (x : AV) (v : Value) : Prop := (∃ k n, x = .int k n ∧ v = .int k n) ∨ (∃ b, x = .bool b ∧ v = .bool b) ∨ ∃ s, x = .str s ∧ v = .string s
structure Mp [Globs] where
 imm : Nat → Nat → Option Value
 loc : Nat → Nat → Option Loc
 lp : Nat → Option Nat
 glob : ∀ g l, Globs.val g = some l → ∀ i, i < l.length → ∃ v, imm g i = some v ∧ FlatV (gt l i) v
structure Mp.le [Globs] (M M' : Mp) : Prop where
 imm : ∀ b o v, M.imm b o = some v → M'.imm b o = some v
 loc : ∀ i g l, M.loc i g = some l → M'.loc i g = some l
 lp : ∀ k l, M.lp k = some l → M'.lp k = some l
theorem Mp.le.refl [Globs] (M : Mp) : M.le M := ⟨fun _ _ _ h => h, fun _ _ _ h => h, fun _ _ h => h⟩
theorem Mp.le.trans [Globs] {M M' M'' : Mp} (h : M.le M') (k : M'.le M'') : M.le M'' :=
 ⟨fun b o v x => k.imm b o v (h.imm b o v x), fun i g l x => k.loc i g l (h.loc i g l x), fun a l x => k.lp a l (h.lp a l x)⟩
def ag (c : Array Value) (i : Nat) : Value := c.getD i undef
inductive RV [Globs] (M : Mp) : AV → Value → Prop
 | int (k : IntKind) (n : Int) : RV M (.int k n) (.int k n)
 | bool (b : Bool) : RV M (.bool b) (.bool b)
 | agg (l : List AV) (c : Array Value) (hl : l.length = c.size) (h : ∀ i, RV M (gt l i) (ag c i)) (h1 : ∀ v ∈ c.toList, v.oneCell' = true) : RV M (.agg l) (.agg c)
 | tup0 : RV M (.tuple []) (.tuple #[])
 | tuple (l : List AV) (c : Array Value) (hl : l.length = c.size) (h : ∀ i, RV M (gt l i) (ag c i)) : RV M (.tuple l) (.tuple c)
 | snil : RV M .snil (.slice none 0 0)
 | sval (full : Bool) (len : Nat) (l : List AV) (b o cap : Nat) (f : Nat → Value) (hc : len ≤ cap) (hf : full = true → cap = len)
   (hi : ∀ i, i < l.length → M.imm b (o + i) = some (f i)) (h : ∀ i, i < l.length → RV M (gt l i) (f i)) (h1 : ∀ i, i < l.length → (f i).oneCell' = true) :
   RV M (.sval full len l) (.slice (some ⟨b, o, none⟩) len cap)
 | sref (id g off sz len : Nat) (cap : Option Nat) (lc : Loc) (ccap : Nat) (hl : M.loc id g = some lc) (hc : len ≤ ccap) (hr : off + ccap * sz ≤ lc.room)
   (he : ∀ c, cap = some c → ccap = c) (ho : cap = none → lc.len ≤ off + ccap * sz) : RV M (.sref id g off sz len cap) (.slice (some ⟨lc.blk, lc.base + off, none⟩) len ccap)
 | pnil : RV M .pnil (.pointer none)
 | pref (id g off : Nat) (lc : Loc) (hl : M.loc id g = some lc) : RV M (.pref id g off) (.pointer (some ⟨lc.blk, lc.base + off, none⟩))
 | pval (l : List AV) (b o : Nat) (f : Nat → Value)
   (hi : ∀ i, i < l.length → M.imm b (o + i) = some (f i)) (h : ∀ i, i < l.length → RV M (gt l i) (f i)) (h1 : ∀ i, i < l.length → (f i).oneCell' = true) :
   RV M (.pval l) (.pointer (some ⟨b, o, none⟩))
 | func (f : Nat) (first cap : List AV) (a b : Array Value) (ha : first.length = a.size) (hb : cap.length = b.size) (h1 : ∀ i, RV M (gt first i) (ag a i)) (h2 : ∀ i, RV M (gt cap i) (ag b i)) :
   RV M (.func f first cap) (.func (.func f) a b)
 | yield (k l : Nat) (h : M.lp k = some l) : RV M (.yield k) (.func (.yield l) #[] #[])
 | nilFunc : RV M .nilFunc .nilFunc
 | mnil : RV M .mnil (.map none)
 | mref (k l : Nat) (h : M.lp k = some l) : RV M (.mref k) (.map (some l))
 | str (s : ByteArray) : RV M (.str s) (.string s)
 | inil : RV M .inil .nilIface
 | ifc (t : Nat) (x : AV) (v : Value) (h : RV M x v) : RV M (.ifc t x) (.iface t v)
theorem RV.mono [Globs] {M M' : Mp} (h : M.le M') {x : AV} {v : Value} (r : RV M x v) : RV M' x v := by
 induction r with
 | int k n => exact .int k n
 | bool b => exact .bool b
 | agg l c hl _ h1 ih => exact .agg l c hl ih h1
 | tup0 => exact .tup0
 | tuple l c hl _ ih => exact .tuple l c hl ih
 | snil => exact .snil
 | sval full len l b o cap f hc hf hi _ h1 ih => exact .sval full len l b o cap f hc hf (fun i hl => h.imm _ _ _ (hi i hl)) ih h1
 | sref id g off sz len cap lc ccap hl hc hr he ho => exact .sref id g off sz len cap lc ccap (h.loc _ _ _ hl) hc hr he ho
 | pnil => exact .pnil
 | pref id g off lc hl => exact .pref id g off lc (h.loc _ _ _ hl)
 | pval l b o f hi _ h1 ih => exact .pval l b o f (fun i hl => h.imm _ _ _ (hi i hl)) ih h1
 | func f first cap a b ha hb _ _ ih1 ih2 => exact .func f first cap a b ha hb ih1 ih2
 | yield k l hk => exact .yield k l (h.lp _ _ hk)
 | nilFunc => exact .nilFunc
 | mnil => exact .mnil
 | str s => exact .str s
 | inil => exact .inil
 | ifc t x v _ ih => exact .ifc t x v ih
 | mref k l hk => exact .mref k l (h.lp _ _ hk)
theorem gt_eq (l : List AV) (i : Nat) : gt l i = l.getD i und := by
 induction l generalizing i with
 | nil => simp [gt]
 | cons x l ih => cases i with
  | zero => simp [gt]
  | succ i => simp [gt, ih, List.getD]
theorem gt_of_lt {l : List AV} {i : Nat} (h : i < l.length) : gt l i = l[i] := by
 rw [gt_eq, List.getD, List.getElem?_eq_getElem h]; rfl
theorem gt_of_ge {l : List AV} {i : Nat} (h : l.length ≤ i) : gt l i = und := by
 rw [gt_eq, List.getD, List.getElem?_eq_none h]; rfl
theorem gt_of_some {l : List AV} {i : Nat} {x : AV} (h : l[i]? = some x) : gt l i = x := by
 rw [gt_eq, List.getD, h]; rfl
theorem pt_length (l : List AV) (d : Nat) (v : AV) : (pt l d v).length = l.length := by
 induction l generalizing d with
 | nil => simp [pt]
 | cons x l ih => cases d <;> simp [pt, ih]
theorem gt_pt (l : List AV) (d : Nat) (v : AV) (t : Nat) : gt (pt l d v) t = if t = d ∧ d < l.length then v else gt l t := by
 induction l generalizing d t with
 | nil => simp [pt, gt]
 | cons x l ih =>
  cases d with
  | zero => cases t <;> simp [pt, gt]
  | succ d => cases t with
   | zero => simp [pt, gt]
   | succ t => simp [pt, gt, ih]
theorem ag_of_lt {c : Array Value} {i : Nat} (h : i < c.size) : ag c i = c[i] := by simp [ag, h]
theorem ag_of_ge {c : Array Value} {i : Nat} (h : c.size ≤ i) : ag c i = undef := by simp [ag, h]
theorem ag_put (c : Array Value) (d : Nat) (v : Value) (t : Nat) : ag (c.setIfInBounds d v) t = if t = d ∧ d < c.size then v else ag c t := by
 unfold ag
 by_cases h : t = d
 ·subst h
  by_cases hs : t < c.size <;> simp [hs]
 ·simp [h, Array.getElem?_setIfInBounds_ne (Ne.symm h)]
structure RVs [Globs] (M : Mp) (l : List AV) (c : Array Value) : Prop where
 len : l.length = c.size
 rel : ∀ i, RV M (gt l i) (ag c i)
theorem RVs.mono [Globs] {M M' : Mp} (h : M.le M') {l : List AV} {c : Array Value} (r : RVs M l c) : RVs M' l c := ⟨r.len, fun i => (r.rel i).mono h⟩
theorem RVs.nil [Globs] (M : Mp) : RVs M [] #[] := ⟨rfl, fun i => by simp [gt, ag]; exact .tup0⟩
theorem RVs.of_lt [Globs] {M : Mp} {l : List AV} {c : Array Value} (hl : l.length = c.size) (h : ∀ i (h1 : i < l.length) (h2 : i < c.size), RV M l[i] c[i]) : RVs M l c :=
 ⟨hl, fun i => by
  by_cases hi : i < l.length
  ·rw [gt_of_lt hi, ag_of_lt (hl ▸ hi)]; exact h i hi _
  ·rw [gt_of_ge (by omega), ag_of_ge (by omega)]; exact .tup0⟩
theorem RVs.at [Globs] {M : Mp} {l : List AV} {c : Array Value} (h : RVs M l c) {i : Nat} {x : AV} (hx : l[i]? = some x) : ∃ v, c[i]? = some v ∧ RV M x v := by
 have hi : i < l.length := (List.getElem?_eq_some_iff.1 hx).1
 have h2 : i < c.size := h.len ▸ hi
 refine ⟨c[i], Array.getElem?_eq_getElem h2, ?_⟩
 have := h.rel i
 rw [gt_of_some hx, ag_of_lt h2] at this
 exact this
theorem RVs.append [Globs] {M : Mp} {l l' : List AV} {c c' : Array Value} (h : RVs M l c) (h' : RVs M l' c') : RVs M (l ++ l') (c ++ c') := by
 refine RVs.of_lt (by simp [h.len, h'.len]) fun i h1 h2 => ?_
 rw [List.getElem_append, Array.getElem_append]
 by_cases hi : i < l.length
 ·have hi' : i < c.size := h.len ▸ hi
  rw [dif_pos hi, dif_pos hi']
  have := h.rel i
  rwa [gt_of_lt hi, ag_of_lt hi'] at this
 ·have hi' : ¬ i < c.size := by rw [← h.len]; exact hi
  rw [dif_neg hi, dif_neg hi']
  have := h'.rel (i - l.length)
  simp only [List.length_append] at h1
  rw [gt_of_lt (by omega), ag_of_lt (by rw [← h'.len]; omega)] at this
  have e : c.size = l.length := h.len.symm
  simpa [e] using this
theorem RVs.put [Globs] {M : Mp} {l : List AV} {c : Array Value} (h : RVs M l c) {d : Nat} {x : AV} {v : Value} (hv : RV M x v) : RVs M (pt l d x) (c.setIfInBounds d v) := by
 refine ⟨by rw [pt_length]; simp [h.len], fun i => ?_⟩
 rw [gt_pt, ag_put, h.len]
 split
 ·exact hv
 ·exact h.rel i
abbrev RT [Globs] (M : Mp) (T : List AV) (a : Act) : Prop := RVs M T a.tmps
theorem RT.put [Globs] {M : Mp} {T : List AV} {a : Act} (h : RT M T a) {d : Option Nat} {x : AV} {v : Value} (hv : RV M x v) :
  RT M (match d with | some d => pt T d x | none => T) (a.put d v) := by
 cases d with
 | none => exact h
 | some d => exact RVs.put h hv
theorem rv_scalar [Globs] {M : Mp} {v : Value} {x : AV} (h : cScalar v = some x) : RV M x v := by
 unfold cScalar at h
 split at h <;> first | (cases h; constructor) | cases h
theorem one_scalar {v : Value} {x : AV} (h : cScalar v = some x) : v.oneCell' = true := by
 unfold cScalar at h
 split at h <;> first | rfl | cases h
theorem rv_cells [Globs] {M : Mp} : ∀ {vs : List Value} {l : List AV}, cCells vs = some l → RVs M l vs.toArray ∧ ∀ v ∈ vs, v.oneCell' = true
 | [], l, h => by cases h; exact ⟨RVs.nil M, by simp⟩
 | v :: r, l, h => by
  unfold cCells at h
  split at h
  ·rename_i a l' ha hl'
   cases h
   obtain ⟨ih1, ih2⟩ := rv_cells (M := M) hl'
   refine ⟨?_, by
    intro u hu
    cases hu with
    | head => exact one_scalar ha
    | tail _ hu => exact ih2 u hu⟩
   refine ⟨by have := ih1.len; simp at this; simp [this], fun i => ?_⟩
   cases i with
   | zero => simp [gt, ag]; exact rv_scalar ha
   | succ i => have := ih1.rel i; simpa [gt, ag] using this
  ·cases h
theorem rv_val [Globs] {M : Mp} {v : Value} {x : AV} (h : cVal v = some x) : RV M x v := by
 unfold cVal at h
 split at h
 ·rename_i cs
  cases hc : cCells cs.toList with
  | none => simp [hc] at h
  | some l =>
   simp [hc] at h
   subst h
   obtain ⟨h1, h2⟩ := rv_cells (M := M) hc
   have h1' : RVs M l cs := by simpa using h1
   exact .agg l cs h1'.len h1'.rel h2
 ·exact rv_scalar h
theorem rv_opd [Globs] {M : Mp} {T : List AV} {a : Act} (hT : RT M T a) {x : Operand} {y : Opd} (h : cOpd x = some y) : RV M (y.ev T) (a.eval x) := by
 cases x with
 | tmp t => simp [cOpd] at h; subst h; exact hT.rel t
 | const v =>
  simp [cOpd] at h
  obtain ⟨z, hz, rfl⟩ := h
  exact rv_val hz
 | func f =>
  simp [cOpd] at h
  subst h
  refine .func f [] [] #[] #[] rfl rfl (fun i => ?_) (fun i => ?_) <;> (simp [gt, ag]; exact .tup0)
 | global g =>
  simp [cOpd] at h
  obtain ⟨l, hl, rfl⟩ := h
  have hg := M.glob g l hl
  refine .pval l g 0 (fun i => (M.imm g i).getD undef) (fun i hi => ?_) (fun i hi => ?_) (fun i hi => ?_) <;> obtain ⟨v, h1, h2⟩ := hg i hi
  ·simp only [Nat.zero_add, h1, Option.getD_some]
  ·simp only [h1, Option.getD_some]
   rcases h2 with ⟨k, n, e, rfl⟩ | ⟨b, e, rfl⟩ | ⟨s, e, rfl⟩ <;> rw [e]
   ·exact .int k n
   ·exact .bool b
   ·exact .str s
  ·simp only [h1, Option.getD_some]
   rcases h2 with ⟨k, n, e, rfl⟩ | ⟨b, e, rfl⟩ | ⟨s, e, rfl⟩ <;> rfl
theorem rv_opds [Globs] {M : Mp} {T : List AV} {a : Act} (hT : RT M T a) : ∀ {xs : List Operand} {ys : List Opd}, cOpds xs = some ys → RVs M (ys.map (·.ev T)) (xs.map a.eval).toArray
 | [], ys, h => by cases h; exact RVs.nil M
 | x :: r, ys, h => by
  unfold cOpds at h
  split at h
  ·rename_i y l hy hl
   cases h
   have ih := rv_opds hT hl
   have hx := rv_opd hT hy
   refine ⟨by have := ih.len; simp at this; simp [this], fun i => ?_⟩
   cases i with
   | zero => simpa [gt, ag] using hx
   | succ i => have := ih.rel i; simpa [gt, ag] using this
  ·cases h
end Go.Zz


namespace Go.Zz
structure HB [Globs] (M : Mp) (w : World) (id : Nat) (b : Blk) (lc : Loc) : Prop where
 loc : M.loc id b.gen = some lc
 len : lc.len = b.cells.length
 room : b.cells.length ≤ lc.room
 there : ∀ i, i < lc.room → (w.cell? ⟨lc.blk, lc.base + i, none⟩).isSome = true
 rel : ∀ i, i < b.cells.length → ∃ v, w.cell? ⟨lc.blk, lc.base + i, none⟩ = some v ∧ RV M (gt b.cells i) v ∧ v.oneCell' = true
 froz : ∀ o, w.frozen? ⟨lc.blk, o, none⟩ = false
 lt : lc.blk < w.heap.size
 obj : (w.shape? lc.blk).isSome = true
def mfl : List MapEntry → List Value
 | [] => []
 | e :: r => e.key :: e.val :: mfl r
def mflat (es : Array MapEntry) : Array Value := (mfl es.toList).toArray
structure HL [Globs] (P : Program) (M : Mp) (w : World) (l : Nat) (r : ALoop) : Prop where
  mobj : isMap r = true → ∃ (es : Array MapEntry) (clock : Nat), w.heap[l]? = some (.map es clock) ∧ RVs M r.tmps (mflat es)
  obj : isMap r = false → ∃ q : Loop, w.heap[l]? = some (.loop q) ∧ RVs M r.tmps q.tmps ∧ r.params = q.params.toList ∧ cCode P q.assign = some r.assign ∧ cCode P q.body = some r.body ∧
    (match r.ready, r.pending with
     | true, none => q.state = .ready ∧ q.pending = none
     | false, none => q.state = .busy
     | false, some .ret => q.state = .done ∧ q.pending = some .ret
     | false, some (.exit id) => q.state = .done ∧ q.pending = some (.exit id)
     | _, _ => False)
structure Holds [Globs] (P : Program) (M : Mp) (H : Hp) (L : List (Option ALoop)) (w : World) : Prop where
 imm : ∀ b o v, M.imm b o = some v → w.cell? ⟨b, o, none⟩ = some v
 blk : ∀ id b, H[id]? = some (some b) → ∃ lc, HB M w id b lc
 sep : ∀ id b lc, H[id]? = some (some b) → M.loc id b.gen = some lc → ∀ o, M.imm lc.blk o = none
 inj : ∀ id id' b b' lc lc', H[id]? = some (some b) → H[id']? = some (some b') → M.loc id b.gen = some lc → M.loc id' b'.gen = some lc' → lc.blk = lc'.blk → id = id'
 gen : ∀ id b g, H[id]? = some (some b) → b.gen < g → M.loc id g = none
 lp : ∀ k r, L[k]? = some (some r) → ∃ l, M.lp k = some l ∧ HL P M w l r
 lpi : ∀ k k' r r' l, L[k]? = some (some r) → L[k']? = some (some r') → M.lp k = some l → M.lp k' = some l → k = k'
def GlobW [Globs] (w : World) : Prop := ∀ g l, Globs.val g = some l → ∀ i, i < l.length → ∃ v, w.cell? ⟨g, i, none⟩ = some v ∧ FlatV (gt l i) v
theorem Holds.globs [Globs] {P : Program} {M : Mp} {H : Hp} {L : List (Option ALoop)} {w : World} (h : Holds P M H L w) : GlobW w := fun g l hl i hi => by
 obtain ⟨v, h1, h2⟩ := M.glob g l hl i hi
 exact ⟨v, h.imm _ _ _ h1, h2⟩
def Sub (H' H : Hp) : Prop := ∀ (id : Nat) (b : Blk), H'[id]? = some (some b) → H[id]? = some (some b)
theorem Holds.sub [Globs] {P : Program} {M : Mp} {H H' : Hp} {L : List (Option ALoop)} {w : World} (h : Holds P M H L w) (hs : Sub H' H) : Holds P M H' L w :=
  ⟨h.imm, fun id b hb => h.blk id b (hs id b hb), fun id b lc hb => h.sep id b lc (hs id b hb), fun id id' b b' lc lc' h1 h2 => h.inj id id' b b' lc lc' (hs _ _ h1) (hs _ _ h2),
   fun id b g hb => h.gen id b g (hs id b hb), h.lp, h.lpi⟩
structure Fr [Globs] (M : Mp) (H : Hp) (L : List (Option ALoop)) (w : World) (M' : Mp) (H' : Hp) (L' : List (Option ALoop)) (w' : World) : Prop where
 os : w'.os = w.os
 output : w'.output = w.output
 size : w.heap.size ≤ w'.heap.size
 froz : ∀ a, w'.frozen? a = w.frozen? a
 keep : ∀ b, b < w.heap.size → (∀ id bl lc, H[id]? = some (some bl) → M.loc id bl.gen = some lc → lc.blk ≠ b) → (∀ k r, L[k]? = some (some r) → M.lp k ≠ some b) → w'.heap[b]? = w.heap[b]?
 old : ∀ id bl lc, H'[id]? = some (some bl) → M'.loc id bl.gen = some lc → lc.blk < w.heap.size → ∃ bl0 lc0, H[id]? = some (some bl0) ∧ M.loc id bl0.gen = some lc0 ∧ lc0.blk = lc.blk
 oldl : ∀ k r l, L'[k]? = some (some r) → M'.lp k = some l → l < w.heap.size → ∃ r0, L[k]? = some (some r0) ∧ M.lp k = some l
 hlen : H.length ≤ H'.length
 llen : L.length ≤ L'.length
 le : M.le M'
 only : ∀ id g lc, M'.loc id g = some lc → M.loc id g = none → ∃ b : Blk, H'[id]? = some (some b)
 live : ∀ (id : Nat) (b : Blk), H[id]? = some (some b) → ∃ b' : Blk, H'[id]? = some (some b')
 imm : ∀ b o, b < w.heap.size → M'.imm b o = M.imm b o
 onlyl : ∀ k l, M'.lp k = some l → M.lp k = none → k < L'.length
 lstay : ∀ (l : Nat) (q : Loop), w.heap[l]? = some (.loop q) → ∃ q' : Loop, w'.heap[l]? = some (.loop q')
theorem Fr.refl [Globs] (M : Mp) (H : Hp) (L : List (Option ALoop)) (w : World) : Fr M H L w M H L w where
 os := rfl
 output := rfl
 size := Nat.le_refl _
 froz := fun _ => rfl
 keep := fun _ _ _ _ => rfl
 old := fun _ bl lc h1 h2 _ => ⟨bl, lc, h1, h2, rfl⟩
 oldl := fun _ r _ h1 h2 _ => ⟨r, h1, h2⟩
 hlen := Nat.le_refl _
 llen := Nat.le_refl _
 le := Mp.le.refl _
 only := fun _ _ _ h1 h2 => by rw [h1] at h2; cases h2
 live := fun _ b h => ⟨b, h⟩
 imm := fun _ _ _ => rfl
 onlyl := fun _ _ h1 h2 => by rw [h1] at h2; cases h2
 lstay := fun _ q h => ⟨q, h⟩
theorem Fr.trans [Globs] {M M1 M2 : Mp} {H H1 H2 : Hp} {L L1 L2 : List (Option ALoop)} {w w1 w2 : World} (h : Fr M H L w M1 H1 L1 w1) (k : Fr M1 H1 L1 w1 M2 H2 L2 w2) : Fr M H L w M2 H2 L2 w2 where
 os := k.os.trans h.os
 output := k.output.trans h.output
 size := Nat.le_trans h.size k.size
 froz := fun a => (k.froz a).trans (h.froz a)
 keep := by
  intro b hb h1 h2
  rw [k.keep b (Nat.lt_of_lt_of_le hb h.size), h.keep b hb h1 h2]
  ·intro id bl lc hbl hlc e
   obtain ⟨bl0, lc0, x1, x2, x3⟩ := h.old id bl lc hbl hlc (e ▸ hb)
   exact h1 id bl0 lc0 x1 x2 (x3.trans e)
  ·intro k' r hr e
   obtain ⟨r0, x1, x2⟩ := h.oldl k' r b hr e hb
   exact h2 k' r0 x1 x2
 old := by
  intro id bl lc hbl hlc hlt
  obtain ⟨bl0, lc0, x1, x2, x3⟩ := k.old id bl lc hbl hlc (Nat.lt_of_lt_of_le hlt h.size)
  obtain ⟨bl1, lc1, y1, y2, y3⟩ := h.old id bl0 lc0 x1 x2 (x3 ▸ hlt)
  exact ⟨bl1, lc1, y1, y2, y3.trans x3⟩
 oldl := by
  intro k' r l hr hl hlt
  obtain ⟨r0, x1, x2⟩ := k.oldl k' r l hr hl (Nat.lt_of_lt_of_le hlt h.size)
  exact h.oldl k' r0 l x1 x2 hlt
 hlen := Nat.le_trans h.hlen k.hlen
 llen := Nat.le_trans h.llen k.llen
 le := h.le.trans k.le
 only := by
  intro id g lc h2 h0
  cases h1 : M1.loc id g with
  | none => exact k.only id g lc h2 h1
  | some lc1 =>
   obtain ⟨b, hb⟩ := h.only id g lc1 h1 h0
   exact k.live id b hb
 live := fun id b hb => by obtain ⟨b1, h1⟩ := h.live id b hb; exact k.live id b1 h1
 imm := fun b o hb => (k.imm b o (Nat.lt_of_lt_of_le hb h.size)).trans (h.imm b o hb)
 onlyl := by
  intro k' l h2 h0
  cases h1 : M1.lp k' with
  | none => exact k.onlyl k' l h2 h1
  | some l1 => exact Nat.lt_of_lt_of_le (h.onlyl k' l1 h1 h0) k.llen
 lstay := fun l q hq => by obtain ⟨q1, h1⟩ := h.lstay l q hq; exact k.lstay l q1 h1
structure Fresh [Globs] (M : Mp) (H : Hp) (L : List (Option ALoop)) : Prop where
 loc : ∀ id g, H.length ≤ id → M.loc id g = none
 lp : ∀ k, L.length ≤ k → M.lp k = none
theorem Fresh.fr [Globs] {M M' : Mp} {H H' : Hp} {L L' : List (Option ALoop)} {w w' : World} (h : Fresh M H L) (k : Fr M H L w M' H' L' w') : Fresh M' H' L' where
 loc := by
  intro id g hid
  cases h1 : M'.loc id g with
  | none => rfl
  | some lc =>
   obtain ⟨b, hb⟩ := k.only id g lc h1 (h.loc id g (Nat.le_trans k.hlen hid))
   have := (List.getElem?_eq_some_iff.1 hb).1
   omega
 lp := by
  intro i hi
  cases h1 : M'.lp i with
  | none => rfl
  | some l => have := k.onlyl i l h1 (h.lp i (Nat.le_trans k.llen hi)); omega
theorem cell_lt {w : World} {b o : Nat} {v : Value} (h : w.cell? ⟨b, o, none⟩ = some v) : b < w.heap.size := World.block_lt_of_cell? w _ h
theorem HB.kept [Globs] {M M' : Mp} {w w' : World} {id : Nat} {b : Blk} {lc : Loc} (h : HB M w id b lc) (hle : M.le M') (hk : w'.heap[lc.blk]? = w.heap[lc.blk]?) (hsz : w.heap.size ≤ w'.heap.size) : HB M' w' id b lc where
 loc := hle.loc _ _ _ h.loc
 len := h.len
 room := h.room
 there := fun i hi => by rw [World.cell?_of_block (w := w) hk]; exact h.there i hi
 rel := fun i hi => by
  obtain ⟨v, h1, h2, h3⟩ := h.rel i hi
  exact ⟨v, by rw [World.cell?_of_block (w := w) hk]; exact h1, h2.mono hle, h3⟩
 froz := fun o => by rw [World.frozen?_of_block (w := w) hk]; exact h.froz o
 lt := Nat.lt_of_lt_of_le h.lt hsz
 obj := by have := h.obj; simp only [World.shape?, hk] at this ⊢; exact this
theorem HL.kept [Globs] {P : Program} {M M' : Mp} {w w' : World} {l : Nat} {r : ALoop} (h : HL P M w l r) (hle : M.le M') (hk : w'.heap[l]? = w.heap[l]?) : HL P M' w' l r := by
 refine ⟨fun hm => ?_, fun hm => ?_⟩
 ·obtain ⟨es, c, h1, h2⟩ := h.mobj hm
  exact ⟨es, c, hk.trans h1, h2.mono hle⟩
 ·obtain ⟨q, h1, h2, h3⟩ := h.obj hm
  exact ⟨q, hk.trans h1, h2.mono hle, h3⟩
theorem HL.is [Globs] {P : Program} {M : Mp} {w : World} {l : Nat} {r : ALoop} (h : HL P M w l r) : (∃ q : Loop, w.heap[l]? = some (.loop q)) ∨ ∃ (es : Array MapEntry) (c : Nat), w.heap[l]? = some (.map es c) := by
 cases hm : isMap r with
 | true => obtain ⟨es, c, h1, _⟩ := h.mobj hm; exact .inr ⟨es, c, h1⟩
 | false => obtain ⟨q, h1, _⟩ := h.obj hm; exact .inl ⟨q, h1⟩
theorem HL.lt [Globs] {P : Program} {M : Mp} {w : World} {l : Nat} {r : ALoop} (h : HL P M w l r) : l < w.heap.size := by
 rcases h.is with ⟨q, h1⟩ | ⟨es, c, h1⟩ <;> exact (Array.getElem?_eq_some_iff.1 h1).1
theorem HL.ne [Globs] {P : Program} {M : Mp} {w : World} {l : Nat} {r : ALoop} (h : HL P M w l r) {b o : Nat} (hb : (w.cell? ⟨b, o, none⟩).isSome = true) : b ≠ l := by
 rintro rfl
 rcases h.is with ⟨q, h1⟩ | ⟨es, c, h1⟩ <;> simp [World.cell?, h1] at hb
def Mp.ext [Globs] (M : Mp) (id g : Nat) (lc : Loc) : Mp := { M with loc := fun i j => if i = id ∧ j = g then some lc else M.loc i j }
theorem Mp.ext_le [Globs] {M : Mp} {id g : Nat} {lc : Loc} (h : M.loc id g = none) : M.le (M.ext id g lc) where
 imm := fun _ _ _ h => h
 loc := fun i j l hl => by
  simp only [Mp.ext]
  split
  ·rename_i e; obtain ⟨rfl, rfl⟩ := e; rw [h] at hl; cases hl
  ·exact hl
 lp := fun _ _ h => h
theorem Mp.ext_same [Globs] {M : Mp} {id g : Nat} {lc : Loc} : (M.ext id g lc).loc id g = some lc := by simp [Mp.ext]
theorem Mp.ext_other [Globs] {M : Mp} {id g i j : Nat} {lc : Loc} (h : ¬ (i = id ∧ j = g)) : (M.ext id g lc).loc i j = M.loc i j := by simp [Mp.ext, h]
theorem made [Globs] {P : Program} {M : Mp} {H : Hp} {L : List (Option ALoop)} {w w' : World} (h : Holds P M H L w) (hf : ∀ g, M.loc H.length g = none)
  (cs : List AV) (c : Array Value) (e : TypeId) (hw : w'.heap = w.heap.push (.cells c e)) (hos : w'.os = w.os) (hout : w'.output = w.output)
  (hlen : cs.length ≤ c.size) (hrel : ∀ i, i < cs.length → RV M (gt cs i) (ag c i) ∧ (ag c i).oneCell' = true) :
  let lc : Loc := ⟨w.heap.size, 0, cs.length, c.size⟩
  let M' := M.ext H.length 0 lc
  Holds P M' (H ++ [some ⟨0, cs⟩]) L w' ∧ Fr M H L w M' (H ++ [some ⟨0, cs⟩]) L w' ∧ M'.loc H.length 0 = some lc := by
 intro lc M'
 have hle : M.le M' := Mp.ext_le (hf 0)
 have hold : ∀ b, b < w.heap.size → w'.heap[b]? = w.heap[b]? := fun b hb => by rw [hw, Array.getElem?_push]; simp [Nat.ne_of_lt hb]
 have hnew : w'.heap[w.heap.size]? = some (.cells c e) := by rw [hw]; simp
 have hsz : w.heap.size ≤ w'.heap.size := by rw [hw]; simp
 have hcell : ∀ i, w'.cell? ⟨w.heap.size, i, none⟩ = c[i]? := fun i => by simp [World.cell?, hnew]
 have hget : ∀ (id : Nat) (b : Blk), (H ++ [some ⟨0, cs⟩])[id]? = some (some b) → (id < H.length ∧ H[id]? = some (some b)) ∨ (id = H.length ∧ b = ⟨0, cs⟩) := by
  intro id b hb
  rw [List.getElem?_append] at hb
  split at hb
  ·rename_i hlt; exact .inl ⟨hlt, hb⟩
  ·rename_i hge
   by_cases e0 : id = H.length
   ·subst e0; simp at hb; exact .inr ⟨rfl, hb.symm⟩
   ·have : id - H.length ≠ 0 := by omega
    cases hd : id - H.length with
    | zero => omega
    | succ n => simp [hd] at hb
 have hloc : ∀ id g, id < H.length → M'.loc id g = M.loc id g := fun id g hlt => Mp.ext_other (by omega)
 have hsame : M'.loc H.length 0 = some lc := Mp.ext_same
 have hblk : ∀ id b lc, H[id]? = some (some b) → M.loc id b.gen = some lc → lc.blk < w.heap.size := fun id b lc hb hl => by
  obtain ⟨lc', hB⟩ := h.blk id b hb
  have : lc = lc' := by have := hB.loc; rw [hl] at this; exact Option.some.inj this
  exact this ▸ hB.lt
 refine ⟨⟨?_, ?_, ?_, ?_, ?_, ?_, ?_⟩, ?_, hsame⟩
 ·intro b o v hv
  have h0 := h.imm b o v hv
  rw [World.cell?_of_block (w := w) (hold b (cell_lt h0))]
  exact h0
 ·intro id b hb
  rcases hget id b hb with ⟨hlt, hb⟩ | ⟨rfl, rfl⟩
  ·obtain ⟨lc', hB⟩ := h.blk id b hb
   exact ⟨lc', hB.kept hle (hold _ hB.lt) hsz⟩
  ·refine ⟨lc, hsame, rfl, hlen, ?_, ?_, ?_, ?_, by simp [World.shape?, lc, hnew]⟩
   ·intro i hi
    rw [Nat.zero_add, hcell]
    simpa using hi
   ·intro i hi
    have hi' : i < c.size := Nat.lt_of_lt_of_le hi hlen
    obtain ⟨r1, r2⟩ := hrel i hi
    refine ⟨ag c i, ?_, r1.mono hle, r2⟩
    rw [Nat.zero_add, hcell, Array.getElem?_eq_getElem hi', ag_of_lt hi']
   ·intro o
    simp [World.frozen?, lc, hnew]
   ·show w.heap.size < w'.heap.size
    rw [hw]; simp
 ·intro id b lc' hb hl o
  rcases hget id b hb with ⟨hlt, hb⟩ | ⟨rfl, rfl⟩
  ·rw [hloc id _ hlt] at hl
   exact h.sep id b lc' hb hl o
  ·rw [hsame] at hl
   cases hl
   cases hi : M.imm w.heap.size o with
   | none => exact hi
   | some v => exact absurd (cell_lt (h.imm _ _ _ hi)) (Nat.lt_irrefl _)
 ·intro id id' b b' l1 l2 hb hb' hl hl' e0
  rcases hget id b hb with ⟨hlt, hb⟩ | ⟨rfl, rfl⟩ <;> rcases hget id' b' hb' with ⟨hlt', hb'⟩ | ⟨rfl, rfl⟩
  ·rw [hloc id _ hlt] at hl
   rw [hloc id' _ hlt'] at hl'
   exact h.inj id id' b b' l1 l2 hb hb' hl hl' e0
  ·rw [hloc id _ hlt] at hl
   rw [hsame] at hl'
   cases hl'
   have := hblk id b l1 hb hl
   rw [e0] at this
   exact absurd this (Nat.lt_irrefl _)
  ·rw [hloc id' _ hlt'] at hl'
   rw [hsame] at hl
   cases hl
   have := hblk id' b' l2 hb' hl'
   rw [← e0] at this
   exact absurd this (Nat.lt_irrefl _)
  ·rfl
 ·intro id b g hb hg
  rcases hget id b hb with ⟨hlt, hb⟩ | ⟨rfl, rfl⟩
  ·rw [hloc id _ hlt]; exact h.gen id b g hb hg
  ·rw [Mp.ext_other (by simp at hg; omega)]; exact hf g
 ·intro k r hr
  obtain ⟨l, h1, h2⟩ := h.lp k r hr
  exact ⟨l, h1, h2.kept hle (hold l h2.lt)⟩
 ·intro k k' r r' l h1 h2 h3 h4
  exact h.lpi k k' r r' l h1 h2 h3 h4
 ·refine ⟨hos, hout, hsz, ?_, fun b hb _ _ => hold b hb, ?_, ?_, by simp, Nat.le_refl _, hle, ?_, (fun id b hb => ⟨b, by rw [List.getElem?_append_left (List.getElem?_eq_some_iff.1 hb).1]; exact hb⟩), (fun _ _ _ => rfl), ?_, fun l q hq => ⟨q, (hold l (Array.getElem?_eq_some_iff.1 hq).1).trans hq⟩⟩
  ·intro a
   by_cases hlt : a.block < w.heap.size
   ·exact World.frozen?_of_block (hold _ hlt)
   ·have e1 : w.heap[a.block]? = none := by simpa using hlt
    by_cases e2 : a.block = w.heap.size
    ·simp [World.frozen?, e2, hnew]
    ·have : w'.heap[a.block]? = none := by rw [hw]; simp; omega
     simp [World.frozen?, e1, this]
  ·intro id b lc' hb hl hlt
   rcases hget id b hb with ⟨hlt', hb⟩ | ⟨rfl, rfl⟩
   ·rw [hloc id _ hlt'] at hl
    exact ⟨b, lc', hb, hl, rfl⟩
   ·rw [hsame] at hl
    cases hl
    exact absurd hlt (Nat.lt_irrefl _)
  ·intro k r l h1 h2 _
   exact ⟨r, h1, h2⟩
  ·intro id g lc' h1 h0
   by_cases e0 : id = H.length ∧ g = 0
   ·exact ⟨⟨0, cs⟩, by simp [e0.1]⟩
   ·rw [Mp.ext_other e0, h0] at h1; cases h1
  ·intro k l h1 h0
   rw [show M'.lp k = M.lp k from rfl, h0] at h1; cases h1
theorem setCells_size (b : Nat) : ∀ (vs : List Value) (o : Nat) (w : World), (w.setCells b o vs).heap.size = w.heap.size
 | [], _, _ => rfl
 | v :: r, o, w => by rw [World.setCells, setCells_size b r]; simp [World.setCell]
theorem setCells_other (b : Nat) : ∀ (vs : List Value) (o : Nat) (w : World) (x : Nat), x ≠ b → (w.setCells b o vs).heap[x]? = w.heap[x]?
 | [], _, _, _, _ => rfl
 | v :: r, o, w, x, h => by
  rw [World.setCells, setCells_other b r _ _ x h]
  simp only [World.setCell, Array.getElem?_modify]
  rw [if_neg (Ne.symm h)]
theorem setCells_os (b : Nat) : ∀ (vs : List Value) (o : Nat) (w : World), (w.setCells b o vs).os = w.os ∧ (w.setCells b o vs).output = w.output
 | [], _, _ => ⟨rfl, rfl⟩
 | v :: r, o, w => by rw [World.setCells]; exact setCells_os b r _ _
theorem moved [Globs] {P : Program} {M M' : Mp} {H : Hp} {L : List (Option ALoop)} {w w' : World} (h : Holds P M H L w) {id : Nat} {b b' : Blk} {lc lc' : Loc}
  (hb : H[id]? = some (some b)) (hl : M.loc id b.gen = some lc) (hle : M.le M') (himm : M'.imm = M.imm) (hlp : M'.lp = M.lp)
  (honly : ∀ i g l, M'.loc i g = some l → M.loc i g = none → i = id ∧ g = b'.gen)
  (hg : b.gen ≤ b'.gen) (hB : HB M' w' id b' lc') (hat : lc'.blk = lc.blk ∨ w.heap.size ≤ lc'.blk)
  (hother : ∀ x, x < w.heap.size → x ≠ lc.blk → w'.heap[x]? = w.heap[x]?) (hfz : ∀ a, w'.frozen? a = w.frozen? a) (hos : w'.os = w.os) (hout : w'.output = w.output) (hsz : w.heap.size ≤ w'.heap.size) :
  Holds P M' (H.set id (some b')) L w' ∧ Fr M H L w M' (H.set id (some b')) L w' := by
 obtain ⟨lc0, hB0⟩ := h.blk id b hb
 have e0 : lc0 = lc := by have := hB0.loc; rw [hl] at this; exact (Option.some.inj this).symm
 subst e0
 have hidlt : id < H.length := (List.getElem?_eq_some_iff.1 hb).1
 have hget : ∀ (i : Nat) (c : Blk), (H.set id (some b'))[i]? = some (some c) → (i = id ∧ c = b') ∨ (i ≠ id ∧ H[i]? = some (some c)) := by
  intro i c hc
  rw [List.getElem?_set] at hc
  split at hc
  ·rename_i e; subst e; simp at hc; exact .inl ⟨rfl, hc.symm⟩
  ·rename_i e; exact .inr ⟨Ne.symm e, hc⟩
 have hloc : ∀ i c l, i ≠ id → H[i]? = some (some c) → M'.loc i c.gen = some l → M.loc i c.gen = some l := by
  intro i c l hi hc hl'
  obtain ⟨lc1, hB1⟩ := h.blk i c hc
  have := hle.loc _ _ _ hB1.loc
  rw [hl'] at this
  rw [Option.some.inj this]
  exact hB1.loc
 have hl' : ∀ l, M'.loc id b'.gen = some l → l = lc' := fun l e => by have := hB.loc; rw [e] at this; exact Option.some.inj this
 have hne : ∀ i c l, i ≠ id → H[i]? = some (some c) → M.loc i c.gen = some l → l.blk ≠ lc0.blk := fun i c l hi hc hm e => hi (h.inj i id c b l lc0 hc hb hm hl e)
 have hlt : ∀ i c l, H[i]? = some (some c) → M.loc i c.gen = some l → l.blk < w.heap.size := fun i c l hc hm => by
  obtain ⟨lc1, hB1⟩ := h.blk i c hc
  have := hB1.loc
  rw [hm] at this
  rw [Option.some.inj this]
  exact hB1.lt
 refine ⟨⟨?_, ?_, ?_, ?_, ?_, ?_, ?_⟩, ?_⟩
 ·intro x o v hv
  rw [himm] at hv
  have h0 := h.imm x o v hv
  have hx : x ≠ lc0.blk := by rintro rfl; rw [h.sep id b lc0 hb hl o] at hv; cases hv
  rw [World.cell?_of_block (w := w) (hother x (cell_lt h0) hx)]
  exact h0
 ·intro i c hc
  rcases hget i c hc with ⟨rfl, rfl⟩ | ⟨hi, hc⟩
  ·exact ⟨lc', hB⟩
  ·obtain ⟨lc1, hB1⟩ := h.blk i c hc
   exact ⟨lc1, hB1.kept hle (hother _ hB1.lt (hne i c lc1 hi hc hB1.loc)) hsz⟩
 ·intro i c l hc hm o
  rw [himm]
  rcases hget i c hc with ⟨rfl, rfl⟩ | ⟨hi, hc⟩
  ·rw [hl' l hm]
   rcases hat with e | e
   ·rw [e]; exact h.sep i b lc0 hb hl o
   ·cases hx : M.imm lc'.blk o with
    | none => rfl
    | some v => have := cell_lt (h.imm _ _ _ hx); omega
  ·exact h.sep i c l hc (hloc i c l hi hc hm) o
 ·intro i i' c c' l l2 hc hc' hm hm' e
  rcases hget i c hc with ⟨e1, e2⟩ | ⟨hi, hc1⟩ <;> rcases hget i' c' hc' with ⟨e3, e4⟩ | ⟨hi', hc1'⟩
  ·rw [e1, e3]
  ·exfalso
   subst e1; subst e2
   have e1 := hl' l hm
   have m' := hloc i' c' l2 hi' hc1' hm'
   have x1 := hne i' c' l2 hi' hc1' m'
   have x2 := hlt i' c' l2 hc1' m'
   rw [← e, e1] at x1 x2
   rcases hat with a | a
   ·exact x1 a
   ·omega
  ·exfalso
   subst e3; subst e4
   have e1 := hl' l2 hm'
   have m' := hloc i c l hi hc1 hm
   have x1 := hne i c l hi hc1 m'
   have x2 := hlt i c l hc1 m'
   rw [e, e1] at x1 x2
   rcases hat with a | a
   ·exact x1 a
   ·omega
  ·exact h.inj i i' c c' l l2 hc1 hc1' (hloc i c l hi hc1 hm) (hloc i' c' l2 hi' hc1' hm') e
 ·intro i c g hc hlt'
  cases hx : M'.loc i g with
  | none => rfl
  | some l =>
   exfalso
   cases hy : M.loc i g with
   | none =>
    obtain ⟨rfl, rfl⟩ := honly i g l hx hy
    rcases hget i c hc with ⟨_, rfl⟩ | ⟨hi, _⟩
    ·exact Nat.lt_irrefl _ hlt'
    ·exact hi rfl
   | some l2 =>
    rcases hget i c hc with ⟨rfl, rfl⟩ | ⟨hi, hc⟩
    ·have := h.gen i b g hb (Nat.lt_of_le_of_lt hg hlt')
     rw [this] at hy; cases hy
    ·rw [h.gen i c g hc hlt'] at hy; cases hy
 ·intro k r hr
  obtain ⟨l, h1, h2⟩ := h.lp k r hr
  refine ⟨l, by rw [hlp]; exact h1, h2.kept hle (hother l h2.lt ?_)⟩
  rintro rfl
  have := hB0.obj
  rcases h2.is with ⟨q, hq⟩ | ⟨es, c, hq⟩ <;> simp [World.shape?, hq] at this
 ·intro k k' r r' l h1 h2 h3 h4
  rw [hlp] at h3 h4
  exact h.lpi k k' r r' l h1 h2 h3 h4
 ·refine ⟨hos, hout, hsz, hfz, ?_, ?_, ?_, by simp, Nat.le_refl _, hle, ?_, (fun i c hc => by by_cases e : i = id; (· exact ⟨b', by rw [e]; simp [hidlt]⟩); (· exact ⟨c, by rw [List.getElem?_set_ne (Ne.symm e)]; exact hc⟩)), (fun _ _ _ => by rw [himm]), ?_, fun l q hq => ⟨q, (hother l (Array.getElem?_eq_some_iff.1 hq).1 (by
   rintro rfl
   have := hB0.obj
   simp [World.shape?, hq] at this)).trans hq⟩⟩
  ·intro x hx h1 _
   exact hother x hx (fun e => h1 id b lc0 hb hl e.symm)
  ·intro i c l hc hm hlt'
   rcases hget i c hc with ⟨rfl, rfl⟩ | ⟨hi, hc⟩
   ·refine ⟨b, lc0, hb, hl, ?_⟩
    rw [hl' l hm] at hlt' ⊢
    rcases hat with e | e
    ·exact e.symm
    ·omega
   ·exact ⟨c, l, hc, hloc i c l hi hc hm, rfl⟩
  ·intro k r l h1 h2 _
   rw [hlp] at h2
   exact ⟨r, h1, h2⟩
  ·intro i g l h1 h0
   obtain ⟨rfl, _⟩ := honly i g l h1 h0
   exact ⟨b', by simp [hidlt]⟩
  ·intro k l h1 h0
   rw [hlp, h0] at h1; cases h1
theorem over_len {l xs l' : List AV} {off : Nat} (h : over l off xs = some l') : l'.length = l.length ∧ off + xs.length ≤ l.length := by
 unfold over at h
 split at h
 ·cases h
  simp
  omega
 ·cases h
theorem gt_over {l xs l' : List AV} {off : Nat} (h : over l off xs = some l') (i : Nat) :
  gt l' i = if off ≤ i ∧ i < off + xs.length then gt xs (i - off) else gt l i := by
 unfold over at h
 split at h
 ·rename_i hle
  cases h
  simp only [gt_eq, List.getD, List.append_assoc]
  by_cases h1 : i < off
  ·rw [List.getElem?_append_left (by simp; omega), if_neg (by omega), List.getElem?_take, if_pos h1]
  ·rw [List.getElem?_append_right (by simp; omega)]
   simp only [List.length_take]
   rw [Nat.min_eq_left (by omega)]
   by_cases h2 : i < off + xs.length
   ·rw [List.getElem?_append_left (by omega), if_pos ⟨by omega, h2⟩]
   ·rw [List.getElem?_append_right (by omega), if_neg (by omega), List.getElem?_drop]
    congr 2
    omega
 ·cases h
theorem wrote [Globs] {P : Program} {M : Mp} {H : Hp} {L : List (Option ALoop)} {w : World} (h : Holds P M H L w) {id off : Nat} {b : Blk} {lc : Loc}
  (hb : H[id]? = some (some b)) (hl : M.loc id b.gen = some lc) {xs cs : List AV} {vs : List Value} (hx : RVs M xs vs.toArray) (h1 : ∀ v ∈ vs, v.oneCell' = true) (ho : over b.cells off xs = some cs) :
  let w' := w.setCells lc.blk (lc.base + off) vs
  Holds P M (setBlk H id b.gen cs) L w' ∧ Fr M H L w M (setBlk H id b.gen cs) L w' := by
 intro w'
 obtain ⟨lc0, hB⟩ := h.blk id b hb
 have e0 : lc0 = lc := by have := hB.loc; rw [hl] at this; exact (Option.some.inj this).symm
 subst e0
 obtain ⟨hlen, hin⟩ := over_len ho
 have hxl : xs.length = vs.length := by simpa using hx.len
 have hthere : ∀ j, j < vs.length → (w.cell? ⟨lc0.blk, lc0.base + off + j, none⟩).isSome = true := fun j hj => by
  have := hB.there (off + j) (by have := hB.room; omega)
  rwa [← Nat.add_assoc] at this
 have hsome : ∀ x : Addr, (w.cell? x).isSome = true → (w'.cell? x).isSome = true := fun x hx => World.isSome_setCells lc0.blk vs (lc0.base + off) w x hx
 refine moved (M' := M) (b' := ⟨b.gen, cs⟩) (lc' := lc0) h hb hl (Mp.le.refl M) rfl rfl (fun i g l a c => by rw [a] at c; cases c) (Nat.le_refl _) ?_ (.inl rfl)
  (fun x _ hne => setCells_other lc0.blk vs _ w x hne) (fun a => World.frozen?_setCells lc0.blk vs _ w a) (setCells_os _ _ _ _).1 (setCells_os _ _ _ _).2 (by rw [setCells_size]; exact Nat.le_refl _)
 refine ⟨hl, by rw [hB.len]; exact hlen.symm, by show cs.length ≤ _; rw [hlen]; exact hB.room, fun i hi => hsome _ (hB.there i hi), ?_, fun o => (World.frozen?_setCells lc0.blk vs _ w _).trans (hB.froz o),
  by show _ < w'.heap.size; rw [setCells_size]; exact hB.lt, ?_⟩
 ·intro i hi
  have hi0 : i < b.cells.length := by rw [← hlen]; exact hi
  rw [gt_over ho i]
  by_cases hr : off ≤ i ∧ i < off + xs.length
  ·rw [if_pos hr]
   have hj : i - off < vs.length := by omega
   have hc := World.cell?_setCells_in lc0.blk vs (lc0.base + off) w hthere (i - off) hj
   rw [show lc0.base + off + (i - off) = lc0.base + i by omega] at hc
   refine ⟨vs[i - off], hc, ?_, h1 _ (List.getElem_mem hj)⟩
   have := hx.rel (i - off)
   rwa [ag_of_lt (by simpa using hj), List.getElem_toArray] at this
  ·rw [if_neg hr]
   obtain ⟨v, a1, a2, a3⟩ := hB.rel i hi0
   refine ⟨v, ?_, a2, a3⟩
   rw [World.cell?_setCells_out lc0.blk vs _ w _ (fun _ _ => by simp only; omega)]
   exact a1
 ·have hne := hB.obj
  have : ∀ (vs : List Value) (o : Nat) (w : World), (w.shape? lc0.blk).isSome = true → ((w.setCells lc0.blk o vs).shape? lc0.blk).isSome = true := by
   intro vs
   induction vs with
   | nil => intro o w h; exact h
   | cons v r ih =>
    intro o w h
    rw [World.setCells]
    refine ih _ _ ?_
    simp only [World.shape?, World.setCell, Array.getElem?_modify, if_pos]
    simp only [World.shape?] at h
    cases hh : w.heap[lc0.blk]? with
    | none => simp [hh] at h
    | some o' => cases o' <;> simp_all
  exact this vs _ w hne
theorem look_eq {H : Hp} {id g : Nat} {l : List AV} (h : look H id g = some l) : H[id]? = some (some ⟨g, l⟩) := by
 unfold look at h
 split at h
 ·rename_i b hb
  split at h
  ·rename_i e
   cases h
   rw [hb]
   cases b
   simp_all
  ·cases h
 ·cases h
theorem stored [Globs] {P : Program} {M : Mp} {H H' : Hp} {L : List (Option ALoop)} {w : World} (h : Holds P M H L w) {id g off : Nat} {lc : Loc} (hl : M.loc id g = some lc)
  {xs : List AV} {vs : List Value} (hx : RVs M xs vs.toArray) (h1 : ∀ v ∈ vs, v.oneCell' = true) (hs : storeAt H id g off xs = some H') :
  (∀ j, j < vs.length → (w.cell? ⟨lc.blk, lc.base + off + j, none⟩).isSome = true) ∧ (∀ o, w.frozen? ⟨lc.blk, o, none⟩ = false) ∧
  Holds P M H' L (w.setCells lc.blk (lc.base + off) vs) ∧ Fr M H L w M H' L (w.setCells lc.blk (lc.base + off) vs) := by
 unfold storeAt at hs
 cases hk : look H id g with
 | none => simp [hk] at hs
 | some l =>
  cases ho : over l off xs with
  | none => simp [hk, ho] at hs
  | some cs =>
   simp [hk, ho] at hs
   subst hs
   have hb := look_eq hk
   obtain ⟨lc0, hB⟩ := h.blk id _ hb
   have e0 : lc0 = lc := by have := hB.loc; simp only at this; rw [hl] at this; exact (Option.some.inj this).symm
   subst e0
   have := wrote (off := off) h hb hl hx h1 ho
   obtain ⟨hlen, hin⟩ := over_len ho
   have hxl : xs.length = vs.length := by simpa using hx.len
   refine ⟨fun j hj => ?_, hB.froz, this⟩
   have := hB.there (off + j) (by have := hB.room; simp only at this; omega)
   rwa [← Nat.add_assoc] at this
end Go.Zz


namespace Go.Zz
def CellsAt [Globs] (M : Mp) (w : World) (b o : Nat) (l : List AV) : Prop :=
 ∃ f : Nat → Value, ∀ i, i < l.length → w.cell? ⟨b, o + i, none⟩ = some (f i) ∧ RV M (gt l i) (f i) ∧ (f i).oneCell' = true
theorem cellsAt_blk [Globs] {P : Program} {M : Mp} {H : Hp} {L : List (Option ALoop)} {w : World} (h : Holds P M H L w) {id g : Nat} {l : List AV} {lc : Loc} (hk : look H id g = some l) (hl : M.loc id g = some lc) :
  CellsAt M w lc.blk lc.base l := by
 obtain ⟨lc0, hB⟩ := h.blk id _ (look_eq hk)
 have e0 : lc0 = lc := by have := hB.loc; simp only at this; rw [hl] at this; exact (Option.some.inj this).symm
 subst e0
 refine ⟨fun i => (w.cell? ⟨lc0.blk, lc0.base + i, none⟩).getD undef, fun i hi => ?_⟩
 obtain ⟨v, h1, h2, h3⟩ := hB.rel i hi
 simp only [h1, Option.getD_some]
 exact ⟨trivial, h2, h3⟩
theorem cellsAt_imm [Globs] {P : Program} {M : Mp} {H : Hp} {L : List (Option ALoop)} {w : World} (h : Holds P M H L w) {b o : Nat} {l : List AV} {f : Nat → Value}
  (hi : ∀ i, i < l.length → M.imm b (o + i) = some (f i)) (hr : ∀ i, i < l.length → RV M (gt l i) (f i)) (h1 : ∀ i, i < l.length → (f i).oneCell' = true) : CellsAt M w b o l :=
 ⟨f, fun i hlt => ⟨h.imm _ _ _ (hi i hlt), hr i hlt, h1 i hlt⟩⟩
theorem CellsAt.drop [Globs] {M : Mp} {w : World} {b o : Nat} {l : List AV} (h : CellsAt M w b o l) (k : Nat) : CellsAt M w b (o + k) (l.drop k) := by
 obtain ⟨f, hf⟩ := h
 refine ⟨fun i => f (k + i), fun i hi => ?_⟩
 rw [List.length_drop] at hi
 obtain ⟨h1, h2, h3⟩ := hf (k + i) (by omega)
 refine ⟨by rw [Nat.add_assoc]; exact h1, ?_, h3⟩
 rw [gt_eq] at h2 ⊢
 simpa [List.getD, List.getElem?_drop] using h2
theorem CellsAt.take [Globs] {M : Mp} {w : World} {b o : Nat} {l : List AV} (h : CellsAt M w b o l) (k : Nat) : CellsAt M w b o (l.take k) := by
 obtain ⟨f, hf⟩ := h
 refine ⟨f, fun i hi => ?_⟩
 rw [List.length_take] at hi
 obtain ⟨h1, h2, h3⟩ := hf i (by omega)
 refine ⟨h1, ?_, h3⟩
 rw [gt_eq] at h2 ⊢
 simpa [List.getD, List.getElem?_take, show i < k by omega] using h2
theorem CellsAt.list [Globs] {M : Mp} {w : World} {b o : Nat} {l : List AV} (h : CellsAt M w b o l) :
  ∃ vs : List Value, vs.length = l.length ∧ (∀ j v, vs[j]? = some v → w.cell? ⟨b, o + j, none⟩ = some v) ∧ RVs M l vs.toArray ∧ ∀ v ∈ vs, v.oneCell' = true := by
 obtain ⟨f, hf⟩ := h
 refine ⟨(List.range l.length).map f, by simp, ?_, ?_, ?_⟩
 ·intro j v hv
  rw [List.getElem?_map] at hv
  by_cases hj : j < l.length
  ·simp [hj] at hv
   rw [← hv]
   exact (hf j hj).1
  ·simp [hj] at hv
 ·refine RVs.of_lt (by simp) fun i h1 h2 => ?_
  have := (hf i h1).2.1
  rw [gt_of_lt h1] at this
  simpa using this
 ·intro v hv
  obtain ⟨i, hi, rfl⟩ := List.mem_map.1 hv
  exact (hf i (by simpa using hi)).2.2
theorem cut_eq {l l' : List AV} {off n : Nat} (h : cut l off n = some l') : l' = (l.drop off).take n ∧ off + n ≤ l.length := by
 unfold cut at h
 split at h
 ·cases h; exact ⟨rfl, by assumption⟩
 ·cases h
theorem agg_of_list [Globs] {M : Mp} {l : List AV} {vs : List Value} (h : RVs M l vs.toArray) (h1 : ∀ v ∈ vs, v.oneCell' = true) : RV M (.agg l) (.agg vs.toArray) :=
 .agg l vs.toArray h.len h.rel (by simpa using h1)
theorem szOf_eq {P : Program} {t : TypeId} {s : Nat} (h : szOf P t = some s) : ∃ i, P.info? t = some i ∧ i.size = s ∧ 0 < s := by
 unfold szOf at h
 cases hi : P.info? t with
 | none => simp [hi] at h
 | some i =>
  simp [hi] at h
  exact ⟨i, rfl, h.2, h.2 ▸ h.1⟩
theorem aggOf_eq {P : Program} {t : TypeId} {g : Bool} (h : aggOf P t = some g) : ∃ d, P.underlying t = some d ∧ g = d.isRow := by
 unfold aggOf at h
 cases hi : P.underlying t with
 | none => simp [hi] at h
 | some d =>
  simp [hi] at h
  refine ⟨d, rfl, ?_⟩
  rw [← h]
  cases d <;> rfl
theorem run_isAgg {P : Program} {t : TypeId} {d : TypeDesc} (h : P.underlying t = some d) (w : World) : (isAgg t).run P w = .ok d.isRow w := by
 unfold isAgg
 rw [Sem.run_bind, run_underlying h w]
 cases d <;> rfl
theorem run_load [Globs] {P : Program} {M : Mp} {w : World} {b o off : Nat} {l : List AV} (hc : CellsAt M w b o l) {t : TypeId} {g : Bool} {s : Nat} (hg : aggOf P t = some g) (hs : szOf P t = some s)
  {x : AV} (hx : loadCs g s l off = some x) : ∃ v, (loadVar t ⟨b, o + off, none⟩).run P w = .ok v w ∧ RV M x v := by
 obtain ⟨d, hd, rfl⟩ := aggOf_eq hg
 obtain ⟨i, hi, hsz, hpos⟩ := szOf_eq hs
 unfold loadCs at hx
 split at hx
 ·rename_i hrow
  cases hcut : cut l off s with
  | none => simp [hcut] at hx
  | some l' =>
   simp [hcut] at hx
   subst hx
   obtain ⟨rfl, hin⟩ := cut_eq hcut
   obtain ⟨vs, h1, h2, h3, h4⟩ := ((hc.drop off).take s).list
   refine ⟨.agg vs.toArray, ?_, agg_of_list h3 h4⟩
   refine run_loadVar_mid (P := P) w b (o + off) t vs d (fun j v hv => h2 j v hv) hd hrow ?_
   simp [hi, hsz, h1]
   omega
 ·rename_i hrow
  obtain ⟨f, hf⟩ := hc
  have hlt : off < l.length := (List.getElem?_eq_some_iff.1 hx).1
  obtain ⟨h1, h2, _⟩ := hf off hlt
  refine ⟨f off, ?_, by rw [gt_of_some hx] at h2; exact h2⟩
  have : d.isRow = false := by simpa using hrow
  simp [loadVar, run_isAgg hd, this, load, Sem.run, h1]
theorem scells_at [Globs] {P : Program} {M : Mp} {H : Hp} {L : List (Option ALoop)} {w : World} (h : Holds P M H L w) {s : AV} {v : Value} (hv : RV M s v) {sz n : Nat} {xs : List AV}
  (hx : scells H sz s = some xs) (hn : slen s = some n) : xs.length = n * sz ∧ ((s = .snil ∧ v = .slice none 0 0 ∧ xs = [] ∧ n = 0) ∨
   (s ≠ .snil ∧ ∃ b o cap, v = .slice (some ⟨b, o, none⟩) n cap ∧ CellsAt M w b o xs)) := by
 cases hv with
 | snil => simp [scells, slen] at hx hn; subst hx; subst hn; simp
 | sval full len l b o cap f hc hf hi hr h1 =>
  simp [scells, slen] at hx hn
  obtain ⟨e, rfl⟩ := hx
  subst hn
  exact ⟨e, .inr ⟨by simp, b, o, cap, rfl, cellsAt_imm h hi hr h1⟩⟩
 | sref id g off sz' len cap lc ccap hl hc hr he ho =>
  simp [scells, slen] at hx hn
  obtain ⟨rfl, hx⟩ := hx
  subst hn
  cases hk : look H id g with
  | none => simp [hk] at hx
  | some l =>
   simp [hk] at hx
   obtain ⟨rfl, hin⟩ := cut_eq hx
   refine ⟨by simp; omega, .inr ⟨by simp, lc.blk, lc.base + off, ccap, rfl, ?_⟩⟩
   exact ((cellsAt_blk h hk hl).drop off).take (len * sz')
 | _ => simp [scells] at hx
theorem firstCells_at [Globs] {M : Mp} {w : World} {b o n sz : Nat} {xs : List AV} (hl : xs.length = n * sz) (hc : CellsAt M w b o xs) :
  ∃ vs : List Value, vs.length = n * sz ∧ (∀ j v, vs[j]? = some v → w.cell? ((⟨b, o, none⟩ : Addr).add j) = some v) ∧ RVs M xs vs.toArray ∧ ∀ v ∈ vs, v.oneCell' = true := by
 obtain ⟨vs, h1, h2, h3, h4⟩ := hc.list
 refine ⟨vs, by omega, fun j v hv => ?_, h3, h4⟩
 rw [Addr.add_mid]
 exact h2 j v hv
theorem sig_row {P : Program} : ∀ {d : Nat} {t : TypeId} {sg : List Bool}, sigOf P d t = some sg → ∃ D i, P.underlying t = some D ∧ P.info? t = some i ∧ i.size = sg.length ∧
   (D.isRow = false → (D = .bool ∧ sg = [false]) ∨ ((∃ k, D = .int k) ∧ sg = [true]))
 | 0, _, _, h => by simp [sigOf] at h
 | d + 1, t, sg, h => by
  unfold sigOf at h
  split at h
  ·rename_i i h1 h2
   split at h
   ·cases h; exact ⟨_, i, h1, h2, by simpa, fun _ => .inl ⟨rfl, rfl⟩⟩
   ·cases h
  ·rename_i k i h1 h2
   split at h
   ·cases h; exact ⟨_, i, h1, h2, by simpa, fun _ => .inr ⟨⟨k, rfl⟩, rfl⟩⟩
   ·cases h
  ·rename_i fs i h1 h2
   split at h
   ·cases h
   ·split at h
    ·split at h
     ·rename_i e
      cases h
      exact ⟨_, i, h1, h2, e.symm, fun hr => by simp at hr⟩
     ·cases h
    ·cases h
  ·rename_i n e i h1 h2
   split at h
   ·rename_i x0 se0 hse
    split at h
    ·rename_i e'
     cases h
     refine ⟨_, i, h1, h2, ?_, fun hr => by simp at hr⟩
     rw [← e']
     generalize x0 :: se0 = se
     clear e' h1 h2 hse
     induction n with
     | zero => simp [reps]
     | succ n ih => simp [reps, ← ih, Nat.add_mul]; omega
    ·cases h
   ·cases h
  ·cases h
def IsVal (P : Program) (t : TypeId) (vs : List Value) (v : Value) : Prop :=
 ∃ D, P.underlying t = some D ∧ ((D.isRow = true ∧ v = .agg vs.toArray) ∨ (D.isRow = false ∧ vs = [v]))
theorem run_part {P : Program} {w : World} {d : Nat} {t : TypeId} {sg : List Bool} (h : sigOf P d t = some sg) {vs : List Value} {off : Nat} (hin : off + sg.length ≤ vs.length) :
  ∃ v, (part t vs.toArray off).run P w = .ok v w ∧ IsVal P t ((vs.drop off).take sg.length) v := by
 obtain ⟨D, i, h1, h2, h3, h4⟩ := sig_row h
 cases hr : D.isRow with
 | true =>
  refine ⟨.agg ((vs.drop off).take sg.length).toArray, ?_, D, h1, .inl ⟨hr, rfl⟩⟩
  simp only [part, Sem.run_bind, run_isAgg h1, hr, Result.andThen_ok, if_true]
  simp only [sizeOf, typeInfo, Sem.run_bind, run_program, h2, Result.andThen_ok, Sem.run_pure]
  congr 2
  rw [h3]
  apply Array.ext'
  simp [List.take_drop]
 | false =>
  have hl : sg.length = 1 := by rcases h4 hr with ⟨_, rfl⟩ | ⟨_, rfl⟩ <;> rfl
  have hlt : off < vs.length := by omega
  refine ⟨vs[off], ?_, D, h1, .inr ⟨hr, ?_⟩⟩
  ·simp only [part, Sem.run_bind, run_isAgg h1, hr, Result.andThen_ok]
   simp [hlt]
  ·rw [hl, List.drop_eq_getElem_cons hlt]
   rfl
theorem cellsEq_split : ∀ {s1 s2 : List Bool} {l r : List AV} {q : Bool}, cellsEq (s1 ++ s2) l r = some q →
  ∃ q1 q2, cellsEq s1 (l.take s1.length) (r.take s1.length) = some q1 ∧ cellsEq s2 (l.drop s1.length) (r.drop s1.length) = some q2 ∧ q = (q1 && q2)
 | [], s2, l, r, q, h => ⟨true, q, by simp [cellsEq], by simpa using h, by simp⟩
 | k :: s1, s2, l, r, q, h => by
  cases l with
  | nil => simp [cellsEq] at h
  | cons x l => cases r with
   | nil => simp [cellsEq] at h
   | cons y r =>
    simp only [List.cons_append, cellsEq] at h
    cases hc : cellEq k x y with
    | none => simp [hc] at h
    | some c =>
     simp only [hc] at h
     cases hr : cellsEq (s1 ++ s2) l r with
     | none => simp [hr] at h
     | some q' =>
      simp [hr] at h
      obtain ⟨q1, q2, h1, h2, h3⟩ := cellsEq_split hr
      refine ⟨c && q1, q2, by simp [cellsEq, hc, h1], by simpa using h2, ?_⟩
      rw [← h, h3, Bool.and_assoc]
theorem cellsEq_len : ∀ {s : List Bool} {l r : List AV} {q : Bool}, cellsEq s l r = some q → l.length = s.length ∧ r.length = s.length
 | [], [], [], _, _ => ⟨rfl, rfl⟩
 | k :: s, x :: l, y :: r, q, h => by
  simp only [cellsEq] at h
  cases hc : cellEq k x y with
  | none => simp [hc] at h
  | some c =>
   simp only [hc] at h
   cases hr : cellsEq s l r with
   | none => simp [hr] at h
   | some q' => have := cellsEq_len hr; simp [this]
 | [], _ :: _, _, _, h => by simp [cellsEq] at h
 | [], [], _ :: _, _, h => by simp [cellsEq] at h
 | _ :: _, [], _, _, h => by simp [cellsEq] at h
 | _ :: _, _ :: _, [], _, h => by simp [cellsEq] at h
theorem RVs.drop [Globs] {M : Mp} {l : List AV} {vs : List Value} (h : RVs M l vs.toArray) (k : Nat) : RVs M (l.drop k) (vs.drop k).toArray := by
 refine RVs.of_lt (by have := h.len; simp at this; simp [this]) fun i h1 h2 => ?_
 have := h.rel (k + i)
 simp at h1 h2
 rw [gt_of_lt (by omega), ag_of_lt (by simp; omega)] at this
 simpa using this
theorem RVs.take [Globs] {M : Mp} {l : List AV} {vs : List Value} (h : RVs M l vs.toArray) (k : Nat) : RVs M (l.take k) (vs.take k).toArray := by
 refine RVs.of_lt (by have := h.len; simp at this; simp [this]) fun i h1 h2 => ?_
 have := h.rel i
 simp at h1 h2
 rw [gt_of_lt (by omega), ag_of_lt (by simp; omega)] at this
 simpa using this
theorem run_eq [Globs] {P : Program} {M : Mp} {w : World} : ∀ {k : Nat} {t : TypeId} {sg : List Bool}, sigOf P k t = some sg → ∀ (d : Nat), k ≤ d → ∀ (l l' : List AV) (vs vs' : List Value) (v v' : Value) (r : Bool),
  RVs M l vs.toArray → RVs M l' vs'.toArray → cellsEq sg l l' = some r → IsVal P t vs v → IsVal P t vs' v' → (Op.equalIn d t v v').run P w = .ok r w
 | 0, _, _, h => by simp [sigOf] at h
 | k + 1, t, sg, h => by
  intro d hkd l l' vs vs' v v' r hl hl' hr hv hv'
  obtain ⟨d, rfl⟩ : ∃ e, d = e + 1 := ⟨d - 1, by omega⟩
  have hkd' : k ≤ d := by omega
  obtain ⟨D, i, h1, h2, h3, h4⟩ := sig_row h
  obtain ⟨D1, e1, hv⟩ := hv
  obtain ⟨D2, e2, hv'⟩ := hv'
  rw [h1] at e1 e2
  cases e1
  cases e2
  cases hrow : D.isRow with
  | false =>
   simp [hrow] at hv hv'
   subst hv; subst hv'
   rcases h4 hrow with ⟨rfl, rfl⟩ | ⟨⟨k', rfl⟩, rfl⟩
   ·have hlen := cellsEq_len hr
    obtain ⟨x, rfl⟩ := List.length_eq_one_iff.1 hlen.1
    obtain ⟨y, rfl⟩ := List.length_eq_one_iff.1 hlen.2
    have hx := hl.rel 0
    have hy := hl'.rel 0
    simp [gt, ag] at hx hy
    simp only [cellsEq] at hr
    unfold cellEq at hr
    cases x <;> cases y <;> simp at hr
    cases hx; cases hy
    subst hr
    exact run_equalIn_bool w d t _ _ h1
   ·have hlen := cellsEq_len hr
    obtain ⟨x, rfl⟩ := List.length_eq_one_iff.1 hlen.1
    obtain ⟨y, rfl⟩ := List.length_eq_one_iff.1 hlen.2
    have hx := hl.rel 0
    have hy := hl'.rel 0
    simp [gt, ag] at hx hy
    simp only [cellsEq] at hr
    unfold cellEq at hr
    cases x <;> cases y <;> simp at hr
    split at hr
    ·rename_i k2 b ek
     simp at hr
     split at ek
     ·rename_i e5
      subst e5
      cases ek
      cases hx; cases hy
      subst hr
      exact run_equalIn_int w d t _ _ _ _ h1
     ·cases ek
    ·cases hr
  | true =>
   simp [hrow] at hv hv'
   subst hv; subst hv'
   have hlen := cellsEq_len hr
   unfold sigOf at h
   rw [h1, h2] at h
   cases D <;> simp at hrow h
   ·rename_i n e
    cases hse : sigOf P k e with
    | none => simp [hse] at h
    | some se =>
     cases se with
     | nil => simp [hse] at h
     | cons x0 se0 =>
     simp [hse] at h
     obtain ⟨hsz, rfl⟩ := h
     obtain ⟨se, hpos, esa⟩ : ∃ se : List Bool, 0 < se.length ∧ se = x0 :: se0 := ⟨_, by simp, rfl⟩
     rw [← esa] at hse hr
     obtain ⟨De, ie, g1, g2, g3, _⟩ := sig_row hse
     rw [run_equalIn_array w d vs.toArray vs'.toArray h1 g2]
     have hcells : P.cellsOf e = se.length := by simp [Program.cellsOf, g2, g3]
     rw [hcells]
     have hvl : vs.length = l.length := by have := hl.len; simp at this; omega
     have hvl' : vs'.length = l'.length := by have := hl'.len; simp at this; omega
     have key : ∀ m j q, cellsEq (reps se m) (l.drop (j * se.length)) (l'.drop (j * se.length)) = some q → (Op.eqItems d e se.length vs.toArray vs'.toArray (List.range' j m)).run P w = .ok q w := by
      intro m
      induction m with
      | zero =>
       intro j q hq
       have : q = true := by
        simp only [reps] at hq
        have := cellsEq_len hq
        simp at this
        cases hd : l.drop (j * se.length) <;> cases hd' : l'.drop (j * se.length) <;> simp [hd, hd', cellsEq] at hq
        exact hq
       subst this
       simp [Op.eqItems]
      | succ m ih =>
       intro j q hq
       simp only [reps] at hq
       obtain ⟨q1, q2, a1, a2, rfl⟩ := cellsEq_split hq
       have b1 := cellsEq_len a1
       simp at b1
       generalize hJ : j * se.length = J at *
       obtain ⟨u, p1, p2⟩ := run_part (w := w) hse (vs := vs) (off := J) (by omega)
       obtain ⟨u', p1', p2'⟩ := run_part (w := w) hse (vs := vs') (off := J) (by omega)
       have := run_eq (w := w) hse d hkd' _ _ _ _ _ _ _ ((hl.drop _).take _) ((hl'.drop _).take _) a1 p2 p2'
       rw [List.drop_drop, List.drop_drop] at a2
       have e3 : J + se.length = (j + 1) * se.length := by rw [Nat.add_mul, Nat.one_mul, hJ]
       rw [e3] at a2
       have ih' := ih (j + 1) q2 a2
       simp only [List.range'_succ, Op.eqItems, Sem.run_bind, hJ, p1, p1', this, Result.andThen_ok]
       cases q1
       ·simp
       ·simpa using ih'
     have := key n 0 r (by simpa using hr)
     rwa [← List.range_eq_range'] at this
   ·rename_i fs
    obtain ⟨hst, h⟩ := h
    cases hsf : sigFs (sigOf P k) fs.toList 0 with
    | none => simp [hsf] at h
    | some sg' =>
     simp [hsf] at h
     obtain ⟨hsz, rfl⟩ := h
     have hfo : P.fieldsOf t = fs := by simp [Program.fieldsOf, h1]
     rw [run_equalIn_struct w d t vs.toArray vs'.toArray (by rw [hfo]; exact h1) hst, hfo]
     have hvl : vs.length = l.length := by have := hl.len; simp at this; omega
     have hvl' : vs'.length = l'.length := by have := hl'.len; simp at this; omega
     have key : ∀ (F : List Field) o sgs q, sigFs (sigOf P k) F o = some sgs → cellsEq sgs (l.drop o) (l'.drop o) = some q → (Op.eqFields d vs.toArray vs'.toArray F).run P w = .ok q w := by
      intro F
      induction F with
      | nil =>
       intro o sgs q hs hq
       simp [sigFs] at hs
       subst hs
       have : q = true := by
        cases hd : l.drop o <;> cases hd' : l'.drop o <;> simp [hd, hd', cellsEq] at hq
        exact hq
       subst this
       simp [Op.eqFields]
      | cons f F ih =>
       intro o sgs q hs hq
       unfold sigFs at hs
       split at hs
       ·rename_i hn
        split at hs
        ·rename_i x0 sa0 hsa
         obtain ⟨sa, hpos, esa⟩ : ∃ sa : List Bool, 0 < sa.length ∧ sa = x0 :: sa0 := ⟨_, by simp, rfl⟩
         rw [← esa] at hsa hs
         split at hs
         ·rename_i sb hsb
          cases hs
          obtain ⟨q1, q2, a1, a2, rfl⟩ := cellsEq_split hq
          have b1 := cellsEq_len a1
          simp at b1
          obtain ⟨hn1, hn2⟩ := hn
          have hz : 0 < sa.length := hpos
          obtain ⟨u, p1, p2⟩ := run_part (w := w) hsa (vs := vs) (off := o) (by omega)
          obtain ⟨u', p1', p2'⟩ := run_part (w := w) hsa (vs := vs') (off := o) (by omega)
          have := run_eq (w := w) hsa d hkd' _ _ _ _ _ _ _ ((hl.drop _).take _) ((hl'.drop _).take _) a1 p2 p2'
          rw [List.drop_drop, List.drop_drop] at a2
          have ih' := ih (o + sa.length) sb q2 hsb a2
          simp only [Op.eqFields, Sem.run_ite, if_pos hn1, Sem.run_bind, hn2, p1, p1', this, Result.andThen_ok]
          cases q1
          ·simp
          ·simpa using ih'
         ·cases hs
        ·cases hs
       ·cases hs
     exact key fs.toList 0 sg' r hsf (by simpa using hr)
end Go.Zz


namespace Go.Zz
theorem zeroOf_eq {P : Program} {t : TypeId} {l : List AV} (h : zeroOf P t = some l) : ∃ i z, P.info? t = some i ∧ i.zero = some z ∧ cCells z.cells.toList = some l ∧ l.length = i.size ∧ 0 < i.size := by
 unfold zeroOf at h
 cases hi : P.info? t with
 | none => simp [hi] at h
 | some i =>
  simp only [hi, Option.bind_some] at h
  cases hz : i.zero with
  | none => simp [hz] at h
  | some z =>
   simp only [hz] at h
   cases hc : cCells z.cells.toList with
   | none => simp [hc] at h
   | some l' =>
    simp [hc] at h
    obtain ⟨⟨h1, h2⟩, rfl⟩ := h
    exact ⟨i, z, rfl, hz, hc, h1, h2⟩
theorem rv_one [Globs] {M : Mp} {x : AV} {v : Value} (h : RV M x v) (h1 : ∀ l, x ≠ .agg l) (h2 : ∀ l, x ≠ .tuple l) : v.oneCell' = true ∧ v.cells = #[v] := by
 cases h <;> first | exact ⟨rfl, rfl⟩ | exact absurd rfl (h1 _) | exact absurd rfl (h2 _)
theorem cells_rv [Globs] {M : Mp} {x : AV} {v : Value} (h : RV M x v) {l : List AV} (hl : x.cells = some l) : RVs M l v.cells ∧ ∀ u ∈ v.cells.toList, u.oneCell' = true := by
 unfold AV.cells at hl
 split at hl
 ·cases hl
  cases h with
  | agg l c hlen hr h1 => exact ⟨⟨hlen, hr⟩, h1⟩
 ·cases hl
 ·rename_i h1 h2
  cases hl
  obtain ⟨a, b⟩ := rv_one h h1 (fun l e => h2 l e)
  rw [b]
  refine ⟨⟨rfl, fun i => ?_⟩, by simp [a]⟩
  cases i with
  | zero => simpa [gt, ag] using h
  | succ i => simp [gt, ag]; exact .tup0
theorem ag_foldl (off : Nat) : ∀ (vs : List Value) (k : Nat) (C : Array Value) (i : Nat), off + k + vs.length ≤ C.size →
  ag ((vs.zipIdx k).foldl (fun cs (c, j) => cs.setIfInBounds (off + j) c) C) i = (if off + k ≤ i ∧ i < off + k + vs.length then ag vs.toArray (i - (off + k)) else ag C i) ∧
  ((vs.zipIdx k).foldl (fun cs (c, j) => cs.setIfInBounds (off + j) c) C).size = C.size
 | [], k, C, i, _ => by simp; omega
 | v :: vs, k, C, i, h => by
  simp only [List.length_cons] at h
  have ih := ag_foldl off vs (k + 1) (C.setIfInBounds (off + k) v) i (by simp; omega)
  simp only [List.zipIdx_cons, List.foldl_cons, List.length_cons]
  refine ⟨?_, by rw [ih.2]; simp⟩
  rw [ih.1, ag_put]
  by_cases h1 : i = off + k
  ·rw [if_neg (by omega), if_pos ⟨h1, by omega⟩, if_pos (by omega), h1]
   simp [ag]
  ·by_cases h2 : off + (k + 1) ≤ i ∧ i < off + (k + 1) + vs.length
   ·rw [if_pos h2, if_pos (by omega)]
    obtain ⟨j, hj⟩ : ∃ j, i - (off + k) = j + 1 := ⟨i - (off + k) - 1, by omega⟩
    rw [hj, show i - (off + (k + 1)) = j by omega]
    simp [ag]
   ·rw [if_neg h2, if_neg (fun e => h1 e.1), if_neg (by omega)]
theorem cParts_nil [Globs] {place : Nat → Option (Nat × Nat)} {ps : List (Nat × Nat × Opd)} (h : cParts place [] = some ps) : ps = [] := by cases h; rfl
theorem fill_sound [Globs] {M : Mp} {T : List AV} {a : Act} (hT : RT M T a) (place : Nat → Option (Nat × Nat)) : ∀ (parts : List (Nat × Operand)) (ps : List (Nat × Nat × Opd)), cParts place parts = some ps →
  ∀ (cs out : List AV) (C : Array Value), fillP T cs ps = some out → RVs M cs C → (∀ v ∈ C.toList, v.oneCell' = true) →
  ∃ C', Instr.fill place C (parts.map fun p => (p.1, a.eval p.2)) = some C' ∧ RVs M out C' ∧ (∀ v ∈ C'.toList, v.oneCell' = true) ∧ out.length = cs.length
 | [], ps, hp => by
  intro cs out C hf hC h1
  rw [cParts_nil hp] at hf
  cases hf
  exact ⟨C, rfl, hC, h1, rfl⟩
 | (i, x) :: parts, ps, hp => by
  intro cs out C hf hC h1
  unfold cParts at hp
  split at hp
  ·rename_i o s y l hpl hy hl
   cases hp
   simp only [fillP] at hf
   cases hc : (y.ev T).cells with
   | none => simp [hc] at hf
   | some c =>
    simp only [hc, Option.bind_eq_bind, Option.bind_some] at hf
    split at hf
    ·rename_i hsz
     cases ho : over cs o c with
     | none => simp [ho] at hf
     | some cs' =>
      simp only [ho, Option.bind_some] at hf
      obtain ⟨r1, r2⟩ := cells_rv (rv_opd hT hy) hc
      obtain ⟨l1, l2⟩ := over_len ho
      have hcl : c.length = (a.eval x).cells.size := r1.len
      have hfold := fun i => ag_foldl o (a.eval x).cells.toList 0 C i (by have := hC.len; simp; omega)
      simp only [Nat.add_zero] at hfold
      have hC' : RVs M cs' (((a.eval x).cells.toList.zipIdx).foldl (fun cs (c, j) => cs.setIfInBounds (o + j) c) C) := by
       refine ⟨by rw [(hfold 0).2, l1, hC.len], fun i => ?_⟩
       rw [(hfold i).1, gt_over ho i]
       simp only [Array.length_toList, Array.toArray_toList, hcl]
       split
       ·exact r1.rel _
       ·exact hC.rel i
      have h1' : ∀ v ∈ (((a.eval x).cells.toList.zipIdx).foldl (fun cs (c, j) => cs.setIfInBounds (o + j) c) C).toList, v.oneCell' = true := by
       intro v hv
       obtain ⟨j, hj, rfl⟩ := List.getElem_of_mem hv
       have hjs : j < C.size := by rw [Array.length_toList, (hfold 0).2] at hj; exact hj
       have e := (hfold j).1
       rw [ag_of_lt (by rw [(hfold 0).2]; exact hjs)] at e
       rw [Array.getElem_toList, e]
       split
       ·rename_i hr
        rw [Array.toArray_toList, ag_of_lt (by simp at hr; omega)]
        exact r2 _ (by simp)
       ·rw [ag_of_lt hjs]; exact h1 _ (by simp)
      obtain ⟨C', g1, g2, g3, g4⟩ := fill_sound hT place parts l hl cs' out _ hf hC' h1'
      refine ⟨C', ?_, g2, g3, by rw [g4, l1]⟩
      simp only [List.map_cons, Instr.fill, hpl]
      have hx : ¬ ((decide ((a.eval x).cells.size ≠ s) || decide (o + (a.eval x).cells.size > C.size)) = true) := by
       have := hC.len
       simp
       omega
      rw [if_neg hx, ← g1]
      congr 1
      rw [← Array.foldl_toList, Array.toList_zipIdx]
    ·cases hf
  ·cases hp
theorem zeros_len (z : List AV) (n : Nat) : (zeros z n).length = n * z.length := by
 induction n with
 | zero => simp [zeros]
 | succ n ih => simp [zeros, ih, Nat.add_mul]; omega
theorem gt_append (l r : List AV) (i : Nat) : gt (l ++ r) i = if i < l.length then gt l i else gt r (i - l.length) := by
 simp only [gt_eq, List.getD, List.getElem?_append]
 split <;> rfl
theorem gt_zeros (z : List AV) (hz : 0 < z.length) : ∀ (n i : Nat), i < n * z.length → gt (zeros z n) i = gt z (i % z.length)
 | 0, i, h => by simp at h
 | n + 1, i, h => by
  simp only [zeros]
  rw [gt_append]
  split
  ·rename_i hlt; rw [Nat.mod_eq_of_lt hlt]
  ·rename_i hge
   rw [gt_zeros z hz n (i - z.length) (by rw [Nat.add_mul] at h; omega)]
   congr 1
   rw [← Nat.mod_eq_sub_mod (by omega)]
theorem rvs_zeros [Globs] {M : Mp} {z : List AV} {Z : Array Value} (h : RVs M z Z) (h1 : ∀ v ∈ Z.toList, v.oneCell' = true) (hz : 0 < z.length) (n N : Nat) (hN : N = n * z.length) :
  RVs M (zeros z n) ((Array.range N).map (Z[· % Z.size]!)) ∧ ∀ v ∈ ((Array.range N).map (Z[· % Z.size]!)).toList, v.oneCell' = true := by
 subst hN
 have hlen := h.len
 refine ⟨RVs.of_lt (by rw [zeros_len]; simp) fun i h2 h3 => ?_, ?_⟩
 ·rw [zeros_len] at h2
  have e := gt_zeros z hz n i h2
  rw [gt_of_lt (by rw [zeros_len]; exact h2)] at e
  rw [e]
  have hm : i % z.length < z.length := Nat.mod_lt _ hz
  have := h.rel (i % z.length)
  rw [ag_of_lt (by omega)] at this
  have e2 : ((Array.range (n * z.length)).map (Z[· % Z.size]!))[i] = Z[i % z.length] := by
   simp [hlen]
   rw [getElem!_pos]
  rw [e2]
  exact this
 ·intro v hv
  simp only [Array.toList_map, List.mem_map] at hv
  obtain ⟨i, _, rfl⟩ := hv
  have hm : i % Z.size < Z.size := Nat.mod_lt _ (by omega)
  rw [getElem!_pos Z _ hm]
  exact h1 _ (by simp)
def Gives [Globs] (P : Program) (M : Mp) (m m' : Mem) (w : World) (s : Sem Value) (x : AV) : Prop :=
 ∃ v w' M', s.run P w = .ok v w' ∧ RV M' x v ∧ Holds P M' m'.heap m'.loops w' ∧ Fr M m.heap m.loops w M' m'.heap m'.loops w'
theorem Gives.same [Globs] {P : Program} {M : Mp} {m : Mem} {w : World} (h : Holds P M m.heap m.loops w) {s : Sem Value} {x : AV} {v : Value} (hr : s.run P w = .ok v w) (hv : RV M x v) : Gives P M m m w s x :=
 ⟨v, w, M, hr, hv, h, Fr.refl _ _ _ _⟩
theorem madePtr [Globs] {P : Program} {M : Mp} {m : Mem} {w : World} (h : Holds P M m.heap m.loops w) (hf : ∀ g, M.loc m.heap.length g = none) {s : Sem Value} (e : TypeId) {l : List AV} {c : Array Value}
  (hr : s.run P w = .ok (.pointer (some ⟨w.heap.size, 0, none⟩)) (w.alloc (.cells c e))) (hc : RVs M l c) (h1 : ∀ v ∈ c.toList, v.oneCell' = true) :
  Gives P M m (newBlk m l) w s (.pref m.heap.length 0 0) := by
 obtain ⟨a1, a2, a3⟩ := made (w' := w.alloc (.cells c e)) h hf l c e rfl rfl rfl (by rw [hc.len]; exact Nat.le_refl _)
  (fun i hi => ⟨hc.rel i, by have : i < c.size := hc.len ▸ hi; rw [ag_of_lt this]; exact h1 _ (by simp)⟩)
 exact ⟨_, _, _, hr, .pref _ _ _ _ a3, a1, a2⟩
theorem madeSl [Globs] {P : Program} {M : Mp} {m : Mem} {w w' : World} (h : Holds P M m.heap m.loops w) (hf : ∀ g, M.loc m.heap.length g = none) {s : Sem Value} (e : TypeId) {l : List AV} {c : Array Value} (sz len ccap : Nat) (cap : Option Nat)
  (hw : w'.heap = w.heap.push (.cells c e)) (hos : w'.os = w.os) (hout : w'.output = w.output)
  (hr : s.run P w = .ok (.slice (some ⟨w.heap.size, 0, none⟩) len ccap) w') (hc : ∀ i, i < l.length → RV M (gt l i) (ag c i) ∧ (ag c i).oneCell' = true) (hl : l.length ≤ c.size)
  (hlen : len ≤ ccap) (hroom : ccap * sz ≤ c.size) (hcap : ∀ k, cap = some k → ccap = k) (hopen : cap = none → l.length ≤ ccap * sz) :
  Gives P M m (newBlk m l) w s (.sref m.heap.length 0 0 sz len cap) := by
 obtain ⟨a1, a2, a3⟩ := made (w' := w') h hf l c e hw hos hout hl hc
 exact ⟨_, _, _, hr, .sref _ _ _ _ _ _ _ _ a3 hlen (by simpa using hroom) hcap (by simpa using hopen), a1, a2⟩
theorem run_newRow {P : Program} (w : World) (e : TypeId) (c : Array Value) : (newRow e c).run P w = .ok ⟨w.heap.size, 0, none⟩ (w.alloc (.cells c e)) := by
 rfl
theorem gives_alloc [Globs] {P : Program} {M : Mp} {m : Mem} {w : World} (h : Holds P M m.heap m.loops w) (hf : ∀ g, M.loc m.heap.length g = none) {e : TypeId} {z : List AV} (hz : zeroOf P e = some z) :
  Gives P M m (newBlk m z) w (Instr.alloc e true (.tuple #[])) (.pref m.heap.length 0 0) := by
 obtain ⟨i, zv, hi, hzv, hc, _, _⟩ := zeroOf_eq hz
 obtain ⟨r1, r2⟩ := rv_cells (M := M) hc
 refine madePtr h hf e (c := zv.cells) ?_ (by simpa using r1) (by simpa using r2)
 simp [Instr.alloc, zeroValue, typeInfo, hi, hzv, newVar, run_newRow]
theorem gives_box [Globs] {P : Program} {M : Mp} {m : Mem} {w : World} (h : Holds P M m.heap m.loops w) (hf : ∀ g, M.loc m.heap.length g = none) (e : TypeId) {x : AV} {v : Value} (hv : RV M x v) {c : List AV} (hc : x.cells = some c) :
  Gives P M m (newBlk m c) w (Instr.box e v) (.pref m.heap.length 0 0) := by
 obtain ⟨r1, r2⟩ := cells_rv hv hc
 refine madePtr h hf e (c := v.cells) ?_ r1 r2
 simp [Instr.box, newVar, run_newRow]
theorem gives_build [Globs] {P : Program} {M : Mp} {m : Mem} {w : World} (h : Holds P M m.heap m.loops w) {T : List AV} {a : Act} (hT : RT M T a) {t : TypeId} {parts : Array (Nat × Operand)} {z : List AV} {ps : List (Nat × Nat × Opd)}
  (hc : cOp P (.build t parts) = some (.build z ps)) {out : List AV} (hf : fillP T z ps = some out) :
  Gives P M m m w (Instr.build t (parts.map fun (i, x) => (i, a.eval x))) (.agg out) := by
 have hlist : (parts.map fun (i, x) => (i, a.eval x)).toList = parts.toList.map fun p => (p.1, a.eval p.2) := by simp
 have key : ∃ C, P.built t ((parts.map fun (i, x) => (i, a.eval x)).toList) = some C ∧ RVs M out C ∧ ∀ v ∈ C.toList, v.oneCell' = true := by
  rw [hlist]
  unfold cOp at hc
  simp only at hc
  split at hc
  ·rename_i z' fs hz hu
   cases hp : cParts (fun i => (fs[i]?).bind fun (f : Field) => (szOf P f.type).map fun s => (f.offset, s)) parts.toList with
   | none => simp [hp] at hc
   | some ps' =>
    simp only [hp, Option.bind_some] at hc
    split at hc
    ·rename_i hall
     simp at hc
     obtain ⟨rfl, rfl⟩ := hc
     obtain ⟨i, zv, hi, hzv, hcc, _, _⟩ := zeroOf_eq hz
     obtain ⟨r1, r2⟩ := rv_cells (M := M) hcc
     have hinfo : ∀ f ∈ fs.toList, ∃ j, P.info? f.type = some j := by
      intro f hfm
      have := List.all_eq_true.1 hall f hfm
      exact Option.isSome_iff_exists.1 this
     obtain ⟨places, hpl⟩ : ∃ places, fs.toList.mapM (fun f => (P.info? f.type).map fun i => (f.offset, i.size)) = some places := by
      clear hp hall hu
      generalize fs.toList = F at hinfo
      induction F with
      | nil => exact ⟨[], rfl⟩
      | cons f F ih =>
       obtain ⟨j, hj⟩ := hinfo f (by simp)
       obtain ⟨pl, hpl⟩ := ih (fun g hg => hinfo g (by simp [hg]))
       exact ⟨(f.offset, j.size) :: pl, by simp [List.mapM_cons, hj, hpl]⟩
     have hplace : ∀ (i : Nat) p, ((fs[i]?).bind fun (f : Field) => (szOf P f.type).map fun s => (f.offset, s)) = some p → places[i]? = some p := by
      have hlen : ∀ (F : List Field) (pl : List (Nat × Nat)), F.mapM (fun f => (P.info? f.type).map fun i => (f.offset, i.size)) = some pl → ∀ (i : Nat) (f : Field), F[i]? = some f → ∀ p, (szOf P f.type).map (fun s => (f.offset, s)) = some p → pl[i]? = some p := by
       intro F
       induction F with
       | nil => intro pl _ i f hf; simp at hf
       | cons g F ih =>
        intro pl hm i f hf p hp
        simp only [List.mapM_cons, Option.bind_eq_bind, Option.pure_def] at hm
        cases hg : P.info? g.type with
        | none => simp [hg] at hm
        | some j =>
         cases hr : F.mapM (fun f => (P.info? f.type).map fun i => (f.offset, i.size)) with
         | none => simp [hg, hr] at hm
         | some rest =>
          simp [hg, hr] at hm
          subst hm
          cases i with
          | zero =>
           simp at hf
           subst hf
           cases hs : szOf P g.type with
           | none => simp [hs] at hp
           | some s =>
            simp [hs] at hp
            obtain ⟨j', hj', hs', _⟩ := szOf_eq hs
            rw [hg] at hj'
            cases hj'
            simp [← hp, hs']
          | succ i => simpa using ih rest hr i f (by simpa using hf) p hp
      intro i p hp
      cases hfi : fs[i]? with
      | none => simp [hfi] at hp
      | some f => exact hlen fs.toList places hpl i f (by simpa using hfi) p (by simpa [hfi] using hp)
     have hp2 : cParts (places.toArray[·]?) parts.toList = some ps' := by
      clear hf
      generalize parts.toList = Q at hp
      induction Q generalizing ps' with
      | nil => exact hp
      | cons q Q ih =>
       obtain ⟨i, x⟩ := q
       unfold cParts at hp
       split at hp
       ·rename_i o s y l h1 h2 h3
        cases hp
        have : places.toArray[i]? = some (o, s) := by simpa using hplace i (o, s) h1
        simp only [cParts, this, h2]
        rw [ih l h3]
       ·cases hp
     obtain ⟨C, g1, g2, g3, _⟩ := fill_sound hT (places.toArray[·]?) parts.toList ps' hp2 z' out zv.cells hf (by simpa using r1) (by simpa using r2)
     refine ⟨C, ?_, g2, g3⟩
     simp only [Program.built, hi, hu, hzv, hpl]
     exact g1
    ·cases hc
  ·rename_i z' n e hz hu
   split at hc
   ·rename_i s hs
    cases hp : cParts (fun i => some (i * s, s)) parts.toList with
    | none => simp [hp] at hc
    | some ps' =>
     simp [hp] at hc
     obtain ⟨rfl, rfl⟩ := hc
     obtain ⟨i, zv, hi, hzv, hcc, _, _⟩ := zeroOf_eq hz
     obtain ⟨r1, r2⟩ := rv_cells (M := M) hcc
     obtain ⟨ie, hie, hse, _⟩ := szOf_eq hs
     obtain ⟨C, g1, g2, g3, _⟩ := fill_sound hT _ parts.toList ps' hp z' out zv.cells hf (by simpa using r1) (by simpa using r2)
     refine ⟨C, ?_, g2, g3⟩
     simp only [Program.built, hi, hu, hzv, hie, hse]
     exact g1
   ·cases hc
  ·cases hc
 obtain ⟨C, g1, g2, g3⟩ := key
 exact Gives.same h (run_build w t _ C g1) (.agg out C g2.len g2.rel g3)
theorem gives_buildSlice [Globs] {P : Program} {M : Mp} {m : Mem} {w : World} (h : Holds P M m.heap m.loops w) (hfr : ∀ g, M.loc m.heap.length g = none) {T : List AV} {a : Act} (hT : RT M T a) {t : TypeId} {len n' : Nat} {parts : Array (Nat × Operand)} {sz : Nat} {z : List AV} {ps : List (Nat × Nat × Opd)}
  (hc : cOp P (.buildSlice t len parts) = some (.buildSlice n' sz z ps)) {out : List AV} (hf : fillP T (zeros z n') ps = some out) :
  Gives P M m (newBlk m out) w (Instr.buildSlice t len (parts.map fun (i, x) => (i, a.eval x))) (.sref m.heap.length 0 0 sz n' (some n')) := by
 have hlist : (parts.map fun (i, x) => (i, a.eval x)).toList = parts.toList.map fun p => (p.1, a.eval p.2) := by simp
 unfold cOp at hc
 simp only at hc
 split at hc
 ·rename_i e hu
  split at hc
  ·rename_i s z' hs hz
   split at hc
   ·rename_i hbig
    cases hp : cParts (fun i => some (i * s, s)) parts.toList with
    | none => simp [hp] at hc
    | some ps' =>
     simp [hp] at hc
     obtain ⟨rfl, rfl, rfl, rfl⟩ := hc
     obtain ⟨i, zv, hi, hzv, hcc, hzl, _⟩ := zeroOf_eq hz
     obtain ⟨r1, r2⟩ := rv_cells (M := M) hcc
     obtain ⟨ie, hie, hse, hpos⟩ := szOf_eq hs
     rw [hi] at hie
     cases hie
     have hzs : zv.cells.size = s := by have := r1.len; simp at this; omega
     obtain ⟨q1, q2⟩ := rvs_zeros (by simpa using r1 : RVs M z' zv.cells) (by simpa using r2) (by omega) len (len * s) (by rw [hzl, hse])
     obtain ⟨C, g1, g2, g3, g4⟩ := fill_sound hT _ parts.toList ps' hp (zeros z' len) out _ hf q1 q2
     have hol : out.length = len * s := by rw [g4, zeros_len, hzl, hse]
     have hCs : C.size = len * s := by rw [← g2.len, hol]
     refine madeSl h hfr (w' := w.alloc (.cells C e)) e s len len (some len) rfl rfl rfl ?_ (fun j hj => ⟨g2.rel j, ?_⟩) (by rw [g2.len]; exact Nat.le_refl _) (Nat.le_refl _) (by rw [hCs]; exact Nat.le_refl _) (fun k hk => by cases hk; rfl) (fun hk => by cases hk)
     ·have hb : ¬ (len * s > 2 ^ 24) := by omega
      simp only [Instr.buildSlice, Sem.run_bind, run_underlying hu, Result.andThen_ok, sizeOf, typeInfo, run_program, hi, Sem.run_pure, hse, hb, if_false]
      by_cases h0 : len * s = 0
      ·have hz0 : ∀ f : Nat → Value, (Array.range 0).map f = #[] := fun f => by simp
       rw [h0, hz0] at g1
       simp only [h0, if_true, Sem.run_pure, Result.andThen_ok, hz0, hlist, g1, Sem.run_bind, run_newRow]
      ·simp only [h0, if_false, Sem.run_bind, zeroValue, typeInfo, run_program, hi, hzv, Sem.run_pure, Result.andThen_ok, hlist]
       simp [g1, run_newRow]
     ·have : j < C.size := by rw [← g2.len]; exact hj
      rw [ag_of_lt this]
      exact g3 _ (by simp)
   ·cases hc
  ·cases hc
 ·cases hc
end Go.Zz

