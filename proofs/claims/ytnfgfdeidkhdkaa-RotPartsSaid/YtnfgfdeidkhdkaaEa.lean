/- A deterministic machine over data ('the engine'): values in which a slice that is only read is its list, blocks of the call's own by name, each region's operations in one order. Its soundness against the model is proved in the texts behind this one. -/
import Derived.Test.YtnfgfdeidkhdkaaProg
import Derived.KernelRfl
namespace Go.Proofs.Ytnfgfdeidkhdkaa.Eng

/-- the kinds of slices -/
inductive SK where | int | eno | bool | part | net | item
  deriving DecidableEq
@[reducible] def SK.T : SK → Type
  | .int => Int
  | .eno => Int
  | .bool => Bool
  | .part => Bool × Int × List Int
  | .net => Int × List Int × List Int × List Int
  | .item => Int × Int
def SK.size : SK → Nat | .int => 1 | .eno => 1 | .bool => 1 | .part => 3 | .net => 4 | .item => 2
/-- the type's number of the slice, of its element -/
def SK.ty : SK → Nat | .int => 22 | .eno => 45 | .bool => 43 | .part => 53 | .net => 34 | .item => 105
def SK.el : SK → Nat | .int => 3 | .eno => 28 | .bool => 4 | .part => 57 | .net => 25 | .item => 66
def kindOf : Nat → Option SK
  | 22 => some .int
  | 45 => some .eno
  | 43 => some .bool
  | 53 => some .part
  | 34 => some .net
  | 105 => some .item
  | _ => none

inductive CV where
  | int (k : IntKind) (n : Int)
  | bool (b : Bool)
  | flt (b : Nat)
  | nil (k : SK)
  | sl (k : SK) (l : List k.T)
  | ref (x : Nat)
  | win (x off len : Nat)
  | ptr (x off : Nat)
  | pe (x i j : Nat)
  | vp (cs : List CV) (off : Nat)
  | nptr
  | agg (cs : List CV)
  | tup (cs : List CV)
  | fn (f : Nat) (cs : List CV)
  | unk

inductive Blk where
  | arr (ap : Bool) (k : SK) (l : List k.T)
  | cells (t : Nat) (cs : List CV)

structure St where
  T : List (Nat × CV)
  H : List (Nat × Option Blk)

def look {α : Type} : List (Nat × α) → Nat → Option α
  | [], _ => none
  | (i, v) :: l, j => bif Nat.beq i j then some v else look l j
def get (H : List (Nat × Option Blk)) (x : Nat) : Option Blk :=
  match look H x with
  | some b => b
  | none => none

/-! ### types -/
/-- a cell's kind, for a variable's first value -/
inductive CK where | int (k : IntKind) | bool | flt | slice (k : SK) | ptr
def CK.zero : CK → CV
  | .int k => .int k 0
  | .bool => .bool false
  | .flt => .flt 0
  | .slice k => .nil k
  | .ptr => .nptr
def netC : List CK := [.int .i64, .slice .int, .slice .int, .slice .int]
/-- the cells of a type's variable, and whether it is a struct or an array -/
def cks : Nat → Option (Bool × List CK)
  | 3 => some (false, [.int .i64])
  | 28 => some (false, [.int .i64])
  | 116 => some (false, [.int .u64])
  | 125 => some (false, [.int .u64])
  | 4 => some (false, [.bool])
  | 22 => some (false, [.slice .int])
  | 43 => some (false, [.slice .bool])
  | 53 => some (false, [.slice .part])
  | 105 => some (false, [.slice .item])
  | 25 => some (true, netC)
  | 57 => some (true, [.bool, .int .i64, .slice .int])
  | 66 => some (true, [.int .i64, .int .i64])
  | 94 => some (true, netC ++ [.int .i64, .int .i64, .slice .int])
  | 101 => some (true, [.slice .bool, .int .i64, .slice .int])
  | 118 => some (true, [.int .i64, .int .u64])
  | 122 => some (true, [.bool, .bool])
  | 124 => some (true, [.slice .int, .slice .int])
  | _ => none
/-- a field's place and its size -/
def fld : Nat → Nat → Option (Nat × Nat)
  | 25, 0 => some (0, 1) | 25, 1 => some (1, 1) | 25, 2 => some (2, 1) | 25, 3 => some (3, 1)
  | 57, 0 => some (0, 1) | 57, 1 => some (1, 1) | 57, 2 => some (2, 1)
  | 66, 0 => some (0, 1) | 66, 1 => some (1, 1)
  | 94, 0 => some (0, 4) | 94, 1 => some (4, 1) | 94, 2 => some (5, 1) | 94, 3 => some (6, 1)
  | 101, 0 => some (0, 1) | 101, 1 => some (1, 1) | 101, 2 => some (2, 1)
  | 118, 0 => some (0, 1) | 118, 1 => some (1, 1)
  | 124, 0 => some (0, 1) | 124, 1 => some (1, 1)
  | _, _ => none

def SK.cells : (k : SK) → k.T → List CV
  | .int, e => [.int .i64 e]
  | .eno, e => [.int .i64 e]
  | .bool, e => [.bool e]
  | .part, e => [.bool e.1, .int .i64 e.2.1, .sl .int e.2.2]
  | .net, e => [.int .i64 e.1, .sl .int e.2.1, .sl .int e.2.2.1, .sl .int e.2.2.2]
  | .item, e => [.int .i64 e.1, .int .i64 e.2]
def ints? : CV → Option (List Int)
  | .nil .int => some []
  | .sl .int l => some l
  | _ => none
def SK.elem? : (k : SK) → List CV → Option k.T
  | .int, [.int .i64 n] => some n
  | .eno, [.int .i64 n] => some n
  | .bool, [.bool b] => some b
  | .part, [.bool b, .int .i64 n, d] => match ints? d with | some l => some (b, n, l) | none => none
  | .net, [.int .i64 n, a, b, c] =>
    match ints? a with
    | none => none
    | some a => match ints? b with
      | none => none
      | some b => match ints? c with
        | none => none
        | some c => some (n, a, b, c)
  | .item, [.int .i64 n, .int .i64 m] => some (n, m)
  | _, _ => none
def SK.zero : (k : SK) → Option k.T
  | .int => some 0
  | .bool => some false
  | _ => none
def CV.cells : CV → List CV
  | .agg cs => cs
  | v => [v]
/-- a value of one cell -/
def CV.isC : CV → Bool
  | .agg _ => false
  | .tup _ => false
  | .fn _ _ => false
  | _ => true
def CV.isA : CV → Bool
  | .tup _ => false
  | .fn _ _ => false
  | _ => true

/-! ### operands -/
def cvOf (t : Nat) : Value → Option CV
  | .int k n => some (.int k n)
  | .bool b => some (.bool b)
  | .slice none 0 0 => match kindOf t with | some k => some (.nil k) | none => none
  | .pointer none => some .nptr
  | .nilFunc => some .unk
  | _ => none
def ev (t : Nat) (T : List (Nat × CV)) : Operand → Option CV
  | .tmp i => look T i
  | .const v => cvOf t v
  | _ => none
def evs (T : List (Nat × CV)) : List Operand → List Nat → Option (List CV)
  | [], [] => some []
  | x :: xs, t :: ts => match ev t T x with
    | none => none
    | some v => match evs T xs ts with
      | none => none
      | some vs => some (v :: vs)
  | _, _ => none

/-- integers' operations, as the model has them -/
def bitsI (op : BinOp) (k : IntKind) (x y : Int) : Int :=
  let a := BitVec.ofInt k.bits x
  let b := BitVec.ofInt k.bits y
  match op with
  | .and => k.wrap (a &&& b).toNat
  | .or => k.wrap (a ||| b).toNat
  | .xor => k.wrap (a ^^^ b).toNat
  | _ => k.wrap (a &&& ~~~b).toNat
def binInt {R : Type} (op : BinOp) (k : IntKind) (x y : Int) (K : CV → Option R) : Option R :=
  match op with
  | .add => K (.int k (k.wrap (x + y)))
  | .sub => K (.int k (k.wrap (x - y)))
  | .mul => K (.int k (k.wrap (x * y)))
  | .quo => bif decide (y = 0) then none else K (.int k (k.wrap (x.tdiv y)))
  | .rem => bif decide (y = 0) then none else K (.int k (x.tmod y))
  | .and => K (.int k (bitsI .and k x y))
  | .or => K (.int k (bitsI .or k x y))
  | .xor => K (.int k (bitsI .xor k x y))
  | .shl => bif decide (y < 0) then none else K (.int k (k.wrap (x * 2 ^ min y.toNat k.bits)))
  | .shr => bif decide (y < 0) then none else K (.int k (x.fdiv (2 ^ min y.toNat k.bits)))
  | .eql => K (.bool (decide (x = y)))
  | .neq => K (.bool (!decide (x = y)))
  | .lss => K (.bool (decide (x < y)))
  | .leq => K (.bool (decide (x ≤ y)))
  | .gtr => K (.bool (decide (y < x)))
  | .geq => K (.bool (decide (y ≤ x)))
  | _ => none
def binCV {R : Type} (op : BinOp) (t : Nat) (a b : CV) (K : CV → Option R) : Option R :=
  match a, b with
  | .int k x, .int k' y => bif decide (k = k') then binInt op k x y K else none
  | .bool x, .bool y =>
    bif Nat.beq t 4 then
      match op with
      | .eql => K (.bool (x == y))
      | .neq => K (.bool (!(x == y)))
      | _ => none
    else none
  | _, _ => none
def minI (x y : Int) : Int := if y < x then y else x
def maxI (x y : Int) : Int := if x < y then y else x

/-! ### operations that look at no block -/
def setAt (cs : List CV) : Nat → List CV → List CV
  | _, [] => cs
  | i, v :: vs => setAt (cs.set i v) (i + 1) vs
def buildP (t : Nat) (T : List (Nat × CV)) : List CV → List (Nat × Operand) → Option (List CV)
  | cs, [] => some cs
  | cs, (i, x) :: ps =>
    match fld t i with
    | none => none
    | some (off, n) => match cks t with
      | none => none
      | some (_, ks) => match ev (match ks[off]? with | some (.slice k) => k.ty | _ => 3) T x with
        | none => none
        | some v => bif Nat.beq v.cells.length n && Nat.ble (off + n) cs.length && v.cells.all CV.isC then buildP t T (setAt cs off v.cells) ps else none
def zeros (t : Nat) : Option (List CV) := match cks t with | some (_, ks) => some (ks.map CK.zero) | none => none
def mkAgg (t : Nat) (cs : List CV) : Option CV :=
  match cks t with
  | some (true, ks) => bif Nat.beq ks.length cs.length then some (.agg cs) else none
  | some (false, _) => match cs with | [v] => bif v.isC then some v else none | _ => none
  | none => none

def pureOp {R : Type} (o : Op) (t : Nat) (T : List (Nat × CV)) (K : CV → Option R) : Option R :=
  match o with
  | .move x => match ev t T x with | some v => K v | none => none
  | .assign x => match ev t T x with | some v => K v | none => none
  | .pick c a b => match ev 4 T c with
    | some (.bool c) => bif c then (match ev t T a with | some v => K v | none => none) else (match ev t T b with | some v => K v | none => none)
    | _ => none
  | .binOp op xt x y _ => match ev xt T x with
    | none => none
    | some a => match ev xt T y with
      | none => none
      | some b => binCV op xt a b K
  | .unOp .not _ x => match ev 4 T x with | some (.bool b) => K (.bool (!b)) | _ => none
  | .convert src dst x => match ev src T x with
    | some (.int _ n) => match cks src with
      | some (false, [.int _]) => match cks dst with
        | some (false, [.int k]) => K (.int k (k.wrap n))
        | _ => none
      | _ => none
    | _ => none
  | .extract x i => match ev 0 T x with
    | some (.tup vs) => match vs[i]? with | some v => K v | none => none
    | _ => none
  | .fieldAddr s x f => match fld s f with
    | none => none
    | some (off, _) => match ev 0 T x with
      | some (.ptr y o) => K (.ptr y (o + off))
      | some (.pe y i j) => K (.pe y i (j + off))
      | some (.vp cs o) => K (.vp cs (o + off))
      | _ => none
  | .field s x f => bif Nat.beq s 25 && Nat.beq f 0 then
      (match ev s T x with
      | some (.agg cs) => match cs[0]? with | some v => K v | none => none
      | _ => none) else none
  | .makeFunc (.func f) first caps => bif Nat.beq first.size 0 then
      (match evs T caps.toList (caps.toList.map fun _ => 0) with | some vs => bif vs.all CV.isA then K (.fn f vs) else none | none => none) else none
  | .nilCheck x => match ev 0 T x with
    | some (.ptr y o) => K (.ptr y o)
    | some (.pe y i j) => K (.pe y i j)
    | some (.vp cs o) => K (.vp cs o)
    | _ => none
  | .build s parts => match zeros s with
    | none => none
    | some cs => match cks s with
      | some (true, _) => bif Nat.beq s 122 then none else
        (match buildP s T cs parts.toList with
        | some cs => K (.agg cs)
        | none => none)
      | _ => none
  | .call c => match c.callee with
    | .builtin .min => match evs T c.args.toList c.argTypes.toList with
      | some [.int k x, .int k' y] => bif decide (k = k') then K (.int k (minI x y)) else none
      | _ => none
    | .builtin .max => match evs T c.args.toList c.argTypes.toList with
      | some [.int k x, .int k' y] => bif decide (k = k') then K (.int k (maxI x y)) else none
      | _ => none
    | _ => none
  | _ => none

/-! ### operations that look at blocks, and change none -/
def loadK {R : Type} (t : Nat) (H : List (Nat × Option Blk)) (a : CV) (K : CV → Option R) : Option R :=
  match cks t with
  | none => none
  | some (_, ks) => match a with
    | .ptr x o => match get H x with
      | some (.cells _ cs) => match mkAgg t ((cs.drop o).take ks.length) with
        | some v => K v
        | none => none
      | _ => none
    | .vp cs o => match mkAgg t ((cs.drop o).take ks.length) with
      | some v => K v
      | none => none
    | .pe x i j => match get H x with
      | some (.arr _ k l) => match l[i]? with
        | some e => match mkAgg t (((k.cells e).drop j).take ks.length) with
          | some v => K v
          | none => none
        | none => none
      | _ => none
    | _ => none
def indexK {R : Type} (t : Nat) (H : List (Nat × Option Blk)) (s i : CV) (K : CV → Option R) : Option R :=
  match i with
  | .int _ n => match s with
    | .sl k l => bif Nat.beq k.ty t then
        (bif decide (0 ≤ n) then (match l[n.toNat]? with | some e => K (.vp (k.cells e) 0) | none => none) else none) else none
    | .ref x => match get H x with
      | some (.arr _ k l) => bif Nat.beq k.ty t then
          (bif decide (0 ≤ n) then (bif decide (n < (l.length : Int)) then K (.pe x n.toNat 0) else none) else none) else none
      | _ => none
    | .win x off len => match get H x with
      | some (.arr _ k _) => bif Nat.beq k.ty t then
          (bif decide (0 ≤ n) then (bif decide (n < (len : Int)) then K (.pe x (off + n.toNat) 0) else none) else none) else none
      | _ => none
    | _ => none
  | _ => none
def lenK {R : Type} (H : List (Nat × Option Blk)) (s : CV) (K : CV → Option R) : Option R :=
  match s with
  | .nil _ => K (.int .i64 0)
  | .sl _ l => K (.int .i64 (l.length : Int))
  | .ref x => match get H x with
    | some (.arr _ _ l) => K (.int .i64 (l.length : Int))
    | _ => none
  | .win x _ len => match get H x with
    | some _ => K (.int .i64 (len : Int))
    | none => none
  | _ => none
def bound {R : Type} (T : List (Nat × CV)) (x : Option Operand) (d : Int) (K : Int → Option R) : Option R :=
  match x with
  | none => K d
  | some x => match ev 3 T x with | some (.int _ n) => K n | _ => none
/-- a cut: 'x[lo:hi]', 'x[lo:hi:mx]', the upper end no more than the length -/
def sliceK {R : Type} (t : Nat) (T : List (Nat × CV)) (H : List (Nat × Option Blk)) (s : CV) (lo hi mx : Option Operand) (K : CV → Option R) : Option R :=
  match s with
  | .sl k l => bif Nat.beq k.ty t && mx.isNone then
      bound T lo 0 fun a => bound T hi (l.length : Int) fun b =>
        bif decide (0 ≤ a) then (bif decide (a ≤ b) then (bif decide (b ≤ (l.length : Int)) then K (.sl k ((l.drop a.toNat).take (b.toNat - a.toNat))) else none) else none) else none
    else none
  | .ref x => match get H x with
    | some (.arr _ k l) => bif Nat.beq k.ty t && (hi.isSome || mx.isNone) then
        bound T lo 0 fun a => bound T hi (l.length : Int) fun b => bound T mx b fun m =>
          bif decide (0 ≤ a) then (bif decide (a ≤ b) then (bif decide (b ≤ m) then (bif decide (m ≤ (l.length : Int)) then K (.win x a.toNat (b.toNat - a.toNat)) else none) else none) else none) else none
      else none
    | _ => none
  | _ => none

/-- data by value: blocks of the call's own are read out -/
def bv0 (H : List (Nat × Option Blk)) : CV → Option CV
  | .nil k => some (.sl k [])
  | .sl k l => some (.sl k l)
  | .ref x => match get H x with | some (.arr _ k l) => some (.sl k l) | _ => none
  | .win x off len => match get H x with | some (.arr _ k l) => some (.sl k ((l.drop off).take len)) | _ => none
  | .int k n => some (.int k n)
  | .bool b => some (.bool b)
  | .flt b => some (.flt b)
  | _ => none
def bvs (f : CV → Option CV) : List CV → Option (List CV)
  | [] => some []
  | v :: vs => match f v with
    | none => none
    | some v => match bvs f vs with
      | none => none
      | some vs => some (v :: vs)
def bv1 (H : List (Nat × Option Blk)) : CV → Option CV
  | .agg cs => match bvs (bv0 H) cs with | some cs => some (.agg cs) | none => none
  | .ptr x o => match get H x with
    | some (.cells _ cs) => match bvs (bv0 H) cs with | some cs => some (.vp cs o) | none => none
    | _ => none
  | .vp cs o => some (.vp cs o)
  | v => bv0 H v
def bv2 (H : List (Nat × Option Blk)) : CV → Option CV
  | .fn f cs => match bvs (bv1 H) cs with | some cs => some (.fn f cs) | none => none
  | .tup cs => match bvs (bv1 H) cs with | some cs => some (.tup cs) | none => none
  | v => bv1 H v

/-- what a call hands back as its own: each slice a block of ours -/
def own0 (x : Nat) : CV → CV × List Blk
  | .sl k l => (.ref x, [.arr false k l])
  | v => (v, [])
def owns (own : Nat → CV → CV × List Blk) : Nat → List CV → List CV × List Blk
  | _, [] => ([], [])
  | x, v :: vs => match own x v with
    | (v, bs) => match owns own (x + bs.length) vs with
      | (vs, cs) => (v :: vs, bs ++ cs)
def own1 (x : Nat) : CV → CV × List Blk
  | .agg cs => match owns own0 x cs with | (cs, bs) => (.agg cs, bs)
  | v => own0 x v
def own2 (x : Nat) : CV → CV × List Blk
  | .tup cs => match owns own1 x cs with | (cs, bs) => (.tup cs, bs)
  | v => own1 x v

/-- nothing of the call's own blocks is named -/
def nl0 : CV → Bool
  | .ref _ => false
  | .win _ _ _ => false
  | .ptr _ _ => false
  | .pe _ _ _ => false
  | _ => true
def nl1 : CV → Bool
  | .agg cs => cs.all nl0
  | v => nl0 v
def nl2 : CV → Bool
  | .fn _ cs => cs.all nl1
  | .tup cs => cs.all nl1
  | v => nl1 v
/-- what the called functions answer: 'true': in memory of its own; whether this may be said; the answer -/
abbrev Sems := Nat → List CV → Option (Bool × Bool × CV)

def elemsF (f : CV → Option CV) (T : List (Nat × CV)) (k : SK) : Nat → List (Nat × Operand) → Option (List k.T)
  | _, [] => some []
  | i, (j, x) :: ps => bif Nat.beq i j then
      (match ev k.el T x with
       | none => none
       | some v => match bvs f v.cells with
         | none => none
         | some cs => match k.elem? cs with
           | none => none
           | some e => match elemsF f T k (i + 1) ps with
             | none => none
             | some es => some (e :: es)) else none
/-- data that name no row of ours -/
def bvn (H : List (Nat × Option Blk)) : CV → Option CV
  | .ref _ => none
  | .win _ _ _ => none
  | v => bv0 H v
abbrev elems (H : List (Nat × Option Blk)) (T : List (Nat × CV)) (k : SK) : Nat → List (Nat × Operand) → Option (List k.T) := elemsF (bvn H) T k
/-- the elements of a slice that is appended, or copied from -/
def source {R : Type} (H : List (Nat × Option Blk)) (k : SK) (x : CV) (K : List k.T → Option R) : Option R :=
  match bv0 H x with
  | some (.sl k' l) => if h : k' = k then K (h ▸ l) else none
  | _ => none

def quiet {R : Type} (sem : Sems) (o : Op) (t x : Nat) (st : St) (K : CV → List Blk → Option R) : Option R :=
  match o with
  | .load t a => match ev 0 st.T a with | some a => loadK t st.H a fun v => K v [] | none => none
  | .indexAddr t s i => match ev t st.T s with
    | none => none
    | some s => match ev 3 st.T i with
      | none => none
      | some i => indexK t st.H s i fun v => K v []
  | .slice t s lo hi mx => match ev t st.T s with | some s => sliceK t st.T st.H s lo hi mx fun v => K v [] | none => none
  | .alloc t => match zeros t with | some cs => K (.ptr x 0) [.cells t cs] | none => none
  | .box t v => match ev t st.T v with
    | none => none
    | some v => match cks t with
      | none => none
      | some (_, ks) => bif Nat.beq ks.length v.cells.length && v.cells.all CV.isC then K (.ptr x 0) [.cells t v.cells] else none
  | .buildSlice t n parts => match kindOf t with
    | none => none
    | some k => bif Nat.beq parts.size n then
        (bif Nat.beq n 0 then K (.nil k) [] else
          (match elems st.H st.T k 0 parts.toList with
           | some l => bif Nat.ble n 1000 then K (.ref x) [.arr true k l] else none
           | none => none)) else none
  | .makeSlice t n c => match kindOf t with
    | none => none
    | some k => match ev 3 st.T n with
      | some (.int _ n) => match ev 3 st.T c with
        | some (.int _ c) => match k.zero with
          | some z => bif decide (c = n) then
              (bif decide (0 ≤ n) then (bif decide (n ≤ 4294967296) then K (.ref x) [.arr true k (List.replicate n.toNat z)] else none) else none) else none
          | none => none
        | _ => none
      | _ => none
  | .call c => match c.callee with
    | .builtin .len => match evs st.T c.args.toList c.argTypes.toList with
      | some [s] => match c.argTypes.toList with
        | [t] => match kindOf t with
          | some _ => lenK st.H s fun v => K v []
          | none => none
        | _ => none
      | _ => none
    | .builtin .append => match evs st.T c.args.toList c.argTypes.toList with
      | some [.nil k, y] => match c.argTypes.toList with
        | [t, t'] => bif Nat.beq t k.ty && Nat.beq t' k.ty then
            source st.H k y fun l => bif Nat.ble l.length 4294967296 then K (.ref x) [.arr true k l] else none
          else none
        | _ => none
      | _ => none
    | .builtin .min => pureOp (.call c) t st.T fun v => K v []
    | .builtin .max => pureOp (.call c) t st.T fun v => K v []
    | .value (.func f) => match evs st.T c.args.toList c.argTypes.toList with
      | none => none
      | some us => match bvs (bv2 st.H) us with
        | none => none
        | some vs => match sem f vs with
          | some (true, g, r) => bif g then (match own2 x r with | (v, bs) => K v bs) else none
          | some (false, g, r) => bif g then (bif us.all nl2 then K r [] else none) else none
          | none => none
    | .value g => match ev 0 st.T g with
      | some (.fn f caps) => match evs st.T c.args.toList c.argTypes.toList with
        | none => none
        | some vs => match bvs (bv2 st.H) (vs ++ caps) with
          | none => none
          | some vs => match sem f vs with
            | some (true, g, r) => bif g then (match own2 x r with | (v, bs) => K v bs) else none
            | _ => none
      | _ => none
    | _ => none
  | o => pureOp o t st.T fun v => K v []
end Go.Proofs.Ytnfgfdeidkhdkaa.Eng
