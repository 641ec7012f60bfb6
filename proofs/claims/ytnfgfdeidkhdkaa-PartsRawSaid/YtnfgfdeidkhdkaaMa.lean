/- A deterministic machine over data ('the engine'): values in which a slice that is only read is its list, blocks of the call's own by name, each region's operations in one order. Its soundness against the model is proved in the texts behind this one · The engine, second part: operations that write, regions in one order, code, points at which what is not wanted any more is forgotten, functions · The engine's soundness, first part: how the engine's data stand to the model's memory, and that they go on standing so where what they lean on is left alone · The engine's soundness, second part: operations that look at no block · The engine's soundness, third part: operations that look at blocks, or make new ones · The engine's soundness, fourth part: loads, indexes, lengths, cuts · The engine's soundness, fifth part: data by value, what is handed back, new blocks · The engine's soundness, sixth part: operations that make blocks; what a call is held to · The engine's soundness, seventh part: what a called function is held to; every operation that changes no block of ours · The engine's soundness, eighth part: operations that write into blocks of ours · The engine's soundness, ninth part: appends, copies, calls that write or that keep what they are handed -/
import Derived.Below
import Derived.KernelRfl
import Derived.Laws.AppendOwn
import Derived.Laws.Entries
import Derived.Laws.MakeOwn
import Derived.Laws.Slices
import Derived.Laws.Tables
import Derived.Orders
import Derived.Test.YtnfgfdeidkhdkaaProg
/- Ea: A deterministic machine over data ('the engine'): values in which a slice that is only read is its list, blocks of the call's own by name, each region's operations in one order. Its soundness against the model is proved in the texts behind this one. -/
namespace Go.Proofs.Ytnfgfdeidkhdkaa.Eng

/-- the kinds of slices -/
inductive SK where | int | eno | bool | part | net | item
  deriving DecidableEq
@[reducible] def SK.T : SK → Type
  | .int => Int
  | .eno => Int
  | .bool => Bool
  | .part => Bool × Int × List Int
  | .net => Int × List Int × List Int × List Int
  | .item => Int × Int
def SK.size : SK → Nat | .int => 1 | .eno => 1 | .bool => 1 | .part => 3 | .net => 4 | .item => 2
/-- the type's number of the slice, of its element -/
def SK.ty : SK → Nat | .int => 22 | .eno => 45 | .bool => 43 | .part => 53 | .net => 34 | .item => 105
def SK.el : SK → Nat | .int => 3 | .eno => 28 | .bool => 4 | .part => 57 | .net => 25 | .item => 66
def kindOf : Nat → Option SK
  | 22 => some .int
  | 45 => some .eno
  | 43 => some .bool
  | 53 => some .part
  | 34 => some .net
  | 105 => some .item
  | _ => none

inductive CV where
  | int (k : IntKind) (n : Int)
  | bool (b : Bool)
  | flt (b : Nat)
  | nil (k : SK)
  | sl (k : SK) (l : List k.T)
  | ref (x : Nat)
  | win (x off len : Nat)
  | ptr (x off : Nat)
  | pe (x i j : Nat)
  | vp (cs : List CV) (off : Nat)
  | nptr
  | agg (cs : List CV)
  | tup (cs : List CV)
  | fn (f : Nat) (cs : List CV)
  | unk

inductive Blk where
  | arr (ap : Bool) (k : SK) (l : List k.T)
  | cells (t : Nat) (cs : List CV)

structure St where
  T : List (Nat × CV)
  H : List (Nat × Option Blk)

def look {α : Type} : List (Nat × α) → Nat → Option α
  | [], _ => none
  | (i, v) :: l, j => bif Nat.beq i j then some v else look l j
def get (H : List (Nat × Option Blk)) (x : Nat) : Option Blk :=
  match look H x with
  | some b => b
  | none => none

/-! ### types -/
/-- a cell's kind, for a variable's first value -/
inductive CK where | int (k : IntKind) | bool | flt | slice (k : SK) | ptr
def CK.zero : CK → CV
  | .int k => .int k 0
  | .bool => .bool false
  | .flt => .flt 0
  | .slice k => .nil k
  | .ptr => .nptr
def netC : List CK := [.int .i64, .slice .int, .slice .int, .slice .int]
/-- the cells of a type's variable, and whether it is a struct or an array -/
def cks : Nat → Option (Bool × List CK)
  | 3 => some (false, [.int .i64])
  | 28 => some (false, [.int .i64])
  | 116 => some (false, [.int .u64])
  | 125 => some (false, [.int .u64])
  | 4 => some (false, [.bool])
  | 22 => some (false, [.slice .int])
  | 43 => some (false, [.slice .bool])
  | 53 => some (false, [.slice .part])
  | 105 => some (false, [.slice .item])
  | 25 => some (true, netC)
  | 57 => some (true, [.bool, .int .i64, .slice .int])
  | 66 => some (true, [.int .i64, .int .i64])
  | 94 => some (true, netC ++ [.int .i64, .int .i64, .slice .int])
  | 101 => some (true, [.slice .bool, .int .i64, .slice .int])
  | 118 => some (true, [.int .i64, .int .u64])
  | 122 => some (true, [.bool, .bool])
  | 124 => some (true, [.slice .int, .slice .int])
  | _ => none
/-- a field's place and its size -/
def fld : Nat → Nat → Option (Nat × Nat)
  | 25, 0 => some (0, 1) | 25, 1 => some (1, 1) | 25, 2 => some (2, 1) | 25, 3 => some (3, 1)
  | 57, 0 => some (0, 1) | 57, 1 => some (1, 1) | 57, 2 => some (2, 1)
  | 66, 0 => some (0, 1) | 66, 1 => some (1, 1)
  | 94, 0 => some (0, 4) | 94, 1 => some (4, 1) | 94, 2 => some (5, 1) | 94, 3 => some (6, 1)
  | 101, 0 => some (0, 1) | 101, 1 => some (1, 1) | 101, 2 => some (2, 1)
  | 118, 0 => some (0, 1) | 118, 1 => some (1, 1)
  | 124, 0 => some (0, 1) | 124, 1 => some (1, 1)
  | _, _ => none

def SK.cells : (k : SK) → k.T → List CV
  | .int, e => [.int .i64 e]
  | .eno, e => [.int .i64 e]
  | .bool, e => [.bool e]
  | .part, e => [.bool e.1, .int .i64 e.2.1, .sl .int e.2.2]
  | .net, e => [.int .i64 e.1, .sl .int e.2.1, .sl .int e.2.2.1, .sl .int e.2.2.2]
  | .item, e => [.int .i64 e.1, .int .i64 e.2]
def ints? : CV → Option (List Int)
  | .nil .int => some []
  | .sl .int l => some l
  | _ => none
def SK.elem? : (k : SK) → List CV → Option k.T
  | .int, [.int .i64 n] => some n
  | .eno, [.int .i64 n] => some n
  | .bool, [.bool b] => some b
  | .part, [.bool b, .int .i64 n, d] => match ints? d with | some l => some (b, n, l) | none => none
  | .net, [.int .i64 n, a, b, c] =>
    match ints? a with
    | none => none
    | some a => match ints? b with
      | none => none
      | some b => match ints? c with
        | none => none
        | some c => some (n, a, b, c)
  | .item, [.int .i64 n, .int .i64 m] => some (n, m)
  | _, _ => none
def SK.zero : (k : SK) → Option k.T
  | .int => some 0
  | .bool => some false
  | _ => none
def CV.cells : CV → List CV
  | .agg cs => cs
  | v => [v]
/-- a value of one cell -/
def CV.isC : CV → Bool
  | .agg _ => false
  | .tup _ => false
  | .fn _ _ => false
  | _ => true
def CV.isA : CV → Bool
  | .tup _ => false
  | .fn _ _ => false
  | _ => true

/-! ### operands -/
def cvOf (t : Nat) : Value → Option CV
  | .int k n => some (.int k n)
  | .bool b => some (.bool b)
  | .slice none 0 0 => match kindOf t with | some k => some (.nil k) | none => none
  | .pointer none => some .nptr
  | .nilFunc => some .unk
  | _ => none
def ev (t : Nat) (T : List (Nat × CV)) : Operand → Option CV
  | .tmp i => look T i
  | .const v => cvOf t v
  | .func f => some (.fn f [])
  | _ => none
def evs (T : List (Nat × CV)) : List Operand → List Nat → Option (List CV)
  | [], [] => some []
  | x :: xs, t :: ts => match ev t T x with
    | none => none
    | some v => match evs T xs ts with
      | none => none
      | some vs => some (v :: vs)
  | _, _ => none

/-- integers' operations, as the model has them -/
def bitsI (op : BinOp) (k : IntKind) (x y : Int) : Int :=
  let a := BitVec.ofInt k.bits x
  let b := BitVec.ofInt k.bits y
  match op with
  | .and => k.wrap (a &&& b).toNat
  | .or => k.wrap (a ||| b).toNat
  | .xor => k.wrap (a ^^^ b).toNat
  | _ => k.wrap (a &&& ~~~b).toNat
def binInt {R : Type} (op : BinOp) (k : IntKind) (x y : Int) (K : CV → Option R) : Option R :=
  match op with
  | .add => K (.int k (k.wrap (x + y)))
  | .sub => K (.int k (k.wrap (x - y)))
  | .mul => K (.int k (k.wrap (x * y)))
  | .quo => bif decide (y = 0) then none else K (.int k (k.wrap (x.tdiv y)))
  | .rem => bif decide (y = 0) then none else K (.int k (x.tmod y))
  | .and => K (.int k (bitsI .and k x y))
  | .or => K (.int k (bitsI .or k x y))
  | .xor => K (.int k (bitsI .xor k x y))
  | .shl => bif decide (y < 0) then none else K (.int k (k.wrap (x * 2 ^ min y.toNat k.bits)))
  | .shr => bif decide (y < 0) then none else K (.int k (x.fdiv (2 ^ min y.toNat k.bits)))
  | .eql => K (.bool (decide (x = y)))
  | .neq => K (.bool (!decide (x = y)))
  | .lss => K (.bool (decide (x < y)))
  | .leq => K (.bool (decide (x ≤ y)))
  | .gtr => K (.bool (decide (y < x)))
  | .geq => K (.bool (decide (y ≤ x)))
  | _ => none
def binCV {R : Type} (op : BinOp) (t : Nat) (a b : CV) (K : CV → Option R) : Option R :=
  match a, b with
  | .int k x, .int k' y => bif decide (k = k') then binInt op k x y K else none
  | .bool x, .bool y =>
    bif Nat.beq t 4 then
      match op with
      | .eql => K (.bool (x == y))
      | .neq => K (.bool (!(x == y)))
      | _ => none
    else none
  | _, _ => none
def minI (x y : Int) : Int := if y < x then y else x
def maxI (x y : Int) : Int := if x < y then y else x

/-! ### operations that look at no block -/
def setAt (cs : List CV) : Nat → List CV → List CV
  | _, [] => cs
  | i, v :: vs => setAt (cs.set i v) (i + 1) vs
def buildP (t : Nat) (T : List (Nat × CV)) : List CV → List (Nat × Operand) → Option (List CV)
  | cs, [] => some cs
  | cs, (i, x) :: ps =>
    match fld t i with
    | none => none
    | some (off, n) => match cks t with
      | none => none
      | some (_, ks) => match ev (match ks[off]? with | some (.slice k) => k.ty | _ => 3) T x with
        | none => none
        | some v => bif Nat.beq v.cells.length n && Nat.ble (off + n) cs.length && v.cells.all CV.isC then buildP t T (setAt cs off v.cells) ps else none
def zeros (t : Nat) : Option (List CV) := match cks t with | some (_, ks) => some (ks.map CK.zero) | none => none
def mkAgg (t : Nat) (cs : List CV) : Option CV :=
  match cks t with
  | some (true, ks) => bif Nat.beq ks.length cs.length then some (.agg cs) else none
  | some (false, _) => match cs with | [v] => bif v.isC then some v else none | _ => none
  | none => none

def pureOp {R : Type} (o : Op) (t : Nat) (T : List (Nat × CV)) (K : CV → Option R) : Option R :=
  match o with
  | .move x => match ev t T x with | some v => K v | none => none
  | .assign x => match ev t T x with | some v => K v | none => none
  | .pick c a b => match ev 4 T c with
    | some (.bool c) => bif c then (match ev t T a with | some v => K v | none => none) else (match ev t T b with | some v => K v | none => none)
    | _ => none
  | .binOp op xt x y _ => match ev xt T x with
    | none => none
    | some a => match ev xt T y with
      | none => none
      | some b => binCV op xt a b K
  | .unOp .not _ x => match ev 4 T x with | some (.bool b) => K (.bool (!b)) | _ => none
  | .convert src dst x => match ev src T x with
    | some (.int _ n) => match cks src with
      | some (false, [.int _]) => match cks dst with
        | some (false, [.int k]) => K (.int k (k.wrap n))
        | _ => none
      | _ => none
    | _ => none
  | .extract x i => match ev 0 T x with
    | some (.tup vs) => match vs[i]? with | some v => K v | none => none
    | _ => none
  | .fieldAddr s x f => match fld s f with
    | none => none
    | some (off, _) => match ev 0 T x with
      | some (.ptr y o) => K (.ptr y (o + off))
      | some (.pe y i j) => K (.pe y i (j + off))
      | some (.vp cs o) => K (.vp cs (o + off))
      | _ => none
  | .field s x f => bif Nat.beq s 25 && Nat.beq f 0 then
      (match ev s T x with
      | some (.agg cs) => match cs[0]? with | some v => K v | none => none
      | _ => none) else none
  | .makeFunc (.func f) first caps => bif Nat.beq first.size 0 then
      (match evs T caps.toList (caps.toList.map fun _ => 0) with | some vs => bif vs.all CV.isA then K (.fn f vs) else none | none => none) else none
  | .nilCheck x => match ev 0 T x with
    | some (.ptr y o) => K (.ptr y o)
    | some (.pe y i j) => K (.pe y i j)
    | some (.vp cs o) => K (.vp cs o)
    | _ => none
  | .build s parts => match zeros s with
    | none => none
    | some cs => match cks s with
      | some (true, _) => bif Nat.beq s 122 then none else
        (match buildP s T cs parts.toList with
        | some cs => K (.agg cs)
        | none => none)
      | _ => none
  | .call c => match c.callee with
    | .builtin .min => match evs T c.args.toList c.argTypes.toList with
      | some [.int k x, .int k' y] => bif decide (k = k') then K (.int k (minI x y)) else none
      | _ => none
    | .builtin .max => match evs T c.args.toList c.argTypes.toList with
      | some [.int k x, .int k' y] => bif decide (k = k') then K (.int k (maxI x y)) else none
      | _ => none
    | _ => none
  | _ => none

/-! ### operations that look at blocks, and change none -/
def loadK {R : Type} (t : Nat) (H : List (Nat × Option Blk)) (a : CV) (K : CV → Option R) : Option R :=
  match cks t with
  | none => none
  | some (_, ks) => match a with
    | .ptr x o => match get H x with
      | some (.cells _ cs) => match mkAgg t ((cs.drop o).take ks.length) with
        | some v => K v
        | none => none
      | _ => none
    | .vp cs o => match mkAgg t ((cs.drop o).take ks.length) with
      | some v => K v
      | none => none
    | .pe x i j => match get H x with
      | some (.arr _ k l) => match l[i]? with
        | some e => match mkAgg t (((k.cells e).drop j).take ks.length) with
          | some v => K v
          | none => none
        | none => none
      | _ => none
    | _ => none
def indexK {R : Type} (t : Nat) (H : List (Nat × Option Blk)) (s i : CV) (K : CV → Option R) : Option R :=
  match i with
  | .int _ n => match s with
    | .sl k l => bif Nat.beq k.ty t then
        (bif decide (0 ≤ n) then (match l[n.toNat]? with | some e => K (.vp (k.cells e) 0) | none => none) else none) else none
    | .ref x => match get H x with
      | some (.arr _ k l) => bif Nat.beq k.ty t then
          (bif decide (0 ≤ n) then (bif decide (n < (l.length : Int)) then K (.pe x n.toNat 0) else none) else none) else none
      | _ => none
    | .win x off len => match get H x with
      | some (.arr _ k _) => bif Nat.beq k.ty t then
          (bif decide (0 ≤ n) then (bif decide (n < (len : Int)) then K (.pe x (off + n.toNat) 0) else none) else none) else none
      | _ => none
    | _ => none
  | _ => none
def lenK {R : Type} (H : List (Nat × Option Blk)) (s : CV) (K : CV → Option R) : Option R :=
  match s with
  | .nil _ => K (.int .i64 0)
  | .sl _ l => K (.int .i64 (l.length : Int))
  | .ref x => match get H x with
    | some (.arr _ _ l) => K (.int .i64 (l.length : Int))
    | _ => none
  | .win x _ len => match get H x with
    | some _ => K (.int .i64 (len : Int))
    | none => none
  | _ => none
def bound {R : Type} (T : List (Nat × CV)) (x : Option Operand) (d : Int) (K : Int → Option R) : Option R :=
  match x with
  | none => K d
  | some x => match ev 3 T x with | some (.int _ n) => K n | _ => none
/-- a cut: 'x[lo:hi]', 'x[lo:hi:mx]', the upper end no more than the length -/
def sliceK {R : Type} (t : Nat) (T : List (Nat × CV)) (H : List (Nat × Option Blk)) (s : CV) (lo hi mx : Option Operand) (K : CV → Option R) : Option R :=
  match s with
  | .sl k l => bif Nat.beq k.ty t && mx.isNone then
      bound T lo 0 fun a => bound T hi (l.length : Int) fun b =>
        bif decide (0 ≤ a) then (bif decide (a ≤ b) then (bif decide (b ≤ (l.length : Int)) then K (.sl k ((l.drop a.toNat).take (b.toNat - a.toNat))) else none) else none) else none
    else none
  | .ref x => match get H x with
    | some (.arr _ k l) => bif Nat.beq k.ty t && (hi.isSome || mx.isNone) then
        bound T lo 0 fun a => bound T hi (l.length : Int) fun b => bound T mx b fun m =>
          bif decide (0 ≤ a) then (bif decide (a ≤ b) then (bif decide (b ≤ m) then (bif decide (m ≤ (l.length : Int)) then K (.win x a.toNat (b.toNat - a.toNat)) else none) else none) else none) else none
      else none
    | _ => none
  | _ => none

/-- data by value: blocks of the call's own are read out -/
def bv0 (H : List (Nat × Option Blk)) : CV → Option CV
  | .nil k => some (.sl k [])
  | .sl k l => some (.sl k l)
  | .ref x => match get H x with | some (.arr _ k l) => some (.sl k l) | _ => none
  | .win x off len => match get H x with | some (.arr _ k l) => some (.sl k ((l.drop off).take len)) | _ => none
  | .int k n => some (.int k n)
  | .bool b => some (.bool b)
  | .flt b => some (.flt b)
  | _ => none
def bvs (f : CV → Option CV) : List CV → Option (List CV)
  | [] => some []
  | v :: vs => match f v with
    | none => none
    | some v => match bvs f vs with
      | none => none
      | some vs => some (v :: vs)
def bv1 (H : List (Nat × Option Blk)) : CV → Option CV
  | .agg cs => match bvs (bv0 H) cs with | some cs => some (.agg cs) | none => none
  | .ptr x o => match get H x with
    | some (.cells _ cs) => match bvs (bv0 H) cs with | some cs => some (.vp cs o) | none => none
    | _ => none
  | .vp cs o => some (.vp cs o)
  | v => bv0 H v
def bv2 (H : List (Nat × Option Blk)) : CV → Option CV
  | .fn f cs => match bvs (bv1 H) cs with | some cs => some (.fn f cs) | none => none
  | .tup cs => match bvs (bv1 H) cs with | some cs => some (.tup cs) | none => none
  | v => bv1 H v

/-- what a call hands back as its own: each slice a block of ours -/
def own0 (x : Nat) : CV → CV × List Blk
  | .sl k l => (.ref x, [.arr false k l])
  | v => (v, [])
def owns (own : Nat → CV → CV × List Blk) : Nat → List CV → List CV × List Blk
  | _, [] => ([], [])
  | x, v :: vs => match own x v with
    | (v, bs) => match owns own (x + bs.length) vs with
      | (vs, cs) => (v :: vs, bs ++ cs)
def own1 (x : Nat) : CV → CV × List Blk
  | .agg cs => match owns own0 x cs with | (cs, bs) => (.agg cs, bs)
  | v => own0 x v
/-- 'fn 999': a row that is the whole of its block -/
def own2 (x : Nat) : CV → CV × List Blk
  | .tup cs => match owns own1 x cs with | (cs, bs) => (.tup cs, bs)
  | .fn 999 [.sl k l] => (.ref x, [.arr true k l])
  | v => own1 x v

/-- nothing of the call's own blocks is named -/
def nl0 : CV → Bool
  | .ref _ => false
  | .win _ _ _ => false
  | .ptr _ _ => false
  | .pe _ _ _ => false
  | _ => true
def nl1 : CV → Bool
  | .agg cs => cs.all nl0
  | v => nl0 v
def nl2 : CV → Bool
  | .fn _ cs => cs.all nl1
  | .tup cs => cs.all nl1
  | v => nl1 v
/-- what the called functions answer: 'true': in memory of its own; whether this may be said; the answer -/
abbrev Sems := Nat → List CV → Option (Bool × Bool × CV)

def elemsF (f : CV → Option CV) (T : List (Nat × CV)) (k : SK) : Nat → List (Nat × Operand) → Option (List k.T)
  | _, [] => some []
  | i, (j, x) :: ps => bif Nat.beq i j then
      (match ev k.el T x with
       | none => none
       | some v => match bvs f v.cells with
         | none => none
         | some cs => match k.elem? cs with
           | none => none
           | some e => match elemsF f T k (i + 1) ps with
             | none => none
             | some es => some (e :: es)) else none
/-- data that name no row of ours -/
def bvn (H : List (Nat × Option Blk)) : CV → Option CV
  | .ref _ => none
  | .win _ _ _ => none
  | v => bv0 H v
abbrev elems (H : List (Nat × Option Blk)) (T : List (Nat × CV)) (k : SK) : Nat → List (Nat × Operand) → Option (List k.T) := elemsF (bvn H) T k
/-- the elements of a slice that is appended, or copied from -/
def source {R : Type} (H : List (Nat × Option Blk)) (k : SK) (x : CV) (K : List k.T → Option R) : Option R :=
  match bv0 H x with
  | some (.sl k' l) => if h : k' = k then K (h ▸ l) else none
  | _ => none

def quiet {R : Type} (sem : Sems) (o : Op) (t x : Nat) (st : St) (K : CV → List Blk → Option R) : Option R :=
  match o with
  | .load t a => match ev 0 st.T a with | some a => loadK t st.H a fun v => K v [] | none => none
  | .indexAddr t s i => match ev t st.T s with
    | none => none
    | some s => match ev 3 st.T i with
      | none => none
      | some i => indexK t st.H s i fun v => K v []
  | .slice t s lo hi mx => match ev t st.T s with | some s => sliceK t st.T st.H s lo hi mx fun v => K v [] | none => none
  | .alloc t => match zeros t with | some cs => K (.ptr x 0) [.cells t cs] | none => none
  | .box t v => match ev t st.T v with
    | none => none
    | some v => match cks t with
      | none => none
      | some (_, ks) => bif Nat.beq ks.length v.cells.length && v.cells.all CV.isC then K (.ptr x 0) [.cells t v.cells] else none
  | .buildSlice t n parts => match kindOf t with
    | none => none
    | some k => bif Nat.beq parts.size n then
        (bif Nat.beq n 0 then K (.nil k) [] else
          (match elems st.H st.T k 0 parts.toList with
           | some l => bif Nat.ble n 1000 then (bif (sem 300000 []).isSome && decide (k = .int) then K (.sl k l) [] else K (.ref x) [.arr true k l]) else none
           | none => none)) else none
  | .makeSlice t n c => match kindOf t with
    | none => none
    | some k => match ev 3 st.T n with
      | some (.int _ n) => match ev 3 st.T c with
        | some (.int _ c) => match k.zero with
          | some z => bif decide (c = n) then
              (bif decide (0 ≤ n) then (bif decide (n ≤ 4294967296) then K (.ref x) [.arr true k (List.replicate n.toNat z)] else none) else none) else none
          | none => none
        | _ => none
      | _ => none
  | .call c => match c.callee with
    | .builtin .len => match evs st.T c.args.toList c.argTypes.toList with
      | some [s] => match c.argTypes.toList with
        | [t] => match kindOf t with
          | some _ => lenK st.H s fun v => K v []
          | none => none
        | _ => none
      | _ => none
    | .builtin .append => match evs st.T c.args.toList c.argTypes.toList with
      | some [.nil k, y] => match c.argTypes.toList with
        | [t, t'] => bif Nat.beq t k.ty && Nat.beq t' k.ty then
            source st.H k y fun l => bif Nat.ble l.length 4294967296 then K (.ref x) [.arr true k l] else none
          else none
        | _ => none
      | _ => none
    | .builtin .min => pureOp (.call c) t st.T fun v => K v []
    | .builtin .max => pureOp (.call c) t st.T fun v => K v []
    | .value (.func f) => match evs st.T c.args.toList c.argTypes.toList with
      | none => none
      | some us => match bvs (bv2 st.H) us with
        | none => none
        | some vs => match sem f vs with
          | some (true, g, r) => bif g then (match own2 x r with | (v, bs) => K v bs) else none
          | some (false, g, r) => bif g then (bif us.all nl2 then K r [] else none) else none
          | none => none
    | .value g => match ev 0 st.T g with
      | some (.fn f caps) => match evs st.T c.args.toList c.argTypes.toList with
        | none => none
        | some vs => match bvs (bv2 st.H) (vs ++ caps) with
          | none => none
          | some vs => match sem f vs with
            | some (true, g, r) => bif g then (match own2 x r with | (v, bs) => K v bs) else none
            | _ => none
      | _ => none
    | _ => none
  | o => pureOp o t st.T fun v => K v []
end Go.Proofs.Ytnfgfdeidkhdkaa.Eng
/- Eb: The engine, second part: operations that write, regions in one order, code, points at which what is not wanted any more is forgotten, functions. -/
namespace Go.Proofs.Ytnfgfdeidkhdkaa.Eng

/-- what is forgotten at a region's begin, and what is kept: 'thaw': a slice that is still nil becomes an empty row of the call's own (the tmp; the place of a cell behind it); 'src': the blocks that are kept; 'live': the tmps -/
structure Ann where
  thaw : List (Nat × Option Nat × SK)
  src : List (Nat × Option Nat)
  live : List Nat

/-- a function's surroundings: how many tmps, the least that is written, what is called, which calls let go of what they are handed, which write into the row that they are handed first, the points, the rounds -/
structure Env where
  nt : Nat
  low : Nat
  sem : Sems
  kill : List Nat
  msem : Nat → List Int → List CV → Option (Bool × List Int)
  wrs : List Nat
  pts : List (Nat × Ann)
  fuel : Nat

abbrev Hp := List (Nat × Option Blk)
/-- what an operation turns: tmps, blocks -/
structure U where
  T : List (Nat × CV)
  H : Hp
def St.app (st : St) (u : U) : St := ⟨u.T ++ st.T, u.H ++ st.H⟩

def nm0 : CV → List Nat
  | .ref x => [x]
  | .win x _ _ => [x]
  | _ => []
/-- it is no pointer -/
def npt : CV → Bool
  | .ptr _ _ => false
  | .pe _ _ _ => false
  | _ => true
/-- the boxes that a closure holds -/
def nmf (H : Hp) : List CV → Option (List Nat)
  | [] => some []
  | c :: cs => match nmf H cs with
    | none => none
    | some ys => match c with
      | .ptr x _ => match get H x with
        | some (.cells _ ds) => bif ds.all nl0 then some (x :: ys) else none
        | _ => none
      | c => bif nl1 c then some ys else none
def nms (H : Hp) : List CV → Option (List Nat)
  | [] => some []
  | v :: vs => match nms H vs with
    | none => none
    | some ys => match v with
      | .agg cs => bif cs.all npt then some (cs.flatMap nm0 ++ ys) else none
      | .ptr _ _ => none
      | .pe _ _ _ => none
      | .fn _ cs => match nmf H cs with | some zs => some (zs ++ ys) | none => none
      | .tup _ => none
      | v => some (nm0 v ++ ys)

/-- the rows that a written-out row's elements name -/
def nmE (T : List (Nat × CV)) (k : SK) (ps : List (Nat × Operand)) : List Nat := ps.flatMap fun p => match ev k.el T p.2 with
  | some v => v.cells.flatMap nm0
  | none => []
def wop {R : Type} (E : Env) (o : Op) (x : Nat) (st : St) (K : CV → Hp → Option R) : Option R :=
  match o with
  | .store t a v => match ev 0 st.T a with
    | none => none
    | some a => match ev t st.T v with
      | none => none
      | some v => match cks t with
        | none => none
        | some (_, ks) => bif Nat.beq ks.length v.cells.length && v.cells.all CV.isC then
            (match a with
            | .ptr y o => match get st.H y with
              | some (.cells t' cs) => bif Nat.ble (o + v.cells.length) cs.length then K (.tup []) [(y, some (.cells t' (setAt cs o v.cells)))] else none
              | _ => none
            | .pe y i j => match get st.H y with
              | some (.arr ap k l) => match l[i]? with
                | none => none
                | some e => bif v.cells.all nl0 && Nat.ble (j + v.cells.length) k.size then
                    (match k.elem? (setAt (k.cells e) j v.cells) with
                    | some e => K (.tup []) [(y, some (.arr ap k (l.set i e)))]
                    | none => none) else none
              | _ => none
            | _ => none) else none
  | .buildSlice t n parts => match kindOf t with
    | none => none
    | some k => bif Nat.beq parts.size n && !Nat.beq n 0 && Nat.beq E.low 0 && Nat.ble n 1000 then
        (match elemsF (bv0 st.H) st.T k 0 parts.toList with
        | some l => K (.ref x) ((x, some (.arr true k l)) :: (nmE st.T k parts.toList).map fun y => (y, none))
        | none => none) else none
  | .slice t s none (some hi) (some mx) => match ev t st.T s with
    | some (.ref y) => match get st.H y with
      | some (.arr _ k l) => match ev 3 st.T hi with
        | some (.int _ b) => match ev 3 st.T mx with
          | some (.int _ m) => bif Nat.beq k.ty t && decide (b = (l.length : Int)) && decide (m = (l.length : Int)) then K (.ref x) [(x, some (.arr false k l)), (y, none)] else none
          | _ => none
        | _ => none
      | _ => none
    | _ => none
  | .slice t s (some lo) none none => match ev t st.T s with
    | some (.ref y) => match get st.H y with
      | some (.arr _ k l) => match ev 3 st.T lo with
        | some (.int _ b) => bif Nat.beq k.ty t then (bif decide (0 ≤ b) then (bif decide (b ≤ (l.length : Int)) then K (.ref x) [(x, some (.arr false k (l.drop b.toNat))), (y, none)] else none) else none) else none
        | _ => none
      | _ => none
    | _ => none
  | .call c => match c.callee with
    | .builtin .append => match evs st.T c.args.toList c.argTypes.toList with
      | some [.ref y, z] => match c.argTypes.toList with
        | [t, t'] => match get st.H y with
          | some (.arr true k l) => bif Nat.beq t k.ty && Nat.beq t' k.ty then
              source st.H k z fun l' => bif Nat.ble (l.length + l'.length) 4294967296 then K (.ref x) [(x, some (.arr true k (l ++ l'))), (y, none)] else none
            else none
          | _ => none
        | _ => none
      | _ => none
    | .builtin .copy => match evs st.T c.args.toList c.argTypes.toList with
      | some [d, z] => match c.argTypes.toList with
       | [t, _] => match d with
        | .ref y => match get st.H y with
          | some (.arr ap k l) => bif !(Nat.beq k.size 1 && Nat.beq t k.ty) then none else source st.H k z fun l' =>
              K (.int .i64 ((min l.length l'.length : Nat) : Int)) [(y, some (.arr ap k (l'.take (min l.length l'.length) ++ l.drop (min l.length l'.length))))]
          | _ => none
        | .win y off len => match get st.H y with
          | some (.arr ap k l) => bif !(Nat.beq k.size 1 && Nat.beq t k.ty) then none else source st.H k z fun l' =>
              bif decide (off + len ≤ l.length) then
                K (.int .i64 ((min len l'.length : Nat) : Int)) [(y, some (.arr ap k (l.take off ++ l'.take (min len l'.length) ++ l.drop (off + min len l'.length))))]
              else none
          | _ => none
        | _ => none
       | _ => none
      | _ => none
    | .value (.func f) => match evs st.T c.args.toList c.argTypes.toList with
      | none => none
      | some us =>
        bif E.wrs.contains f then
          (match us with
          | .ref y :: us => match get st.H y with
            | some (.arr true .int l) => match bvs (bv2 st.H) us with
              | none => none
              | some vs => match nms st.H us with
                | none => none
                | some ys => bif ys.contains y then none else
                  (match E.msem f l vs with
                  | some (g, l') => bif g && decide (l'.length = l.length) then K (.tup []) [(y, some (.arr true .int l'))] else none
                  | none => none)
            | _ => none
          | _ => none)
        else (match bvs (bv2 st.H) us with
          | none => none
          | some vs => match nms st.H us with
            | none => none
            | some ys => match E.sem f vs with
              | some (false, g, r) => bif g then K r (ys.map fun y => (y, none)) else none
              | _ => none)
    | _ => none
  | _ => none

def nameB : Nat → List Blk → Hp
  | _, [] => []
  | x, b :: bs => (x, some b) :: nameB (x + 1) bs
def freshB (H : Hp) : Nat → List Blk → Bool
  | _, [] => true
  | x, _ :: bs => (match look H x with | none => true | _ => false) && freshB H (x + 1) bs
/-- does the operation write? -/
def isW (E : Env) (o : Op) (T : List (Nat × CV)) : Bool :=
  match o with
  | .store .. => true
  | .slice _ _ none (some _) (some _) => true
  | .slice _ (.tmp s) (some _) none none => E.kill.contains (100000 + s)
  | .buildSlice t n _ => (Nat.beq t 34 || Nat.beq t 53) && !Nat.beq n 0
  | .call c => match c.callee with
    | .builtin .append => match evs T c.args.toList c.argTypes.toList with
      | some (.nil _ :: _) => false
      | _ => true
    | .builtin .copy => true
    | .value (.func f) => E.wrs.contains f || E.kill.contains f
    | _ => false
  | _ => false
def isApp : Op → Bool
  | .buildSlice t n _ => (Nat.beq t 34 || Nat.beq t 53) && !Nat.beq n 0
  | .slice _ _ none (some _) (some _) => true
  | .slice _ _ (some _) none none => true
  | .call c => match c.callee with
    | .builtin .append => true
    | _ => false
  | _ => false
/-- one operation, its guard not looked at -/
def op1 {R : Type} (E : Env) (o : Oper) (st : St) (K : U → Option R) : Option R :=
  match o.dst with
  | some d => bif Nat.blt d E.nt && Nat.ble E.low d then
      (bif isW E o.op st.T then wop E o.op (8 * d) st fun v H => (bif !isApp o.op || (look st.H (8 * d)).isNone then K ⟨[(d, v)], H⟩ else none)
       else quiet E.sem o.op o.type (8 * d) st fun v bs => bif freshB st.H (8 * d) bs && Nat.ble bs.length 8 then K ⟨[(d, v)], nameB (8 * d) bs⟩ else none)
      else none
  | none => bif isW E o.op st.T && !isApp o.op then wop E o.op 0 st (fun _ H => K ⟨[], H⟩) else none
/-- what is left of an operation that is not wanted -/
def skipU {R : Type} (E : Env) (o : Oper) (K : U → Option R) : Option R :=
  match o.dst with
  | some d => bif Nat.blt d E.nt && Nat.ble E.low d then K ⟨[(d, .tup [])], []⟩ else none
  | none => K ⟨[], []⟩
/-- one operation of a region, with its guard -/
def opG {R : Type} (E : Env) (ops : Array Oper) (o : Oper) (st : St) (K : U → Option R) : Option R :=
  match o.guard with
  | none => op1 E o st K
  | some (g, want) => match (ops[g]?).bind (·.dst) with
    | none => none
    | some d => match look st.T d with
      | some (.bool b) => bif b == want then op1 E o st K else skipU E o K
      | some (.tup []) => skipU E o K
      | _ => none
/-- a truth that others wait for is told apart at once -/
def splitK {R : Type} (g : Bool) (u : U) (K : U → Option R) : Option R :=
  match g, u with
  | true, ⟨[(d, .bool b)], []⟩ => bif b then K ⟨[(d, .bool true)], []⟩ else K ⟨[(d, .bool false)], []⟩
  | _, u => K u
def guards (ops : Array Oper) : List Nat := ops.toList.filterMap fun p => match p.guard with | some (g, _) => (ops[g]?).bind (·.dst) | none => none
def isG (gs : List Nat) (o : Oper) : Bool := match o.dst with | some d => gs.contains d | none => false
def opS {R : Type} (E : Env) (ops : Array Oper) (gs : List Nat) (o : Oper) (st : St) (K : U → Option R) : Option R :=
  opG E ops o st fun u => splitK (isG gs o) u K
/-- a region in the text's order -/
def seqK {R : Type} (E : Env) (ops : Array Oper) (gs : List Nat) : List Oper → St → (St → Option R) → Option R
  | [], st, K => K st
  | o :: os, st, K => opS E ops gs o st fun u => seqK E ops gs os (st.app u) K

/-! ### regions whose order is open -/
/-- each once -/
def dd : List Nat → List Nat
  | [] => []
  | x :: l => bif (dd l).contains x then dd l else x :: dd l
theorem dd_mem : ∀ {l : List Nat} {q : Nat}, q ∈ dd l → q ∈ l
  | x :: l, q, h => by
    simp only [dd] at h
    by_cases hc : (dd l).contains x = true
    · rw [hc, cond_true] at h; exact List.mem_cons_of_mem _ (dd_mem h)
    · rw [Bool.eq_false_iff.2 hc, cond_false] at h
      rcases List.mem_cons.1 h with rfl | h
      · exact List.mem_cons_self ..
      · exact List.mem_cons_of_mem _ (dd_mem h)
def befStep (acc : List (List Nat)) (o : Oper) : List (List Nat) :=
  acc ++ [dd <| o.after.toList.flatMap fun e => bif Region.binds .any e then e.on :: (acc[e.on]?).getD [] else []]
def befs (os : List Oper) : List (List Nat) := os.foldl befStep []
def bef (B : List (List Nat)) (i : Nat) : List Nat := (B[i]?).getD []
def ord (B : List (List Nat)) (i j : Nat) : Bool := (bef B i).contains j || (bef B j).contains i
def readsOf (ops : Array Oper) (o : Oper) : List Nat :=
  (o.op.operands.toList.filterMap fun x => match x with | .tmp t => some t | _ => none) ++
  (match o.guard with | some (g, _) => (match (ops[g]?).bind (·.dst) with | some d => [d] | none => []) | none => [])
def noHeap : Op → Bool
  | .move _ => true
  | .assign _ => true
  | .pick .. => true
  | .binOp .. => true
  | .unOp .. => true
  | .extract .. => true
  | .fieldAddr .. => true
  | _ => false
def isLoad : Op → Bool
  | .load .. => true
  | _ => false
def isStore : Op → Bool
  | .store .. => true
  | _ => false
def hideArr (H : Hp) : Hp := H.map fun p => match p with | (x, some (.arr _ _ _)) => (x, none) | p => p
/-- what operation i may see: what it reads of the tmps; blocks, but for those that a store may turn whose order to it is open -/
def view (ops : Array Oper) (os : List Oper) (B : List (List Nat)) (i : Nat) (o : Oper) (st : St) : St :=
  ⟨st.T.filter fun p => (readsOf ops o).contains p.1,
   bif noHeap o.op then [] else
   bif isLoad o.op && (List.range os.length).any (fun j => !Nat.beq j i && !ord B i j && (match os[j]? with | some p => isStore p.op | none => false)) then hideArr st.H else st.H⟩
def appAll (st : St) : List (Nat × U) → St
  | [] => st
  | u :: us => appAll (st.app u.2) us
def viewAt (ops : Array Oper) (os : List Oper) (B : List (List Nat)) (base : St) (us : List (Nat × U)) (i : Nat) (o : Oper) : St :=
  view ops os B i o (appAll base (us.filter fun u => (bef B i).contains u.1))
/-- what binds lies ahead -/
def backOk (os : List Oper) : Bool := os.zipIdx.all fun p => p.1.after.toList.all fun e => !Region.binds .any e || Nat.blt e.on p.2
/-- the region's own form: no two operations write one tmp; none reads what another one writes whose order to it is open -/
def statOk (ops : Array Oper) (os : List Oper) (B : List (List Nat)) : Bool :=
  backOk os && (os.zipIdx.all fun p => match p.1.dst with
    | none => true
    | some d => os.zipIdx.all fun q => Nat.beq p.2 q.2 || ((match q.1.dst with | some e => !Nat.beq d e | none => true) && (ord B p.2 q.2 || !(readsOf ops q.1).contains d)))
/-- blocks that were there and are turned by an operation whose order to another one is open: the other one has not seen them -/
def segOk (ops : Array Oper) (os : List Oper) (B : List (List Nat)) (base : St) (us : List (Nat × U)) : Bool :=
  us.all fun u => u.2.H.all fun h => us.all fun w => Nat.beq u.1 w.1 || ord B u.1 w.1 ||
    ((match os[w.1]? with | some o => (match get (viewAt ops os B base us w.1 o).H h.1 with | none => true | some _ => false) | none => false) && w.2.H.all fun k => !Nat.beq k.1 h.1)
def drawK {R : Type} (E : Env) (ops : Array Oper) (os : List Oper) (gs : List Nat) (B : List (List Nat)) : List (Nat × Oper) → St → List (Nat × U) → (St → Option R) → Option R
  | [], base, us, K => bif segOk ops os B base us then K (appAll base us) else none
  | (i, o) :: rest, base, us, K => opS E ops gs o (viewAt ops os B base us i o) fun u => drawK E ops os gs B rest base (us ++ [(i, u)]) K

/-! ### forgetting -/
def thaw1 (st : St) (a : Nat × Option Nat × SK) : St :=
  match a with
  | (t, none, k) => match look st.T t with
    | some (.nil k') => bif decide (k' = k) then (match look st.H (16000 + t) with
        | none => ⟨(t, .ref (16000 + t)) :: st.T, (16000 + t, some (.arr true k [])) :: st.H⟩
        | some _ => st) else st
    | _ => st
  | (t, some j, k) => match look st.T t with
    | some (.ptr x 0) => match get st.H x with
      | some (.cells t' cs) => match cs[j]? with
        | some (.nil k') => bif decide (k' = k) then (match look st.H (24000 + 64 * t + j) with
            | none => ⟨st.T, (x, some (.cells t' (cs.set j (.ref (24000 + 64 * t + j))))) :: (24000 + 64 * t + j, some (.arr true k [])) :: st.H⟩
            | some _ => st) else st
        | _ => st
      | _ => st
    | _ => st
def srcOf (st : St) (a : Nat × Option Nat) : Option Nat :=
  match a with
  | (t, none) => match look st.T t with
    | some (.ref x) => some x
    | some (.win x _ _) => some x
    | some (.ptr x _) => some x
    | some (.pe x _ _) => some x
    | _ => none
  | (t, some j) => match look st.T t with
    | some (.ptr x _) => match get st.H x with
      | some (.cells _ cs) => match cs[j]? with
        | some (.ref y) => some y
        | some (.win y _ _) => some y
        | _ => none
      | _ => none
    | _ => none
def srcs (st : St) : List (Nat × Option Nat) → Option (List Nat)
  | [] => some []
  | a :: l => match srcOf st a with
    | none => srcs st l
    | some x => match srcs st l with
      | none => none
      | some xs => bif xs.contains x then some xs else some (x :: xs)
/-- the new name of a block that is kept -/
def ren : Nat → List Nat → Nat → Option Nat
  | _, [], _ => none
  | n, y :: ys, x => bif Nat.beq y x then some n else ren (n + 1) ys x
def rnC (xs : List Nat) : CV → Option CV
  | .ref x => match ren 8000 xs x with | some y => some (.ref y) | none => none
  | .win x o l => match ren 8000 xs x with | some y => some (.win y o l) | none => none
  | .int k n => some (.int k n)
  | .bool b => some (.bool b)
  | .nil k => some (.sl k [])
  | .sl k l => some (.sl k l)
  | _ => none
def rn0 (xs : List Nat) : CV → Option CV
  | .ref x => match ren 8000 xs x with | some y => some (.ref y) | none => none
  | .win x o l => match ren 8000 xs x with | some y => some (.win y o l) | none => none
  | .ptr x o => match ren 8000 xs x with | some y => some (.ptr y o) | none => none
  | .pe x i j => match ren 8000 xs x with | some y => some (.pe y i j) | none => none
  | .agg cs => match bvs (rnC xs) cs with | some cs => some (.agg cs) | none => none
  | .tup _ => none
  | .fn _ _ => none
  | .nil k => some (.sl k [])
  | v => some v
def rnT (xs : List Nat) : CV → Option CV
  | .fn f cs => bif cs.all nl1 then some (.fn f cs) else none
  | v => rn0 xs v
def rnB (xs : List Nat) : Option Blk → Option (Option Blk)
  | some (.arr ap k l) => some (some (.arr ap k l))
  | some (.cells t cs) => match bvs (rn0 xs) cs with | some cs => some (some (.cells t cs)) | none => none
  | none => none
def keepT (st : St) (xs : List Nat) : List Nat → Option (List (Nat × CV))
  | [] => some []
  | t :: ts => match look st.T t with
    | none => keepT st xs ts
    | some v => match rnT xs v with
      | none => none
      | some v => match keepT st xs ts with
        | none => none
        | some r => some ((t, v) :: r)
def keepH (st : St) (xs : List Nat) : Nat → List Nat → Option Hp
  | _, [] => some []
  | n, y :: ys => match rnB xs (get st.H y) with
    | none => none
    | some b => match keepH st xs (n + 1) ys with
      | none => none
      | some r => some ((n, b) :: r)
def norm {R : Type} (a : Ann) (st : St) (K : St → Option R) : Option R :=
  match srcs (a.thaw.foldl thaw1 st) a.src with
  | none => none
  | some xs => match keepT (a.thaw.foldl thaw1 st) xs a.live with
    | none => none
    | some T => match keepH (a.thaw.foldl thaw1 st) xs 8000 xs with
      | none => none
      | some H => K ⟨T, H⟩

/-! ### code -/
def regK {R : Type} (E : Env) (ops : Array Oper) (draw : Bool) (st : St) (K : St → Option R) : Option R :=
  match draw with
  | false => seqK E ops (guards ops) ops.toList st K
  | true => bif statOk ops ops.toList (befs ops.toList) then drawK E ops ops.toList (guards ops) (befs ops.toList) (ops.toList.zipIdx.map fun p => (p.2, p.1)) st [] K else none
/-- a loop's own number: its first region's, and a hundred thousand -/
def loopId : Code → Nat
  | .region id _ _ => 100000 + id
  | .seq a _ => loopId a
  | .block _ c => loopId c
  | .scope c => loopId c
  | _ => 99999
def normL {R : Type} (E : Env) (c : Code) (st : St) (K : St → Option R) : Option R :=
  match look E.pts (loopId c) with
  | none => K st
  | some a => norm a st K
def loopK {R : Type} (nrm : St → (St → Option R) → Option R) (body : (St → Option R) → St → Option R) : Nat → St → Option R
  | 0, _ => none
  | n + 1, st => nrm st (body (loopK nrm body n))
def exK {R : Type} (E : Env) : Code → (St → Option R) → (Nat → St → Option R) → (St → Option R) → St → Option R
  | .skip, kn, _, _, st => kn st
  | .region id ops draw, kn, _, _, st => match look E.pts id with
    | none => regK E ops draw st kn
    | some a => norm a st fun st => regK E ops draw st kn
  | .seq a b, kn, ke, kr, st => exK E a (fun st => exK E b kn ke kr st) ke kr st
  | .cond c a b, kn, ke, kr, st => match ev 4 st.T c with
    | some (.bool t) => bif t then exK E a kn ke kr st else exK E b kn ke kr st
    | _ => none
  | .block id c, kn, ke, kr, st => exK E c kn (fun i st => bif Nat.beq i id then kn st else ke i st) kr st
  | .loop c, _, ke, kr, st => loopK (normL E c) (fun again st => exK E c again ke kr st) E.fuel st
  | .exit id, _, ke, _, st => ke id st
  | .scope c, kn, ke, kr, st => exK E c kn ke kr st
  | .label _, kn, _, _, st => kn st
  | .ret, _, _, kr, st => kr st
  | _, _, _, _, _ => none

/-! ### a function -/
def resOf (st : St) : ResultVar → Option CV
  | .tmp t => look st.T t
  | .cell a t => match look st.T a with
    | some p => loadK t st.H p some
    | none => none
def ress (st : St) : List ResultVar → Option (List CV)
  | [] => some []
  | r :: rs => match resOf st r with
    | none => none
    | some v => match ress st rs with
      | none => none
      | some vs => some (v :: vs)
def oneOf : List CV → CV
  | [v] => v
  | vs => .tup vs
/-- its elements are of plain numbers -/
def SK.plain : SK → Bool
  | .part => false
  | .net => false
  | _ => true
/-- handed back as the callee's own: slices are blocks of its own, no block twice -/
def out0 (H : Hp) (seen : List Nat) : CV → Option (CV × List Nat)
  | .nil k => bif k.plain then some (.sl k [], seen) else none
  | .ref x => bif seen.contains x then none else (match get H x with | some (.arr _ k l) => bif k.plain then some (.sl k l, x :: seen) else none | _ => none)
  | .int k n => some (.int k n, seen)
  | .bool b => some (.bool b, seen)
  | .flt b => some (.flt b, seen)
  | _ => none
def outs (f : List Nat → CV → Option (CV × List Nat)) (seen : List Nat) : List CV → Option (List CV × List Nat)
  | [] => some ([], seen)
  | v :: vs => match f seen v with
    | none => none
    | some (v, seen) => match outs f seen vs with
      | none => none
      | some (vs, seen) => some (v :: vs, seen)
def out1 (H : Hp) (seen : List Nat) : CV → Option (CV × List Nat)
  | .agg cs => match outs (out0 H) seen cs with | some (cs, seen) => some (.agg cs, seen) | none => none
  | v => out0 H seen v
def out2 (H : Hp) : CV → Option CV
  | .tup cs => match outs (out1 H) [] cs with | some (cs, _) => some (.tup cs) | none => none
  | v => match out1 H [] v with | some (v, _) => some v | none => none
/-- the function's end: 'own': what is handed back is new memory -/
def endK (own : Bool) (rs : List ResultVar) (st : St) : Option CV :=
  match ress st rs with
  | none => none
  | some vs => match own with
    | true => out2 st.H (oneOf vs)
    | false => bv2 st.H (oneOf vs)
def parT : Nat → List CV → List (Nat × CV)
  | _, [] => []
  | i, v :: vs => (i, v) :: parT (i + 1) vs
def runF (E : Env) (own : Bool) (fn : Func) (args : List CV) : Option CV :=
  match fn.body with
  | none => none
  | some c => exK E c (endK own fn.results.toList) (fun _ _ => none) (endK own fn.results.toList) ⟨parT 0 args, []⟩
/-- a function that writes into the row that it is handed first -/
def endM (st : St) : Option (List Int) :=
  match look st.T 0 with
  | some (.ref y) => match get st.H y with
    | some (.arr true .int l) => some l
    | _ => none
  | _ => none
def runM (E : Env) (fn : Func) (l : List Int) (args : List CV) : Option (List Int) :=
  match fn.body with
  | none => none
  | some c => exK E c endM (fun _ _ => none) endM ⟨parT 0 (.ref 90000 :: args), [(90000, some (.arr true .int l))]⟩
end Go.Proofs.Ytnfgfdeidkhdkaa.Eng
/- Ec: The engine's soundness, first part: how the engine's data stand to the model's memory, and that they go on standing so where what they lean on is left alone. -/
namespace Go.Proofs.Ytnfgfdeidkhdkaa.Eng
open Go.RowKit (Below)
set_option linter.unusedVariables false

def All2 {α β : Type} (r : α → β → Prop) : List α → List β → Prop
  | [], [] => True
  | a :: l, b :: m => r a b ∧ All2 r l m
  | _, _ => False
theorem All2.mono {α β : Type} {r s : α → β → Prop} : ∀ {l : List α} {m : List β}, (∀ a, a ∈ l → ∀ b, r a b → s a b) → All2 r l m → All2 s l m
  | [], [], _, _ => trivial
  | a :: l, b :: m, h, hh => ⟨h a (List.mem_cons_self ..) b hh.1, All2.mono (fun a ha => h a (List.mem_cons_of_mem _ ha)) hh.2⟩
  | [], _ :: _, _, hh => hh.elim
  | _ :: _, [], _, hh => hh.elim
theorem All2.length {α β : Type} {r : α → β → Prop} : ∀ {l : List α} {m : List β}, All2 r l m → l.length = m.length
  | [], [], _ => rfl
  | _ :: _, _ :: _, h => by simp [All2.length h.2]
  | [], _ :: _, h => h.elim
  | _ :: _, [], h => h.elim
theorem All2.get {α β : Type} {r : α → β → Prop} : ∀ {l : List α} {m : List β}, All2 r l m → ∀ {i : Nat} {a : α}, l[i]? = some a → ∃ b, m[i]? = some b ∧ r a b
  | [], [], _, i, a, h => by simp at h
  | x :: l, y :: m, h, 0, a, hi => by simp at hi; subst hi; exact ⟨y, by simp, h.1⟩
  | x :: l, y :: m, h, i + 1, a, hi => by simpa using All2.get h.2 (by simpa using hi)
  | [], _ :: _, h, _, _, _ => h.elim
  | _ :: _, [], h, _, _, _ => h.elim
theorem All2.get' {α β : Type} {r : α → β → Prop} {l : List α} {m : List β} (h : All2 r l m) {i : Nat} {b : β} (hb : m[i]? = some b) : ∃ a, l[i]? = some a ∧ r a b := by
  have hl := h.length
  obtain ⟨hi, -⟩ := List.getElem?_eq_some_iff.1 hb
  have hi' : i < l.length := by omega
  obtain ⟨b', hb', hr⟩ := h.get (List.getElem?_eq_getElem hi')
  rw [hb] at hb'; cases hb'
  exact ⟨_, List.getElem?_eq_getElem hi', hr⟩
theorem All2.of {α β : Type} {r : α → β → Prop} : ∀ {l : List α} {m : List β}, l.length = m.length → (∀ (i : Nat) a b, l[i]? = some a → m[i]? = some b → r a b) → All2 r l m
  | [], [], _, _ => trivial
  | a :: l, b :: m, hl, h => ⟨h 0 a b (by simp) (by simp), All2.of (by simpa using hl) fun i a b ha hb => h (i + 1) a b (by simpa using ha) (by simpa using hb)⟩
  | [], _ :: _, hl, _ => by simp at hl
  | _ :: _, [], hl, _ => by simp at hl
theorem All2.append {α β : Type} {r : α → β → Prop} : ∀ {l : List α} {m : List β} {l' : List α} {m' : List β}, All2 r l m → All2 r l' m' → All2 r (l ++ l') (m ++ m')
  | [], [], _, _, _, h => h
  | _ :: _, _ :: _, _, _, h, h' => ⟨h.1, All2.append h.2 h'⟩
  | [], _ :: _, _, _, h, _ => h.elim
  | _ :: _, [], _, _, h, _ => h.elim

structure Lc where
  g : Nat
  o : Nat
  n : Nat
  c : Nat
  s : Nat
abbrev Loc := Nat → Option Lc

/-! ### data that lie where nothing turns -/
def scal : CV → Value → Prop
  | .int k n, v => v = .int k n
  | .bool b, v => v = .bool b
  | .flt b, v => v = .float .f64 b
  | _, _ => False
def rowR (rel : CV → Value → Prop) (w : World) (R : Nat → Prop) (cs : List CV) (n : Nat) (v : Value) : Prop :=
  ∃ A c, v = .slice A n c ∧ n ≤ c ∧ ∀ i u, cs[i]? = some u → ∃ a x, A = some a ∧ R a.block ∧ w.cell? (a.add i) = some x ∧ rel u x
def lev (w : World) (R : Nat → Prop) : Nat → CV → Value → Prop
  | 0 => scal
  | n + 1 => fun c v => match c with
    | .sl k l => rowR (lev w R n) w R (l.flatMap k.cells) l.length v
    | c => scal c v
def bvR (w : World) (R : Nat → Prop) : CV → Value → Prop := lev w R 2

theorem scal_one {c : CV} {v : Value} (h : scal c v) : v.oneCell' = true := by
  cases c <;> simp only [scal] at h <;> first | exact h.elim | (subst h; rfl)
theorem lev_one {w : World} {R : Nat → Prop} : ∀ {n : Nat} {c : CV} {v : Value}, lev w R n c v → v.oneCell' = true
  | 0, c, v, h => scal_one h
  | n + 1, c, v, h => by
    cases c <;> simp only [lev] at h <;> first
      | exact scal_one h
      | (obtain ⟨A, c, rfl, _⟩ := h; rfl)
theorem lev_tr {w w' : World} {R R' : Nat → Prop} (hh : ∀ b, R b → w'.heap[b]? = w.heap[b]?) (hs : ∀ b, R b → R' b) :
    ∀ {n : Nat} {c : CV} {v : Value}, lev w R n c v → lev w' R' n c v
  | 0, _, _, h => h
  | n + 1, c, v, h => by
    cases c <;> simp only [lev] at h ⊢ <;> first
      | exact h
      | (obtain ⟨A, c, rfl, hn, hc⟩ := h
         refine ⟨A, c, rfl, hn, fun i u hu => ?_⟩
         obtain ⟨a, x, hA, hR, hx, hr⟩ := hc i u hu
         refine ⟨a, x, hA, hs _ hR, ?_, lev_tr hh hs hr⟩
         rw [World.cell?_of_block (w := w)]
         · exact hx
         · have hb : (a.add i).block = a.block := by unfold Addr.add; split <;> rfl
           rw [hb]; exact hh _ hR)
theorem lev_lift {w : World} {R : Nat → Prop} : ∀ {n : Nat} {c : CV} {v : Value}, lev w R n c v → lev w R (n + 1) c v
  | 0, c, v, h => by cases c <;> simp only [lev] at h ⊢ <;> first | exact h | exact h.elim
  | n + 1, c, v, h => by
    cases c <;> simp only [lev] at h ⊢ <;> first
      | exact h
      | (obtain ⟨A, c, rfl, hn, hc⟩ := h
         refine ⟨A, c, rfl, hn, fun i u hu => ?_⟩
         obtain ⟨a, x, hA, hR, hx, hr⟩ := hc i u hu
         exact ⟨a, x, hA, hR, hx, lev_lift hr⟩)
theorem bvR_tr {w w' : World} {R R' : Nat → Prop} (hh : ∀ b, R b → w'.heap[b]? = w.heap[b]?) (hs : ∀ b, R b → R' b) {c : CV} {v : Value}
    (h : bvR w R c v) : bvR w' R' c v := lev_tr hh hs h

/-! ### the call's own -/
/-- what stands for each world: 'R': blocks that nothing turns; 'lv': names that live; 'loc': where they lie -/
structure Cx where
  w : World
  R : Nat → Prop
  lv : Nat → Prop
  loc : Loc

def cellR (C : Cx) : CV → Value → Prop
  | .nil _, v => ∃ A, v = .slice A 0 0
  | .ref x, v => (∃ A n c, v = .slice A n c) ∧ (C.lv x → match C.loc x with
      | none => ∃ A, v = .slice A 0 0
      | some L => v = .slice (some ⟨L.g, L.o, none⟩) L.n L.c)
  | .win x off len, v => (∃ A n c, v = .slice A n c) ∧ (C.lv x → match C.loc x with
      | none => len = 0 ∧ ∃ A c, v = .slice A 0 c
      | some L => off + len ≤ L.n ∧ ∃ A c, v = .slice A len c ∧ len ≤ c ∧ (0 < len → A = some ⟨L.g, L.o + off * L.s, none⟩))
  | .ptr x off, v => (∃ a, v = .pointer (some a)) ∧ (C.lv x → ∃ L, C.loc x = some L ∧ v = .pointer (some ⟨L.g, L.o + off, none⟩))
  | .pe x i j, v => (∃ a, v = .pointer (some a)) ∧ (C.lv x → ∃ L, C.loc x = some L ∧ v = .pointer (some ⟨L.g, L.o + i * L.s + j, none⟩))
  | .vp cs off, v => ∃ g o, C.R g ∧ v = .pointer (some ⟨g, o + off, none⟩) ∧ ∀ i u, cs[i]? = some u → ∃ x, C.w.cell? ⟨g, o + i, none⟩ = some x ∧ bvR C.w C.R u x
  | .nptr, v => v = .pointer none
  | .agg _, _ => False
  | .tup _, _ => False
  | .fn _ _, _ => False
  | .unk, v => v.oneCell' = true
  | .int k n, v => v = .int k n
  | .bool b, v => v = .bool b
  | .flt b, v => v = .float .f64 b
  | .sl k l, v => bvR C.w C.R (.sl k l) v
def aggR (C : Cx) : CV → Value → Prop
  | .agg cs, v => ∃ vs : Array Value, v = .agg vs ∧ All2 (cellR C) cs vs.toList
  | c, v => cellR C c v
def valR (C : Cx) : CV → Value → Prop
  | .tup cs, v => ∃ vs : Array Value, v = .tuple vs ∧ All2 (aggR C) cs vs.toList
  | .fn f cs, v => ∃ vs : Array Value, v = .func (.func f) #[] vs ∧ All2 (aggR C) cs vs.toList
  | c, v => aggR C c v

def n0 : CV → List Nat
  | .ref x => [x]
  | .win x _ _ => [x]
  | .ptr x _ => [x]
  | .pe x _ _ => [x]
  | _ => []
def n1 : CV → List Nat
  | .agg cs => cs.flatMap n0
  | c => n0 c
def n2 : CV → List Nat
  | .tup cs => cs.flatMap n1
  | .fn _ cs => cs.flatMap n1
  | c => n1 c

/-- one world behind another one, for what leans on these names alone -/
structure Tr (C D : Cx) (N : Nat → Prop) : Prop where
  heap : ∀ b, C.R b → D.w.heap[b]? = C.w.heap[b]?
  sub : ∀ b, C.R b → D.R b
  nm : ∀ x, N x → D.lv x → C.lv x ∧ D.loc x = C.loc x

theorem cellR_one {C : Cx} {c : CV} {v : Value} (h : cellR C c v) : v.oneCell' = true := by
  cases c <;> simp only [cellR] at h <;> first
    | exact h.elim
    | exact h
    | (subst h; rfl)
    | (obtain ⟨A, rfl⟩ := h; rfl)
    | (obtain ⟨⟨A, n, c, rfl⟩, _⟩ := h; rfl)
    | (obtain ⟨⟨a, rfl⟩, _⟩ := h; rfl)
    | (obtain ⟨g, o, _, rfl, _⟩ := h; rfl)
    | exact lev_one h
theorem cellR_tr {C D : Cx} {N : Nat → Prop} (t : Tr C D N) {c : CV} {v : Value} (hn : ∀ x, x ∈ n0 c → N x) (h : cellR C c v) : cellR D c v := by
  cases c <;> simp only [cellR] at h ⊢
  case sl => exact bvR_tr t.heap t.sub h
  case vp cs off =>
    obtain ⟨g, o, hR, rfl, hc⟩ := h
    refine ⟨g, o, t.sub _ hR, rfl, fun i u hu => ?_⟩
    obtain ⟨x, hx, hr⟩ := hc i u hu
    exact ⟨x, (World.cell?_of_block (w := C.w) (t.heap g hR)).trans hx, bvR_tr t.heap t.sub hr⟩
  case ref x =>
    refine ⟨h.1, fun hl => ?_⟩
    obtain ⟨a, b⟩ := t.nm x (hn x (by simp [n0])) hl
    rw [b]; exact h.2 a
  case win x off len =>
    refine ⟨h.1, fun hl => ?_⟩
    obtain ⟨a, b⟩ := t.nm x (hn x (by simp [n0])) hl
    rw [b]; exact h.2 a
  case ptr x off =>
    refine ⟨h.1, fun hl => ?_⟩
    obtain ⟨a, b⟩ := t.nm x (hn x (by simp [n0])) hl
    rw [b]; exact h.2 a
  case pe x i j =>
    refine ⟨h.1, fun hl => ?_⟩
    obtain ⟨a, b⟩ := t.nm x (hn x (by simp [n0])) hl
    rw [b]; exact h.2 a
  all_goals exact h
theorem aggR_tr {C D : Cx} {N : Nat → Prop} (t : Tr C D N) {c : CV} {v : Value} (hn : ∀ x, x ∈ n1 c → N x) (h : aggR C c v) : aggR D c v := by
  cases c
  case agg cs =>
    obtain ⟨vs, rfl, ha⟩ := h
    exact ⟨vs, rfl, ha.mono fun a ha b hb => cellR_tr t (fun x hx => hn x (List.mem_flatMap.2 ⟨a, ha, hx⟩)) hb⟩
  all_goals
    simp only [aggR, n1] at h hn ⊢
    exact cellR_tr t hn h
theorem valR_tr {C D : Cx} {N : Nat → Prop} (t : Tr C D N) {c : CV} {v : Value} (hn : ∀ x, x ∈ n2 c → N x) (h : valR C c v) : valR D c v := by
  cases c
  case tup cs =>
    obtain ⟨vs, rfl, ha⟩ := h
    exact ⟨vs, rfl, ha.mono fun a ha b hb => aggR_tr t (fun x hx => hn x (List.mem_flatMap.2 ⟨a, ha, hx⟩)) hb⟩
  case fn f cs =>
    obtain ⟨vs, rfl, ha⟩ := h
    exact ⟨vs, rfl, ha.mono fun a ha b hb => aggR_tr t (fun x hx => hn x (List.mem_flatMap.2 ⟨a, ha, hx⟩)) hb⟩
  all_goals
    simp only [valR, n2] at h hn ⊢
    exact aggR_tr t hn h

/-- a block of the call's own -/
def blkR (C : Cx) (x : Nat) : Blk → Prop
  | .arr ap k l => match C.loc x with
    | none => l = []
    | some L => L.n = l.length ∧ L.s = k.size ∧ L.n ≤ L.c ∧ L.c ≤ maxLen ∧ ∃ cur : Array Value, C.w.heap[L.g]? = some (.cells cur k.el (0, 0)) ∧
        (ap = true → L.o = 0 ∧ cur.size = L.c * k.size) ∧ ∀ i u, (l.flatMap k.cells)[i]? = some u → ∃ y, cur[L.o + i]? = some y ∧ bvR C.w C.R u y
  | .cells _ cs => ∃ L, C.loc x = some L ∧ ∃ (cur : Array Value) (t : TypeId), C.w.heap[L.g]? = some (.cells cur t (0, 0)) ∧
      ∀ i u, cs[i]? = some u → ∃ y, cur[L.o + i]? = some y ∧ cellR C u y
def nB : Blk → List Nat
  | .arr _ _ _ => []
  | .cells _ cs => cs.flatMap n0

theorem blkR_tr {C D : Cx} {N : Nat → Prop} (t : Tr C D N) {x : Nat} {b : Blk} (hl : D.loc x = C.loc x) (hg : ∀ L, C.loc x = some L → D.w.heap[L.g]? = C.w.heap[L.g]?)
    (hn : ∀ y, y ∈ nB b → N y) (h : blkR C x b) : blkR D x b := by
  cases b
  case arr ap k l =>
    simp only [blkR, hl] at h ⊢
    cases hL : C.loc x with
    | none => rw [hL] at h; exact h
    | some L =>
      rw [hL] at h
      obtain ⟨h1, h2, h3, h4, cur, h5, h6, h7⟩ := h
      refine ⟨h1, h2, h3, h4, cur, (hg L hL).trans h5, h6, fun i u hu => ?_⟩
      obtain ⟨y, hy, hr⟩ := h7 i u hu
      exact ⟨y, hy, bvR_tr t.heap t.sub hr⟩
  case cells ty cs =>
    obtain ⟨L, hL, cur, ct, h5, h7⟩ := h
    refine ⟨L, hl.trans hL, cur, ct, (hg L hL).trans h5, fun i u hu => ?_⟩
    obtain ⟨y, hy, hr⟩ := h7 i u hu
    exact ⟨y, hy, cellR_tr t (fun z hz => hn z (List.mem_flatMap.2 ⟨u, List.mem_of_getElem? hu, hz⟩)) hr⟩

theorem look_cons {α : Type} (i : Nat) (v : α) (l : List (Nat × α)) (j : Nat) : look ((i, v) :: l) j = if i = j then some v else look l j := by
  simp only [look]
  by_cases h : i = j
  · subst h; simp
  · have : Nat.beq i j = false := Bool.eq_false_iff.2 fun e => h (Nat.eq_of_beq_eq_true e)
    simp [this, h]
theorem look_append {α : Type} : ∀ (l m : List (Nat × α)) (j : Nat), look (l ++ m) j = match look l j with | some v => some v | none => look m j
  | [], m, j => rfl
  | (i, v) :: l, m, j => by
    rw [List.cons_append, look_cons, look_cons, look_append l m j]
    split <;> rfl
theorem get_eq (H : Hp) (x : Nat) : get H x = (look H x).join := by
  unfold get; cases look H x <;> rfl
theorem get_some {H : Hp} {x : Nat} {b : Blk} : get H x = some b ↔ look H x = some (some b) := by
  rw [get_eq]; cases h : look H x with
  | none => simp
  | some o => cases o <;> simp

/-- where a function's run stands: 'w0', 'R0': as it began; 'mayW': the blocks that it may write to; 'pin': what its first tmp goes on to hold -/
structure Base where
  w0 : World
  R0 : Nat → Prop
  mayW : Nat → Prop
  pin : Option Value
structure SimL (B : Base) (nt : Nat) (C : Cx) (st : St) (a : Act) : Prop where
  size : a.tmps.size = nt
  dfr : a.defers = []
  os : C.w.os = B.w0.os
  tape : C.w.tape = B.w0.tape
  output : C.w.output = B.w0.output
  grow : B.w0.heap.size ≤ C.w.heap.size
  keep : ∀ b, b < B.w0.heap.size → ¬ B.mayW b → C.w.heap[b]? = B.w0.heap[b]?
  rsub : ∀ b, B.R0 b → C.R b
  rlt : ∀ b, C.R b → b < C.w.heap.size
  rnew : ∀ b, C.R b → B.R0 b ∨ B.w0.heap.size ≤ b
  lv : ∀ x, C.lv x ↔ ∃ b, look st.H x = some (some b)
  tm : ∀ t c, look st.T t = some c → ∃ v, a.tmps[t]? = some v ∧ valR C c v
  bl : ∀ x b, look st.H x = some (some b) → blkR C x b ∧ ∀ L, C.loc x = some L → (B.w0.heap.size ≤ L.g ∨ B.mayW L.g) ∧ ¬ C.R L.g ∧ L.g < C.w.heap.size
  dj : ∀ x y L M, C.lv x → C.lv y → C.loc x = some L → C.loc y = some M → x ≠ y → L.g ≠ M.g
  nmT : ∀ t c, look st.T t = some c → ∀ x, x ∈ n2 c → ∃ o, look st.H x = some o
  nmH : ∀ y b, look st.H y = some (some b) → ∀ x, x ∈ nB b → ∃ o, look st.H x = some o
  pin : ∀ v, B.pin = some v → a.tmps[0]? = some v
def Sim (B : Base) (nt : Nat) (st : St) (a : Act) (w : World) : Prop := ∃ R lv loc, SimL B nt ⟨w, R, lv, loc⟩ st a

/-- only what is looked up counts -/
def St.eqv (s t : St) : Prop := (∀ i, look s.T i = look t.T i) ∧ ∀ x, look s.H x = look t.H x
theorem SimL.eqv {B : Base} {nt : Nat} {C : Cx} {s t : St} {a : Act} (h : SimL B nt C s a) (e : s.eqv t) : SimL B nt C t a := by
  obtain ⟨e1, e2⟩ := e
  exact { h with
    lv := fun x => by rw [← e2]; exact h.lv x
    tm := fun i c hc => h.tm i c (by rw [e1]; exact hc)
    bl := fun x b hb => h.bl x b (by rw [e2]; exact hb)
    nmT := fun i c hc x hx => by rw [← e2]; exact h.nmT i c (by rw [e1]; exact hc) x hx
    nmH := fun y b hb x hx => by rw [← e2]; exact h.nmH y b (by rw [e2]; exact hb) x hx }
theorem Sim.eqv {B : Base} {nt : Nat} {s t : St} {a : Act} {w : World} (h : Sim B nt s a w) (e : s.eqv t) : Sim B nt t a w :=
  let ⟨R, lv, loc, h⟩ := h; ⟨R, lv, loc, h.eqv e⟩

/-- an operand -/
theorem cvOf_sound {C : Cx} {t : Nat} {v : Value} {c : CV} (h : cvOf t v = some c) : valR C c v ∧ n2 c = [] := by
  unfold cvOf at h
  split at h
  · cases h; exact ⟨rfl, rfl⟩
  · cases h; exact ⟨rfl, rfl⟩
  · split at h
    · cases h; exact ⟨⟨none, rfl⟩, rfl⟩
    · cases h
  · cases h; exact ⟨rfl, rfl⟩
  · cases h; exact ⟨rfl, rfl⟩
  · cases h
theorem ev_sound {B : Base} {nt : Nat} {C : Cx} {st : St} {a : Act} (h : SimL B nt C st a) {t : Nat} {x : Operand} {c : CV} (he : ev t st.T x = some c) :
    valR C c (a.eval x) ∧ ∀ y, y ∈ n2 c → ∃ o, look st.H y = some o := by
  cases x with
  | tmp i =>
    obtain ⟨v, hv, hr⟩ := h.tm i c he
    refine ⟨?_, h.nmT i c he⟩
    have e : a.eval (.tmp i) = v := by simp [Act.eval, Array.getD_eq_getD_getElem?, hv]
    rw [e]; exact hr
  | const v =>
    obtain ⟨h1, h2⟩ := cvOf_sound (C := C) he
    exact ⟨h1, by rw [h2]; simp⟩
  | global g => cases he
  | func f =>
    simp only [ev, Option.some.injEq] at he
    subst he
    exact ⟨⟨#[], rfl, trivial⟩, fun y hy => by simp [n2] at hy⟩
theorem evs_sound {B : Base} {nt : Nat} {C : Cx} {st : St} {a : Act} (h : SimL B nt C st a) : ∀ {xs : List Operand} {ts : List Nat} {cs : List CV}, evs st.T xs ts = some cs →
    All2 (valR C) cs (xs.map a.eval) ∧ (∀ c, c ∈ cs → ∀ y, y ∈ n2 c → ∃ o, look st.H y = some o)
  | [], [], cs, he => by simp [evs] at he; subst he; exact ⟨trivial, by simp⟩
  | x :: xs, t :: ts, cs, he => by
    simp only [evs] at he
    split at he
    · cases he
    · rename_i v hv
      split at he
      · cases he
      · rename_i vs hvs
        cases he
        obtain ⟨h1, h2⟩ := ev_sound h hv
        obtain ⟨h3, h4⟩ := evs_sound h hvs
        exact ⟨⟨h1, h3⟩, by
          intro c hc
          rcases List.mem_cons.1 hc with rfl | hc
          · exact h2
          · exact h4 c hc⟩
  | [], _ :: _, cs, he => by simp [evs] at he
  | _ :: _, [], cs, he => by simp [evs] at he
end Go.Proofs.Ytnfgfdeidkhdkaa.Eng
/- Ed: The engine's soundness, second part: operations that look at no block. -/
namespace Go.Proofs.Ytnfgfdeidkhdkaa.Eng
open Go.RowKit (Below)
set_option linter.unusedVariables false
set_option linter.unusedSimpArgs false
noncomputable abbrev P : Program := Try.prog

theorem cellR_val {C : Cx} {c : CV} {v : Value} (h : cellR C c v) : valR C c v := by
  cases c <;> first | exact h.elim | exact h
theorem aggR_val {C : Cx} {c : CV} {v : Value} (h : aggR C c v) : valR C c v := by
  cases c <;> first | exact h.elim | exact h
theorem valR_agg {C : Cx} {c : CV} {v : Value} (h : valR C c v) (hc : c.isA = true) : aggR C c v := by
  cases c <;> first | (simp [CV.isA] at hc; done) | exact h
theorem aggR_cells {C : Cx} {c : CV} {v : Value} (h : aggR C c v) (hc : c.cells.all CV.isC = true) : All2 (cellR C) c.cells v.cells.toList := by
  cases c
  case agg cs => obtain ⟨vs, rfl, ha⟩ := h; exact ha
  case tup => exact h.elim
  case fn => exact h.elim
  all_goals
    simp only [aggR] at h
    have h1 := cellR_one h
    have : v.cells.toList = [v] := by cases v <;> first | (simp [Value.oneCell'] at h1; done) | rfl
    rw [this]
    exact ⟨h, trivial⟩
theorem valR_cells {C : Cx} {c : CV} {v : Value} (h : valR C c v) (hc : c.cells.all CV.isC = true) : All2 (cellR C) c.cells v.cells.toList := by
  refine aggR_cells (valR_agg h ?_) hc
  cases c <;> first | rfl | (simp [CV.cells, CV.isC] at hc)
theorem n2_cells {c : CV} (hc : c.cells.all CV.isC = true) {x : Nat} (h : x ∈ c.cells.flatMap n0) : x ∈ n2 c := by
  cases c <;> first | exact h | (simpa [CV.cells, n2, n1] using h) | (simp [CV.cells, CV.isC] at hc)

theorem int_inv {C : Cx} {k : IntKind} {n : Int} {v : Value} (h : valR C (.int k n) v) : v = .int k n := h
theorem bool_inv {C : Cx} {b : Bool} {v : Value} (h : valR C (.bool b) v) : v = .bool b := h

theorem run_v (s : Sem Value) (w : World) {v : Value} {w' : World} (h : s.run P w = .ok v w') : (do pure (Next.value (← s)) : Sem Next).run P w = .ok (.value v) w' := by
  simp [h]

/-- integers -/
theorem binInt_sound {R : Type} {op : BinOp} {k : IntKind} {x y : Int} {K : CV → Option R} {r : R} (h : binInt op k x y K = some r) (t : Nat) :
    ∃ c, K c = some r ∧ n2 c = [] ∧ ∃ v, (∀ w, (binOp op t (.int k x) (.int k y)).run P w = .ok v w) ∧ ∀ C, valR C c v := by
  unfold binInt at h
  cases op <;> simp only at h <;> try (cases h; done)
  case add => exact ⟨_, h, rfl, _, fun w => by simp [binOp_add, Op.intArith], fun C => rfl⟩
  case sub => exact ⟨_, h, rfl, _, fun w => by simp [binOp_sub, Op.intArith], fun C => rfl⟩
  case mul => exact ⟨_, h, rfl, _, fun w => by simp [binOp_mul, Op.intArith], fun C => rfl⟩
  case quo =>
    by_cases hy : y = 0
    · simp [hy] at h
    · simp [hy] at h
      exact ⟨_, h, rfl, _, fun w => by simp [binOp_quo, Op.intDiv, hy], fun C => rfl⟩
  case rem =>
    by_cases hy : y = 0
    · simp [hy] at h
    · simp [hy] at h
      exact ⟨_, h, rfl, _, fun w => by simp [binOp_rem, Op.intDiv, hy], fun C => rfl⟩
  case and => exact ⟨_, h, rfl, _, fun w => by simp [binOp, Op.intBits, bitsI], fun C => rfl⟩
  case or => exact ⟨_, h, rfl, _, fun w => by simp [binOp, Op.intBits, bitsI], fun C => rfl⟩
  case xor => exact ⟨_, h, rfl, _, fun w => by simp [binOp, Op.intBits, bitsI], fun C => rfl⟩
  case shl =>
    by_cases hy : y < 0
    · simp [hy] at h
    · simp only [hy, decide_false, cond_false] at h
      exact ⟨_, h, rfl, _, fun w => by simp [binOp, Op.shift, hy], fun C => rfl⟩
  case shr =>
    by_cases hy : y < 0
    · simp [hy] at h
    · simp only [hy, decide_false, cond_false] at h
      exact ⟨_, h, rfl, _, fun w => by simp [binOp, Op.shift, hy], fun C => rfl⟩
  case eql => exact ⟨_, h, rfl, _, fun w => by simp [binOp, Op.intCmp]; rfl, fun C => rfl⟩
  case neq => exact ⟨_, h, rfl, _, fun w => by simp [binOp, Op.intCmp]; rfl, fun C => rfl⟩
  case lss => exact ⟨_, h, rfl, _, fun w => by simp [binOp, Op.intCmp], fun C => rfl⟩
  case leq => exact ⟨_, h, rfl, _, fun w => by simp [binOp, Op.intCmp], fun C => rfl⟩
  case gtr => exact ⟨_, h, rfl, _, fun w => by simp [binOp, Op.intCmp], fun C => rfl⟩
  case geq => exact ⟨_, h, rfl, _, fun w => by simp [binOp, Op.intCmp], fun C => rfl⟩

theorem equalIn_bool (d : Nat) (x y : Bool) (w : World) : (Op.equalIn (d + 1) 4 (.bool x) (.bool y)).run P w = .ok (x == y) w := by
  have hu : P.underlying 4 = some .bool := Try.underlying4
  simp only [Op.equalIn, Sem.run_bind, run_underlying hu, Result.andThen_ok, Sem.run_pure]
theorem equal_bool (x y : Bool) (w : World) : (Op.equal 4 (.bool x) (.bool y)).run P w = .ok (x == y) w := equalIn_bool 9999 x y w
theorem binBool_eq (x y : Bool) (w : World) : (binOp .eql 4 (.bool x) (.bool y)).run P w = .ok (.bool (x == y)) w := by
  simp only [binOp, Sem.run_bind, equal_bool, Result.andThen_ok, Sem.run_pure]
theorem binBool_ne (x y : Bool) (w : World) : (binOp .neq 4 (.bool x) (.bool y)).run P w = .ok (.bool (!(x == y))) w := by
  simp only [binOp, Sem.run_bind, equal_bool, Result.andThen_ok, Sem.run_pure]

theorem binCV_sound {R : Type} {op : BinOp} {t : Nat} {a b : CV} {K : CV → Option R} {r : R} (h : binCV op t a b K = some r) {C : Cx} {u v : Value}
    (ha : valR C a u) (hb : valR C b v) (x y : Operand) :
    ∃ c, K c = some r ∧ n2 c = [] ∧ ∃ z, (∀ w, (do eqGuard op t x y u v; binOp op t u v : Sem Value).run P w = .ok z w) ∧ ∀ C, valR C c z := by
  unfold binCV at h
  split at h
  · rename_i k x' k' y'
    obtain rfl := int_inv ha
    obtain rfl := int_inv hb
    by_cases hk : k = k'
    · subst hk
      simp only [decide_true, cond_true] at h
      obtain ⟨c, h1, h2, z, h3, h4⟩ := binInt_sound h t
      exact ⟨c, h1, h2, z, fun w => by rw [eqGuard_at_int]; simpa using h3 w, h4⟩
    · simp [hk] at h
  · rename_i x' y'
    obtain rfl := bool_inv ha
    obtain rfl := bool_inv hb
    by_cases ht : Nat.beq t 4 = true
    · obtain rfl := Nat.eq_of_beq_eq_true ht
      simp only [ht, cond_true] at h
      split at h
      · exact ⟨_, h, rfl, _, fun w => by rw [eqGuard_at_bool]; simpa using binBool_eq x' y' w, fun C => rfl⟩
      · exact ⟨_, h, rfl, _, fun w => by rw [eqGuard_at_bool]; simpa using binBool_ne x' y' w, fun C => rfl⟩
      · cases h
    · simp [Bool.eq_false_iff.2 ht] at h
  · cases h

/-- a value that an operation gives, whatever the world -/
structure Gives (C : Cx) (st : St) (a : Act) (o : Oper) (c : CV) : Prop where
  val : ∃ v, (∀ w, (execOp a.eval o).run P w = .ok (.value v) w) ∧ valR C c v
  nm : ∀ y, y ∈ n2 c → ∃ b, look st.H y = some b

theorem list2 {α β : Type} {r : α → β → Prop} {x y : α} {l : List β} (h : All2 r [x, y] l) : ∃ u v, l = [u, v] ∧ r x u ∧ r y v := by
  match l, h with
  | [u, v], h => exact ⟨u, v, rfl, h.1, h.2.1⟩
theorem list1 {α β : Type} {r : α → β → Prop} {x : α} {l : List β} (h : All2 r [x] l) : ∃ u, l = [u] ∧ r x u := by
  match l, h with
  | [u], h => exact ⟨u, rfl, h.1⟩
theorem map_toList {α β : Type} (f : α → β) (l : Array α) : (l.map f).toList = l.toList.map f := by simp
theorem arr_of {α : Type} {l : Array α} {m : List α} (h : l.toList = m) : l = m.toArray := by rw [← h]

theorem move_run (a : Act) (o : Oper) (x : Operand) (ho : o.op = .move x ∨ o.op = .assign x) (w : World) : (execOp a.eval o).run P w = .ok (.value (a.eval x)) w := by
  unfold execOp
  rcases ho with ho | ho <;> simp [ho]
theorem addr_add (g o n : Nat) : (⟨g, o, none⟩ : Addr).add n = ⟨g, o + n, none⟩ := Addr.add_lit g o n

/-- the table of fields is the program's -/
noncomputable def fldIs (s f off n : Nat) : Bool :=
  match P.underlying s with
  | some (.struct fields) => match fields[f]? with
    | some fl => Nat.beq fl.offset off && (match P.info? fl.type with | some i => Nat.beq i.size n && !Nat.beq n 0 | none => false)
    | none => false
  | _ => false
theorem fldIs_all : ([(25, 0, 0, 1), (25, 1, 1, 1), (25, 2, 2, 1), (25, 3, 3, 1), (57, 0, 0, 1), (57, 1, 1, 1), (57, 2, 2, 1), (66, 0, 0, 1), (66, 1, 1, 1), (94, 0, 0, 4), (94, 1, 4, 1), (94, 2, 5, 1), (94, 3, 6, 1),
    (101, 0, 0, 1), (101, 1, 1, 1), (101, 2, 2, 1), (118, 0, 0, 1), (118, 1, 1, 1), (124, 0, 0, 1), (124, 1, 1, 1)] : List (Nat × Nat × Nat × Nat)).all (fun p => fldIs p.1 p.2.1 p.2.2.1 p.2.2.2) = true := by kernel_rfl
theorem fld_is {s f off n : Nat} (h : fld s f = some (off, n)) : fldIs s f off n = true := by
  have ha := List.all_eq_true.1 fldIs_all
  unfold fld at h
  split at h <;> first
    | (cases h; done)
    | (simp only [Option.some.injEq, Prod.mk.injEq] at h
       obtain ⟨rfl, rfl⟩ := h
       exact ha (_, _, _, _) (by simp))
theorem fieldAt_run {s f off n : Nat} (h : fld s f = some (off, n)) (ad : Addr) (w : World) :
    (Instr.fieldAt s (.pointer (some ad)) f).run P w = .ok (.pointer (some (ad.add off))) w := by
  have hf := fld_is h
  unfold fldIs at hf
  split at hf
  · rename_i fields hu
    split at hf
    · rename_i fl hfl
      split at hf
      · rename_i i hi
        simp only [Bool.and_eq_true, Bool.not_eq_true'] at hf
        obtain ⟨h1, h2, h3⟩ := hf
        have e1 : fl.offset = off := Nat.eq_of_beq_eq_true h1
        have e2 : i.size = n := Nat.eq_of_beq_eq_true h2
        have e3 : ¬ i.size = 0 := fun e => by rw [e2] at e; subst e; simp at h3
        simp [Instr.fieldAt, run_underlying hu, hfl, Instr.sureAddr, fieldPlace, sizeOf, typeInfo, hi, e3, e1]
      · simp at hf
    · cases hf
  · cases hf

/-! ### a struct that is built -/
def plV : Nat → List (Nat × Nat)
  | 25 => [(0, 1), (1, 1), (2, 1), (3, 1)]
  | 57 => [(0, 1), (1, 1), (2, 1)]
  | 66 => [(0, 1), (1, 1)]
  | 94 => [(0, 4), (4, 1), (5, 1), (6, 1)]
  | 101 => [(0, 1), (1, 1), (2, 1)]
  | 118 => [(0, 1), (1, 1)]
  | 124 => [(0, 1), (1, 1)]
  | _ => []
theorem plV_fld {t i off n : Nat} (h : fld t i = some (off, n)) : (plV t)[i]? = some (off, n) := by
  unfold fld at h
  split at h <;> first
    | (cases h; done)
    | (simp only [Option.some.injEq, Prod.mk.injEq] at h
       obtain ⟨rfl, rfl⟩ := h
       rfl)
/-- the first value of a variable -/
def zv : Nat → Value
  | 3 => .int .i64 0
  | 28 => .int .i64 0
  | 116 => .int .u64 0
  | 125 => .int .u64 0
  | 4 => .bool false
  | 22 => .slice none 0 0
  | 43 => .slice none 0 0
  | 53 => .slice none 0 0
  | 105 => .slice none 0 0
  | 25 => .agg #[.int .i64 0, .slice none 0 0, .slice none 0 0, .slice none 0 0]
  | 57 => .agg #[.bool false, .int .i64 0, .slice none 0 0]
  | 66 => .agg #[.int .i64 0, .int .i64 0]
  | 94 => .agg #[.int .i64 0, .slice none 0 0, .slice none 0 0, .slice none 0 0, .int .i64 0, .int .i64 0, .slice none 0 0]
  | 101 => .agg #[.slice none 0 0, .int .i64 0, .slice none 0 0]
  | 118 => .agg #[.int .i64 0, .int .u64 0]
  | 122 => .agg #[.bool false, .bool false]
  | 124 => .agg #[.slice none 0 0, .slice none 0 0]
  | _ => undef
set_option maxRecDepth 100000 in
theorem built25 (ps : List (Nat × Value)) : P.built 25 ps = Instr.fill ((plV 25).toArray[·]?) (zv 25).cells ps := by kernel_rfl
set_option maxRecDepth 100000 in
theorem built57 (ps : List (Nat × Value)) : P.built 57 ps = Instr.fill ((plV 57).toArray[·]?) (zv 57).cells ps := by kernel_rfl
set_option maxRecDepth 100000 in
theorem built66 (ps : List (Nat × Value)) : P.built 66 ps = Instr.fill ((plV 66).toArray[·]?) (zv 66).cells ps := by kernel_rfl
set_option maxRecDepth 100000 in
theorem built94 (ps : List (Nat × Value)) : P.built 94 ps = Instr.fill ((plV 94).toArray[·]?) (zv 94).cells ps := by kernel_rfl
set_option maxRecDepth 100000 in
theorem built101 (ps : List (Nat × Value)) : P.built 101 ps = Instr.fill ((plV 101).toArray[·]?) (zv 101).cells ps := by kernel_rfl
set_option maxRecDepth 100000 in
theorem built118 (ps : List (Nat × Value)) : P.built 118 ps = Instr.fill ((plV 118).toArray[·]?) (zv 118).cells ps := by kernel_rfl
set_option maxRecDepth 100000 in
theorem built124 (ps : List (Nat × Value)) : P.built 124 ps = Instr.fill ((plV 124).toArray[·]?) (zv 124).cells ps := by kernel_rfl
set_option maxRecDepth 100000 in
theorem zv_run {t : Nat} {b : Bool} {ks : List CK} (h : cks t = some (b, ks)) : (P.info? t).bind (·.zero) = some (zv t) := by
  unfold cks at h
  split at h <;> first
    | (cases h; done)
    | kernel_rfl
theorem zeroValue_run {t : Nat} {z : Value} (h : (P.info? t).bind (·.zero) = some z) (w : World) : (zeroValue t).run P w = .ok z w := by
  cases hi : P.info? t with
  | none => simp [hi] at h
  | some i => simp [hi] at h; simp [zeroValue, typeInfo, hi, h]
theorem zv_cells {t : Nat} {cs : List CV} (h : zeros t = some cs) (C : Cx) : All2 (cellR C) cs (zv t).cells.toList := by
  unfold zeros cks at h
  split at h
  · rename_i x y hx
    split at hx <;> first
      | (cases hx; done)
      | (simp only [Option.some.injEq, Prod.mk.injEq] at hx
         obtain ⟨rfl, rfl⟩ := hx
         simp only [Option.some.injEq] at h
         subst h
         simp only [netC, List.cons_append, List.nil_append, List.map, CK.zero]
         repeat (first | exact trivial | refine ⟨by first | exact ⟨none, rfl⟩ | rfl, ?_⟩))
  · cases h
/-- the table of types is the program's -/
noncomputable def cksIs (t : Nat) (b : Bool) (n : Nat) : Bool :=
  (match P.underlying t with
  | some (.struct _) => b
  | some (.array _ _) => b
  | some _ => !b
  | none => false) && (match P.info? t with | some i => Nat.beq i.size n | none => false)
theorem cks_is {t : Nat} {b : Bool} {ks : List CK} (h : cks t = some (b, ks)) : cksIs t b ks.length = true := by
  unfold cks at h
  split at h <;> first
    | (cases h; done)
    | (simp only [Option.some.injEq, Prod.mk.injEq] at h
       obtain ⟨rfl, rfl⟩ := h
       kernel_rfl)
theorem isAgg_run {t : Nat} {b : Bool} {ks : List CK} (h : cks t = some (b, ks)) (w : World) : (isAgg t).run P w = .ok b w := by
  have hc := cks_is h
  unfold cksIs at hc
  simp only [Bool.and_eq_true] at hc
  obtain ⟨h1, h2⟩ := hc
  cases hu : P.underlying t with
  | none => rw [hu] at h1; cases h1
  | some d => cases d <;> simp only [hu] at h1 <;> simp_all [isAgg, run_underlying hu]
theorem size_run {t : Nat} {b : Bool} {ks : List CK} (h : cks t = some (b, ks)) : ∃ i, P.info? t = some i ∧ i.size = ks.length := by
  have hc := cks_is h
  unfold cksIs at hc
  simp only [Bool.and_eq_true] at hc
  obtain ⟨h1, h2⟩ := hc
  cases hi : P.info? t with
  | none => rw [hi] at h2; cases h2
  | some i => rw [hi] at h2; exact ⟨i, rfl, Nat.eq_of_beq_eq_true h2⟩
theorem sizeOf_run {t : Nat} {b : Bool} {ks : List CK} (h : cks t = some (b, ks)) (w : World) : (sizeOf t).run P w = .ok ks.length w := by
  obtain ⟨i, hi, hs⟩ := size_run h
  simp [sizeOf, typeInfo, hi, hs]
theorem built_of {t : Nat} {cs : List CV} {ks : List CK} (hz : zeros t = some cs) (hk : cks t = some (true, ks)) (h122 : t ≠ 122) (ps : List (Nat × Value)) :
    P.built t ps = Instr.fill ((plV t).toArray[·]?) (zv t).cells ps := by
  unfold cks at hk
  split at hk <;> first
    | (cases hk; done)
    | with_reducible exact built25 ps
    | with_reducible exact built57 ps
    | with_reducible exact built66 ps
    | with_reducible exact built94 ps
    | with_reducible exact built101 ps
    | with_reducible exact built118 ps
    | exact absurd rfl h122
    | with_reducible exact built124 ps

/-- a part laid over cells, both ways -/
theorem setAt_rel {r : CV → Value → Prop} : ∀ (us : List CV) (vs : List Value) (off : Nat) (cs : List CV) (ds : Array Value), All2 r us vs → All2 r cs ds.toList →
    All2 r (setAt cs off us) ((vs.zipIdx off).foldl (fun (d : Array Value) (p : Value × Nat) => d.setIfInBounds p.2 p.1) ds).toList
  | [], [], off, cs, ds, _, h => by simpa [setAt] using h
  | u :: us, v :: vs, off, cs, ds, hu, h => by
    simp only [setAt, List.zipIdx_cons, List.foldl_cons]
    refine setAt_rel us vs (off + 1) _ _ hu.2 ?_
    refine All2.of (by simpa using h.length) fun i a b ha hb => ?_
    simp only [Array.toList_setIfInBounds, List.getElem?_set] at ha hb
    have hl := h.length
    by_cases e : off = i
    · subst e
      by_cases hlt : off < cs.length
      · simp [hlt] at ha
        simp only [Array.length_toList] at hl
        simp [show off < ds.size by omega] at hb
        subst ha; subst hb; exact hu.1
      · simp [hlt] at ha
    · simp only [e, if_false] at ha hb
      obtain ⟨b', hb', hr⟩ := h.get ha
      rw [hb] at hb'; cases hb'; exact hr
  | [], _ :: _, _, _, _, hu, _ => hu.elim
  | _ :: _, [], _, _, _, hu, _ => hu.elim
theorem zipIdx_shift {α : Type} (f : α → Nat → α → α) : True := trivial
theorem fold_shift (vs : List Value) : ∀ (k off : Nat) (ds : Array Value),
    (vs.zipIdx k).foldl (fun (d : Array Value) (p : Value × Nat) => d.setIfInBounds (off + p.2) p.1) ds = (vs.zipIdx (off + k)).foldl (fun (d : Array Value) (p : Value × Nat) => d.setIfInBounds p.2 p.1) ds := by
  induction vs with
  | nil => intro k off ds; rfl
  | cons v vs ih => intro k off ds; simp only [List.zipIdx_cons, List.foldl_cons]; rw [ih]; rfl
theorem setAt_len : ∀ (us cs : List CV) (off : Nat), (setAt cs off us).length = cs.length
  | [], cs, off => rfl
  | u :: us, cs, off => by simp [setAt, setAt_len us]

theorem buildP_sound {B : Base} {nt : Nat} {C : Cx} {st : St} {a : Act} (h : SimL B nt C st a) {t : Nat} : ∀ (ps : List (Nat × Operand)) (cs ds : List CV) (vs : Array Value),
    buildP t st.T cs ps = some ds → All2 (cellR C) cs vs.toList → (∀ x, x ∈ cs.flatMap n0 → ∃ b, look st.H x = some b) →
    ∃ us, Instr.fill ((plV t).toArray[·]?) vs (ps.map fun p => (p.1, a.eval p.2)) = some us ∧ All2 (cellR C) ds us.toList ∧ (∀ x, x ∈ ds.flatMap n0 → ∃ b, look st.H x = some b) := by
  intro ps
  induction ps with
  | nil => intro cs ds vs hb hr hn; simp only [buildP, Option.some.injEq] at hb; subst hb; exact ⟨vs, rfl, hr, hn⟩
  | cons p ps ih =>
    obtain ⟨i, x⟩ := p
    intro cs ds vs hb hr hn
    simp only [buildP] at hb
    cases hf : fld t i with
    | none => simp [hf] at hb
    | some q =>
      obtain ⟨off, n⟩ := q
      simp only [hf] at hb
      cases hk : cks t with
      | none => simp [hk] at hb
      | some q =>
        obtain ⟨b, ks⟩ := q
        simp only [hk] at hb
        split at hb
        · cases hb
        · rename_i v hv
          obtain ⟨hval, hnm⟩ := ev_sound h hv
          by_cases hc : (Nat.beq v.cells.length n && Nat.ble (off + n) cs.length && v.cells.all CV.isC) = true
          · simp only [hc, cond_true] at hb
            simp only [Bool.and_eq_true] at hc
            obtain ⟨⟨c1, c2⟩, c3⟩ := hc
            have e1 : v.cells.length = n := Nat.eq_of_beq_eq_true c1
            have e2 : off + n ≤ cs.length := Nat.le_of_ble_eq_true c2
            have hcells := valR_cells hval c3
            have e3 := hcells.length
            simp only [Array.length_toList] at e3
            have e4 := hr.length
            simp only [Array.length_toList] at e4
            have hrel := setAt_rel _ _ off cs vs hcells hr
            obtain ⟨us, h1, h2, h3⟩ := ih _ _ ((a.eval x).cells.zipIdx.foldl (fun (d : Array Value) (p : Value × Nat) => d.setIfInBounds (off + p.2) p.1) vs) hb (by
              rw [← Array.foldl_toList, Array.toList_zipIdx, fold_shift]
              exact hrel) (by
              intro y hy
              obtain ⟨c, hc, hyc⟩ := List.mem_flatMap.1 hy
              have hmem : c ∈ cs ∨ c ∈ v.cells := by
                clear hrel
                revert hc
                generalize v.cells = us
                intro hc
                have : ∀ (us cs : List CV) (o : Nat), c ∈ setAt cs o us → c ∈ cs ∨ c ∈ us := by
                  intro us
                  induction us with
                  | nil => intro cs o h; exact .inl h
                  | cons u us ih =>
                    intro cs o h
                    rcases ih _ _ h with h | h
                    · rcases List.mem_or_eq_of_mem_set h with h | h
                      · exact .inl h
                      · exact .inr (by rw [h]; exact List.mem_cons_self ..)
                    · exact .inr (List.mem_cons_of_mem _ h)
                exact this us cs off hc
              rcases hmem with hm | hm
              · exact hn y (List.mem_flatMap.2 ⟨c, hm, hyc⟩)
              · exact hnm y (n2_cells c3 (List.mem_flatMap.2 ⟨c, hm, hyc⟩)))
            refine ⟨us, ?_, h2, h3⟩
            simp only [List.map_cons, Instr.fill]
            have hp := plV_fld hf
            simp only [List.getElem?_toArray, hp]
            rw [if_neg (by simp only [Bool.or_eq_true, decide_eq_true_eq, not_or]; exact ⟨by omega, by omega⟩)]
            simp only [List.getElem?_toArray] at h1
            exact h1
          · simp [Bool.eq_false_iff.2 hc] at hb
theorem flatMap_mem {α β : Type} {f : α → List β} {l : List α} {a : α} (ha : a ∈ l) {b : β} (hb : b ∈ f a) : b ∈ l.flatMap f := List.mem_flatMap.2 ⟨a, ha, hb⟩
theorem n1_sub {c : CV} {x : Nat} (h : x ∈ n0 c) : x ∈ n1 c := by cases c <;> first | exact h | (simp [n0] at h)
theorem n2_sub {c : CV} {x : Nat} (h : x ∈ n1 c) : x ∈ n2 c := by cases c <;> first | exact h | (simp [n1, n0] at h)
theorem n1_of {c : CV} (hc : c.isA = true) {x : Nat} (h : x ∈ n2 c) : x ∈ n1 c := by cases c <;> first | exact h | (simp [CV.isA] at hc)

theorem call_run (a : Act) (o : Oper) (c : Call) (b : Builtin) (ho : o.op = .call c) (hc : c.callee = .builtin b) :
    execOp a.eval o = builtin b c.argTypes o.type (c.args.map fun | .const _ => true | _ => false) (c.args.map a.eval) := by
  unfold execOp
  simp only [ho, resolve, hc]
  rfl

theorem cks_int {t : Nat} {k : IntKind} (h : cks t = some (false, [.int k])) : P.underlying t = some (.int k) := by
  unfold cks at h
  split at h <;> first
    | (cases h; done)
    | (simp only [Option.some.injEq, Prod.mk.injEq, List.cons.injEq, and_true, true_and, CK.int.injEq] at h
       subst h
       kernel_rfl)
    | (simp [netC] at h; done)
theorem convInt_run {src dst : Nat} {k ks : IntKind} (hs : cks src = some (false, [.int ks])) (hk : cks dst = some (false, [.int k])) (k' : IntKind) (n : Int) (w : World) :
    (convert src dst (.int k' n)).run P w = .ok (.int k (k.wrap n)) w := by
  simp [convert, run_underlying (cks_int hs), run_underlying (cks_int hk), Conv.intToInt]
theorem fields25 : ∃ fields fl, P.underlying 25 = some (.struct fields) ∧ fields[0]? = some fl ∧ fl.type = 3 ∧ fl.offset = 0 := by
  have h : (match P.underlying 25 with
    | some (.struct fields) => match fields[0]? with
      | some fl => Nat.beq fl.type 3 && Nat.beq fl.offset 0
      | none => false
    | _ => false) = true := by kernel_rfl
  split at h
  · rename_i fields hu
    split at h
    · rename_i fl hfl
      simp only [Bool.and_eq_true] at h
      exact ⟨fields, fl, hu, hfl, Nat.eq_of_beq_eq_true h.1, Nat.eq_of_beq_eq_true h.2⟩
    · cases h
  · cases h
theorem field_run (us : Array Value) (u : Value) (hu : us[0]? = some u) (w : World) :
    (Instr.field 25 (.agg us) 0).run P w = .ok u w := by
  obtain ⟨fields, fl, h1, h2, h3, h4⟩ := fields25
  have ha : (isAgg 3).run P w = .ok false w := isAgg_run (t := 3) rfl w
  simp [Instr.field, run_underlying h1, h2, asAgg, part, h3, h4, ha, hu]
theorem pure_sound {B : Base} {nt : Nat} {C : Cx} {st : St} {a : Act} (h : SimL B nt C st a) (o : Oper) {R : Type} {K : CV → Option R} {r : R}
    (hp : pureOp o.op o.type st.T K = some r) : ∃ c, K c = some r ∧ Gives C st a o c := by
  cases ho : o.op <;> rw [ho] at hp <;> simp only [pureOp] at hp <;> try (cases hp; done)
  case move x =>
    split at hp
    · rename_i v hv
      obtain ⟨h1, h2⟩ := ev_sound h hv
      exact ⟨v, hp, ⟨_, move_run a o x (.inl ho), h1⟩, h2⟩
    · cases hp
  case assign x =>
    split at hp
    · rename_i v hv
      obtain ⟨h1, h2⟩ := ev_sound h hv
      exact ⟨v, hp, ⟨_, move_run a o x (.inr ho), h1⟩, h2⟩
    · cases hp
  case pick c x y =>
    split at hp
    · rename_i b hb
      have e := bool_inv (ev_sound h hb).1
      cases b
      · simp only [cond_false] at hp
        split at hp
        · rename_i v hv
          obtain ⟨h1, h2⟩ := ev_sound h hv
          exact ⟨v, hp, ⟨_, fun w => by unfold execOp; simp [ho, e, asBool], h1⟩, h2⟩
        · cases hp
      · simp only [cond_true] at hp
        split at hp
        · rename_i v hv
          obtain ⟨h1, h2⟩ := ev_sound h hv
          exact ⟨v, hp, ⟨_, fun w => by unfold execOp; simp [ho, e, asBool], h1⟩, h2⟩
        · cases hp
    · cases hp
  case binOp op xt x y yt =>
    split at hp
    · cases hp
    · rename_i u hu
      split at hp
      · cases hp
      · rename_i v hv
        obtain ⟨c, h1, h2, z, h3, h4⟩ := binCV_sound hp (ev_sound h hu).1 (ev_sound h hv).1 x y
        refine ⟨c, h1, ⟨z, fun w => ?_, h4 C⟩, by rw [h2]; simp⟩
        unfold execOp
        simp only [ho]
        exact run_v _ w (h3 w)
  case unOp op t x =>
    cases op <;> simp only [pureOp] at hp <;> try (cases hp; done)
    split at hp
    · rename_i b hb
      have e := bool_inv (ev_sound h hb).1
      exact ⟨_, hp, ⟨_, fun w => by unfold execOp; simp [ho, e, Op.unary], rfl⟩, by simp [n2, n1, n0]⟩
    · cases hp
  case convert src dst x =>
    split at hp
    · rename_i k' n hn
      have e := int_inv (ev_sound h hn).1
      split at hp
      · rename_i ks hks
        split at hp
        · rename_i k hk
          exact ⟨_, hp, ⟨_, fun w => by unfold execOp; simp only [ho, e]; exact run_v _ w (convInt_run hks hk k' n w), rfl⟩, by simp [n2, n1, n0]⟩
        · cases hp
      · cases hp
    · cases hp
  case extract x i =>
    split at hp
    · rename_i vs hv
      obtain ⟨⟨us, e, ha⟩, h2⟩ := ev_sound h hv
      split at hp
      · rename_i v hvi
        obtain ⟨u, hu, hr⟩ := ha.get hvi
        refine ⟨v, hp, ⟨u, fun w => ?_, aggR_val hr⟩, fun y hy => h2 y ?_⟩
        · unfold execOp
          simp only [ho, e]
          exact run_v _ w (by simp [Instr.extract, show us[i]? = some u by simpa using hu])
        · refine flatMap_mem (List.mem_of_getElem? hvi) (n1_of ?_ hy)
          cases v <;> first | rfl | exact hr.elim
      · cases hp
    · cases hp
  case fieldAddr s x f =>
    split at hp
    · cases hp
    · rename_i off n hf
      split at hp
      · rename_i y q hv
        obtain ⟨⟨⟨ad, e⟩, h1⟩, h2⟩ := ev_sound h hv
        refine ⟨_, hp, ⟨_, fun w => by unfold execOp; simp only [ho, e]; exact run_v _ w (fieldAt_run hf ad w), ⟨⟨_, rfl⟩, fun hl => ?_⟩⟩, h2⟩
        obtain ⟨L, hL, he⟩ := h1 hl
        rw [e] at he
        cases he
        exact ⟨L, hL, by rw [addr_add, Nat.add_assoc]⟩
      · rename_i y i j hv
        obtain ⟨⟨⟨ad, e⟩, h1⟩, h2⟩ := ev_sound h hv
        refine ⟨_, hp, ⟨_, fun w => by unfold execOp; simp only [ho, e]; exact run_v _ w (fieldAt_run hf ad w), ⟨⟨_, rfl⟩, fun hl => ?_⟩⟩, h2⟩
        obtain ⟨L, hL, he⟩ := h1 hl
        rw [e] at he
        cases he
        exact ⟨L, hL, by rw [addr_add, Nat.add_assoc]⟩
      · rename_i cs q hv
        obtain ⟨⟨g, b, hR, e, h1⟩, h2⟩ := ev_sound h hv
        refine ⟨_, hp, ⟨_, fun w => by unfold execOp; simp only [ho, e]; exact run_v _ w (fieldAt_run hf _ w), ⟨g, b, hR, by rw [addr_add, Nat.add_assoc], h1⟩⟩, h2⟩
      · cases hp
  case makeFunc fn first caps =>
    cases fn <;> simp only [pureOp] at hp <;> try (cases hp; done)
    rename_i f
    by_cases hf : Nat.beq first.size 0 = true
    · simp only [hf, cond_true] at hp
      split at hp
      · rename_i vs hvs
        by_cases ha : vs.all CV.isA = true
        · simp only [ha, cond_true] at hp
          obtain ⟨h1, h2⟩ := evs_sound h hvs
          have hfe : first = #[] := Array.eq_empty_of_size_eq_zero (Nat.eq_of_beq_eq_true hf)
          subst hfe
          refine ⟨_, hp, ⟨_, fun w => by unfold execOp; simp [ho, Instr.makeFunc], ⟨caps.map a.eval, rfl, ?_⟩⟩, ?_⟩
          · rw [map_toList]
            exact h1.mono fun c hc v hv => valR_agg hv (List.all_eq_true.1 ha c hc)
          · intro y hy
            obtain ⟨c, hc, hy⟩ := List.mem_flatMap.1 hy
            exact h2 c hc y (n2_sub hy)
        · simp [Bool.eq_false_iff.2 ha] at hp
      · cases hp
    · simp [Bool.eq_false_iff.2 hf] at hp
  case nilCheck x =>
    split at hp
    · rename_i y q hv
      obtain ⟨h1, h2⟩ := ev_sound h hv
      obtain ⟨⟨ad, e⟩, h3⟩ := h1
      exact ⟨_, hp, ⟨_, fun w => by unfold execOp; simp [ho, e], ⟨⟨ad, rfl⟩, by rw [e] at h3; exact h3⟩⟩, h2⟩
    · rename_i y i j hv
      obtain ⟨h1, h2⟩ := ev_sound h hv
      obtain ⟨⟨ad, e⟩, h3⟩ := h1
      exact ⟨_, hp, ⟨_, fun w => by unfold execOp; simp [ho, e], ⟨⟨ad, rfl⟩, by rw [e] at h3; exact h3⟩⟩, h2⟩
    · rename_i cs q hv
      obtain ⟨⟨g, b, hR, e, h1⟩, h2⟩ := ev_sound h hv
      exact ⟨_, hp, ⟨_, fun w => by unfold execOp; simp [ho, e], ⟨g, b, hR, rfl, h1⟩⟩, h2⟩
    · cases hp
  case field xt x f =>
    by_cases hc : (Nat.beq xt 25 && Nat.beq f 0) = true
    · simp only [hc, cond_true] at hp
      simp only [Bool.and_eq_true] at hc
      obtain rfl := Nat.eq_of_beq_eq_true hc.1
      obtain rfl := Nat.eq_of_beq_eq_true hc.2
      split at hp
      · rename_i cs hv
        obtain ⟨⟨us, e, ha⟩, h2⟩ := ev_sound h hv
        split at hp
        · rename_i v hvi
          obtain ⟨u, hu, hr⟩ := ha.get hvi
          refine ⟨v, hp, ⟨u, fun w => ?_, cellR_val hr⟩, fun y hy => h2 y ?_⟩
          · unfold execOp
            simp only [ho, e]
            exact run_v _ w (field_run us u (by simpa using hu) w)
          · refine flatMap_mem (List.mem_of_getElem? hvi) ?_
            cases v <;> first | exact hy | exact hr.elim
        · cases hp
      · cases hp
    · simp [Bool.eq_false_iff.2 hc] at hp
  case build s parts =>
    split at hp
    · cases hp
    · rename_i cs hz
      split at hp
      · rename_i ks hk
        by_cases h122 : s = 122
        · subst h122
          simp at hp
        · have hb122 : Nat.beq s 122 = false := Bool.eq_false_iff.2 fun e => h122 (Nat.eq_of_beq_eq_true e)
          simp only [hb122, cond_false] at hp
          split at hp
          · rename_i ds hb
            obtain ⟨us, h1, h2, h3⟩ := buildP_sound h parts.toList cs ds (zv s).cells hb (zv_cells hz C) (by
              intro y hy
              exfalso
              revert hy
              obtain ⟨b, ks', hks, rfl⟩ : ∃ b ks', cks s = some (b, ks') ∧ cs = ks'.map CK.zero := by
                unfold zeros at hz
                rw [hk] at hz
                exact ⟨_, _, hk, by simpa using hz.symm⟩
              intro hy
              obtain ⟨c, hc, hy⟩ := List.mem_flatMap.1 hy
              obtain ⟨k, -, rfl⟩ := List.mem_map.1 hc
              cases k <;> simp [CK.zero, n0] at hy)
            refine ⟨_, hp, ⟨_, fun w => ?_, ⟨us, rfl, h2⟩⟩, h3⟩
            unfold execOp
            simp only [ho]
            refine run_v _ w (run_build w s _ us ?_)
            rw [built_of hz hk h122]
            simpa using h1
          · cases hp
      · cases hp
  case call c =>
    split at hp
    · rename_i hc
      split at hp
      · rename_i k x k' y hv
        by_cases hk : k = k'
        · subst hk
          simp only [decide_true, cond_true] at hp
          obtain ⟨h1, h2⟩ := evs_sound h hv
          obtain ⟨u, v, e, hu, hv⟩ := list2 h1
          obtain rfl := int_inv hu
          obtain rfl := int_inv hv
          refine ⟨_, hp, ⟨_, fun w => ?_, rfl⟩, by simp [n2, n1, n0]⟩
          rw [call_run a o c _ ho hc]
          refine run_v _ w ?_
          simp [Builtin.min_, e, Builtin.min2, minI]
        · simp [hk] at hp
      · cases hp
    · rename_i hc
      split at hp
      · rename_i k x k' y hv
        by_cases hk : k = k'
        · subst hk
          simp only [decide_true, cond_true] at hp
          obtain ⟨h1, h2⟩ := evs_sound h hv
          obtain ⟨u, v, e, hu, hv⟩ := list2 h1
          obtain rfl := int_inv hu
          obtain rfl := int_inv hv
          refine ⟨_, hp, ⟨_, fun w => ?_, rfl⟩, by simp [n2, n1, n0]⟩
          rw [call_run a o c _ ho hc]
          refine run_v _ w ?_
          simp [Builtin.max_, e, Builtin.max2, maxI]
        · simp [hk] at hp
      · cases hp
    · cases hp
end Go.Proofs.Ytnfgfdeidkhdkaa.Eng
/- Ee: The engine's soundness, third part: operations that look at blocks, or make new ones. -/
namespace Go.Proofs.Ytnfgfdeidkhdkaa.Eng
open Go.RowKit (Below)
set_option linter.unusedVariables false
set_option linter.unusedSimpArgs false

/-! ### rows -/
theorem flat_len {α β : Type} {f : α → List β} {s : Nat} (hf : ∀ e, (f e).length = s) : ∀ l : List α, (l.flatMap f).length = l.length * s
  | [] => by simp
  | e :: l => by simp [hf e, flat_len hf l, Nat.add_mul]; omega
theorem flat_get {α β : Type} {f : α → List β} {s : Nat} (hf : ∀ e, (f e).length = s) : ∀ (l : List α) (i j : Nat) (e : α), l[i]? = some e → j < s → (l.flatMap f)[i * s + j]? = (f e)[j]?
  | [], i, j, e, h, _ => by simp at h
  | x :: l, 0, j, e, h, hj => by
    simp at h; subst h
    simp only [List.flatMap_cons, Nat.zero_mul, Nat.zero_add]
    rw [List.getElem?_append_left (by rw [hf]; exact hj)]
  | x :: l, i + 1, j, e, h, hj => by
    simp only [List.flatMap_cons]
    rw [List.getElem?_append_right (by rw [hf, Nat.add_mul]; omega), hf, show (i + 1) * s + j - s = i * s + j by rw [Nat.add_mul]; omega]
    exact flat_get hf l i j e (by simpa using h) hj
theorem SK.cells_len (k : SK) (e : k.T) : (k.cells e).length = k.size := by cases k <;> rfl
theorem SK.size_pos (k : SK) : 0 < k.size := by cases k <;> simp [SK.size]
theorem row_len (k : SK) (l : List k.T) : (l.flatMap k.cells).length = l.length * k.size := flat_len (SK.cells_len k) l
theorem row_get (k : SK) {l : List k.T} {i j : Nat} {e : k.T} (h : l[i]? = some e) (hj : j < k.size) : (l.flatMap k.cells)[i * k.size + j]? = (k.cells e)[j]? := flat_get (SK.cells_len k) l i j e h hj
theorem drop_flat {α β : Type} {f : α → List β} {s : Nat} (hf : ∀ e, (f e).length = s) (l : List α) (a : Nat) : (l.drop a).flatMap f = (l.flatMap f).drop (a * s) := by
  induction l generalizing a with
  | nil => simp
  | cons x l ih =>
    cases a with
    | zero => simp
    | succ a =>
      simp only [List.drop_succ_cons, List.flatMap_cons, ih]
      have e : (a + 1) * s = (f x).length + a * s := by rw [hf, Nat.add_mul]; omega
      have e2 : (f x).drop ((a + 1) * s) = [] := List.drop_eq_nil_of_le (by omega)
      rw [List.drop_append, e2, e, Nat.add_sub_cancel_left]; rfl
theorem take_flat {α β : Type} {f : α → List β} {s : Nat} (hf : ∀ e, (f e).length = s) (l : List α) (a : Nat) : (l.take a).flatMap f = (l.flatMap f).take (a * s) := by
  induction l generalizing a with
  | nil => simp
  | cons x l ih =>
    cases a with
    | zero => simp
    | succ a =>
      simp only [List.take_succ_cons, List.flatMap_cons, ih]
      have e : (a + 1) * s = (f x).length + a * s := by rw [hf, Nat.add_mul]; omega
      have e2 : (f x).take ((a + 1) * s) = f x := List.take_of_length_le (by omega)
      rw [List.take_append, e2, e, Nat.add_sub_cancel_left]

theorem SK.under (k : SK) : P.underlying k.ty = some (.slice k.el) := by cases k <;> kernel_rfl
noncomputable def elOk (k : SK) : Bool :=
  match P.info? k.el with
  | some i => Nat.beq i.size k.size && Nat.ble i.bytes 80 && (match i.zero with | some z => Nat.beq z.cells.size k.size | none => false)
  | none => false
theorem SK.elOk (k : SK) : Eng.elOk k = true := by cases k <;> kernel_rfl
theorem SK.info (k : SK) : ∃ i z, P.info? k.el = some i ∧ i.size = k.size ∧ i.bytes ≤ 80 ∧ i.zero = some z ∧ z.cells.size = k.size := by
  have h := SK.elOk k
  unfold Eng.elOk at h
  split at h
  · rename_i i hi
    simp only [Bool.and_eq_true] at h
    obtain ⟨⟨h1, h2⟩, h3⟩ := h
    split at h3
    · rename_i z hz
      exact ⟨i, z, hi, Nat.eq_of_beq_eq_true h1, Nat.le_of_ble_eq_true h2, hz, Nat.eq_of_beq_eq_true h3⟩
    · cases h3
  · cases h
theorem SK.sizeOf (k : SK) (w : World) : (Go.sizeOf k.el).run P w = .ok k.size w := by
  obtain ⟨i, z, hi, hs, -⟩ := SK.info k
  simp [Go.sizeOf, typeInfo, hi, hs]
theorem kindOf_ty {t : Nat} {k : SK} (h : kindOf t = some k) : t = k.ty := by
  unfold kindOf at h
  split at h <;> first | (cases h; done) | (cases h; rfl)
theorem ty_eq {k : SK} {t : Nat} (h : Nat.beq k.ty t = true) : t = k.ty := (Nat.eq_of_beq_eq_true h).symm

theorem bv_cell {C : Cx} {c : CV} {v : Value} (h : bvR C.w C.R c v) : cellR C c v := by
  cases c <;> first | exact h | exact h.elim
theorem cell_none {w : World} {a : Addr} {x : Value} (h : w.cell? a = some x) : a.spot = none := by
  unfold World.cell? at h
  split at h
  · split at h
    · cases h
    · rename_i h1; cases hs : a.spot with
      | none => rfl
      | some _ => simp [hs] at h1
  · cases h
theorem addr_flat (a : Addr) (n : Nat) (h : (a.add n).spot = none) : a.add n = ⟨a.block, a.off + n, none⟩ := by
  unfold Addr.add at h ⊢
  split
  · rename_i e; subst e; simp at h; cases a; simp_all
  · rfl
theorem addr_add_add (a : Addr) (n m : Nat) : (a.add n).add m = a.add (n + m) := by
  unfold Addr.add
  by_cases h : n = 0
  · subst h; simp
  · by_cases h' : m = 0
    · subst h'; simp [h]
    · simp [h, h', Nat.add_assoc]
theorem addr_block (a : Addr) (n : Nat) : (a.add n).block = a.block := by unfold Addr.add; split <;> rfl

/-! ### what an operation that changes no block of ours may do -/
structure QOut (C : Cx) (st : St) (D : Cx) (x : Nat) (c : CV) (bs : List Blk) (v : Value) : Prop where
  os : D.w.os = C.w.os
  tape : D.w.tape = C.w.tape
  output : D.w.output = C.w.output
  grow : C.w.heap.size ≤ D.w.heap.size
  heap : ∀ b, b < C.w.heap.size → D.w.heap[b]? = C.w.heap[b]?
  sub : ∀ b, C.R b → D.R b
  rlt : ∀ b, D.R b → b < D.w.heap.size
  rnew : ∀ b, D.R b → C.R b ∨ C.w.heap.size ≤ b
  lv : ∀ y, D.lv y ↔ C.lv y ∨ (x ≤ y ∧ y < x + bs.length)
  loc : ∀ y, ¬ (x ≤ y ∧ y < x + bs.length) → D.loc y = C.loc y
  val : valR D c v
  nm : ∀ y, y ∈ n2 c → (∃ o, look st.H y = some o) ∨ (x ≤ y ∧ y < x + bs.length)
  bl : ∀ i b, bs[i]? = some b → blkR D (x + i) b ∧ (∀ L, D.loc (x + i) = some L → C.w.heap.size ≤ L.g ∧ ¬ D.R L.g ∧ L.g < D.w.heap.size) ∧
    ∀ y, y ∈ nB b → (∃ o, look st.H y = some o) ∨ (x ≤ y ∧ y < x + bs.length)
  dj : ∀ i j L M, i < bs.length → j < bs.length → i ≠ j → D.loc (x + i) = some L → D.loc (x + j) = some M → L.g ≠ M.g

theorem QOut.same {C : Cx} {st : St} {c : CV} {v : Value} {x : Nat} (hr : ∀ b, C.R b → b < C.w.heap.size) (h : valR C c v) (hn : ∀ y, y ∈ n2 c → ∃ o, look st.H y = some o) : QOut C st C x c [] v where
  os := rfl
  tape := rfl
  output := rfl
  grow := Nat.le_refl _
  heap := fun _ _ => rfl
  sub := fun _ h => h
  rlt := hr
  rnew := fun _ h => .inl h
  lv := fun y => by simp; omega
  loc := fun _ _ => rfl
  val := h
  nm := fun y hy => .inl (hn y hy)
  bl := fun i b h => by simp at h
  dj := fun i j L M h => by simp at h

theorem look_nameB : ∀ (bs : List Blk) (x y : Nat), look (nameB x bs) y = if x ≤ y ∧ y < x + bs.length then (bs[y - x]?).map some else none
  | [], x, y => by
    simp only [nameB, look, List.length_nil, Nat.add_zero]
    rw [if_neg (by omega)]
  | b :: bs, x, y => by
    simp only [nameB]
    rw [look_cons, look_nameB bs (x + 1) y]
    by_cases h : x = y
    · subst h
      rw [if_pos rfl, if_pos (by simp)]
      simp
    · rw [if_neg h]
      by_cases h2 : x + 1 ≤ y ∧ y < x + 1 + bs.length
      · rw [if_pos h2, if_pos (by simp only [List.length_cons]; omega)]
        rw [show y - x = (y - (x + 1)) + 1 by omega, List.getElem?_cons_succ]
      · rw [if_neg h2, if_neg (by simp only [List.length_cons]; omega)]
theorem fresh_none : ∀ {bs : List Blk} {x : Nat} {H : Hp}, freshB H x bs = true → ∀ y, x ≤ y ∧ y < x + bs.length → look H y = none
  | [], x, H, _, y, hy => by simp at hy; omega
  | b :: bs, x, H, h, y, hy => by
    simp only [freshB, Bool.and_eq_true] at h
    by_cases e : x = y
    · subst e
      cases hl : look H x with
      | none => rfl
      | some o => rw [hl] at h; simp at h
    · exact fresh_none h.2 y (by simp only [List.length_cons] at hy; omega)

/-- a tmp is written -/
theorem SimL.put {B : Base} {nt : Nat} {C : Cx} {T : List (Nat × CV)} {H : Hp} {a : Act} (h : SimL B nt C ⟨T, H⟩ a) {c : CV} {v : Value} (hv : valR C c v) (hn : ∀ y, y ∈ n2 c → ∃ o, look H y = some o) {d : Nat} (hd : d < nt) (hp : B.pin = none ∨ d ≠ 0) :
    SimL B nt C ⟨(d, c) :: T, H⟩ (a.put (some d) v) := by
  refine { h with size := by simp [Act.put, h.size], tm := ?_, nmT := ?_, pin := ?_ }
  · intro t c' hc
    simp only [look_cons] at hc
    by_cases e : d = t
    · subst e
      rw [if_pos rfl] at hc
      cases hc
      exact ⟨v, by simp [Act.put, h.size, hd], hv⟩
    · rw [if_neg e] at hc
      obtain ⟨u, hu, hr⟩ := h.tm t c' hc
      exact ⟨u, by simpa [Act.put, Array.getElem?_setIfInBounds_ne e] using hu, hr⟩
  · intro t c' hc y hy
    simp only [look_cons] at hc
    by_cases e : d = t
    · rw [if_pos e] at hc
      cases hc
      exact hn y hy
    · rw [if_neg e] at hc
      exact h.nmT t c' hc y hy
  · intro u hu
    have := h.pin u hu
    rcases hp with hp | hp
    · rw [hp] at hu; cases hu
    · simpa [Act.put, Array.getElem?_setIfInBounds_ne hp] using this
theorem SimL.add {B : Base} {nt : Nat} {C D : Cx} {st : St} {a : Act} (h : SimL B nt C st a) {x : Nat} {c : CV} {bs : List Blk} {v : Value} (q : QOut C st D x c bs v)
    (hf : ∀ y, x ≤ y ∧ y < x + bs.length → look st.H y = none) : SimL B nt D ⟨st.T, nameB x bs ++ st.H⟩ a := by
  have hlook : ∀ y, look (nameB x bs ++ st.H) y = if x ≤ y ∧ y < x + bs.length then (bs[y - x]?).map some else look st.H y := by
    intro y
    rw [look_append, look_nameB]
    by_cases hy : x ≤ y ∧ y < x + bs.length
    · simp only [hy, and_self, if_true]
      have : y - x < bs.length := by omega
      simp [List.getElem?_eq_getElem this]
    · simp only [hy, if_false]
  have hlive : ∀ y b, look st.H y = some b → ¬ (x ≤ y ∧ y < x + bs.length) := fun y b hb hy => by rw [hf y hy] at hb; cases hb
  have hlvC : ∀ y, C.lv y → ¬ (x ≤ y ∧ y < x + bs.length) := fun y hy => by
    obtain ⟨b, hb⟩ := (h.lv y).1 hy
    exact hlive y _ hb
  have tr : Tr C D (fun y => ∃ o, look st.H y = some o) :=
    ⟨fun b hb => q.heap b (h.rlt b hb), q.sub, fun y ⟨o, ho⟩ hl => by
      have hn := hlive y o ho
      exact ⟨((q.lv y).1 hl).resolve_right hn, q.loc y hn⟩⟩
  have hkn : ∀ y o, look st.H y = some o → ∃ o, look (nameB x bs ++ st.H) y = some o := fun y o ho => ⟨o, by rw [hlook, if_neg (hlive y o ho)]; exact ho⟩
  have hkn' : ∀ y, (∃ o, look st.H y = some o) ∨ (x ≤ y ∧ y < x + bs.length) → ∃ o, look (nameB x bs ++ st.H) y = some o := by
    rintro y (⟨o, ho⟩ | hy)
    · exact hkn y o ho
    · rw [hlook, if_pos hy]
      have : y - x < bs.length := by omega
      exact ⟨_, by rw [List.getElem?_eq_getElem this]; rfl⟩
  constructor
  · exact h.size
  · exact h.dfr
  · exact q.os.trans h.os
  · exact q.tape.trans h.tape
  · exact q.output.trans h.output
  · exact Nat.le_trans h.grow q.grow
  · exact fun b hb hm => (q.heap b (Nat.lt_of_lt_of_le hb h.grow)).trans (h.keep b hb hm)
  · exact fun b hb => q.sub b (h.rsub b hb)
  · exact q.rlt
  · intro b hb
    rcases q.rnew b hb with hb | hb
    · exact h.rnew b hb
    · exact .inr (Nat.le_trans h.grow hb)
  · intro y
    simp only
    rw [q.lv y, hlook, h.lv y]
    constructor
    · rintro (⟨b, hb⟩ | hy)
      · exact ⟨b, by rw [if_neg (hlive y _ hb)]; exact hb⟩
      · rw [if_pos hy]
        have : y - x < bs.length := by omega
        exact ⟨_, by rw [List.getElem?_eq_getElem this]; rfl⟩
    · rintro ⟨b, hb⟩
      by_cases hy : x ≤ y ∧ y < x + bs.length
      · exact .inr hy
      · rw [if_neg hy] at hb; exact .inl ⟨b, hb⟩
  · intro t c' hc
    obtain ⟨u, hu, hr⟩ := h.tm t c' hc
    exact ⟨u, hu, valR_tr tr (fun y hy => h.nmT t c' hc y hy) hr⟩
  · intro y b hb
    simp only at hb
    rw [hlook] at hb
    by_cases hy : x ≤ y ∧ y < x + bs.length
    · rw [if_pos hy] at hb
      have hlt : y - x < bs.length := by omega
      rw [List.getElem?_eq_getElem hlt] at hb
      simp only [Option.map_some, Option.some.injEq] at hb
      obtain ⟨h1, h2, -⟩ := q.bl (y - x) b (by rw [List.getElem?_eq_getElem hlt, hb])
      rw [show x + (y - x) = y by omega] at h1 h2
      exact ⟨h1, fun L hL => by
        obtain ⟨a1, a2, a3⟩ := h2 L hL
        exact ⟨.inl (Nat.le_trans h.grow a1), a2, a3⟩⟩
    · rw [if_neg hy] at hb
      obtain ⟨h1, h2⟩ := h.bl y b hb
      have hloc := q.loc y hy
      refine ⟨blkR_tr tr hloc (fun L hL => q.heap L.g (h2 L hL).2.2) (fun z hz => h.nmH y b hb z hz) h1, fun L hL => ?_⟩
      rw [hloc] at hL
      obtain ⟨a1, a2, a3⟩ := h2 L hL
      refine ⟨a1, fun hR => ?_, Nat.lt_of_lt_of_le a3 q.grow⟩
      rcases q.rnew L.g hR with hR | hR
      · exact a2 hR
      · omega
  · intro y z L M hy hz hL hM hne
    by_cases y1 : x ≤ y ∧ y < x + bs.length
    · have hy' : y - x < bs.length := by omega
      have hb1 := (q.bl (y - x) _ (List.getElem?_eq_getElem hy')).2.1
      rw [show x + (y - x) = y by omega] at hb1
      by_cases z1 : x ≤ z ∧ z < x + bs.length
      · exact q.dj (y - x) (z - x) L M (by omega) (by omega) (by omega) (by rw [show x + (y - x) = y by omega]; exact hL) (by rw [show x + (z - x) = z by omega]; exact hM)
      · have hz' := ((q.lv z).1 hz).resolve_right z1
        obtain ⟨b, hb⟩ := (h.lv z).1 hz'
        rw [q.loc z z1] at hM
        have := (h.bl z b hb).2 M hM
        have := hb1 L hL
        omega
    · have hy' := ((q.lv y).1 hy).resolve_right y1
      rw [q.loc y y1] at hL
      by_cases z1 : x ≤ z ∧ z < x + bs.length
      · have hz2 : z - x < bs.length := by omega
        have hb1 := (q.bl (z - x) _ (List.getElem?_eq_getElem hz2)).2.1
        rw [show x + (z - x) = z by omega] at hb1
        obtain ⟨b, hb⟩ := (h.lv y).1 hy'
        have := (h.bl y b hb).2 L hL
        have := hb1 M hM
        omega
      · have hz' := ((q.lv z).1 hz).resolve_right z1
        rw [q.loc z z1] at hM
        exact h.dj y z L M hy' hz' hL hM hne
  · intro t c' hc y hy
    obtain ⟨o, ho⟩ := h.nmT t c' hc y hy
    exact hkn y o ho
  · intro y b hb z hz
    simp only at hb ⊢
    rw [hlook] at hb
    by_cases hy : x ≤ y ∧ y < x + bs.length
    · rw [if_pos hy] at hb
      have hlt : y - x < bs.length := by omega
      rw [List.getElem?_eq_getElem hlt] at hb
      simp only [Option.map_some, Option.some.injEq] at hb
      exact hkn' z ((q.bl (y - x) b (by rw [List.getElem?_eq_getElem hlt, hb])).2.2 z hz)
    · rw [if_neg hy] at hb
      obtain ⟨o, ho⟩ := h.nmH y b hb z hz
      exact hkn z o ho
  · exact h.pin
theorem SimL.quiet {B : Base} {nt : Nat} {C D : Cx} {st : St} {a : Act} (h : SimL B nt C st a) {x : Nat} {c : CV} {bs : List Blk} {v : Value} (q : QOut C st D x c bs v)
    (hf : ∀ y, x ≤ y ∧ y < x + bs.length → look st.H y = none) {d : Nat} (hd : d < nt) (hp : B.pin = none ∨ d ≠ 0) : SimL B nt D (st.app ⟨[(d, c)], nameB x bs⟩) (a.put (some d) v) := by
  refine (h.add q hf).put q.val (fun y hy => ?_) hd hp
  rcases q.nm y hy with ⟨o, ho⟩ | hy'
  · rw [look_append, look_nameB]
    split
    · exact ⟨_, rfl⟩
    · exact ⟨o, ho⟩
  · rw [look_append, look_nameB, if_pos hy']
    have : y - x < bs.length := by omega
    rw [List.getElem?_eq_getElem this]
    exact ⟨_, rfl⟩
end Go.Proofs.Ytnfgfdeidkhdkaa.Eng
/- Ef: The engine's soundness, fourth part: loads, indexes, lengths, cuts. -/
namespace Go.Proofs.Ytnfgfdeidkhdkaa.Eng
open Go.RowKit (Below)
set_option linter.unusedVariables false
set_option linter.unusedSimpArgs false

theorem cell_agg {C : Cx} {c : CV} {v : Value} (h : cellR C c v) : aggR C c v := by
  cases c <;> first | exact h | exact False.elim h
theorem isC_n1 {c : CV} (h : c.isC = true) : n1 c = n0 c := by cases c <;> first | rfl | (simp [CV.isC] at h)
theorem mkAgg_names {t : Nat} {cs : List CV} {c : CV} (h : mkAgg t cs = some c) {y : Nat} (hy : y ∈ n1 c) : y ∈ cs.flatMap n0 := by
  unfold mkAgg at h
  split at h
  · rename_i ks hk
    by_cases hl : Nat.beq ks.length cs.length = true
    · simp only [hl, cond_true, Option.some.injEq] at h
      subst h; exact hy
    · simp [Bool.eq_false_iff.2 hl] at h
  · split at h
    · rename_i v
      by_cases hv : v.isC = true
      · simp only [hv, cond_true, Option.some.injEq] at h
        subst h
        rw [isC_n1 hv] at hy
        simpa using hy
      · simp [Bool.eq_false_iff.2 hv] at h
    · cases h
  · cases h
theorem load_gen {C : Cx} {t : Nat} {b : Bool} {ks : List CK} (hk : cks t = some (b, ks)) {ad : Addr} {cs : List CV} {c : CV} (hm : mkAgg t cs = some c)
    (hc : ∀ i u, cs[i]? = some u → ∃ x, C.w.cell? (ad.add i) = some x ∧ cellR C u x) : ∃ v, (Instr.loadAt t (.pointer (some ad))).run P C.w = .ok v C.w ∧ aggR C c v := by
  have ha := isAgg_run hk C.w
  have hs := sizeOf_run hk C.w
  unfold mkAgg at hm
  rw [hk] at hm
  cases b with
  | true =>
    simp only at hm
    by_cases hl : Nat.beq ks.length cs.length = true
    · simp only [hl, cond_true, Option.some.injEq] at hm
      subst hm
      have hl' := Nat.eq_of_beq_eq_true hl
      have hex : ∃ vs : List Value, vs.length = cs.length ∧ ∀ (i : Nat) v, vs[i]? = some v → C.w.cell? (ad.add i) = some v := by
        refine ⟨(List.range cs.length).map fun i => (C.w.cell? (ad.add i)).getD undef, by simp, fun i v hv => ?_⟩
        simp only [List.getElem?_map, Option.map_eq_some_iff] at hv
        obtain ⟨j, hj, rfl⟩ := hv
        obtain ⟨hj1, hj2⟩ := List.getElem?_eq_some_iff.1 hj
        simp at hj1 hj2
        subst hj2
        obtain ⟨x, hx, -⟩ := hc i _ (List.getElem?_eq_getElem hj1)
        simp [hx]
      obtain ⟨vs, hvl, hv⟩ := hex
      refine ⟨.agg vs.toArray, ?_, ⟨vs.toArray, rfl, All2.of (by simpa using hvl.symm) fun i u v hu hv' => ?_⟩⟩
      · have hr := run_loadCells_list (P := P) C.w ad vs (fun j v h => hv j v h)
        rw [hvl, ← hl'] at hr
        simp [Instr.loadAt, Instr.sureAddr, loadVar, ha, hs, hr]
      · obtain ⟨x, hx, hr⟩ := hc i u hu
        have := hv i v (by simpa using hv')
        rw [hx] at this
        cases this
        exact hr
    · simp [Bool.eq_false_iff.2 hl] at hm
  | false =>
    simp only at hm
    split at hm
    · rename_i v
      by_cases hv : v.isC = true
      · simp only [hv, cond_true, Option.some.injEq] at hm
        subst hm
        obtain ⟨x, hx, hr⟩ := hc 0 v (by simp)
        refine ⟨x, ?_, cell_agg hr⟩
        have hx' : C.w.cell? ad = some x := by simpa [Addr.add] using hx
        simp [Instr.loadAt, Instr.sureAddr, loadVar, ha, run_load, hx']
      · simp [Bool.eq_false_iff.2 hv] at hm
    · cases hm

theorem cell_at {w : World} {g o : Nat} {cur : Array Value} {t : TypeId} {fr : Nat × Nat} {y : Value} (hg : w.heap[g]? = some (.cells cur t fr)) (hy : cur[o]? = some y) :
    w.cell? ⟨g, o, none⟩ = some y := by simp [World.cell?, hg, hy]
theorem isC_isA {c : CV} (h : c.isC = true) : c.isA = true := by cases c <;> first | rfl | (simp [CV.isC] at h)
theorem mkAgg_isA {t : Nat} {cs : List CV} {c : CV} (h : mkAgg t cs = some c) : c.isA = true := by
  unfold mkAgg at h
  split at h
  · rename_i ks hk
    by_cases hl : Nat.beq ks.length cs.length = true
    · simp only [hl, cond_true, Option.some.injEq] at h
      subst h; rfl
    · simp [Bool.eq_false_iff.2 hl] at h
  · split at h
    · rename_i v
      by_cases hv : v.isC = true
      · simp only [hv, cond_true, Option.some.injEq] at h
        subst h
        exact isC_isA hv
      · simp [Bool.eq_false_iff.2 hv] at h
    · cases h
  · cases h
theorem cells_n0 (k : SK) (e : k.T) : (k.cells e).flatMap n0 = [] := by cases k <;> rfl

/-- a load -/
theorem loadK_sound {B : Base} {nt : Nat} {C : Cx} {st : St} {a : Act} (h : SimL B nt C st a) {t : Nat} {p : CV} {v : Value} (hv : valR C p v) (hp : ∀ y, y ∈ n2 p → ∃ o, look st.H y = some o)
    {R : Type} {K : CV → Option R} {r : R} (hk : loadK t st.H p K = some r) :
    ∃ c, K c = some r ∧ ∃ u, (Instr.loadAt t v).run P C.w = .ok u C.w ∧ valR C c u ∧ ∀ y, y ∈ n2 c → ∃ o, look st.H y = some o := by
  unfold loadK at hk
  split at hk
  · cases hk
  · rename_i b ks hks
    split at hk
    · rename_i x o
      split at hk
      · rename_i ty cs hg
        split at hk
        · rename_i c hm
          have hlk := get_some.1 hg
          have hl : C.lv x := (h.lv x).2 ⟨_, hlk⟩
          obtain ⟨⟨ad, rfl⟩, hv2⟩ := hv
          obtain ⟨L, hL, he⟩ := hv2 hl
          cases he
          obtain ⟨⟨L', hL', cur, ct, hcur, hcs⟩, -⟩ := h.bl x _ hlk
          rw [hL] at hL'; cases hL'
          obtain ⟨u, hu, hr⟩ := load_gen (C := C) hks hm (ad := ⟨L.g, L.o + o, none⟩) (fun i u hu => by
            have hu' : cs[o + i]? = some u := by
              rw [List.getElem?_take] at hu
              split at hu
              · simpa using hu
              · cases hu
            obtain ⟨y, hy, hr⟩ := hcs (o + i) u hu'
            exact ⟨y, by rw [addr_add]; exact cell_at hcur (by rw [Nat.add_assoc]; exact hy), hr⟩)
          refine ⟨c, hk, u, hu, aggR_val hr, fun y hy => ?_⟩
          have hy' := mkAgg_names hm (n1_of (mkAgg_isA hm) hy)
          obtain ⟨d, hd, hyd⟩ := List.mem_flatMap.1 hy'
          exact h.nmH x _ hlk y (List.mem_flatMap.2 ⟨d, List.mem_of_mem_drop (List.mem_of_mem_take hd), hyd⟩)
        · cases hk
      · cases hk
    · rename_i cs o
      split at hk
      · rename_i c hm
        obtain ⟨g, q, hR, rfl, hcs⟩ := hv
        obtain ⟨u, hu, hr⟩ := load_gen (C := C) hks hm (ad := ⟨g, q + o, none⟩) (fun i u hu => by
          have hu' : cs[o + i]? = some u := by
            rw [List.getElem?_take] at hu
            split at hu
            · simpa using hu
            · cases hu
          obtain ⟨y, hy, hr⟩ := hcs (o + i) u hu'
          exact ⟨y, by rw [addr_add, Nat.add_assoc]; exact hy, bv_cell hr⟩)
        refine ⟨c, hk, u, hu, aggR_val hr, fun y hy => ?_⟩
        exfalso
        have hy' := mkAgg_names hm (n1_of (mkAgg_isA hm) hy)
        obtain ⟨d, hd, hyd⟩ := List.mem_flatMap.1 hy'
        obtain ⟨i, hi⟩ := List.mem_iff_getElem?.1 (List.mem_of_mem_drop (List.mem_of_mem_take hd))
        obtain ⟨z, hz, hr⟩ := hcs i d hi
        cases d <;> first | (simp [n0] at hyd; done) | exact False.elim hr
      · cases hk
    · rename_i x i j
      split at hk
      · rename_i ap k l hg
        split at hk
        · rename_i e hle
          split at hk
          · rename_i c hm
            have hlk := get_some.1 hg
            have hl : C.lv x := (h.lv x).2 ⟨_, hlk⟩
            obtain ⟨⟨ad, rfl⟩, hv2⟩ := hv
            obtain ⟨L, hL, he⟩ := hv2 hl
            cases he
            have hb := (h.bl x _ hlk).1
            simp only [blkR, hL] at hb
            obtain ⟨b1, b2, b3, b4, cur, b5, b6, b7⟩ := hb
            obtain ⟨u, hu, hr⟩ := load_gen (C := C) hks hm (ad := ⟨L.g, L.o + i * L.s + j, none⟩) (fun q u hu => by
              have hu' : (k.cells e)[j + q]? = some u := by
                rw [List.getElem?_take] at hu
                split at hu
                · simpa using hu
                · cases hu
              have hlt : j + q < k.size := by
                have := (List.getElem?_eq_some_iff.1 hu').1
                rwa [SK.cells_len] at this
              obtain ⟨y, hy, hr⟩ := b7 (i * k.size + (j + q)) u (by rw [row_get k hle hlt]; exact hu')
              exact ⟨y, by rw [addr_add]; exact cell_at b5 (by rw [← hy, b2]; congr 1; omega), bv_cell hr⟩)
            refine ⟨c, hk, u, hu, aggR_val hr, fun y hy => ?_⟩
            exfalso
            have hy' := mkAgg_names hm (n1_of (mkAgg_isA hm) hy)
            obtain ⟨d, hd, hyd⟩ := List.mem_flatMap.1 hy'
            have : y ∈ (k.cells e).flatMap n0 := List.mem_flatMap.2 ⟨d, List.mem_of_mem_drop (List.mem_of_mem_take hd), hyd⟩
            rw [cells_n0] at this
            simp at this
          · cases hk
        · cases hk
      · cases hk
    · cases hk
theorem indexAt_run (k : SK) (ad : Addr) (n c : Nat) (ik : IntKind) (i : Int) (h0 : 0 ≤ i) (h1 : i < n) (w : World) :
    (Instr.indexAt k.ty (.slice (some ad) n c) (.int ik i)).run P w = .ok (.pointer (some (ad.add (i.toNat * k.size)))) w := by
  simp [Instr.indexAt, asIntOf, run_underlying (SK.under k), h0, h1, SK.sizeOf k]

/-- an index -/
theorem indexK_sound {B : Base} {nt : Nat} {C : Cx} {st : St} {a : Act} (h : SimL B nt C st a) {t : Nat} {s i : CV} {v u : Value} (hs : valR C s v) (hi : valR C i u)
    (hn : ∀ y, y ∈ n2 s → ∃ o, look st.H y = some o) {R : Type} {K : CV → Option R} {r : R} (hk : indexK t st.H s i K = some r) :
    ∃ c, K c = some r ∧ ∃ z, (∀ w, (Instr.indexAt t v u).run P w = .ok z w) ∧ valR C c z ∧ ∀ y, y ∈ n2 c → ∃ o, look st.H y = some o := by
  unfold indexK at hk
  split at hk
  · rename_i ik n
    obtain rfl := int_inv hi
    split at hk
    · rename_i k l
      by_cases ht : Nat.beq k.ty t = true
      · simp only [ht, cond_true] at hk
        obtain rfl := ty_eq ht
        by_cases h0 : 0 ≤ n
        · simp only [h0, decide_true, cond_true] at hk
          split at hk
          · rename_i e he
            obtain ⟨A, c, rfl, hnc, hc⟩ := hs
            have hlt : n.toNat < l.length := (List.getElem?_eq_some_iff.1 he).1
            have hcell : ∀ j, j < k.size → ∃ ad x, A = some ad ∧ C.R ad.block ∧ C.w.cell? (ad.add (n.toNat * k.size + j)) = some x ∧ ∀ u, (k.cells e)[j]? = some u → lev C.w C.R 1 u x := by
              intro j hj
              have hj' : j < (k.cells e).length := by rw [SK.cells_len]; exact hj
              obtain ⟨ad, x, hA, hR, hx, hr⟩ := hc (n.toNat * k.size + j) _ ((row_get k he hj).trans (List.getElem?_eq_getElem hj'))
              refine ⟨ad, x, hA, hR, hx, fun u hu => ?_⟩
              rw [List.getElem?_eq_getElem hj'] at hu
              cases hu
              exact hr
            obtain ⟨ad, x, rfl, hR, hx, -⟩ := hcell 0 k.size_pos
            have hsp := cell_none hx
            have hfl := addr_flat ad (n.toNat * k.size + 0) hsp
            refine ⟨_, hk, _, fun w => indexAt_run k ad _ c ik n h0 (by omega) w, ⟨ad.block, ad.off + n.toNat * k.size, hR, ?_, fun j u hu => ?_⟩, by simp [n2, n1, n0]⟩
            · simp only [Nat.add_zero] at hfl ⊢
              rw [hfl]
            · have hj : j < k.size := by
                have := (List.getElem?_eq_some_iff.1 hu).1
                rwa [SK.cells_len] at this
              obtain ⟨ad', x', hA, hR', hx', hr'⟩ := hcell j hj
              cases hA
              refine ⟨x', ?_, lev_lift (hr' u hu)⟩
              rw [addr_flat ad _ (cell_none hx'), ← Nat.add_assoc] at hx'
              exact hx'
          · cases hk
        · simp [h0] at hk
      · simp [Bool.eq_false_iff.2 ht] at hk
    · rename_i x
      split at hk
      · rename_i ap k l hg
        by_cases ht : Nat.beq k.ty t = true
        · simp only [ht, cond_true] at hk
          obtain rfl := ty_eq ht
          by_cases h0 : 0 ≤ n
          · simp only [h0, decide_true, cond_true] at hk
            by_cases h1 : n < (l.length : Int)
            · simp only [h1, decide_true, cond_true] at hk
              have hlk := get_some.1 hg
              have hl : C.lv x := (h.lv x).2 ⟨_, hlk⟩
              obtain ⟨-, hv2⟩ := hs
              have hv3 := hv2 hl
              have hb := (h.bl x _ hlk).1
              cases hL : C.loc x with
              | none => simp only [blkR, hL] at hb; subst hb; simp at h1; omega
              | some L =>
                rw [hL] at hv3
                simp only [blkR, hL] at hb
                subst hv3
                refine ⟨_, hk, _, fun w => indexAt_run k _ _ _ ik n h0 (by rw [hb.1]; exact h1) w, ⟨⟨_, rfl⟩, fun _ => ⟨L, hL, ?_⟩⟩, hn⟩
                rw [addr_add, hb.2.1]
                rfl
            · simp [h1] at hk
          · simp [h0] at hk
        · simp [Bool.eq_false_iff.2 ht] at hk
      · cases hk
    · rename_i x off len
      split at hk
      · rename_i ap k l hg
        by_cases ht : Nat.beq k.ty t = true
        · simp only [ht, cond_true] at hk
          obtain rfl := ty_eq ht
          by_cases h0 : 0 ≤ n
          · simp only [h0, decide_true, cond_true] at hk
            by_cases h1 : n < (len : Int)
            · simp only [h1, decide_true, cond_true] at hk
              have hlk := get_some.1 hg
              have hl : C.lv x := (h.lv x).2 ⟨_, hlk⟩
              obtain ⟨-, hv2⟩ := hs
              have hv3 := hv2 hl
              have hb := (h.bl x _ hlk).1
              cases hL : C.loc x with
              | none => rw [hL] at hv3; obtain ⟨rfl, -⟩ := hv3; simp at h1; omega
              | some L =>
                rw [hL] at hv3
                simp only [blkR, hL] at hb
                obtain ⟨hle, A, c, rfl, hc, hA⟩ := hv3
                obtain rfl := hA (by omega)
                refine ⟨_, hk, _, fun w => indexAt_run k _ _ _ ik n h0 h1 w, ⟨⟨_, rfl⟩, fun _ => ⟨L, hL, ?_⟩⟩, hn⟩
                rw [addr_add, hb.2.1, Nat.add_mul]
                simp [Nat.add_assoc]
            · simp [h1] at hk
          · simp [h0] at hk
        · simp [Bool.eq_false_iff.2 ht] at hk
      · cases hk
    · cases hk
  · cases hk

/-- a length -/
theorem lenK_sound {B : Base} {nt : Nat} {C : Cx} {st : St} {a : Act} (h : SimL B nt C st a) {k : SK} {s : CV} {v : Value} (hs : valR C s v)
    {R : Type} {K : CV → Option R} {r : R} (hk : lenK st.H s K = some r) (ty : TypeId) :
    ∃ c, K c = some r ∧ ∃ z, (∀ w, (Builtin.len_ #[k.ty] ty #[v]).run P w = .ok z w) ∧ valR C c z ∧ n2 c = [] := by
  have key : ∀ A n c, v = .slice A n c → ∀ w, (Builtin.len_ #[k.ty] ty #[v]).run P w = .ok (.int .i64 n) w := by
    rintro A n c rfl w
    simp [Builtin.len_, run_underlying (SK.under k), goInt]
  unfold lenK at hk
  split at hk
  · obtain ⟨A, rfl⟩ := hs
    exact ⟨_, hk, _, key _ _ _ rfl, rfl, rfl⟩
  · obtain ⟨A, c, rfl, -⟩ := hs
    exact ⟨_, hk, _, key _ _ _ rfl, rfl, rfl⟩
  · rename_i x
    split at hk
    · rename_i ap k' l hg
      have hlk := get_some.1 hg
      have hl : C.lv x := (h.lv x).2 ⟨_, hlk⟩
      have hv3 := hs.2 hl
      have hb := (h.bl x _ hlk).1
      cases hL : C.loc x with
      | none =>
        rw [hL] at hv3
        simp only [blkR, hL] at hb
        subst hb
        obtain ⟨A, rfl⟩ := hv3
        exact ⟨_, hk, _, key _ _ _ rfl, rfl, rfl⟩
      | some L =>
        rw [hL] at hv3
        simp only [blkR, hL] at hb
        subst hv3
        exact ⟨_, hk, _, key _ _ _ rfl, by rw [hb.1]; rfl, rfl⟩
    · cases hk
  · rename_i x off len
    split at hk
    · rename_i b hg
      have hlk := get_some.1 hg
      have hl : C.lv x := (h.lv x).2 ⟨_, hlk⟩
      have hv3 := hs.2 hl
      cases hL : C.loc x with
      | none =>
        rw [hL] at hv3
        obtain ⟨rfl, A, c, rfl⟩ := hv3
        exact ⟨_, hk, _, key _ _ _ rfl, rfl, rfl⟩
      | some L =>
        rw [hL] at hv3
        obtain ⟨-, A, c, rfl, -⟩ := hv3
        exact ⟨_, hk, _, key _ _ _ rfl, rfl, rfl⟩
    · cases hk
  · cases hk

/-! ### cuts -/
theorem bound_sound {B : Base} {nt : Nat} {C : Cx} {st : St} {a : Act} (h : SimL B nt C st a) {x : Option Operand} {d : Int} {R : Type} {K : Int → Option R} {r : R}
    (hk : bound st.T x d K = some r) : ∃ n, K n = some r ∧ ((x = none ∧ n = d) ∨ ∃ o ik, x = some o ∧ a.eval o = .int ik n) := by
  unfold bound at hk
  split at hk
  · exact ⟨d, hk, .inl ⟨rfl, rfl⟩⟩
  · rename_i x
    split at hk
    · rename_i ik n hn
      exact ⟨n, hk, .inr ⟨x, ik, rfl, int_inv (ev_sound h hn).1⟩⟩
    · cases hk
theorem sliceBound_run (ik : IntKind) (n : Nat) (y : Nat) (code : BoundsCode) (h : n ≤ y) (w : World) : (Instr.sliceBound (.int ik n) y code).run P w = .ok n w := by
  simp [Instr.sliceBound, asIntOf, h]
theorem slice_run (k : SK) (A : Option Addr) (len cap : Nat) (lo hi mx : Option Value) (x y m : Nat)
    (hlo : (lo = none ∧ x = 0) ∨ ∃ ik, lo = some (.int ik (x : Int))) (hhi : (hi = none ∧ y = len ∧ mx = none) ∨ ∃ ik, hi = some (.int ik (y : Int)))
    (hmx : (mx = none ∧ m = cap) ∨ ∃ ik, mx = some (.int ik (m : Int))) (h1 : x ≤ y) (h2 : y ≤ m) (h3 : m ≤ cap) (w : World) :
    (Instr.sliceAt k.ty (.slice A len cap) lo hi mx).run P w = .ok (.slice (if m = x then A else A.map (·.add (x * k.size))) (y - x) (m - x)) w := by
  have hx : x ≤ y := h1
  have s1 := fun ik code => sliceBound_run ik x y code h1 w
  have s2 := fun ik code => sliceBound_run ik y m code h2 w
  have s3 := fun ik code => sliceBound_run ik m cap code h3 w
  have s4 := fun ik code (e : m = cap) => e ▸ sliceBound_run ik y m code h2 w
  rcases hlo with ⟨rfl, rfl⟩ | ⟨k1, rfl⟩ <;> rcases hhi with ⟨rfl, rfl, hm⟩ | ⟨k2, rfl⟩ <;> rcases hmx with ⟨rfl, rfl⟩ | ⟨k3, rfl⟩ <;>
    first
    | (cases hm; done)
    | (simp [Instr.sliceAt, Instr.slice, run_underlying (SK.under k), Instr.sliceBounds, s1, s2, s3, SK.sizeOf k]; done)
theorem toNat_int {n : Int} (h : 0 ≤ n) : ((n.toNat : Nat) : Int) = n := Int.toNat_of_nonneg h

theorem sliceK_sound {B : Base} {nt : Nat} {C : Cx} {st : St} {a : Act} (h : SimL B nt C st a) {t : Nat} {s : CV} {v : Value} (hs : valR C s v) (hn : ∀ y, y ∈ n2 s → ∃ o, look st.H y = some o)
    {lo hi mx : Option Operand} {R : Type} {K : CV → Option R} {r : R} (hk : sliceK t st.T st.H s lo hi mx K = some r) :
    ∃ c, K c = some r ∧ ∃ z, (∀ w, (Instr.sliceAt t v (lo.map a.eval) (hi.map a.eval) (mx.map a.eval)).run P w = .ok z w) ∧ valR C c z ∧ ∀ y, y ∈ n2 c → ∃ o, look st.H y = some o := by
  unfold sliceK at hk
  split at hk
  · rename_i k l
    by_cases ht : (Nat.beq k.ty t && mx.isNone) = true
    · simp only [ht, cond_true] at hk
      simp only [Bool.and_eq_true] at ht
      obtain rfl := ty_eq ht.1
      obtain ⟨x, hk, hlo⟩ := bound_sound h hk
      obtain ⟨y, hk, hhi⟩ := bound_sound h hk
      by_cases h1 : 0 ≤ x
      · simp only [h1, decide_true, cond_true] at hk
        by_cases h2 : x ≤ y
        · simp only [h2, decide_true, cond_true] at hk
          by_cases h3 : y ≤ (l.length : Int)
          · simp only [h3, decide_true, cond_true] at hk
            obtain ⟨A, c, rfl, hnc, hc⟩ := hs
            obtain ⟨x, rfl⟩ := Int.eq_ofNat_of_zero_le h1
            obtain ⟨y, rfl⟩ := Int.eq_ofNat_of_zero_le (show 0 ≤ y by omega)
            have hmx : mx = none := by cases mx with | none => rfl | some _ => simp at ht
            subst hmx
            refine ⟨_, hk, _, fun w => slice_run k A l.length c _ _ _ x y c ?_ ?_ (.inl ⟨rfl, rfl⟩) (by omega) (by omega) (Nat.le_refl _) w, ?_, by simp [n2, n1, n0]⟩
            · rcases hlo with ⟨rfl, e⟩ | ⟨o, ik, rfl, e⟩
              · exact .inl ⟨rfl, by omega⟩
              · exact .inr ⟨ik, by simp [e]⟩
            · rcases hhi with ⟨rfl, e⟩ | ⟨o, ik, rfl, e⟩
              · exact .inl ⟨rfl, by omega, rfl⟩
              · exact .inr ⟨ik, by simp [e]⟩
            · have hlen : ((l.drop (x : Int).toNat).take ((y : Int).toNat - (x : Int).toNat)).length = y - x := by simp; omega
              refine ⟨if c = x then A else A.map (·.add (x * k.size)), c - x, by rw [hlen], by omega, ?_⟩
              · intro i u hu
                simp only [Int.toNat_natCast] at hu
                rw [take_flat (SK.cells_len k), drop_flat (SK.cells_len k), List.getElem?_take] at hu
                split at hu
                · rename_i hi'
                  rw [List.getElem?_drop] at hu
                  obtain ⟨ad, z, hA, hR, hz, hr⟩ := hc _ _ hu
                  have hxy : ¬ c = x := by
                    intro e
                    have : y - x = 0 := by omega
                    rw [this] at hi'
                    simp at hi'
                  subst hA
                  refine ⟨ad.add (x * k.size), z, by simp [hxy], by rw [addr_block]; exact hR, by rw [addr_add_add]; exact hz, hr⟩
                · cases hu
          · simp [h3] at hk
        · simp [h2] at hk
      · simp [h1] at hk
    · simp [Bool.eq_false_iff.2 ht] at hk
  · rename_i x
    split at hk
    · rename_i ap k l hg
      by_cases ht : (Nat.beq k.ty t && (hi.isSome || mx.isNone)) = true
      · simp only [ht, cond_true] at hk
        simp only [Bool.and_eq_true] at ht
        obtain rfl := ty_eq ht.1
        obtain ⟨x', hk1, hlo⟩ := bound_sound h hk
        clear hk
        obtain ⟨y, hk2, hhi⟩ := bound_sound h hk1
        clear hk1
        obtain ⟨m, hk, hmx⟩ := bound_sound h hk2
        clear hk2
        by_cases h1 : 0 ≤ x'
        · simp only [h1, decide_true, cond_true] at hk
          by_cases h2 : x' ≤ y
          · simp only [h2, decide_true, cond_true] at hk
            by_cases h3 : y ≤ m
            · simp only [h3, decide_true, cond_true] at hk
              by_cases h4 : m ≤ (l.length : Int)
              · simp only [h4, decide_true, cond_true] at hk
                obtain ⟨x', rfl⟩ := Int.eq_ofNat_of_zero_le h1
                obtain ⟨y, rfl⟩ := Int.eq_ofNat_of_zero_le (show 0 ≤ y by omega)
                obtain ⟨m, rfl⟩ := Int.eq_ofNat_of_zero_le (show 0 ≤ m by omega)
                have hlk := get_some.1 hg
                have hl : C.lv x := (h.lv x).2 ⟨_, hlk⟩
                have hv3 := hs.2 hl
                have hb := (h.bl x _ hlk).1
                have main : ∀ A n c, v = .slice A n c → n = l.length → n ≤ c → ∃ A' c', (∀ w, (Instr.sliceAt k.ty v (lo.map a.eval) (hi.map a.eval) (mx.map a.eval)).run P w = .ok (.slice A' (y - x') c') w) ∧ y - x' ≤ c' ∧
                    (0 < y - x' → A' = A.map (·.add (x' * k.size))) := by
                  rintro A n c rfl rfl hnc
                  rcases hmx with ⟨rfl, e⟩ | ⟨o, ik, rfl, e⟩
                  · refine ⟨_, _, fun w => slice_run k A l.length c _ _ _ x' y c ?_ ?_ (.inl ⟨rfl, rfl⟩) (by omega) (by omega) (Nat.le_refl _) w, by omega, fun hlt => by rw [if_neg (by omega)]⟩
                    · rcases hlo with ⟨rfl, e⟩ | ⟨o, ik, rfl, e⟩
                      · exact .inl ⟨rfl, by omega⟩
                      · exact .inr ⟨ik, by simp [e]⟩
                    · rcases hhi with ⟨rfl, e⟩ | ⟨o, ik, rfl, e⟩
                      · exact .inl ⟨rfl, by omega, rfl⟩
                      · exact .inr ⟨ik, by simp [e]⟩
                  · refine ⟨_, _, fun w => slice_run k A l.length c _ _ _ x' y m ?_ ?_ (.inr ⟨ik, by simp [e]⟩) (by omega) (by omega) (by omega) w, by omega, fun hlt => by rw [if_neg (by omega)]⟩
                    · rcases hlo with ⟨rfl, e⟩ | ⟨o, ik, rfl, e⟩
                      · exact .inl ⟨rfl, by omega⟩
                      · exact .inr ⟨ik, by simp [e]⟩
                    · rcases hhi with ⟨rfl, e⟩ | ⟨o, ik, rfl, e⟩
                      · simp at ht
                      · exact .inr ⟨ik, by simp [e]⟩
                cases hL : C.loc x with
                | none =>
                  rw [hL] at hv3
                  simp only [blkR, hL] at hb
                  subst hb
                  simp only [List.length_nil] at main h4
                  obtain ⟨A, rfl⟩ := hv3
                  obtain ⟨A', c', hr, hc, -⟩ := main A 0 0 rfl rfl (Nat.le_refl _)
                  refine ⟨_, hk, _, hr, ⟨⟨_, _, _, rfl⟩, fun _ => ?_⟩, hn⟩
                  rw [hL]
                  refine ⟨by simp; omega, A', c', ?_⟩
                  congr 1
                  omega
                | some L =>
                  rw [hL] at hv3
                  simp only [blkR, hL] at hb
                  obtain ⟨A', c', hr, hc, hA⟩ := main _ _ _ hv3 hb.1 hb.2.2.1
                  refine ⟨_, hk, _, hr, ⟨⟨_, _, _, rfl⟩, fun _ => ?_⟩, hn⟩
                  rw [hL]
                  refine ⟨by simp; omega, A', c', by simp, by simpa using hc, fun hlt => ?_⟩
                  rw [hA (by simpa using hlt), hb.2.1]
                  simp [addr_add]
              · simp [h4] at hk
            · simp [h3] at hk
          · simp [h2] at hk
        · simp [h1] at hk
      · simp [Bool.eq_false_iff.2 ht] at hk
    · cases hk
  · cases hk
end Go.Proofs.Ytnfgfdeidkhdkaa.Eng
/- Eg: The engine's soundness, fifth part: data by value, what is handed back, new blocks. -/
namespace Go.Proofs.Ytnfgfdeidkhdkaa.Eng
open Go.RowKit (Below)
set_option linter.unusedVariables false
set_option linter.unusedSimpArgs false

/-! ### data by value -/
/-- blocks that nothing turns, and those of some names -/
def RN (C : Cx) (N : Nat → Prop) (b : Nat) : Prop := C.R b ∨ ∃ x L, N x ∧ C.lv x ∧ C.loc x = some L ∧ L.g = b
def byV (w : World) (R : Nat → Prop) : Cx := ⟨w, R, fun _ => False, fun _ => none⟩

theorem down {w : World} {R : Nat → Prop} {k : SK} {e : k.T} {u : CV} (hu : u ∈ k.cells e) {y : Value} {n : Nat} (h : lev w R (n + 1) u y) : lev w R 1 u y := by
  have key : ∀ l : List Int, lev w R (n + 1) (.sl .int l) y → lev w R 1 (.sl .int l) y := by
    rintro l ⟨A, c, rfl, hn, hc⟩
    refine ⟨A, c, rfl, hn, fun i u hu => ?_⟩
    obtain ⟨a, x, hA, hR, hx, hr⟩ := hc i u hu
    refine ⟨a, x, hA, hR, hx, ?_⟩
    obtain ⟨q, -, hq⟩ := List.mem_flatMap.1 (List.mem_of_getElem? hu)
    simp only [SK.cells, List.mem_singleton] at hq
    subst hq
    cases n <;> exact hr
  cases k <;> simp only [SK.cells, List.mem_cons, List.not_mem_nil, or_false] at hu <;> (rcases hu with rfl | rfl | rfl | rfl <;> first | exact h | exact key _ h)
  all_goals first
    | (rcases hu with rfl | rfl <;> exact h)
    | (subst hu; exact h)

theorem bv0_sound {B : Base} {nt : Nat} {C : Cx} {st : St} {a : Act} (h : SimL B nt C st a) {N : Nat → Prop} {c d : CV} {v : Value} (hb : bv0 st.H c = some d) (hv : cellR C c v)
    (hN : ∀ y, y ∈ n0 c → N y) : bvR C.w (RN C N) d v := by
  unfold bv0 at hb
  split at hb
  · cases hb
    obtain ⟨A, rfl⟩ := hv
    exact ⟨A, 0, rfl, Nat.le_refl _, fun i u hu => by simp at hu⟩
  · cases hb
    exact bvR_tr (fun _ _ => rfl) (fun b hb => .inl hb) hv
  · rename_i x
    split at hb
    · rename_i ap k l hg
      cases hb
      have hlk := get_some.1 hg
      have hl : C.lv x := (h.lv x).2 ⟨_, hlk⟩
      have hv3 := hv.2 hl
      have hbl := (h.bl x _ hlk).1
      cases hL : C.loc x with
      | none =>
        rw [hL] at hv3
        simp only [blkR, hL] at hbl
        subst hbl
        obtain ⟨A, rfl⟩ := hv3
        exact ⟨A, 0, rfl, Nat.le_refl _, fun i u hu => by simp at hu⟩
      | some L =>
        rw [hL] at hv3
        simp only [blkR, hL] at hbl
        obtain ⟨b1, b2, b3, b4, cur, b5, b6, b7⟩ := hbl
        subst hv3
        refine ⟨_, _, by rw [b1], by omega, fun i u hu => ?_⟩
        obtain ⟨y, hy, hr⟩ := b7 i u hu
        refine ⟨_, y, rfl, .inr ⟨x, L, hN x (by simp [n0]), hl, hL, rfl⟩, by rw [addr_add]; exact cell_at b5 hy, ?_⟩
        obtain ⟨e, -, he⟩ := List.mem_flatMap.1 (List.mem_of_getElem? hu)
        exact lev_tr (fun _ _ => rfl) (fun b hb => .inl hb) (down he hr)
    · cases hb
  · rename_i x off len
    split at hb
    · rename_i ap k l hg
      cases hb
      have hlk := get_some.1 hg
      have hl : C.lv x := (h.lv x).2 ⟨_, hlk⟩
      have hv3 := hv.2 hl
      have hbl := (h.bl x _ hlk).1
      cases hL : C.loc x with
      | none =>
        rw [hL] at hv3
        simp only [blkR, hL] at hbl
        subst hbl
        obtain ⟨rfl, A, c, rfl⟩ := hv3
        exact ⟨A, c, by simp, Nat.zero_le _, fun i u hu => by simp at hu⟩
      | some L =>
        rw [hL] at hv3
        simp only [blkR, hL] at hbl
        obtain ⟨b1, b2, b3, b4, cur, b5, b6, b7⟩ := hbl
        obtain ⟨hle, A, c, rfl, hc, hA⟩ := hv3
        have hlen : ((l.drop off).take len).length = len := by simp; omega
        refine ⟨A, c, by rw [hlen], by omega, fun i u hu => ?_⟩
        rw [take_flat (SK.cells_len k), drop_flat (SK.cells_len k), List.getElem?_take] at hu
        split at hu
        · rename_i hi
          rw [List.getElem?_drop] at hu
          obtain ⟨y, hy, hr⟩ := b7 _ u hu
          have hpos : 0 < len := by
            rcases Nat.eq_zero_or_pos len with e | e
            · rw [e] at hi; simp at hi
            · exact e
          refine ⟨_, y, hA hpos, .inr ⟨x, L, hN x (by simp [n0]), hl, hL, rfl⟩, by rw [addr_add]; exact cell_at b5 (by rw [b2, Nat.add_assoc]; exact hy), ?_⟩
          obtain ⟨e, -, he⟩ := List.mem_flatMap.1 (List.mem_of_getElem? hu)
          exact lev_tr (fun _ _ => rfl) (fun b hb => .inl hb) (down he hr)
        · cases hu
    · cases hb
  · cases hb; exact hv
  · cases hb; exact hv
  · cases hb; exact hv
  · cases hb
theorem bv_byV {w : World} {R : Nat → Prop} {c : CV} {v : Value} (h : bvR w R c v) : cellR (byV w R) c v := bv_cell (C := byV w R) h

theorem bvs_all {f : CV → Option CV} {r s : CV → Value → Prop} : ∀ {cs ds : List CV} {vs : List Value}, bvs f cs = some ds → All2 r cs vs → (∀ c, c ∈ cs → ∀ d v, f c = some d → r c v → s d v) → All2 s ds vs
  | [], ds, [], hb, _, _ => by simp [bvs] at hb; subst hb; trivial
  | c :: cs, ds, v :: vs, hb, ha, hf => by
    simp only [bvs] at hb
    split at hb
    · cases hb
    · rename_i d hd
      split at hb
      · cases hb
      · rename_i ds' hds
        cases hb
        exact ⟨hf c (List.mem_cons_self ..) d v hd ha.1, bvs_all hds ha.2 fun c hc => hf c (List.mem_cons_of_mem _ hc)⟩
  | [], _, _ :: _, _, ha, _ => ha.elim
  | _ :: _, _, [], _, ha, _ => ha.elim

theorem bv1_sound {B : Base} {nt : Nat} {C : Cx} {st : St} {a : Act} (h : SimL B nt C st a) {N : Nat → Prop} {c d : CV} {v : Value} (hb : bv1 st.H c = some d) (hv : aggR C c v)
    (hN : ∀ y, y ∈ n1 c → N y) (hN2 : ∀ y z b, N y → look st.H y = some (some b) → z ∈ nB b → N z) : aggR (byV C.w (RN C N)) d v := by
  unfold bv1 at hb
  split at hb
  · rename_i cs
    split at hb
    · rename_i ds hds
      cases hb
      obtain ⟨vs, rfl, ha⟩ := hv
      exact ⟨vs, rfl, bvs_all hds ha fun c hc d v hd hr => bv_byV (bv0_sound h hd hr fun y hy => hN y (List.mem_flatMap.2 ⟨c, hc, hy⟩))⟩
    · cases hb
  · rename_i x o
    split at hb
    · rename_i ty cs hg
      split at hb
      · rename_i ds hds
        cases hb
        have hlk := get_some.1 hg
        have hl : C.lv x := (h.lv x).2 ⟨_, hlk⟩
        obtain ⟨L, hL, rfl⟩ := hv.2 hl
        obtain ⟨⟨L', hL', cur, ct, hcur, hcs⟩, -⟩ := h.bl x _ hlk
        rw [hL] at hL'; cases hL'
        have hNx : N x := hN x (by simp [n1, n0])
        refine ⟨L.g, L.o, .inr ⟨x, L, hNx, hl, hL, rfl⟩, rfl, fun i u hu => ?_⟩
        have hpos : ∀ (cs ds : List CV), bvs (bv0 st.H) cs = some ds → ∀ (i : Nat) u, ds[i]? = some u → ∃ c, cs[i]? = some c ∧ bv0 st.H c = some u := by
          intro cs
          induction cs with
          | nil => intro ds hb i u hu; simp [bvs] at hb; subst hb; simp at hu
          | cons c cs ih =>
            intro ds hb i u hu
            simp only [bvs] at hb
            split at hb
            · cases hb
            · rename_i d hd
              split at hb
              · cases hb
              · rename_i ds' hds
                cases hb
                cases i with
                | zero => simp at hu; subst hu; exact ⟨c, by simp, hd⟩
                | succ i => simpa using ih ds' hds i u (by simpa using hu)
        obtain ⟨c, hc, hcu⟩ := hpos cs ds hds i u hu
        obtain ⟨y, hy, hr⟩ := hcs i c hc
        exact ⟨y, cell_at hcur hy, bv0_sound h hcu hr fun z hz => hN2 x z _ hNx hlk (List.mem_flatMap.2 ⟨c, List.mem_of_getElem? hc, hz⟩)⟩
      · cases hb
    · cases hb
  · cases hb
    obtain ⟨g, o, hR, rfl, hcs⟩ := hv
    refine ⟨g, o, .inl hR, rfl, fun i u hu => ?_⟩
    obtain ⟨x, hx, hr⟩ := hcs i u hu
    exact ⟨x, hx, bvR_tr (fun _ _ => rfl) (fun b hb => .inl hb) hr⟩
  · rename_i h1 h2 h3
    have hc : aggR C c v = cellR C c v := by
      cases c <;> first | rfl | exact absurd rfl (h1 _)
    rw [hc] at hv
    exact cell_agg (bv_byV (bv0_sound h hb hv fun y hy => hN y (n1_sub hy)))

theorem bv2_sound {B : Base} {nt : Nat} {C : Cx} {st : St} {a : Act} (h : SimL B nt C st a) {N : Nat → Prop} {c d : CV} {v : Value} (hb : bv2 st.H c = some d) (hv : valR C c v)
    (hN : ∀ y, y ∈ n2 c → N y) (hN2 : ∀ y z b, N y → look st.H y = some (some b) → z ∈ nB b → N z) : valR (byV C.w (RN C N)) d v := by
  unfold bv2 at hb
  split at hb
  · rename_i f cs
    split at hb
    · rename_i ds hds
      cases hb
      obtain ⟨vs, rfl, ha⟩ := hv
      exact ⟨vs, rfl, bvs_all hds ha fun c hc d v hd hr => bv1_sound h hd hr (fun y hy => hN y (List.mem_flatMap.2 ⟨c, hc, hy⟩)) hN2⟩
    · cases hb
  · rename_i cs
    split at hb
    · rename_i ds hds
      cases hb
      obtain ⟨vs, rfl, ha⟩ := hv
      exact ⟨vs, rfl, bvs_all hds ha fun c hc d v hd hr => bv1_sound h hd hr (fun y hy => hN y (List.mem_flatMap.2 ⟨c, hc, hy⟩)) hN2⟩
    · cases hb
  · rename_i h1 h2
    have hc : valR C c v = aggR C c v := by
      cases c <;> first | rfl | exact absurd rfl (h1 _ _) | exact absurd rfl (h2 _)
    rw [hc] at hv
    exact aggR_val (bv1_sound h hb hv (fun y hy => hN y (n2_sub hy)) hN2)
end Go.Proofs.Ytnfgfdeidkhdkaa.Eng
/- Eh: The engine's soundness, sixth part: operations that make blocks; what a call is held to. -/
namespace Go.Proofs.Ytnfgfdeidkhdkaa.Eng
open Go.RowKit (Below)
set_option linter.unusedVariables false
set_option linter.unusedSimpArgs false

/-- one new block -/
def Cx.add1 (C : Cx) (w' : World) (x : Nat) (L : Option Lc) : Cx := ⟨w', C.R, fun y => C.lv y ∨ y = x, fun y => if y = x then L else C.loc y⟩
theorem add1_tr {C : Cx} {st : St} {x : Nat} (hx : look st.H x = none) {w' : World} (hw : ∀ b, b < C.w.heap.size → w'.heap[b]? = C.w.heap[b]?) (hr : ∀ b, C.R b → b < C.w.heap.size) (L : Option Lc) :
    Tr C (C.add1 w' x L) (fun y => ∃ o, look st.H y = some o) :=
  ⟨fun b hb => hw b (hr b hb), fun b hb => hb, fun y ⟨o, ho⟩ hl => by
    have hne : y ≠ x := fun e => by subst e; rw [hx] at ho; cases ho
    exact ⟨hl.resolve_right hne, by simp [Cx.add1, hne]⟩⟩
theorem QOut.new {C : Cx} {st : St} (hr : ∀ b, C.R b → b < C.w.heap.size) {x : Nat} {b : Blk} {L : Option Lc} {w' : World} (h1 : w'.os = C.w.os) (h2 : w'.tape = C.w.tape) (h3 : w'.output = C.w.output)
    (h4 : C.w.heap.size ≤ w'.heap.size) (h5 : ∀ b, b < C.w.heap.size → w'.heap[b]? = C.w.heap[b]?) (h6 : ∀ M, L = some M → C.w.heap.size ≤ M.g ∧ M.g < w'.heap.size)
    (h7 : blkR (C.add1 w' x L) x b) (h8 : ∀ y, y ∈ nB b → ∃ o, look st.H y = some o) {c : CV} {v : Value} (h9 : valR (C.add1 w' x L) c v) (h10 : ∀ y, y ∈ n2 c → y = x) :
    QOut C st (C.add1 w' x L) x c [b] v where
  os := h1
  tape := h2
  output := h3
  grow := h4
  heap := h5
  sub := fun _ h => h
  rlt := fun b hb => Nat.lt_of_lt_of_le (hr b hb) h4
  rnew := fun _ h => .inl h
  lv := fun y => by
    simp only [Cx.add1, List.length_singleton]
    constructor
    · rintro (h | rfl)
      · exact .inl h
      · exact .inr ⟨Nat.le_refl _, by omega⟩
    · rintro (h | h)
      · exact .inl h
      · exact .inr (by omega)
  loc := fun y hy => by
    have : y ≠ x := fun e => hy ⟨by omega, by simp; omega⟩
    simp [Cx.add1, this]
  val := h9
  nm := fun y hy => .inr (by rw [h10 y hy]; simp)
  bl := fun i b' hb => by
    cases i with
    | zero =>
      simp at hb; subst hb
      refine ⟨h7, fun M hM => ?_, fun y hy => .inl (h8 y hy)⟩
      simp only [Nat.add_zero, Cx.add1, if_true] at hM
      obtain ⟨a1, a2⟩ := h6 M hM
      exact ⟨a1, fun hR => by have := hr _ hR; omega, a2⟩
    | succ i => simp at hb
  dj := fun i j L M hi hj hne => by simp at hi hj; omega

theorem alloc_old (w : World) (o : Obj) (b : Nat) (hb : b < w.heap.size) : (w.alloc o).heap[b]? = w.heap[b]? := heap_alloc_old w o b hb
theorem alloc_new (w : World) (o : Obj) : (w.alloc o).heap[w.heap.size]? = some o := heap_alloc_new w o

/-- a variable -/
theorem QOut.box {B : Base} {nt : Nat} {C : Cx} {st : St} {a : Act} (h : SimL B nt C st a) {x t : Nat} (hx : look st.H x = none) {cs : List CV} {vs : Array Value} (hr : All2 (cellR C) cs vs.toList)
    (hn : ∀ y, y ∈ cs.flatMap n0 → ∃ o, look st.H y = some o) (t' : TypeId) :
    QOut C st (C.add1 (C.w.alloc (.cells vs t' (0, 0))) x (some ⟨C.w.heap.size, 0, 0, 0, 0⟩)) x (.ptr x 0) [.cells t cs] (.pointer (some ⟨C.w.heap.size, 0, none⟩)) := by
  have tr := add1_tr (C := C) hx (w' := C.w.alloc (.cells vs t' (0, 0))) (fun b hb => alloc_old C.w _ b hb) h.rlt (some ⟨C.w.heap.size, 0, 0, 0, 0⟩)
  refine QOut.new (x := x) (b := .cells t cs) (L := some ⟨C.w.heap.size, 0, 0, 0, 0⟩) (w' := C.w.alloc (.cells vs t' (0, 0))) (c := .ptr x 0) h.rlt rfl rfl rfl (by simp) (fun b hb => alloc_old C.w _ b hb) (fun M hM => by cases hM; simp) ?_ hn ⟨⟨_, rfl⟩, fun _ => ⟨_, by simp [Cx.add1]; rfl, rfl⟩⟩ (by simp [n2, n1, n0])
  refine ⟨_, by simp [Cx.add1]; rfl, vs, t', alloc_new C.w _, fun i u hu => ?_⟩
  obtain ⟨y, hy, hc⟩ := hr.get hu
  exact ⟨y, by simpa using hy, cellR_tr tr (fun z hz => hn z (List.mem_flatMap.2 ⟨u, List.mem_of_getElem? hu, hz⟩)) hc⟩

/-- a row -/
theorem QOut.row {B : Base} {nt : Nat} {C : Cx} {st : St} {a : Act} (h : SimL B nt C st a) {x : Nat} {k : SK} {l : List k.T} {ap : Bool} {w' : World} {cur : Array Value} {c : Nat}
    (h1 : w'.os = C.w.os) (h2 : w'.tape = C.w.tape) (h3 : w'.output = C.w.output) (h4 : w'.heap = C.w.heap.push (.cells cur k.el (0, 0)))
    (hc : l.length ≤ c) (hm : c ≤ maxLen) (hs : cur.size = c * k.size) (hr : ∀ (i : Nat) (u : CV), (l.flatMap k.cells)[i]? = some u → ∃ y, cur[i]? = some y ∧ bvR C.w C.R u y) :
    QOut C st (C.add1 w' x (some ⟨C.w.heap.size, 0, l.length, c, k.size⟩)) x (.ref x) [.arr ap k l] (.slice (some ⟨C.w.heap.size, 0, none⟩) l.length c) := by
  have e1 : ∀ b, b < C.w.heap.size → w'.heap[b]? = C.w.heap[b]? := fun b hb => by rw [h4, Array.getElem?_push, if_neg (by omega)]
  have e2 : w'.heap[C.w.heap.size]? = some (.cells cur k.el (0, 0)) := by rw [h4]; simp
  refine QOut.new (x := x) (b := .arr ap k l) (L := some ⟨C.w.heap.size, 0, l.length, c, k.size⟩) (w' := w') (c := .ref x) h.rlt h1 h2 h3 (by rw [h4]; simp) e1 (fun M hM => by cases hM; rw [h4]; simp) ?_ (by simp [nB]) ⟨⟨_, _, _, rfl⟩, fun _ => by simp [Cx.add1]⟩ (by simp [n2, n1, n0])
  simp only [blkR, Cx.add1, if_true]
  refine ⟨trivial, trivial, hc, hm, cur, e2, fun _ => ⟨trivial, hs⟩, fun i u hu => ?_⟩
  obtain ⟨y, hy, hb⟩ := hr i u hu
  exact ⟨y, by simpa using hy, bvR_tr (fun b hb => e1 b (h.rlt b hb)) (fun b hb => hb) hb⟩

theorem box_run (t : TypeId) (v : Value) (w : World) : (Instr.box t v).run P w = .ok (.pointer (some ⟨w.heap.size, 0, none⟩)) (w.alloc (.cells v.cells t (0, 0))) := by
  simp [Instr.box, newVar, newRow]
theorem alloc_run {t : Nat} {b : Bool} {ks : List CK} (h : cks t = some (b, ks)) (w : World) : (Instr.alloc t true (.tuple #[])).run P w = .ok (.pointer (some ⟨w.heap.size, 0, none⟩)) (w.alloc (.cells (zv t).cells t (0, 0))) := by
  have hz := zeroValue_run (zv_run h) w
  simp [Instr.alloc, hz, newVar, newRow]

/-! ### a row that is written out -/
theorem elem_rel {w : World} {R : Nat → Prop} {k : SK} {cs : List CV} {e : k.T} (he : k.elem? cs = some e) {vs : List Value} (h : All2 (bvR w R) cs vs) : All2 (bvR w R) (k.cells e) vs := by
  have ints : ∀ {d : CV} {l : List Int} {v : Value}, ints? d = some l → bvR w R d v → bvR w R (.sl .int l) v := by
    intro d l v hd hv
    unfold ints? at hd
    split at hd
    · exact False.elim hv
    · cases hd; exact hv
    · cases hd
  unfold SK.elem? at he
  split at he
  · cases he; exact h
  · cases he; exact h
  · cases he; exact h
  · split at he
    · rename_i b n d l hl
      cases he
      match vs, h with
      | [v1, v2, v3], h => exact ⟨h.1, h.2.1, ints hl h.2.2.1, trivial⟩
    · cases he
  · rename_i n a b c
    split at he
    · cases he
    · rename_i a' ha
      split at he
      · cases he
      · rename_i b' hb
        split at he
        · cases he
        · rename_i c' hc
          cases he
          match vs, h with
          | [v1, v2, v3, v4], h => exact ⟨h.1, ints ha h.2.1, ints hb h.2.2.1, ints hc h.2.2.2.1, trivial⟩
  · cases he; exact h
  · cases he
theorem bv0_nl {B : Base} {nt : Nat} {C : Cx} {st : St} {a : Act} (h : SimL B nt C st a) {c d : CV} {v : Value} (hb : bv0 st.H c = some d) (hv : cellR C c v) (hc : n0 c = []) : bvR C.w C.R d v := by
  have := bv0_sound h (N := fun _ => False) hb hv (by rw [hc]; simp)
  exact bvR_tr (fun _ _ => rfl) (fun b hb => by rcases hb with hb | ⟨x, L, hx, -⟩; exact hb; exact hx.elim) this

theorem fold_get (off : Nat) : ∀ (vs : List Value) (k : Nat) (ds : Array Value), off + k + vs.length ≤ ds.size →
    ((vs.zipIdx k).foldl (fun (d : Array Value) (p : Value × Nat) => d.setIfInBounds (off + p.2) p.1) ds).size = ds.size ∧
    ∀ q : Nat, ((vs.zipIdx k).foldl (fun (d : Array Value) (p : Value × Nat) => d.setIfInBounds (off + p.2) p.1) ds)[q]? = if off + k ≤ q ∧ q < off + k + vs.length then vs[q - (off + k)]? else ds[q]?
  | [], k, ds, h => ⟨rfl, fun q => by simp only [List.zipIdx_nil, List.foldl_nil, List.length_nil, Nat.add_zero]; rw [if_neg (by omega)]⟩
  | v :: vs, k, ds, h => by
    simp only [List.length_cons] at h
    simp only [List.zipIdx_cons, List.foldl_cons]
    obtain ⟨h1, h2⟩ := fold_get off vs (k + 1) (ds.setIfInBounds (off + k) v) (by simp; omega)
    refine ⟨by rw [h1]; simp, fun q => ?_⟩
    rw [h2 q]
    by_cases hq : q = off + k
    · subst hq
      rw [if_neg (by omega), if_pos (by simp)]
      simp [show off + k < ds.size by omega]
    · rw [Array.getElem?_setIfInBounds_ne (Ne.symm hq)]
      by_cases h3 : off + (k + 1) ≤ q ∧ q < off + (k + 1) + vs.length
      · rw [if_pos h3, if_pos (by simp only [List.length_cons]; omega), show q - (off + k) = (q - (off + (k + 1))) + 1 by omega, List.getElem?_cons_succ]
      · rw [if_neg h3, if_neg (by simp only [List.length_cons]; omega)]
theorem elemsF_sound {B : Base} {nt : Nat} {C : Cx} {st : St} {a : Act} (h : SimL B nt C st a) {k : SK} {f : CV → Option CV} {R' : Nat → Prop} (hf : ∀ c d, f c = some d → c.isC = true ∧ ∀ v, cellR C c v → (∀ y, y ∈ n0 c → ∃ o, look st.H y = some o) → bvR C.w R' d v) (n : Nat) : ∀ (ps : List (Nat × Operand)) (i : Nat) (l : List k.T), elemsF f st.T k i ps = some l → i + ps.length = n →
    ∀ (done : List k.T) (cells : Array Value), done.length = i → cells.size = n * k.size → (∀ (j : Nat) (u : CV), (done.flatMap k.cells)[j]? = some u → ∃ y, cells[j]? = some y ∧ bvR C.w R' u y) →
    ∃ out, Instr.fill (fun i => some (i * k.size, k.size)) cells (ps.map fun p => (p.1, a.eval p.2)) = some out ∧ out.size = n * k.size ∧ l.length = ps.length ∧
      ∀ (j : Nat) (u : CV), ((done ++ l).flatMap k.cells)[j]? = some u → ∃ y, out[j]? = some y ∧ bvR C.w R' u y := by
  intro ps
  induction ps with
  | nil =>
    intro i l hl hn done cells hd hs hr
    simp only [elemsF, Option.some.injEq] at hl
    subst hl
    exact ⟨cells, rfl, hs, rfl, by simpa using hr⟩
  | cons p ps ih =>
    obtain ⟨j0, x⟩ := p
    intro i l hl hn done cells hd hs hr
    simp only [elemsF] at hl
    by_cases hij : Nat.beq i j0 = true
    · simp only [hij, cond_true] at hl
      obtain rfl := Nat.eq_of_beq_eq_true hij
      split at hl
      · cases hl
      · rename_i v hv
        split at hl
        · cases hl
        · rename_i cs hcs
          split at hl
          · cases hl
          · rename_i e he
            split at hl
            · cases hl
            · rename_i es hes
              cases hl
              obtain ⟨hval, hnms⟩ := ev_sound h hv
              have hall : v.cells.all CV.isC = true := by
                rw [List.all_eq_true]
                intro c hc
                have : ∀ (us ds : List CV), bvs f us = some ds → ∀ c ∈ us, c.isC = true := by
                  intro us
                  induction us with
                  | nil => intro ds _ c hc; simp at hc
                  | cons u us ih =>
                    intro ds hb c hc
                    simp only [bvs] at hb
                    split at hb
                    · cases hb
                    · rename_i d hd
                      split at hb
                      · cases hb
                      · rename_i ds' hds
                        rcases List.mem_cons.1 hc with rfl | hc
                        · exact (hf _ _ hd).1
                        · exact ih ds' hds c hc
                exact this _ _ hcs c hc
              have hcells := valR_cells hval hall
              have hrel : All2 (bvR C.w R') cs (a.eval x).cells.toList := bvs_all hcs hcells fun c hc d v' hd hr =>
                (hf _ _ hd).2 v' hr fun y hy => hnms y (n2_cells hall (List.mem_flatMap.2 ⟨c, hc, hy⟩))
              have hrel2 := elem_rel he hrel
              have hlen := hrel2.length
              rw [SK.cells_len, Array.length_toList] at hlen
              have hlt : i < n := by simp only [List.length_cons] at hn; omega
              have hfit : i * k.size + k.size ≤ n * k.size := by rw [← Nat.succ_mul]; exact Nat.mul_le_mul_right _ hlt
              have hfg := fold_get (i * k.size) (a.eval x).cells.toList 0 cells (by rw [hs, Array.length_toList, ← hlen]; omega)
              rw [← Array.toList_zipIdx, Array.foldl_toList] at hfg
              obtain ⟨hfs, hfq⟩ := hfg
              rw [hs] at hfs
              have hfold : ∀ (q : Nat) (z : Value), ((a.eval x).cells.zipIdx.foldl (fun (d : Array Value) (p : Value × Nat) => d.setIfInBounds (i * k.size + p.2) p.1) cells)[q]? = some z →
                  (q < i * k.size ∧ cells[q]? = some z) ∨ (i * k.size ≤ q ∧ q < i * k.size + k.size ∧ (a.eval x).cells[q - i * k.size]? = some z) ∨ i * k.size + k.size ≤ q := by
                intro q z hz
                have := hfq q
                rw [hz, Array.length_toList, ← hlen] at this
                simp only [Nat.add_zero, Array.getElem?_toList] at this
                by_cases h1 : i * k.size ≤ q ∧ q < i * k.size + k.size
                · rw [if_pos h1] at this
                  exact .inr (.inl ⟨h1.1, h1.2, this.symm⟩)
                · rw [if_neg h1] at this
                  by_cases h2 : q < i * k.size
                  · exact .inl ⟨h2, this.symm⟩
                  · exact .inr (.inr (by omega))
              obtain ⟨out, h1, h2, h3, h4⟩ := ih (i + 1) es hes (by simp only [List.length_cons] at hn; omega) (done ++ [e]) _ (by simp [hd]) hfs (by
                intro j u hu
                have hq : j < (n * k.size) := by
                  have := (List.getElem?_eq_some_iff.1 hu).1
                  rw [row_len] at this
                  simp only [List.length_append, List.length_singleton, hd] at this
                  rw [Nat.succ_mul] at this
                  omega
                have hget := List.getElem?_eq_some_iff.1 hu
                obtain ⟨z, hz⟩ : ∃ z, ((a.eval x).cells.zipIdx.foldl (fun (d : Array Value) (p : Value × Nat) => d.setIfInBounds (i * k.size + p.2) p.1) cells)[j]? = some z := ⟨_, Array.getElem?_eq_getElem (by rw [hfs]; exact hq)⟩
                refine ⟨z, hz, ?_⟩
                rw [List.flatMap_append, List.getElem?_append] at hu
                rw [row_len, hd] at hu
                have hj : j < i * k.size + k.size := by
                  have := hget.1
                  rw [row_len] at this
                  simp only [List.length_append, List.length_singleton, hd] at this
                  rw [Nat.succ_mul] at this
                  omega
                rcases hfold j z hz with ⟨h1, h2⟩ | ⟨h1, h2, h3⟩ | h1
                · rw [if_pos h1] at hu
                  obtain ⟨y, hy, hr'⟩ := hr j u hu
                  rw [h2] at hy; cases hy; exact hr'
                · rw [if_neg (by omega)] at hu
                  simp only [List.flatMap_cons, List.flatMap_nil, List.append_nil] at hu
                  obtain ⟨y, hy, hr'⟩ := hrel2.get hu
                  rw [Array.getElem?_toList, h3] at hy; cases hy; exact hr'
                · omega)
              refine ⟨out, ?_, h2, by simp [h3], by simpa using h4⟩
              simp only [List.map_cons, Instr.fill]
              rw [if_neg (by simp only [Bool.or_eq_true, decide_eq_true_eq, not_or]; exact ⟨by omega, by omega⟩)]
              exact h1
    · simp [Bool.eq_false_iff.2 hij] at hl
theorem elems_sound {B : Base} {nt : Nat} {C : Cx} {st : St} {a : Act} (h : SimL B nt C st a) {k : SK} (n : Nat) (ps : List (Nat × Operand)) (i : Nat) (l : List k.T) (he : elems st.H st.T k i ps = some l) (hn : i + ps.length = n)
    (done : List k.T) (cells : Array Value) (hd : done.length = i) (hs : cells.size = n * k.size) (hr : ∀ (j : Nat) (u : CV), (done.flatMap k.cells)[j]? = some u → ∃ y, cells[j]? = some y ∧ bvR C.w C.R u y) :
    ∃ out, Instr.fill (fun i => some (i * k.size, k.size)) cells (ps.map fun p => (p.1, a.eval p.2)) = some out ∧ out.size = n * k.size ∧ l.length = ps.length ∧
      ∀ (j : Nat) (u : CV), ((done ++ l).flatMap k.cells)[j]? = some u → ∃ y, out[j]? = some y ∧ bvR C.w C.R u y := by
  refine elemsF_sound h (fun c d hd => ?_) n ps i l he hn done cells hd hs hr
  have hd' : bv0 st.H c = some d ∧ n0 c = [] ∧ c.isC = true := by
    cases c <;> first | exact ⟨hd, rfl, rfl⟩ | (simp [bvn, bv0] at hd; done)
  exact ⟨hd'.2.2, fun v hv _ => bv0_nl h hd'.1 hv hd'.2.1⟩
end Go.Proofs.Ytnfgfdeidkhdkaa.Eng
/- Ei: The engine's soundness, seventh part: what a called function is held to; every operation that changes no block of ours. -/
namespace Go.Proofs.Ytnfgfdeidkhdkaa.Eng
open Go.RowKit (Below)
set_option linter.unusedVariables false
set_option linter.unusedSimpArgs false

/-- names of what is handed back: 'x', and so on -/
def ownCx (w : World) (x : Nat) (ls : List (Option Lc)) : Cx :=
  ⟨w, fun _ => False, fun y => x ≤ y ∧ y < x + ls.length, fun y => if x ≤ y ∧ y < x + ls.length then (ls[y - x]?).join else none⟩
/-- what is handed back; 'true': in memory that is new and nobody else's -/
def Res (own : Bool) (base : Nat) (w : World) (R : Nat → Prop) (r : CV) (v : Value) : Prop :=
  match own with
  | false => nl2 r = true ∧ valR (byV w R) r v
  | true => ∀ x, ∃ ls : List (Option Lc), ls.length = (own2 x r).2.length ∧ valR (ownCx w x ls) (own2 x r).1 v ∧ (∀ y, y ∈ n2 (own2 x r).1 → x ≤ y ∧ y < x + ls.length) ∧
      (∀ (i : Nat) b, (own2 x r).2[i]? = some b → blkR (ownCx w x ls) (x + i) b ∧ nB b = []) ∧
      (∀ (i : Nat) L, ls[i]? = some (some L) → base ≤ L.g ∧ L.g < w.heap.size) ∧
      (∀ (i j : Nat) L M, i ≠ j → ls[i]? = some (some L) → ls[j]? = some (some M) → L.g ≠ M.g)
/-- what a function answers, whatever memory it is called in -/
def CallsC (f : Nat) (args : List CV) (own : Bool) (r : CV) : Prop :=
  ∀ (w : World) (R : Nat → Prop) (vs : Array Value), (∀ b, R b → b < w.heap.size) → All2 (valR (byV w R)) args vs.toList →
    Calls P f vs w fun e w' => ∃ v, e = .returned v ∧ Below w.heap.size w w' ∧
      ∃ R' : Nat → Prop, (∀ b, R b → R' b) ∧ (∀ b, R' b → R b ∨ w.heap.size ≤ b) ∧ (∀ b, R' b → b < w'.heap.size) ∧ Res own w.heap.size w' R' r v
/-- it is a function with a body -/
noncomputable def callable (f : Nat) : Bool :=
  match P.funcs[f]? with
  | some fn => !(fn.name == "runtime.NumGoroutine") && fn.body.isSome
  | none => false
def SemOk (sem : Sems) : Prop := ∀ f args own r, sem f args = some (own, true, r) → CallsC f args own r ∧ callable f = true

theorem wp_value {o : Oper} {a : Act} {w w' : World} {v : Value} {K : Act → World → Prop} {Q : Exit → Act → World → Prop} (h : (execOp a.eval o).run P w = .ok (.value v) w') (hk : K (a.put o.dst v) w') : o.wp P a w K Q := by
  unfold Oper.wp
  rw [h]
  exact hk
theorem wp_enter {o : Oper} {a : Act} {w w' : World} {f : Nat} {vs : Array Value} {K : Act → World → Prop} {Q : Exit → Act → World → Prop} (h : (execOp a.eval o).run P w = .ok (.enter f vs) w')
    (hk : Calls P f vs w' fun e w'' => ∃ v, e = .returned v ∧ K (a.put o.dst v) w'') : o.wp P a w K Q := by
  unfold Oper.wp
  rw [h]
  exact hk.mono fun e w'' ⟨v, he, hk⟩ => by subst he; exact hk

theorem callFunc_run {f : Nat} (h : callable f = true) (vs : Array Value) (w : World) : (callFunc f vs).run P w = .ok (.enter f vs) w := by
  unfold callable at h
  split at h
  · rename_i fn hfn
    simp only [Bool.and_eq_true, Bool.not_eq_true'] at h
    have h1 : fn.body.isNone = false := by cases hb : fn.body with
      | none => rw [hb] at h; simp at h
      | some _ => rfl
    have h2 : fn.name ≠ "runtime.NumGoroutine" := by simpa using h.1
    have h3 : fn.body ≠ none := by intro e; rw [e] at h1; simp at h1
    simp [callFunc, hfn, h2, h3]
  · cases h
theorem call_func_run {a : Act} {o : Oper} {c : Call} {f : Nat} (ho : o.op = .call c) (hc : c.callee = .value (.func f)) (h : callable f = true) (w : World) :
    (execOp a.eval o).run P w = .ok (.enter f (c.args.map a.eval)) w := by
  unfold execOp
  simp only [ho, resolve, hc, Deferred.ofValue, Act.eval]
  simp [invoke, callFunc_run h]
theorem call_fn_run {a : Act} {o : Oper} {c : Call} {g : Operand} {f : Nat} {us : Array Value} (ho : o.op = .call c) (hc : c.callee = .value g) (hg : a.eval g = .func (.func f) #[] us) (h : callable f = true) (w : World) :
    (execOp a.eval o).run P w = .ok (.enter f (c.args.map a.eval ++ us)) w := by
  unfold execOp
  simp only [ho, resolve, hc, hg, Deferred.ofValue]
  simp [invoke, callFunc_run h]

theorem RN_lt {B : Base} {nt : Nat} {C : Cx} {st : St} {a : Act} (h : SimL B nt C st a) {N : Nat → Prop} : ∀ b, RN C N b → b < C.w.heap.size := by
  rintro b (hb | ⟨x, L, -, hl, hL, rfl⟩)
  · exact h.rlt b hb
  · obtain ⟨bk, hbk⟩ := (h.lv x).1 hl
    exact ((h.bl x bk hbk).2 L hL).2.2

theorem args_sound {B : Base} {nt : Nat} {C : Cx} {st : St} {a : Act} (h : SimL B nt C st a) {N : Nat → Prop} {cs ds : List CV} {vs : List Value} (hb : bvs (bv2 st.H) cs = some ds) (hv : All2 (valR C) cs vs)
    (hN : ∀ c, c ∈ cs → ∀ y, y ∈ n2 c → N y) (hN2 : ∀ y z b, N y → look st.H y = some (some b) → z ∈ nB b → N z) : All2 (valR (byV C.w (RN C N))) ds vs :=
  bvs_all hb hv fun c hc d v hd hr => bv2_sound h hd hr (hN c hc) hN2

theorem nl0_n0 {c : CV} (h : nl0 c = true) : n0 c = [] := by cases c <;> first | rfl | (simp [nl0] at h)
theorem nl1_n1 {c : CV} (h : nl1 c = true) : n1 c = [] := by
  cases c <;> first
    | rfl
    | (simp [nl1, nl0] at h; done)
    | (simp only [nl1, List.all_eq_true] at h
       simp only [n1, List.flatMap_eq_nil_iff]
       exact fun c hc => nl0_n0 (h c hc))
theorem nl2_n2 {c : CV} (h : nl2 c = true) : n2 c = [] := by
  cases c <;> first
    | rfl
    | (simp [nl2, nl1, nl0] at h; done)
    | (simp only [nl2, List.all_eq_true] at h
       simp only [n2, List.flatMap_eq_nil_iff]
       exact fun c hc => nl1_n1 (h c hc))
    | (simp only [nl2] at h; simp only [n2]; exact nl1_n1 h)
/-- handed back as new memory -/
theorem QOut.own {B : Base} {nt : Nat} {C : Cx} {st : St} {a : Act} (h : SimL B nt C st a) {w' : World} {x : Nat} {r : CV} {v : Value} {R' : Nat → Prop} (hx : ∀ y, x ≤ y ∧ y < x + (own2 x r).2.length → look st.H y = none)
    (hb : Below C.w.heap.size C.w w') (hr : Res true C.w.heap.size w' R' r v) : ∃ D : Cx, D.w = w' ∧ QOut C st D x (own2 x r).1 (own2 x r).2 v := by
  obtain ⟨ls, e1, e2, e3, e4, e5, e6⟩ := hr x
  have tr : Tr (ownCx w' x ls) ⟨w', C.R, fun y => C.lv y ∨ (x ≤ y ∧ y < x + ls.length), fun y => if x ≤ y ∧ y < x + ls.length then (ls[y - x]?).join else C.loc y⟩ (fun y => x ≤ y ∧ y < x + ls.length) :=
    ⟨fun b hb => hb.elim, fun b hb => hb.elim, fun y hy hl => ⟨hy, by simp [ownCx, hy]⟩⟩
  refine ⟨⟨w', C.R, fun y => C.lv y ∨ (x ≤ y ∧ y < x + ls.length), fun y => if x ≤ y ∧ y < x + ls.length then (ls[y - x]?).join else C.loc y⟩, rfl, ?_⟩
  have hloc : ∀ i, i < ls.length → ((if x ≤ x + i ∧ x + i < x + ls.length then (ls[x + i - x]?).join else C.loc (x + i)) = (ls[i]?).join) := fun i hi => by
    rw [if_pos ⟨by omega, by omega⟩, Nat.add_sub_cancel_left]
  constructor
  · exact hb.os
  · exact hb.tape
  · exact hb.output
  · exact hb.size
  · exact fun b hlt => hb.block b hlt
  · exact fun b h => h
  · exact fun b hR => Nat.lt_of_lt_of_le (h.rlt b hR) hb.size
  · exact fun b hR => .inl hR
  · exact fun y => by rw [e1]
  · exact fun y hy => by simp only; rw [if_neg (by rw [e1]; exact hy)]
  · exact valR_tr tr e3 e2
  · exact fun y hy => .inr (by rw [← e1]; exact e3 y hy)
  · intro i b hib
    have hi : i < ls.length := by rw [e1]; exact (List.getElem?_eq_some_iff.1 hib).1
    obtain ⟨a1, a2⟩ := e4 i b hib
    refine ⟨blkR_tr tr (by simp [ownCx, hi]) (fun _ _ => rfl) (by rw [a2]; simp) a1, fun L hL => ?_, by rw [a2]; simp⟩
    simp only [hloc i hi] at hL
    have : ls[i]? = some (some L) := by
      rw [List.getElem?_eq_getElem hi] at hL ⊢
      simpa using hL
    obtain ⟨b1, b2⟩ := e5 i L this
    exact ⟨b1, fun hR => by have := h.rlt _ hR; omega, b2⟩
  · intro i j L M hi hj hne hL hM
    rw [← e1] at hi hj
    simp only [hloc i hi] at hL
    simp only [hloc j hj] at hM
    refine e6 i j L M hne ?_ ?_
    · rw [List.getElem?_eq_getElem hi] at hL ⊢; simpa using hL
    · rw [List.getElem?_eq_getElem hj] at hM ⊢; simpa using hM
/-- handed back by value -/
theorem QOut.byval {B : Base} {nt : Nat} {C : Cx} {st : St} {a : Act} (h : SimL B nt C st a) {w' : World} {x : Nat} {r : CV} {v : Value} {R' : Nat → Prop}
    (hb : Below C.w.heap.size C.w w') (h1 : ∀ b, C.R b → R' b) (h2 : ∀ b, R' b → C.R b ∨ C.w.heap.size ≤ b) (h3 : ∀ b, R' b → b < w'.heap.size) (hr : Res false C.w.heap.size w' R' r v) :
    ∃ D : Cx, D.w = w' ∧ QOut C st D x r [] v := by
  obtain ⟨hn, hv⟩ := hr
  have hn2 : n2 r = [] := nl2_n2 hn
  refine ⟨⟨w', R', C.lv, C.loc⟩, rfl, hb.os, hb.tape, hb.output, hb.size, fun b hlt => hb.block b hlt, h1, h3, h2, fun y => by simp; omega, fun _ _ => rfl, ?_, by rw [hn2]; simp, fun i b hib => by simp at hib, fun i j L M hi => by simp at hi⟩
  exact valR_tr (C := byV w' R') (D := ⟨w', R', C.lv, C.loc⟩) (N := fun _ => False) ⟨fun b _ => rfl, fun b h => h, fun y hy => hy.elim⟩ (by rw [hn2]; simp) hv
theorem vals_of {w : World} {A : Option Addr} {Q : Addr → Prop} {rel : CV → Value → Prop} {cs : List CV} (h : ∀ (i : Nat) u, cs[i]? = some u → ∃ a x, A = some a ∧ Q a ∧ w.cell? (a.add i) = some x ∧ rel u x) :
    ∃ news : List Value, news.length = cs.length ∧ (∀ (j : Nat) u, news[j]? = some u → ∀ a, A = some a → w.cell? (a.add j) = some u) ∧ All2 rel cs news := by
  cases A with
  | none =>
    refine ⟨[], ?_, by simp, ?_⟩ <;> cases cs with
    | nil => first | rfl | trivial
    | cons c cs => obtain ⟨a, x, ha, -⟩ := h 0 c (by simp); cases ha
  | some a =>
    refine ⟨(List.range cs.length).map fun i => (w.cell? (a.add i)).getD undef, by simp, fun j u hu a' ha => ?_, All2.of (by simp) fun i c u hc hu => ?_⟩
    · cases ha
      simp only [List.getElem?_map, Option.map_eq_some_iff] at hu
      obtain ⟨i, hi, rfl⟩ := hu
      obtain ⟨hi1, hi2⟩ := List.getElem?_eq_some_iff.1 hi
      simp at hi1 hi2
      subst hi2
      obtain ⟨a', x, ha, -, hx, -⟩ := h _ _ (List.getElem?_eq_getElem hi1)
      cases ha
      simp [hx]
    · obtain ⟨a', x, ha, -, hx, hr⟩ := h i c hc
      cases ha
      have hi : i < cs.length := (List.getElem?_eq_some_iff.1 hc).1
      simp [hi, hx] at hu
      subst hu
      exact hr
theorem All2.one {cs : List CV} {vs : List Value} {w : World} {R : Nat → Prop} {n : Nat} (h : All2 (lev w R n) cs vs) : ∀ u, u ∈ vs → u.oneCell' = true := by
  intro u hu
  obtain ⟨i, hi⟩ := List.mem_iff_getElem?.1 hu
  obtain ⟨c, hc, hr⟩ := h.get' hi
  exact lev_one hr
/-- elements that come out of a row: their own parts lie where nothing turns -/
theorem source_R {B : Base} {nt : Nat} {C : Cx} {st : St} {a : Act} (h : SimL B nt C st a) {k : SK} {y : CV} {v : Value} {R : Type} {K : List k.T → Option R} {r : R} (hk : source st.H k y K = some r) (hv : valR C y v) :
    ∃ l, K l = some r ∧ ∃ A c, v = .slice A l.length c ∧ ∃ news : List Value, news.length = l.length * k.size ∧ (∀ (j : Nat) u, news[j]? = some u → ∃ ad, A = some ad ∧ C.w.cell? (ad.add j) = some u) ∧
      All2 (bvR C.w C.R) (l.flatMap k.cells) news := by
  unfold source at hk
  split at hk
  · rename_i k' l hb
    split at hk
    · rename_i e
      subst e
      have hc : cellR C y v := by
        cases y <;> first | exact hv | (simp [bv0] at hb)
      have hcc : ∃ A c, v = .slice A l.length c ∧ ∀ (i : Nat) u, (l.flatMap k'.cells)[i]? = some u → ∃ a x, A = some a ∧ True ∧ C.w.cell? (a.add i) = some x ∧ bvR C.w C.R u x := by
        obtain ⟨A, c, hv', -, h2⟩ := bv0_sound h (N := fun _ => True) hb hc (fun _ _ => trivial)
        refine ⟨A, c, hv', fun i u hu => ?_⟩
        obtain ⟨a, x, hA, -, hx, -⟩ := h2 i u hu
        refine ⟨a, x, hA, trivial, hx, ?_⟩
        unfold bv0 at hb
        split at hb
        · cases hb; simp at hu
        · cases hb
          obtain ⟨A', c', hv2, -, h3⟩ := hc
          rw [hv'] at hv2
          cases hv2
          obtain ⟨a', x', hA', -, hx', hr⟩ := h3 i u hu
          rw [hA] at hA'; cases hA'
          rw [hx] at hx'; cases hx'
          exact lev_lift hr
        · rename_i z
          split at hb
          · rename_i ap k2 l2 hg
            cases hb
            have hlk := get_some.1 hg
            have hl : C.lv z := (h.lv z).2 ⟨_, hlk⟩
            have hv3 := hc.2 hl
            have hbl := (h.bl z _ hlk).1
            cases hL : C.loc z with
            | none => simp only [blkR, hL] at hbl; subst hbl; simp at hu
            | some L =>
              rw [hL] at hv3
              simp only [blkR, hL] at hbl
              obtain ⟨b1, b2, b3, b4, cur, b5, b6, b7⟩ := hbl
              rw [hv'] at hv3
              simp only [Value.slice.injEq] at hv3
              obtain ⟨hA3, -, -⟩ := hv3
              rw [hA] at hA3
              cases hA3
              obtain ⟨y', hy', hr⟩ := b7 i u hu
              rw [addr_add, cell_at b5 hy'] at hx
              cases hx
              exact hr
          · cases hb
        · rename_i z off len
          split at hb
          · rename_i ap k2 l2 hg
            cases hb
            have hlk := get_some.1 hg
            have hl : C.lv z := (h.lv z).2 ⟨_, hlk⟩
            have hv3 := hc.2 hl
            have hbl := (h.bl z _ hlk).1
            cases hL : C.loc z with
            | none => simp only [blkR, hL] at hbl; subst hbl; simp at hu
            | some L =>
              rw [hL] at hv3
              simp only [blkR, hL] at hbl
              obtain ⟨b1, b2, b3, b4, cur, b5, b6, b7⟩ := hbl
              obtain ⟨hle, A', c', hv4, -, hA4⟩ := hv3
              rw [hv'] at hv4
              simp only [Value.slice.injEq] at hv4
              obtain ⟨hA5, -, -⟩ := hv4
              rw [← hA5] at hA4
              rw [take_flat (SK.cells_len k'), drop_flat (SK.cells_len k'), List.getElem?_take] at hu
              split at hu
              · rename_i hi
                rw [List.getElem?_drop] at hu
                have hpos : 0 < len := by
                  rcases Nat.eq_zero_or_pos len with e | e
                  · rw [e] at hi; simp at hi
                  · exact e
                have := hA4 hpos
                rw [hA] at this
                cases this
                obtain ⟨y', hy', hr⟩ := b7 _ u hu
                rw [addr_add, b2] at hx
                rw [cell_at b5 (by rw [Nat.add_assoc]; exact hy')] at hx
                cases hx
                exact hr
              · cases hu
          · cases hb
        · cases hb
        · cases hb
        · cases hb
        · cases hb
      obtain ⟨A, c, rfl, hcc⟩ := hcc
      obtain ⟨news, n1, n2, n3⟩ := vals_of (Q := fun _ => True) hcc
      refine ⟨l, hk, A, c, rfl, news, by rw [n1, row_len], fun j u hu => ?_, n3⟩
      obtain ⟨c', hc', -⟩ := n3.get' hu
      obtain ⟨ad, x, hA, -, -, -⟩ := hcc j c' hc'
      exact ⟨ad, hA, n2 j u hu ad hA⟩
    · cases hk
  · cases hk
/-- an append to nothing -/
theorem append_nil_run (k : SK) (ty : TypeId) (A0 A : Option Addr) (n c : Nat) (news : List Value) (w : World) (hl : news.length = n * k.size) (hn : ∀ (j : Nat) u, news[j]? = some u → ∃ ad, A = some ad ∧ w.cell? (ad.add j) = some u)
    (hb : n ≤ 4294967296) :
    (n = 0 ∧ (Builtin.append_ #[k.ty, k.ty] ty #[.slice A0 0 0, .slice A n c]).run P w = .ok (.slice A0 0 0) w) ∨
    ∃ (w' : World) (cur : Array Value) (cap : Nat), (Builtin.append_ #[k.ty, k.ty] ty #[.slice A0 0 0, .slice A n c]).run P w = .ok (.slice (some ⟨w.heap.size, 0, none⟩) n cap) w' ∧
      w'.os = w.os ∧ w'.tape = w.tape ∧ w'.output = w.output ∧ w'.heap = w.heap.push (.cells cur k.el (0, 0)) ∧ n ≤ cap ∧ cap ≤ maxLen ∧ cur.size = cap * k.size ∧ ∀ (j : Nat) u, news[j]? = some u → cur[j]? = some u := by
  obtain ⟨i, z, hi, hs, hby, hz, hzs⟩ := SK.info k
  by_cases h0 : n = 0
  · subst h0
    left
    refine ⟨rfl, ?_⟩
    have hnews : news = [] := List.eq_nil_of_length_eq_zero (by simpa using hl)
    have hfc : (Builtin.firstCells k.size 0 (.slice A 0 c)).run P w = .ok #[] w := by
      cases A <;> simp [Builtin.firstCells, loadCells, loadCellsFrom]
    cases A0 <;> simp [Builtin.append_, run_underlying (SK.under k), sizeOf, typeInfo, hi, hs, Builtin.lenOf, hfc, storeCells]
  · right
    have hA : ∃ ad, A = some ad := by
      have : 0 < news.length := by rw [hl]; exact Nat.mul_pos (by omega) k.size_pos
      obtain ⟨ad, hA, -⟩ := hn 0 _ (List.getElem?_eq_getElem this)
      exact ⟨ad, hA⟩
    obtain ⟨ad, rfl⟩ := hA
    have hn' : ∀ (j : Nat) u, news[j]? = some u → w.cell? (ad.add j) = some u := fun j u hu => by
      obtain ⟨ad', e, hx⟩ := hn j u hu
      cases e; exact hx
    have hge := grownCap_ge w n 0 k.el
    have hcm := grownCap_le_maxLen w n 0 k.el (by unfold maxLen; omega)
    have hcells : ∀ (j : Nat) u, news[j]? = some u → (news.toArray ++ Builtin.zeroCells z.cells (grownCap w n 0 k.el - n))[j]? = some u := fun j u hu => by
      rw [Array.getElem?_append_left (by simpa using (List.getElem?_eq_some_iff.1 hu).1)]
      simpa using hu
    have hsz : (news.toArray ++ Builtin.zeroCells z.cells (grownCap w n 0 k.el - n)).size = grownCap w n 0 k.el * k.size := by
      simp only [Array.size_append, List.size_toArray, hl, size_zeroCells, hzs, ← Nat.add_mul]
      rw [Nat.add_sub_cancel' hge]
    cases A0 with
    | none =>
      have hr := run_append_nil (P := P) w k.ty ty k.el i z (SK.under k) hi hz ad n c news (by rw [hs]; exact hl) hn' (by omega) (by omega) (Nat.le_trans (Nat.mul_le_mul hb hby) (by decide))
      exact ⟨_, _, _, hr, rfl, rfl, rfl, rfl, hge, hcm, hsz, hcells⟩
    | some b =>
      have hr := run_append_grow (P := P) w k.ty ty k.el i z (SK.under k) hi hz b 0 0 [] (by simp) (by simp) ad n c news (by rw [hs]; exact hl) hn' (by omega) (by omega) (growslice_fits (by omega) (Nat.le_trans (Nat.mul_le_mul (by omega : 0 + n ≤ 4294967296) hby) (by decide)))
      simp only [Nat.zero_add] at hr
      have e : ([] : List Value).toArray ++ news.toArray = news.toArray := by simp
      rw [e] at hr
      exact ⟨_, _, _, hr, rfl, rfl, rfl, rfl, hge, hcm, hsz, hcells⟩

theorem size_of_push {w w' : World} {o : Obj} (h : w'.heap = w.heap.push o) : True := trivial

/-- an element's first value -/
theorem zk {k : SK} {i : TypeInfo} {z : Value} {z' : k.T} (hi : P.info? k.el = some i) (hz : i.zero = some z) (h : k.zero = some z') :
    k.size = 1 ∧ z.cells = #[z] ∧ ∀ C : Cx, bvR C.w C.R ((k.cells z').getD 0 .nptr) z := by
  have h3 := zv_run (t := 3) rfl
  have h4 := zv_run (t := 4) rfl
  cases k <;> simp only [SK.zero] at h <;> try (cases h; done)
  · cases h
    change P.info? 3 = some i at hi
    rw [hi] at h3
    simp only [Option.bind_some, hz, Option.some.injEq] at h3
    subst h3
    exact ⟨rfl, rfl, fun C => rfl⟩
  · cases h
    change P.info? 4 = some i at hi
    rw [hi] at h4
    simp only [Option.bind_some, hz, Option.some.injEq] at h4
    subst h4
    exact ⟨rfl, rfl, fun C => rfl⟩
/-- every operation that changes no block of ours -/
theorem quiet_sound {B : Base} {nt : Nat} {C : Cx} {st : St} {a : Act} (h : SimL B nt C st a) {sem : Sems} (hsem : SemOk sem) (o : Oper) {x : Nat} {R : Type} {K : CV → List Blk → Option R} {r : R}
    (hq : quiet sem o.op o.type x st K = some r) : ∃ c bs, K c bs = some r ∧ ((∀ y, x ≤ y ∧ y < x + bs.length → look st.H y = none) →
      ∀ (Kc : Act → World → Prop) (Q : Exit → Act → World → Prop), (∀ D v, QOut C st D x c bs v → Kc (a.put o.dst v) D.w) → o.wp P a C.w Kc Q) := by
  have same : ∀ {c : CV} {v : Value}, valR C c v → (∀ y, y ∈ n2 c → ∃ b, look st.H y = some b) → QOut C st C x c [] v := fun hv hn => QOut.same h.rlt hv hn
  have pure : pureOp o.op o.type st.T (fun v => K v []) = some r → ∃ c bs, K c bs = some r ∧ ((∀ y, x ≤ y ∧ y < x + bs.length → look st.H y = none) →
      ∀ (Kc : Act → World → Prop) (Q : Exit → Act → World → Prop), (∀ D v, QOut C st D x c bs v → Kc (a.put o.dst v) D.w) → o.wp P a C.w Kc Q) := fun hp => by
    obtain ⟨c, hk, hg⟩ := pure_sound h o hp
    obtain ⟨v, hv, hr⟩ := hg.val
    exact ⟨c, [], hk, fun _ Kc Q hK => wp_value (hv C.w) (hK C v (same hr hg.nm))⟩
  cases ho : o.op <;> rw [ho] at hq pure <;> simp only [quiet] at hq <;> try (exact pure hq)
  case load t ad =>
    split at hq
    · rename_i p hp
      obtain ⟨hv, hn⟩ := ev_sound h hp
      obtain ⟨c, hk, u, hu, hr, hnm⟩ := loadK_sound h hv hn hq
      refine ⟨c, [], hk, fun _ Kc Q hK => wp_value ?_ (hK C u (same hr hnm))⟩
      unfold execOp
      simp only [ho]
      exact run_v _ _ hu
    · cases hq
  case indexAddr t s i =>
    split at hq
    · cases hq
    · rename_i p hp
      split at hq
      · cases hq
      · rename_i q hq'
        obtain ⟨hv, hn⟩ := ev_sound h hp
        obtain ⟨c, hk, u, hu, hr, hnm⟩ := indexK_sound h hv (ev_sound h hq').1 hn hq
        refine ⟨c, [], hk, fun _ Kc Q hK => wp_value ?_ (hK C u (same hr hnm))⟩
        unfold execOp
        simp only [ho]
        exact run_v _ _ (hu C.w)
  case slice t s lo hi mx =>
    split at hq
    · rename_i p hp
      obtain ⟨hv, hn⟩ := ev_sound h hp
      obtain ⟨c, hk, u, hu, hr, hnm⟩ := sliceK_sound h hv hn hq
      refine ⟨c, [], hk, fun _ Kc Q hK => wp_value ?_ (hK C u (same hr hnm))⟩
      unfold execOp
      simp only [ho]
      exact run_v _ _ (hu C.w)
    · cases hq
  case alloc t =>
    split at hq
    · rename_i cs hz
      obtain ⟨b, ks, hks⟩ : ∃ b ks, cks t = some (b, ks) := by
        unfold zeros at hz
        cases hc : cks t with
        | none => rw [hc] at hz; cases hz
        | some q => exact ⟨q.1, q.2, rfl⟩
      refine ⟨_, _, hq, fun hf Kc Q hK => wp_value ?_ (hK _ _ (QOut.box h (hf x ⟨Nat.le_refl _, by simp⟩) (zv_cells hz C) ?_ t))⟩
      · unfold execOp
        simp only [ho]
        exact run_v _ _ (alloc_run hks C.w)
      · intro y hy
        exfalso
        unfold zeros at hz
        rw [hks] at hz
        simp only [Option.some.injEq] at hz
        subst hz
        obtain ⟨c, hc, hy⟩ := List.mem_flatMap.1 hy
        obtain ⟨k, -, rfl⟩ := List.mem_map.1 hc
        cases k <;> simp [CK.zero, n0] at hy
    · cases hq
  case box t v =>
    split at hq
    · cases hq
    · rename_i p hp
      split at hq
      · cases hq
      · rename_i b ks hks
        by_cases hc : (Nat.beq ks.length p.cells.length && p.cells.all CV.isC) = true
        · simp only [hc, cond_true] at hq
          simp only [Bool.and_eq_true] at hc
          obtain ⟨hv, hn⟩ := ev_sound h hp
          refine ⟨_, _, hq, fun hf Kc Q hK => wp_value ?_ (hK _ _ (QOut.box h (hf x ⟨Nat.le_refl _, by simp⟩) (valR_cells hv hc.2) (fun y hy => hn y (n2_cells hc.2 hy)) t))⟩
          unfold execOp
          simp only [ho]
          exact run_v _ _ (box_run t (a.eval v) C.w)
        · simp [Bool.eq_false_iff.2 hc] at hq
  case buildSlice t n parts =>
    split at hq
    · cases hq
    · rename_i k hk
      obtain rfl := kindOf_ty hk
      obtain ⟨i, z, hi, hs, hby, hz, hzs⟩ := SK.info k
      by_cases hp : Nat.beq parts.size n = true
      · simp only [hp, cond_true] at hq
        have hp' := Nat.eq_of_beq_eq_true hp
        by_cases h0 : Nat.beq n 0 = true
        · simp only [h0, cond_true] at hq
          obtain rfl := Nat.eq_of_beq_eq_true h0
          have hpe : parts = #[] := Array.eq_empty_of_size_eq_zero hp'
          subst hpe
          have hrun : (Instr.buildSlice k.ty 0 #[]).run P C.w = .ok (.slice (some ⟨C.w.heap.size, 0, none⟩) 0 0) (C.w.alloc (.cells #[] k.el (0, 0))) := by
            simp [Instr.buildSlice, run_underlying (SK.under k), sizeOf, typeInfo, hi, Instr.fill, newRow, Array.range_zero']
          refine ⟨_, [], hq, fun _ Kc Q hK => wp_value (w' := C.w.alloc (.cells #[] k.el (0, 0))) (v := .slice (some ⟨C.w.heap.size, 0, none⟩) 0 0) ?_ (hK ⟨C.w.alloc (.cells #[] k.el (0, 0)), C.R, C.lv, C.loc⟩ _ ?_)⟩
          · unfold execOp
            simp only [ho, List.map_toArray, List.map_nil]
            exact run_v _ _ hrun
          · have hg : C.w.heap.size ≤ (C.w.alloc (.cells #[] k.el (0, 0))).heap.size := by rw [World.size_alloc]; exact Nat.le_succ _
            constructor
            · rfl
            · rfl
            · rfl
            · exact hg
            · exact fun b hb => alloc_old C.w _ b hb
            · exact fun _ h => h
            · exact fun b hb => Nat.lt_of_lt_of_le (h.rlt b hb) hg
            · exact fun b hb => .inl hb
            · exact fun y => ⟨fun h => .inl h, fun h => h.resolve_right (by rw [List.length_nil]; omega)⟩
            · exact fun _ _ => rfl
            · exact ⟨_, rfl⟩
            · simp [n2, n1, n0]
            · intro i b hb; simp at hb
            · intro i j L M hi; simp at hi
        · simp only [Bool.eq_false_iff.2 h0, cond_false] at hq
          split at hq
          · rename_i l hl
            by_cases hn : Nat.ble n 1000 = true
            · simp only [hn, cond_true] at hq
              have hn' := Nat.le_of_ble_eq_true hn
              have hn0 : n ≠ 0 := fun e => h0 (by rw [e]; rfl)
              have hsz : k.size ≤ 4 := by cases k <;> simp [SK.size]
              have hns : n * k.size ≤ 4000 := Nat.mul_le_mul hn' hsz
              have hnz : n * k.size ≠ 0 := Nat.mul_ne_zero hn0 (by have := k.size_pos; omega)
              obtain ⟨out, h1, h2, h3, h4⟩ := elems_sound h (parts.toList.length) parts.toList 0 l hl (by simp) [] ((Array.range (n * k.size)).map (z.cells[· % z.cells.size]!)) rfl (by simp [hp']) (by simp)
              have h1' : Instr.fill (fun i => some (i * k.size, k.size)) ((Array.range (n * k.size)).map (z.cells[· % z.cells.size]!)) (parts.map fun p => (p.1, a.eval p.2)).toList = some out := by
                rw [Array.toList_map]; exact h1
              have hrun : (Instr.buildSlice k.ty n (parts.map fun p => (p.1, a.eval p.2))).run P C.w = .ok (.slice (some ⟨C.w.heap.size, 0, none⟩) n n) (C.w.alloc (.cells out k.el (0, 0))) := by
                have hbig : ¬ (n * k.size > 2 ^ 24) := by
                  have : (2 : Nat) ^ 24 = 16777216 := by decide
                  omega
                have hzr : (zeroValue k.el).run P C.w = .ok z C.w := by simp only [zeroValue, typeInfo, Sem.run_bind, run_program, Result.andThen_ok, hi, Sem.run_pure, hz]
                unfold Instr.buildSlice
                simp only [Sem.run_bind, run_underlying (SK.under k), Result.andThen_ok, SK.sizeOf k, if_neg hbig, if_neg hnz, hzr, Sem.run_pure, h1', newRow, run_newObj, World.alloc_eq]
              have hlen : l.length = n := by rw [h3, Array.length_toList, hp']
              have q := QOut.row h (x := x) (k := k) (l := l) (ap := true) (w' := C.w.alloc (.cells out k.el (0, 0))) (cur := out) (c := n) rfl rfl rfl rfl (by omega) (by unfold maxLen; omega) (by rw [h2, Array.length_toList, hp']) (by simpa using h4)
              rw [hlen] at q
              by_cases hv : ((sem 300000 []).isSome && decide (k = .int)) = true
              · rw [hv, cond_true] at hq
                have hki : k = .int := by simp only [Bool.and_eq_true, decide_eq_true_eq] at hv; exact hv.2
                subst hki
                obtain ⟨D, hD, q2⟩ := QOut.byval h (x := x) (w' := C.w.alloc (.cells out SK.int.el (0, 0))) (r := .sl .int l) (v := .slice (some ⟨C.w.heap.size, 0, none⟩) n n) (R' := fun b => C.R b ∨ b = C.w.heap.size) ⟨q.os, q.tape, q.output, q.grow, q.heap⟩ (fun b hb => .inl hb) (fun b hb => hb.imp id fun e => by omega)
                  (fun b hb => by
                    have hs1 : (C.w.alloc (.cells out SK.int.el (0, 0))).heap.size = C.w.heap.size + 1 := by rw [World.size_alloc]
                    rcases hb with hb | hb
                    · have := h.rlt b hb; omega
                    · omega) ⟨rfl, some ⟨C.w.heap.size, 0, none⟩, n, by rw [hlen], by omega, fun j u hu => by
                    obtain ⟨y, hy, hr⟩ := h4 j u (by simpa using hu)
                    have hu' : ∃ m, u = .int .i64 m := by
                      obtain ⟨e, -, he⟩ := List.mem_flatMap.1 (List.mem_of_getElem? hu)
                      exact ⟨e, by simpa [SK.cells] using he⟩
                    obtain ⟨m, rfl⟩ := hu'
                    refine ⟨_, y, rfl, .inr rfl, ?_, hr⟩
                    simp only [World.cell?, addr_add, Nat.zero_add, byV]
                    rw [alloc_new]
                    simpa using hy⟩
                refine ⟨_, _, hq, fun _ Kc Q hK => wp_value (w' := C.w.alloc (.cells out SK.int.el (0, 0))) (v := .slice (some ⟨C.w.heap.size, 0, none⟩) n n) ?_ (by have := hK D _ q2; rw [hD] at this; exact this)⟩
                unfold execOp
                simp only [ho]
                exact run_v _ _ hrun
              rw [Bool.eq_false_iff.2 hv, cond_false] at hq
              refine ⟨_, _, hq, fun _ Kc Q hK => wp_value ?_ (hK _ _ q)⟩
              unfold execOp
              simp only [ho]
              exact run_v _ _ hrun
            · simp [Bool.eq_false_iff.2 hn] at hq
          · cases hq
      · simp [Bool.eq_false_iff.2 hp] at hq
  case makeSlice t n c =>
    split at hq
    · cases hq
    · rename_i k hk
      obtain rfl := kindOf_ty hk
      obtain ⟨i, z, hi, hs, hby, hz, hzs⟩ := SK.info k
      split at hq
      · rename_i ik1 n' hn'
        split at hq
        · rename_i ik2 c' hc'
          split at hq
          · rename_i z' hz'
            by_cases h1 : c' = n'
            · subst h1
              simp only [decide_true, cond_true] at hq
              by_cases h2 : 0 ≤ c'
              · simp only [h2, decide_true, cond_true] at hq
                by_cases h3 : c' ≤ 4294967296
                · simp only [h3, decide_true, cond_true] at hq
                  have e1 := int_inv (ev_sound h hn').1
                  have e2 := int_inv (ev_sound h hc').1
                  obtain ⟨m, rfl⟩ := Int.eq_ofNat_of_zero_le h2
                  have hm : m ≤ 4294967296 := by omega
                  have hbm : (i.bytes : Int) * (m : Int) ≤ 281474976710656 := by
                    have h4 : i.bytes * m ≤ 80 * 4294967296 := Nat.mul_le_mul hby hm
                    have h5 : ((i.bytes * m : Nat) : Int) ≤ ((80 * 4294967296 : Nat) : Int) := Int.ofNat_le.2 h4
                    rw [Int.natCast_mul] at h5
                    exact Int.le_trans h5 (by decide)
                  have hr := run_make (P := P) C.w k.ty k.el i z (SK.under k) hi hz ik1 ik2 (m : Int) (m : Int) (by omega) (Int.le_refl _) hbm (by omega)
                  simp only [Int.toNat_natCast, hs] at hr
                  have hlen : (List.replicate (m : Int).toNat z').length = m := by simp
                  have q := QOut.row h (x := x) (k := k) (l := List.replicate (m : Int).toNat z') (ap := true) (w' := C.w.alloc (.cells (madeCells z.cells (m * k.size)) k.el)) (cur := madeCells z.cells (m * k.size)) (c := m) rfl rfl rfl rfl (by omega) (by unfold maxLen; omega) (by rw [size_madeCells]) (by
                    intro j u hu
                    have hj : j < m * k.size := by
                      have := (List.getElem?_eq_some_iff.1 hu).1
                      rwa [row_len, hlen] at this
                    have hz1 : k.zero = some z' := hz'
                    refine ⟨(madeCells z.cells (m * k.size))[j]'(by rw [size_madeCells]; exact hj), Array.getElem?_eq_getElem _, ?_⟩
                    have hzz := zk hi hz hz1
                    obtain ⟨e1, e2⟩ := hzz
                    have hsz : k.size = 1 := e1
                    have hu' : u = (k.cells z').getD 0 .nptr := by
                      rw [hsz, Nat.mul_one] at hj
                      have := row_get k (l := List.replicate (m : Int).toNat z') (i := j) (j := 0) (e := z') (by simp [hj]) k.size_pos
                      rw [hsz, Nat.mul_one, Nat.add_zero, hu] at this
                      have h0 : 0 < (k.cells z').length := by rw [SK.cells_len]; exact k.size_pos
                      rw [List.getElem?_eq_getElem h0] at this
                      cases this
                      simp [List.getD, List.getElem?_eq_getElem h0]
                    rw [hu']
                    have : (madeCells z.cells (m * k.size))[j]'(by rw [size_madeCells]; exact hj) = z := by
                      simp only [madeCells, Array.getElem_map, Array.getElem_range]
                      have hz0 := e2
                      rw [hz0.1]
                      simp [Nat.mod_one]
                    rw [this]
                    exact e2.2 C)
                  rw [hlen] at q
                  refine ⟨_, _, hq, fun _ Kc Q hK => wp_value ?_ (hK _ _ q)⟩
                  unfold execOp
                  simp only [ho, e1, e2]
                  exact run_v _ _ hr
                · simp [h3] at hq
              · simp [h2] at hq
            · simp [h1] at hq
          · cases hq
        · cases hq
      · cases hq
  case call c =>
    have callok : ∀ {f : Nat} {us vs : List CV} {own : Bool} {r' : CV} {args : List Value} {N : Nat → Prop}, sem f vs = some (own, true, r') → bvs (bv2 st.H) us = some vs → All2 (valR C) us args →
        (∀ c, c ∈ us → ∀ y, y ∈ n2 c → N y) → (∀ y z b, N y → look st.H y = some (some b) → z ∈ nB b → N z) →
        callable f = true ∧ Calls P f args.toArray C.w fun e w' => ∃ v, e = .returned v ∧ Below C.w.heap.size C.w w' ∧
          ∃ R' : Nat → Prop, (∀ b, RN C N b → R' b) ∧ (∀ b, R' b → RN C N b ∨ C.w.heap.size ≤ b) ∧ (∀ b, R' b → b < w'.heap.size) ∧ Res own C.w.heap.size w' R' r' v := by
      intro f us vs own r' args N hs hb ha hN hN2
      obtain ⟨h1, h2⟩ := hsem f vs own r' hs
      exact ⟨h2, h1 C.w (RN C N) args.toArray (RN_lt h) (by simpa using args_sound h hb ha hN hN2)⟩
    cases hc : c.callee with
    | builtin b =>
      rw [hc] at hq
      cases b <;> simp only at hq <;> try (cases hq; done)
      case len =>
        split at hq
        · rename_i s hs
          split at hq
          · rename_i t ht
            split at hq
            · rename_i k hk
              obtain rfl := kindOf_ty hk
              obtain ⟨h1, h2⟩ := evs_sound h hs
              obtain ⟨u, e, hu⟩ := list1 h1
              obtain ⟨d, hk', z, hz, hr, hn⟩ := lenK_sound h (k := k) hu hq o.type
              refine ⟨d, [], hk', fun _ Kc Q hK => wp_value ?_ (hK C z (same hr (by rw [hn]; simp)))⟩
              rw [call_run a o c _ ho hc]
              have e1 : c.argTypes = #[k.ty] := arr_of ht
              have e2 : c.args.map a.eval = #[u] := arr_of (by rw [map_toList]; exact e)
              rw [e1, e2]
              exact run_v _ _ (hz C.w)
            · cases hq
          · cases hq
        · cases hq
      case append =>
        split at hq
        · rename_i k y hs
          split at hq
          · rename_i t t' ht
            by_cases hb : (Nat.beq t k.ty && Nat.beq t' k.ty) = true
            · simp only [hb, cond_true] at hq
              simp only [Bool.and_eq_true] at hb
              obtain rfl := Nat.eq_of_beq_eq_true hb.1
              obtain rfl := Nat.eq_of_beq_eq_true hb.2
              obtain ⟨h1, h2⟩ := evs_sound h hs
              obtain ⟨u, v, e, hu, hv⟩ := list2 h1
              obtain ⟨l, hK, A, cc, rfl, news, hl, hn, hr⟩ := source_R h hq hv
              by_cases hle : Nat.ble l.length 4294967296 = true
              · simp only [hle, cond_true] at hK
                obtain ⟨A0, rfl⟩ := hu
                have e1 : c.argTypes = #[k.ty, k.ty] := arr_of ht
                have e2 : c.args.map a.eval = #[.slice A0 0 0, .slice A l.length cc] := arr_of (by rw [map_toList]; exact e)
                have hrun : ∀ v w', (Builtin.append_ #[k.ty, k.ty] o.type #[.slice A0 0 0, .slice A l.length cc]).run P C.w = .ok v w' → (execOp a.eval o).run P C.w = .ok (.value v) w' := by
                  intro v w' hr
                  rw [call_run a o c _ ho hc, e1, e2]
                  exact run_v _ _ hr
                refine ⟨_, _, hK, fun hf Kc Q hKc => ?_⟩
                rcases append_nil_run k o.type A0 A l.length cc news C.w hl hn (Nat.le_of_ble_eq_true hle) with ⟨h0, hr0⟩ | ⟨w', cur, cap, hr0, a1, a2, a3, a4, a5, a6, a7, a8⟩
                · refine wp_value (hrun _ _ hr0) (hKc (C.add1 C.w x none) _ ?_)
                  have hl0 : l = [] := List.eq_nil_of_length_eq_zero h0
                  subst hl0
                  exact QOut.new (x := x) (b := .arr true k []) (L := none) (w' := C.w) (c := .ref x) h.rlt rfl rfl rfl (Nat.le_refl _) (fun _ _ => rfl) (fun M hM => by cases hM) (by simp [blkR, Cx.add1]) (by simp [nB])
                    ⟨⟨_, _, _, rfl⟩, fun _ => by simp only [Cx.add1, if_true]; exact ⟨_, rfl⟩⟩ (by simp [n2, n1, n0])
                · refine wp_value (hrun _ _ hr0) (hKc _ _ (QOut.row h a1 a2 a3 a4 a5 a6 a7 fun j u hu => ?_))
                  obtain ⟨y', hy', hr'⟩ := hr.get hu
                  exact ⟨y', a8 j y' hy', hr'⟩
              · simp [Bool.eq_false_iff.2 hle] at hK
            · simp [Bool.eq_false_iff.2 hb] at hq
          · cases hq
        · cases hq
      case min => exact pure hq
      case max => exact pure hq
    | invoke r' m => rw [hc] at hq; cases hq
    | value g =>
      rw [hc] at hq
      have fin : ∀ {f : Nat} {us vs : List CV} {r' : CV} {args : List Value}, sem f vs = some (true, true, r') → bvs (bv2 st.H) us = some vs → All2 (valR C) us args → ((execOp a.eval o).run P C.w = .ok (.enter f args.toArray) C.w ∨ callable f = false) →
          K (own2 x r').1 (own2 x r').2 = some r → ∃ c bs, K c bs = some r ∧ ((∀ y, x ≤ y ∧ y < x + bs.length → look st.H y = none) →
            ∀ (Kc : Act → World → Prop) (Q : Exit → Act → World → Prop), (∀ D v, QOut C st D x c bs v → Kc (a.put o.dst v) D.w) → o.wp P a C.w Kc Q) := by
        intro f us vs r' args hs hb ha hrun hK
        obtain ⟨hcl, hcalls⟩ := callok (N := fun _ => True) hs hb ha (fun _ _ _ _ => trivial) (fun _ _ _ _ _ _ => trivial)
        refine ⟨_, _, hK, fun hf Kc Q hKc => wp_enter (hrun.resolve_right (by rw [hcl]; simp)) (hcalls.mono fun e w' ⟨v, he, hbel, R', r1, r2, r3, hres⟩ => ?_)⟩
        obtain ⟨D, hD, q⟩ := QOut.own h hf hbel hres
        subst hD
        exact ⟨v, he, hKc D v q⟩
      cases g with
      | func f =>
        simp only at hq
        split at hq
        · cases hq
        · rename_i us hus
          split at hq
          · cases hq
          · rename_i vs hvs
            obtain ⟨h1, h2⟩ := evs_sound h hus
            split at hq
            · rename_i g r' hs
              cases g <;> simp only [cond_true, cond_false] at hq
              · cases hq
              refine fin hs hvs h1 ?_ hq
              have := (hsem f vs _ _ hs).2
              refine .inl ?_
              rw [call_func_run ho hc this, arr_of (map_toList a.eval c.args)]
            · rename_i g r' hs
              cases g <;> simp only [cond_true, cond_false] at hq
              · cases hq
              by_cases hnl : us.all nl2 = true
              · simp only [hnl, cond_true] at hq
                obtain ⟨hcl, hcalls⟩ := callok (N := fun _ => False) hs hvs h1 (fun c hc y hy => by rw [nl2_n2 (List.all_eq_true.1 hnl c hc)] at hy; simp at hy) (fun _ _ _ h _ _ => h.elim)
                refine ⟨_, [], hq, fun hf Kc Q hKc => wp_enter (w' := C.w) (vs := (c.args.toList.map a.eval).toArray) ?_ (hcalls.mono fun e w' ⟨v, he, hbel, R', r1, r2, r3, hres⟩ => ?_)⟩
                · rw [call_func_run ho hc hcl, arr_of (map_toList a.eval c.args)]
                · obtain ⟨D, hD, q⟩ := QOut.byval h (x := x) hbel (fun b hb => r1 b (.inl hb)) (fun b hb => (r2 b hb).imp (fun hb => by
                    rcases hb with hb | ⟨x, L, hx, -⟩
                    · exact hb
                    · exact hx.elim) id) r3 hres
                  subst hD
                  exact ⟨v, he, hKc D v q⟩
              · simp [Bool.eq_false_iff.2 hnl] at hq
            · cases hq
      | tmp t =>
        simp only at hq
        split at hq
        · rename_i f caps hfn
          split at hq
          · cases hq
          · rename_i us hus
            split at hq
            · cases hq
            · rename_i vs hvs
              obtain ⟨h1, h2⟩ := evs_sound h hus
              obtain ⟨⟨ws, hg, hcaps⟩, -⟩ := ev_sound h hfn
              split at hq
              · rename_i g r' hs
                cases g <;> simp only [cond_true, cond_false] at hq
                · cases hq
                have hcl := (hsem f vs _ _ hs).2
                refine fin hs hvs (All2.append h1 (hcaps.mono fun c _ v hv => aggR_val hv)) (.inl ?_) hq
                rw [call_fn_run ho hc hg hcl, arr_of (show (c.args.map a.eval ++ ws).toList = c.args.toList.map a.eval ++ ws.toList by rw [Array.toList_append, map_toList])]
              · cases hq
        · cases hq
      | const v =>
        simp only at hq
        split at hq
        · rename_i f caps hfn
          exfalso
          simp only [ev] at hfn
          unfold cvOf at hfn
          split at hfn <;> first
            | (cases hfn; done)
            | (split at hfn <;> cases hfn)
        · cases hq
      | global g =>
        simp only [ev] at hq
        cases hq
end Go.Proofs.Ytnfgfdeidkhdkaa.Eng
/- Ej: The engine's soundness, eighth part: operations that write into blocks of ours. -/
namespace Go.Proofs.Ytnfgfdeidkhdkaa.Eng
open Go.RowKit (Below)
set_option linter.unusedVariables false
set_option linter.unusedSimpArgs false

theorem setAt_get : ∀ (us cs : List CV) (o i : Nat), o + us.length ≤ cs.length → (setAt cs o us)[i]? = if o ≤ i ∧ i < o + us.length then us[i - o]? else cs[i]?
  | [], cs, o, i, _ => by simp only [setAt, List.length_nil, Nat.add_zero]; rw [if_neg (by omega)]
  | u :: us, cs, o, i, h => by
    simp only [List.length_cons] at h
    simp only [setAt]
    rw [setAt_get us (cs.set o u) (o + 1) i (by simp; omega)]
    by_cases e : i = o
    · subst e
      rw [if_neg (by omega), if_pos (by simp)]
      simp [show i < cs.length by omega]
    · by_cases h2 : o + 1 ≤ i ∧ i < o + 1 + us.length
      · rw [if_pos h2, if_pos (by simp only [List.length_cons]; omega), show i - o = (i - (o + 1)) + 1 by omega, List.getElem?_cons_succ]
      · rw [if_neg h2, if_neg (by simp only [List.length_cons]; omega), List.getElem?_set_ne (Ne.symm e)]
theorem splice_get {α : Type} (l vs : List α) (o i : Nat) (h : o + vs.length ≤ l.length) : (l.take o ++ vs ++ l.drop (o + vs.length))[i]? = if o ≤ i ∧ i < o + vs.length then vs[i - o]? else l[i]? := by
  have ho : (l.take o).length = o := by simp; omega
  by_cases h1 : i < o
  · rw [if_neg (by omega), List.append_assoc, List.getElem?_append_left (by omega), List.getElem?_take, if_pos h1]
  · by_cases h2 : i < o + vs.length
    · rw [if_pos (by omega), List.append_assoc, List.getElem?_append_right (by omega), ho, List.getElem?_append_left (by omega)]
    · rw [if_neg (by omega), List.getElem?_append_right (by simp; omega)]
      simp only [List.length_append, ho, List.getElem?_drop]
      congr 1; omega

/-- a block of ours is turned -/
theorem SimL.turn {B : Base} {nt : Nat} {C : Cx} {st : St} {a : Act} (h : SimL B nt C st a) {y : Nat} {b0 b : Blk} {L : Lc} (hy : look st.H y = some (some b0)) (hL : C.loc y = some L) {w' : World}
    (h1 : w'.os = C.w.os) (h2 : w'.tape = C.w.tape) (h3 : w'.output = C.w.output) (h4 : C.w.heap.size ≤ w'.heap.size) (h5 : ∀ k, k < C.w.heap.size → k ≠ L.g → w'.heap[k]? = C.w.heap[k]?)
    (h6 : blkR ⟨w', C.R, C.lv, C.loc⟩ y b) (h7 : ∀ z, z ∈ nB b → ∃ o, look st.H z = some o) : SimL B nt ⟨w', C.R, C.lv, C.loc⟩ ⟨st.T, (y, some b) :: st.H⟩ a := by
  obtain ⟨-, hown⟩ := h.bl y _ hy
  obtain ⟨o1, o2, o3⟩ := hown L hL
  have hlk : ∀ z, look ((y, some b) :: st.H) z = if y = z then some (some b) else look st.H z := fun z => look_cons y (some b) st.H z
  have hRg : ∀ k, C.R k → w'.heap[k]? = C.w.heap[k]? := fun k hk => h5 k (h.rlt k hk) fun e => o2 (e ▸ hk)
  have tr : Tr C ⟨w', C.R, C.lv, C.loc⟩ (fun _ => True) := ⟨hRg, fun _ h => h, fun _ _ hl => ⟨hl, rfl⟩⟩
  have hkn : ∀ z o, look st.H z = some o → ∃ o, look ((y, some b) :: st.H) z = some o := fun z o ho => by
    rw [hlk]
    split
    · exact ⟨_, rfl⟩
    · exact ⟨o, ho⟩
  constructor
  · exact h.size
  · exact h.dfr
  · exact h1.trans h.os
  · exact h2.trans h.tape
  · exact h3.trans h.output
  · exact Nat.le_trans h.grow h4
  · intro k hk hm
    refine (h5 k (Nat.lt_of_lt_of_le hk h.grow) fun e => ?_).trans (h.keep k hk hm)
    subst e
    rcases o1 with o1 | o1
    · omega
    · exact hm o1
  · exact h.rsub
  · exact fun k hk => Nat.lt_of_lt_of_le (h.rlt k hk) h4
  · exact h.rnew
  · intro z
    simp only
    rw [h.lv z]
    constructor
    · rintro ⟨b', hb'⟩
      rw [hlk]
      split
      · exact ⟨_, rfl⟩
      · exact ⟨b', hb'⟩
    · rintro ⟨b', hb'⟩
      rw [hlk] at hb'
      split at hb'
      · rename_i e; subst e; exact ⟨_, hy⟩
      · exact ⟨b', hb'⟩
  · intro t c hc
    obtain ⟨u, hu, hr⟩ := h.tm t c hc
    exact ⟨u, hu, valR_tr tr (fun _ _ => trivial) hr⟩
  · intro z b' hb'
    simp only at hb'
    rw [hlk] at hb'
    split at hb'
    · rename_i e
      subst e
      cases hb'
      refine ⟨h6, fun M hM => ?_⟩
      simp only at hM
      rw [hL] at hM; cases hM
      exact ⟨o1, o2, Nat.lt_of_lt_of_le o3 h4⟩
    · rename_i e
      obtain ⟨a1, a2⟩ := h.bl z b' hb'
      refine ⟨blkR_tr tr rfl (fun M hM => h5 M.g (a2 M hM).2.2 ?_) (fun _ _ => trivial) a1, fun M hM => ?_⟩
      · exact fun e' => h.dj y z L M ((h.lv y).2 ⟨_, hy⟩) ((h.lv z).2 ⟨_, hb'⟩) hL hM e e'.symm
      · obtain ⟨c1, c2, c3⟩ := a2 M hM
        exact ⟨c1, c2, Nat.lt_of_lt_of_le c3 h4⟩
  · exact h.dj
  · intro t c hc z hz
    obtain ⟨o, ho⟩ := h.nmT t c hc z hz
    exact hkn z o ho
  · intro z b' hb' q hq
    simp only at hb'
    rw [hlk] at hb'
    split at hb'
    · cases hb'
      obtain ⟨o, ho⟩ := h7 q hq
      exact hkn q o ho
    · obtain ⟨o, ho⟩ := h.nmH z b' hb' q hq
      exact hkn q o ho
  · exact h.pin
/-- blocks are let go -/
theorem SimL.kill {B : Base} {nt : Nat} {C : Cx} {st : St} {a : Act} (h : SimL B nt C st a) (ys : List Nat) (hk : ∀ y, y ∈ ys → ∃ o, look st.H y = some o) {R' : Nat → Prop} (hR : ∀ b, C.R b → R' b)
    (hR2 : ∀ b, R' b → C.R b ∨ (∃ y L, y ∈ ys ∧ C.lv y ∧ C.loc y = some L ∧ L.g = b) ∨ C.w.heap.size ≤ b) {w' : World} (hw : Below C.w.heap.size C.w w') (hRl : ∀ b, R' b → b < w'.heap.size) (hnew : ∀ y L, C.lv y → C.loc y = some L → y ∈ ys → B.w0.heap.size ≤ L.g) :
    SimL B nt ⟨w', R', fun y => C.lv y ∧ y ∉ ys, C.loc⟩ ⟨st.T, ys.map (fun y => (y, none)) ++ st.H⟩ a := by
  have hlk : ∀ z, look (ys.map (fun y => ((y, none) : Nat × Option Blk)) ++ st.H) z = if z ∈ ys then some none else look st.H z := by
    intro z
    rw [look_append]
    have : ∀ l : List Nat, look (l.map (fun y => ((y, none) : Nat × Option Blk))) z = if z ∈ l then some none else none := by
      intro l
      induction l with
      | nil => simp [look]
      | cons q l ih =>
        rw [List.map_cons, look_cons, ih]
        by_cases e : q = z
        · subst e; simp
        · rw [if_neg e]
          simp only [List.mem_cons, Ne.symm e, false_or]
    rw [this]
    by_cases hz : z ∈ ys
    · simp [hz]
    · simp [hz]
  have tr : Tr C ⟨w', R', fun y => C.lv y ∧ y ∉ ys, C.loc⟩ (fun _ => True) := ⟨fun b hb => hw.block b (h.rlt b hb), hR, fun _ _ hl => ⟨hl.1, rfl⟩⟩
  have hkn : ∀ z o, look st.H z = some o → ∃ o, look (ys.map (fun y => ((y, none) : Nat × Option Blk)) ++ st.H) z = some o := fun z o ho => by
    rw [hlk]
    split
    · exact ⟨_, rfl⟩
    · exact ⟨o, ho⟩
  constructor
  · exact h.size
  · exact h.dfr
  · exact hw.os.trans h.os
  · exact hw.tape.trans h.tape
  · exact hw.output.trans h.output
  · exact Nat.le_trans h.grow hw.size
  · exact fun k hk hm => (hw.block k (Nat.lt_of_lt_of_le hk h.grow)).trans (h.keep k hk hm)
  · exact fun b hb => hR b (h.rsub b hb)
  · exact hRl
  · intro b hb
    rcases hR2 b hb with hb | ⟨y, L, hy, hl, hL, rfl⟩ | hb
    · exact h.rnew b hb
    · exact .inr (hnew y L hl hL hy)
    · exact .inr (Nat.le_trans h.grow hb)
  · intro z
    simp only
    rw [h.lv z, hlk]
    constructor
    · rintro ⟨⟨b, hb⟩, hz⟩
      exact ⟨b, by rw [if_neg hz]; exact hb⟩
    · rintro ⟨b, hb⟩
      split at hb
      · cases hb
      · rename_i hz; exact ⟨⟨b, hb⟩, hz⟩
  · intro t c hc
    obtain ⟨u, hu, hr⟩ := h.tm t c hc
    exact ⟨u, hu, valR_tr tr (fun _ _ => trivial) hr⟩
  · intro z b hb
    simp only at hb
    rw [hlk] at hb
    split at hb
    · cases hb
    · rename_i hz
      obtain ⟨a1, a2⟩ := h.bl z b hb
      refine ⟨blkR_tr tr rfl (fun L hL => hw.block L.g (a2 L hL).2.2) (fun _ _ => trivial) a1, fun L hL => ?_⟩
      obtain ⟨c1, c2, c3⟩ := a2 L hL
      refine ⟨c1, fun hRg => ?_, Nat.lt_of_lt_of_le c3 hw.size⟩
      rcases hR2 _ hRg with hb' | ⟨y, M, hy, hl, hM, e⟩ | hb'
      · exact c2 hb'
      · exact h.dj y z M L hl ((h.lv z).2 ⟨b, hb⟩) hM hL (fun e' => hz (e' ▸ hy)) e
      · omega
  · intro y z L M hy hz
    exact h.dj y z L M hy.1 hz.1
  · intro t c hc z hz
    obtain ⟨o, ho⟩ := h.nmT t c hc z hz
    exact hkn z o ho
  · intro z b hb q hq
    simp only at hb
    rw [hlk] at hb
    split at hb
    · cases hb
    · obtain ⟨o, ho⟩ := h.nmH z b hb q hq
      exact hkn q o ho
  · exact h.pin
/-- what a called function does that writes into the row of whole numbers that it is handed first -/
def CallsM (f : Nat) (l : List Int) (args : List CV) (l' : List Int) : Prop :=
  ∀ (w : World) (R : Nat → Prop) (v0 : Value) (vs : Array Value), (∀ b, R b → b < w.heap.size) → All2 (valR (byV w R)) args vs.toList →
    ((l = [] ∧ ∃ A, v0 = .slice A 0 0) → Calls P f (#[v0] ++ vs) w fun e w' => e = .returned (.tuple #[]) ∧ Below w.heap.size w w') ∧
    (∀ (g c : Nat) (cur : Array Value), v0 = .slice (some ⟨g, 0, none⟩) l.length c → l.length ≤ c → c ≤ maxLen → ¬ R g → g < w.heap.size → w.heap[g]? = some (.cells cur 3 (0, 0)) → cur.size = c →
      (∀ (i : Nat) n, l[i]? = some n → cur[i]? = some (.int .i64 n)) →
      Calls P f (#[v0] ++ vs) w fun e w' => e = .returned (.tuple #[]) ∧ w'.os = w.os ∧ w'.tape = w.tape ∧ w'.output = w.output ∧ w.heap.size ≤ w'.heap.size ∧ (∀ k, k < w.heap.size → k ≠ g → w'.heap[k]? = w.heap[k]?) ∧
        ∃ cur' : Array Value, w'.heap[g]? = some (.cells cur' 3 (0, 0)) ∧ cur'.size = cur.size ∧ ∀ (i : Nat) n, l'[i]? = some n → cur'[i]? = some (.int .i64 n))
def MemOk (msem : Nat → List Int → List CV → Option (Bool × List Int)) : Prop := ∀ f l args l', msem f l args = some (true, l') → CallsM f l args l' ∧ callable f = true

/-- behind an operation that writes -/
def WOut (B : Base) (nt : Nat) (st : St) (a : Act) (c : CV) (H' : Hp) (D : Cx) (v : Value) : Prop :=
  SimL B nt D ⟨st.T, H' ++ st.H⟩ a ∧ valR D c v ∧ ∀ y, y ∈ n2 c → ∃ o, look (H' ++ st.H) y = some o
def Wr (B : Base) (nt : Nat) (st : St) (a : Act) (o : Oper) (w : World) (c : CV) (H' : Hp) : Prop :=
  ∀ (Kc : Act → World → Prop) (Q : Exit → Act → World → Prop), (∀ D v, WOut B nt st a c H' D v → Kc (a.put o.dst v) D.w) → o.wp P a w Kc Q

theorem wp_skip' {o : Oper} {a : Act} {w w' : World} {K : Act → World → Prop} {Q : Exit → Act → World → Prop} (h : (execOp a.eval o).run P w = .ok .skip w') (hk : K (a.put o.dst undef) w') : o.wp P a w K Q := by
  unfold Oper.wp
  rw [h]
  exact hk
theorem run_u (s : Sem Unit) (w : World) {w' : World} (h : s.run P w = .ok () w') : (do s; pure Next.skip : Sem Next).run P w = .ok .skip w' := by
  simp [h]

theorem store_run {t : Nat} {b : Bool} {ks : List CK} (hk : cks t = some (b, ks)) (g q : Nat) (v : Value) (w : World) (cur : Array Value) (t' : TypeId) (hg : w.heap[g]? = some (.cells cur t' (0, 0))) (hl : v.cells.size = ks.length)
    (hf : q + v.cells.size ≤ cur.size) (h1 : ∀ u, u ∈ v.cells.toList → u.oneCell' = true) :
    (Instr.storeAt t (.pointer (some ⟨g, q, none⟩)) v).run P w = .ok () (w.setRow g (cur.toList.take q ++ v.cells.toList ++ cur.toList.drop (q + v.cells.toList.length)).toArray) := by
  have hs := sizeOf_run hk w
  have hst := run_storeCells_at P g q t' v.cells.toList 0 cur w hg (by simpa using hf) h1
  simp only [Nat.add_zero] at hst
  unfold Instr.storeAt storeVar
  simp only [Instr.sureAddr, Sem.run_bind, Sem.run_pure, Result.andThen_ok, hs]
  rw [if_neg (by simp [hl])]
  simpa using hst

theorem cks_pos {t : Nat} {b : Bool} {ks : List CK} (h : cks t = some (b, ks)) : ks.length ≠ 0 := by
  unfold cks at h
  split at h <;> first
    | (cases h; done)
    | (simp only [Option.some.injEq, Prod.mk.injEq] at h
       obtain ⟨-, rfl⟩ := h
       decide)
/-- an element of which some cells were just written -/
theorem elem_cell {C : Cx} {k : SK} {cs : List CV} {e : k.T} (he : k.elem? cs = some e) {vs : List Value} (h : All2 (fun u z => bvR C.w C.R u z ∨ cellR C u z) cs vs) : All2 (bvR C.w C.R) (k.cells e) vs := by
  have ints : ∀ {d : CV} {l : List Int} {v : Value}, ints? d = some l → bvR C.w C.R d v ∨ cellR C d v → bvR C.w C.R (.sl .int l) v := by
    intro d l v hd hv
    unfold ints? at hd
    split at hd
    · cases hd
      rcases hv with hv | ⟨A, rfl⟩
      · exact False.elim hv
      · exact ⟨A, 0, rfl, Nat.le_refl _, fun i u hu => by simp at hu⟩
    · cases hd; exact hv.elim id id
    · cases hd
  unfold SK.elem? at he
  split at he
  · cases he
    match vs, h with
    | [v1], h => exact ⟨h.1.elim id id, trivial⟩
  · cases he
    match vs, h with
    | [v1], h => exact ⟨h.1.elim id id, trivial⟩
  · cases he
    match vs, h with
    | [v1], h => exact ⟨h.1.elim id id, trivial⟩
  · split at he
    · rename_i b n d l hl
      cases he
      match vs, h with
      | [v1, v2, v3], h => exact ⟨h.1.elim id id, h.2.1.elim id id, ints hl h.2.2.1, trivial⟩
    · cases he
  · rename_i n a b c
    split at he
    · cases he
    · rename_i a' ha
      split at he
      · cases he
      · rename_i b' hb
        split at he
        · cases he
        · rename_i c' hc
          cases he
          match vs, h with
          | [v1, v2, v3, v4], h => exact ⟨h.1.elim id id, ints ha h.2.1, ints hb h.2.2.1, ints hc h.2.2.2.1, trivial⟩
  · cases he
    match vs, h with
    | [v1, v2], h => exact ⟨h.1.elim id id, h.2.1.elim id id, trivial⟩
  · cases he
theorem store_box {B : Base} {nt : Nat} {C : Cx} {st : St} {a : Act} (h : SimL B nt C st a) {o : Oper} {t : Nat} {p x : Operand} (ho : o.op = .store t p x) {y q : Nat} {c : CV} (hp : ev 0 st.T p = some (.ptr y q)) (hx : ev t st.T x = some c)
    {b : Bool} {ks : List CK} (hk : cks t = some (b, ks)) (hl : ks.length = c.cells.length) (hc : c.cells.all CV.isC = true) {t' : Nat} {cs : List CV} (hg : get st.H y = some (.cells t' cs)) (hb : q + c.cells.length ≤ cs.length) :
    Wr B nt st a o C.w (.tup []) [(y, some (.cells t' (setAt cs q c.cells)))] := by
  intro Kc Q hK
  obtain ⟨⟨-, hv2⟩, -⟩ := ev_sound h hp
  obtain ⟨hv, hn⟩ := ev_sound h hx
  have hlk := get_some.1 hg
  have hlv : C.lv y := (h.lv y).2 ⟨_, hlk⟩
  obtain ⟨L, hL, he⟩ := hv2 hlv
  obtain ⟨⟨L', hL', cur, ct, hcur, hcs⟩, -⟩ := h.bl y _ hlk
  rw [hL] at hL'; cases hL'
  have hcells := valR_cells hv hc
  have hlen := hcells.length
  simp only [Array.length_toList] at hlen
  have hsz : L.o + cs.length ≤ cur.size := by
    rcases Nat.eq_zero_or_pos cs.length with e | e
    · have : c.cells.length = 0 := by omega
      have h0 : ks.length ≠ 0 := cks_pos hk
      omega
    · obtain ⟨z, hz, -⟩ := hcs (cs.length - 1) _ (List.getElem?_eq_getElem (by omega))
      have := (Array.getElem?_eq_some_iff.1 hz).1
      omega
  have hone : ∀ u, u ∈ (a.eval x).cells.toList → u.oneCell' = true := fun u hu => by
    obtain ⟨i, hi⟩ := List.mem_iff_getElem?.1 hu
    obtain ⟨d, -, hd⟩ := hcells.get' hi
    exact cellR_one hd
  have hr := store_run hk L.g (L.o + q) (a.eval x) C.w cur ct hcur (by omega) (by omega) hone
  suffices hT : blkR ⟨C.w.setRow L.g (cur.toList.take (L.o + q) ++ (a.eval x).cells.toList ++ cur.toList.drop (L.o + q + (a.eval x).cells.toList.length)).toArray, C.R, C.lv, C.loc⟩ y (.cells t' (setAt cs q c.cells)) ∧ ∀ z, z ∈ nB (.cells t' (setAt cs q c.cells)) → ∃ o, look st.H z = some o by
    refine wp_skip' (w' := C.w.setRow L.g _) ?_ (hK ⟨C.w.setRow L.g _, C.R, C.lv, C.loc⟩ undef ⟨h.turn (L := L) (w' := C.w.setRow L.g _) hlk hL rfl rfl rfl (Nat.le_of_eq (setRow_size ..).symm) (fun k _ hk => setRow_other _ _ _ _ hk) hT.1 hT.2, ⟨#[], rfl, trivial⟩, by simp [n2]⟩)
    unfold execOp
    simp only [ho, he]
    exact run_u _ _ hr
  refine ⟨?_, ?_⟩
  · refine ⟨L, hL, _, ct, setRow_heap _ _ _ _ _ _ hcur, fun i u hu => ?_⟩
    have hfit : L.o + q + (a.eval x).cells.toList.length ≤ cur.toList.length := by simp only [Array.length_toList]; omega
    rw [setAt_get _ _ _ _ hb] at hu
    simp only [List.getElem?_toArray]
    rw [splice_get _ _ _ _ hfit]
    have tr : Tr C ⟨C.w.setRow L.g (cur.toList.take (L.o + q) ++ (a.eval x).cells.toList ++ cur.toList.drop (L.o + q + (a.eval x).cells.toList.length)).toArray, C.R, C.lv, C.loc⟩ (fun _ => True) :=
      ⟨fun k hk => setRow_other _ _ _ _ fun e => ((h.bl y _ hlk).2 L hL).2.1 (e ▸ hk), fun _ h => h, fun _ _ hl => ⟨hl, rfl⟩⟩
    by_cases hi : q ≤ i ∧ i < q + c.cells.length
    · rw [if_pos hi] at hu
      obtain ⟨z, hz, hr⟩ := hcells.get hu
      rw [if_pos (by rw [Array.length_toList]; omega)]
      exact ⟨z, by rw [show L.o + i - (L.o + q) = i - q by omega]; exact hz, cellR_tr tr (fun _ _ => trivial) hr⟩
    · rw [if_neg hi] at hu
      obtain ⟨z, hz, hr⟩ := hcs i u hu
      rw [if_neg (by rw [Array.length_toList]; omega)]
      exact ⟨z, by simpa using hz, cellR_tr tr (fun _ _ => trivial) hr⟩
  · intro z hz
    obtain ⟨d, hd, hzd⟩ := List.mem_flatMap.1 hz
    obtain ⟨i, hi⟩ := List.mem_iff_getElem?.1 hd
    rw [setAt_get _ _ _ _ hb] at hi
    split at hi
    · exact hn z (n2_cells hc (List.mem_flatMap.2 ⟨d, List.mem_of_getElem? hi, hzd⟩))
    · exact h.nmH y _ hlk z (List.mem_flatMap.2 ⟨d, List.mem_of_getElem? hi, hzd⟩)

theorem store_row {B : Base} {nt : Nat} {C : Cx} {st : St} {a : Act} (h : SimL B nt C st a) {o : Oper} {t : Nat} {p x : Operand} (ho : o.op = .store t p x) {y i j : Nat} {c : CV} (hp : ev 0 st.T p = some (.pe y i j)) (hx : ev t st.T x = some c)
    {b : Bool} {ks : List CK} (hk : cks t = some (b, ks)) (hl : ks.length = c.cells.length) (hc : c.cells.all CV.isC = true) {ap : Bool} {k : SK} {l : List k.T} (hg : get st.H y = some (.arr ap k l)) {e e' : k.T} (he : l[i]? = some e)
    (hnl : c.cells.all nl0 = true) (hj : j + c.cells.length ≤ k.size) (he' : k.elem? (setAt (k.cells e) j c.cells) = some e') :
    Wr B nt st a o C.w (.tup []) [(y, some (.arr ap k (l.set i e')))] := by
  intro Kc Q hK
  obtain ⟨⟨-, hv2⟩, -⟩ := ev_sound h hp
  obtain ⟨hv, hn⟩ := ev_sound h hx
  have hlk := get_some.1 hg
  have hlv : C.lv y := (h.lv y).2 ⟨_, hlk⟩
  obtain ⟨L, hL, hev⟩ := hv2 hlv
  have hb := (h.bl y _ hlk).1
  simp only [blkR, hL] at hb
  obtain ⟨b1, b2, b3, b4, cur, b5, b6, b7⟩ := hb
  have hcells := valR_cells hv hc
  have hlen := hcells.length
  simp only [Array.length_toList] at hlen
  have hil : i < l.length := (List.getElem?_eq_some_iff.1 he).1
  have hks := k.size_pos
  have hsz : L.o + i * k.size + k.size ≤ cur.size := by
    obtain ⟨z, hz, -⟩ := b7 (i * k.size + (k.size - 1)) _ ((row_get k he (by omega)).trans (List.getElem?_eq_getElem (by rw [SK.cells_len]; omega)))
    have := (Array.getElem?_eq_some_iff.1 hz).1
    omega
  have hone : ∀ u, u ∈ (a.eval x).cells.toList → u.oneCell' = true := fun u hu => by
    obtain ⟨q, hq⟩ := List.mem_iff_getElem?.1 hu
    obtain ⟨d, -, hd⟩ := hcells.get' hq
    exact cellR_one hd
  have hr := store_run hk L.g (L.o + i * L.s + j) (a.eval x) C.w cur k.el b5 (by omega) (by rw [b2]; omega) hone
  suffices hT : blkR ⟨C.w.setRow L.g (cur.toList.take (L.o + i * L.s + j) ++ (a.eval x).cells.toList ++ cur.toList.drop (L.o + i * L.s + j + (a.eval x).cells.toList.length)).toArray, C.R, C.lv, C.loc⟩ y (.arr ap k (l.set i e')) by
    refine wp_skip' (w' := C.w.setRow L.g _) ?_ (hK ⟨C.w.setRow L.g _, C.R, C.lv, C.loc⟩ undef ⟨h.turn (L := L) (w' := C.w.setRow L.g _) hlk hL rfl rfl rfl (Nat.le_of_eq (setRow_size ..).symm) (fun k _ hk => setRow_other _ _ _ _ hk) hT (by simp [nB]), ⟨#[], rfl, trivial⟩, by simp [n2]⟩)
    unfold execOp
    simp only [ho, hev]
    exact run_u _ _ hr
  refine ?_
  · simp only [blkR, hL]
    have hfit : L.o + i * L.s + j + (a.eval x).cells.toList.length ≤ cur.toList.length := by simp only [Array.length_toList]; rw [b2]; omega
    refine ⟨by simp [b1], b2, b3, b4, _, setRow_heap _ _ _ _ _ _ b5, fun hap => ⟨(b6 hap).1, ?_⟩, fun q u hu => ?_⟩
    · have := (b6 hap).2
      simp only [List.size_toArray, List.length_append, List.length_take, List.length_drop, Array.length_toList] at hfit ⊢
      omega
    · have hbv : ∀ {d : CV} {z : Value}, bvR C.w C.R d z → bvR (C.w.setRow L.g (cur.toList.take (L.o + i * L.s + j) ++ (a.eval x).cells.toList ++ cur.toList.drop (L.o + i * L.s + j + (a.eval x).cells.toList.length)).toArray) C.R d z := fun hz =>
        bvR_tr (fun k hk => setRow_other _ _ _ _ fun e => ((h.bl y _ hlk).2 L hL).2.1 (Eq.subst (motive := C.R) e hk)) (fun _ h => h) hz
      have hq : q < l.length * k.size := by
        have := (List.getElem?_eq_some_iff.1 hu).1
        rwa [row_len, List.length_set] at this
      obtain ⟨i', j', hj', rfl⟩ : ∃ i' j', j' < k.size ∧ q = i' * k.size + j' := ⟨q / k.size, q % k.size, Nat.mod_lt _ hks, by rw [Nat.mul_comm]; exact (Nat.div_add_mod q k.size).symm⟩
      have hi' : i' < l.length := by
        rcases Nat.lt_or_ge i' l.length with h | h
        · exact h
        · have := Nat.mul_le_mul_right k.size h
          omega
      simp only [List.getElem?_toArray]
      rw [splice_get _ _ _ _ hfit]
      by_cases hii : i' = i
      · subst hii
        have hset : (l.set i' e')[i']? = some e' := by simp [hi']
        rw [row_get k hset hj'] at hu
        have hold : ∀ q u, (setAt (k.cells e) j c.cells)[q]? = some u → ∃ z, (if L.o + i' * L.s + j ≤ L.o + (i' * k.size + q) ∧ L.o + (i' * k.size + q) < L.o + i' * L.s + j + (a.eval x).cells.toList.length then (a.eval x).cells.toList[L.o + (i' * k.size + q) - (L.o + i' * L.s + j)]? else cur.toList[L.o + (i' * k.size + q)]?) = some z ∧ (bvR C.w C.R u z ∨ cellR C u z) := by
          intro q u hu
          rw [setAt_get _ _ _ _ (by rw [SK.cells_len]; exact hj)] at hu
          rw [b2, Array.length_toList]
          by_cases hqj : j ≤ q ∧ q < j + c.cells.length
          · rw [if_pos hqj] at hu
            obtain ⟨z, hz, hr⟩ := hcells.get hu
            rw [if_pos (by omega)]
            refine ⟨z, by rw [show L.o + (i' * k.size + q) - (L.o + i' * k.size + j) = q - j by omega]; exact hz, .inr hr⟩
          · rw [if_neg hqj] at hu
            rw [if_neg (by omega)]
            have hq : q < k.size := by
              have := (List.getElem?_eq_some_iff.1 hu).1
              rwa [SK.cells_len] at this
            obtain ⟨z, hz, hr⟩ := b7 (i' * k.size + q) u (by rw [row_get k he hq]; exact hu)
            exact ⟨z, by simpa using hz, .inl hr⟩
        generalize hF : (fun q => if L.o + i' * L.s + j ≤ L.o + (i' * k.size + q) ∧ L.o + (i' * k.size + q) < L.o + i' * L.s + j + (a.eval x).cells.toList.length then (a.eval x).cells.toList[L.o + (i' * k.size + q) - (L.o + i' * L.s + j)]? else cur.toList[L.o + (i' * k.size + q)]?) = F at *
        have hold' : ∀ q u, (setAt (k.cells e) j c.cells)[q]? = some u → ∃ z, F q = some z ∧ (bvR C.w C.R u z ∨ cellR C u z) := by rw [← hF]; exact hold
        have hall : All2 (fun u z => bvR C.w C.R u z ∨ cellR C u z) (setAt (k.cells e) j c.cells) ((List.range k.size).map fun q => (F q).getD undef) := by
          refine All2.of (by rw [setAt_len, SK.cells_len]; simp) fun q u z hu hz => ?_
          obtain ⟨z', hz', hr⟩ := hold' q u hu
          have hq : q < k.size := by
            have := (List.getElem?_eq_some_iff.1 hu).1
            rwa [setAt_len, SK.cells_len] at this
          simp only [List.getElem?_map, List.getElem?_range hq, Option.map_some, Option.some.injEq] at hz
          rw [hz'] at hz
          simp only [Option.getD_some] at hz
          subst hz
          exact hr
        obtain ⟨z, hz, hr⟩ := (elem_cell he' hall).get hu
        have hset2 : ∃ z', F j' = some z' := by
          obtain ⟨z', hz', -⟩ := hold' j' _ (List.getElem?_eq_getElem (by rw [setAt_len, SK.cells_len]; exact hj'))
          exact ⟨z', hz'⟩
        obtain ⟨z', hz'⟩ := hset2
        simp only [List.getElem?_map, List.getElem?_range hj', Option.map_some, Option.some.injEq, hz', Option.getD_some] at hz
        subst hz
        exact ⟨z', by rw [← hF] at hz'; exact hz', hbv hr⟩
      · have hset : (l.set i e')[i']? = l[i']? := List.getElem?_set_ne (Ne.symm hii)
        have hge := List.getElem?_eq_getElem hi'
        rw [row_get k (hset.trans hge) hj'] at hu
        obtain ⟨z, hz, hr⟩ := b7 (i' * k.size + j') u (by rw [row_get k hge hj']; exact hu)
        have hout : ¬ (L.o + i * L.s + j ≤ L.o + (i' * k.size + j') ∧ L.o + (i' * k.size + j') < L.o + i * L.s + j + (a.eval x).cells.toList.length) := by
          rw [Array.length_toList, b2]
          intro hh
          rcases Nat.lt_or_gt_of_ne hii with hlt | hgt
          · have := Nat.mul_le_mul_right k.size (show i' + 1 ≤ i from hlt)
            rw [Nat.succ_mul] at this
            omega
          · have := Nat.mul_le_mul_right k.size (show i + 1 ≤ i' from hgt)
            rw [Nat.succ_mul] at this
            omega
        rw [if_neg hout]
        exact ⟨z, by simpa using hz, hbv hr⟩
end Go.Proofs.Ytnfgfdeidkhdkaa.Eng
/- Ek: The engine's soundness, ninth part: appends, copies, calls that write or that keep what they are handed. -/
namespace Go.Proofs.Ytnfgfdeidkhdkaa.Eng
open Go.RowKit (Below)
set_option linter.unusedVariables false
set_option linter.unusedSimpArgs false

theorem Below.keepHeap {C : Cx} : True := trivial
/-- a row of ours is let go, and another one is there -/
theorem SimL.app {B : Base} {nt : Nat} {C : Cx} {st : St} {a : Act} (h : SimL B nt C st a) {x y : Nat} (hx : look st.H x = none) {b0 b : Blk} (hy : look st.H y = some (some b0)) {L : Option Lc} {w' : World}
    (h1 : w'.os = C.w.os) (h2 : w'.tape = C.w.tape) (h3 : w'.output = C.w.output) (h4 : C.w.heap.size ≤ w'.heap.size) (h5 : ∀ k, k < C.w.heap.size → (∀ M, C.loc y = some M → k ≠ M.g) → w'.heap[k]? = C.w.heap[k]?)
    (h6 : ∀ M, L = some M → M.g < w'.heap.size ∧ ((∃ M0, C.loc y = some M0 ∧ M.g = M0.g) ∨ C.w.heap.size ≤ M.g))
    (h7 : blkR ⟨w', C.R, fun z => (C.lv z ∧ z ≠ y) ∨ z = x, fun z => if z = x then L else C.loc z⟩ x b) (h8 : nB b = []) :
    SimL B nt ⟨w', C.R, fun z => (C.lv z ∧ z ≠ y) ∨ z = x, fun z => if z = x then L else C.loc z⟩ ⟨st.T, (x, some b) :: (y, none) :: st.H⟩ a := by
  have hxy : x ≠ y := fun e => by rw [e, hy] at hx; cases hx
  have hlk : ∀ z, look ((x, some b) :: (y, none) :: st.H) z = if x = z then some (some b) else if y = z then some none else look st.H z := fun z => by rw [look_cons, look_cons]
  have hly : C.lv y := (h.lv y).2 ⟨_, hy⟩
  have hRy : ∀ M, C.loc y = some M → ¬ C.R M.g := fun M hM => ((h.bl y _ hy).2 M hM).2.1
  have hkeep : ∀ k, C.R k → w'.heap[k]? = C.w.heap[k]? := fun k hk => h5 k (h.rlt k hk) fun M hM e => hRy M hM (e ▸ hk)
  have hkn : ∀ z o, look st.H z = some o → ∃ o, look ((x, some b) :: (y, none) :: st.H) z = some o := fun z o ho => by
    rw [hlk]
    split
    · exact ⟨_, rfl⟩
    · split
      · exact ⟨_, rfl⟩
      · exact ⟨o, ho⟩
  have tr : Tr C ⟨w', C.R, fun z => (C.lv z ∧ z ≠ y) ∨ z = x, fun z => if z = x then L else C.loc z⟩ (fun z => ∃ o, look st.H z = some o) := by
    refine ⟨hkeep, fun _ h => h, fun z hz hl => ?_⟩
    have hzx : z ≠ x := fun e => by
      obtain ⟨o, ho⟩ := hz
      rw [e, hx] at ho; cases ho
    rcases hl with hl | hl
    · exact ⟨hl.1, by simp [hzx]⟩
    · exact absurd hl hzx
  constructor
  · exact h.size
  · exact h.dfr
  · exact h1.trans h.os
  · exact h2.trans h.tape
  · exact h3.trans h.output
  · exact Nat.le_trans h.grow h4
  · intro k hk hm
    refine (h5 k (Nat.lt_of_lt_of_le hk h.grow) fun M hM e => ?_).trans (h.keep k hk hm)
    subst e
    rcases ((h.bl y _ hy).2 M hM).1 with o | o
    · omega
    · exact hm o
  · exact h.rsub
  · exact fun k hk => Nat.lt_of_lt_of_le (h.rlt k hk) h4
  · exact h.rnew
  · intro z
    simp only
    rw [h.lv z, hlk]
    by_cases e : x = z
    · subst e; simp
    · rw [if_neg e]
      by_cases e2 : y = z
      · subst e2
        simp [Ne.symm e]
      · rw [if_neg e2]
        simp [Ne.symm e, Ne.symm e2]
  · intro t c hc
    obtain ⟨u, hu, hr⟩ := h.tm t c hc
    exact ⟨u, hu, valR_tr tr (fun z hz => h.nmT t c hc z hz) hr⟩
  · intro z b' hb'
    simp only at hb'
    rw [hlk] at hb'
    split at hb'
    · rename_i e
      subst e
      cases hb'
      refine ⟨h7, fun M hM => ?_⟩
      simp only [if_true] at hM
      obtain ⟨q1, q2⟩ := h6 M hM
      rcases q2 with ⟨M0, hM0, e⟩ | q2
      · obtain ⟨c1, c2, c3⟩ := (h.bl y _ hy).2 M0 hM0
        rw [← e] at c1 c2
        exact ⟨c1, c2, q1⟩
      · exact ⟨.inl (Nat.le_trans h.grow q2), fun hR => absurd (h.rlt _ hR) (Nat.not_lt.2 q2), q1⟩
    · split at hb'
      · cases hb'
      · rename_i e e2
        obtain ⟨a1, a2⟩ := h.bl z b' hb'
        have hlz : C.lv z := (h.lv z).2 ⟨_, hb'⟩
        refine ⟨blkR_tr tr (by simp [Ne.symm e]) (fun M hM => h5 M.g (a2 M hM).2.2 fun M0 hM0 e' => h.dj z y M M0 hlz hly hM hM0 (Ne.symm e2) e') (fun q hq => h.nmH z b' hb' q hq) a1, fun M hM => ?_⟩
        simp only [if_neg (Ne.symm e)] at hM
        obtain ⟨c1, c2, c3⟩ := a2 M hM
        exact ⟨c1, c2, Nat.lt_of_lt_of_le c3 h4⟩
  · intro z1 z2 M1 M2 hz1 hz2 hM1 hM2 hne
    simp only at hM1 hM2
    have key : ∀ z M M', (C.lv z ∧ z ≠ y) → L = some M → C.loc z = some M' → M.g ≠ M'.g := fun z M M' hz hM hM' e => by
      rcases (h6 M hM).2 with ⟨M0, hM0, e0⟩ | q2
      · exact h.dj z y M' M0 hz.1 hly hM' hM0 hz.2 (by rw [← e, e0])
      · obtain ⟨bz, hbz⟩ := (h.lv z).1 hz.1
        have := ((h.bl z _ hbz).2 M' hM').2.2
        omega
    by_cases e1 : z1 = x
    · rw [if_pos e1] at hM1
      by_cases e2 : z2 = x
      · exact absurd (e1.trans e2.symm) hne
      · rw [if_neg e2] at hM2
        exact key z2 M1 M2 (hz2.resolve_right e2) hM1 hM2
    · rw [if_neg e1] at hM1
      by_cases e2 : z2 = x
      · rw [if_pos e2] at hM2
        exact (key z1 M2 M1 (hz1.resolve_right e1) hM2 hM1).symm
      · rw [if_neg e2] at hM2
        exact h.dj z1 z2 M1 M2 (hz1.resolve_right e1).1 (hz2.resolve_right e2).1 hM1 hM2 hne
  · intro t c hc z hz
    obtain ⟨o, ho⟩ := h.nmT t c hc z hz
    exact hkn z o ho
  · intro z b' hb' q hq
    simp only at hb'
    rw [hlk] at hb'
    split at hb'
    · cases hb'
      rw [h8] at hq; simp at hq
    · split at hb'
      · cases hb'
      · obtain ⟨o, ho⟩ := h.nmH z b' hb' q hq
        exact hkn q o ho
  · exact h.pin

theorem firstCells_run (s n m c : Nat) (A : Option Addr) (w : World) (cs : List Value) (hl : cs.length = n * s) (hs : 0 < s) (hn : ∀ (j : Nat) u, cs[j]? = some u → ∃ ad, A = some ad ∧ w.cell? (ad.add j) = some u) :
    (Builtin.firstCells s n (.slice A m c)).run P w = .ok cs.toArray w := by
  by_cases h0 : n = 0
  · subst h0
    have : cs = [] := List.eq_nil_of_length_eq_zero (by simpa using hl)
    subst this
    cases A <;> simp [Builtin.firstCells, loadCells, loadCellsFrom]
  · have hA : ∃ ad, A = some ad := by
      have : 0 < cs.length := by rw [hl]; exact Nat.mul_pos (by omega) hs
      obtain ⟨ad, hA, -⟩ := hn 0 _ (List.getElem?_eq_getElem this)
      exact ⟨ad, hA⟩
    obtain ⟨ad, rfl⟩ := hA
    exact run_firstCells_some (P := P) w s n ad m c cs hl fun j u hu => by
      obtain ⟨ad', e, hx⟩ := hn j u hu
      cases e; exact hx
/-- an append to a row -/
theorem append_run (k : SK) (ty : TypeId) (g n c m c' : Nat) (A : Option Addr) (news : List Value) (w : World) (cur : Array Value) (hg : w.heap[g]? = some (.cells cur k.el (0, 0))) (hnc : n ≤ c) (hcm : c ≤ maxLen) (hsz : cur.size = c * k.size)
    (hl : news.length = m * k.size) (hn : ∀ (j : Nat) u, news[j]? = some u → ∃ ad, A = some ad ∧ w.cell? (ad.add j) = some u) (h1 : ∀ u, u ∈ news → u.oneCell' = true) (hb : n + m ≤ 4294967296) :
    ∃ (w' : World) (cur' : Array Value) (g' cap : Nat), (Builtin.append_ #[k.ty, k.ty] ty #[.slice (some ⟨g, 0, none⟩) n c, .slice A m c']).run P w = .ok (.slice (some ⟨g', 0, none⟩) (n + m) cap) w' ∧
      w'.os = w.os ∧ w'.tape = w.tape ∧ w'.output = w.output ∧ w.heap.size ≤ w'.heap.size ∧ (∀ b, b < w.heap.size → b ≠ g → w'.heap[b]? = w.heap[b]?) ∧ (g' = g ∨ w.heap.size ≤ g') ∧ w'.heap[g']? = some (.cells cur' k.el (0, 0)) ∧
      n + m ≤ cap ∧ cap ≤ maxLen ∧ cur'.size = cap * k.size ∧ ∀ j, j < (n + m) * k.size → cur'[j]? = if j < n * k.size then cur[j]? else news[j - n * k.size]? := by
  obtain ⟨i, z, hi, hs, hby, hz, hzs⟩ := SK.info k
  have hsp := k.size_pos
  have hns : n * k.size ≤ c * k.size := Nat.mul_le_mul_right _ hnc
  have hadd : (n + m) * k.size = n * k.size + m * k.size := Nat.add_mul ..
  by_cases hroom : n + m ≤ c
  · have hfit : n * k.size + m * k.size ≤ c * k.size := by rw [← hadd]; exact Nat.mul_le_mul_right _ hroom
    have hfc := firstCells_run k.size m m c' A w news hl hsp hn
    have hst := run_storeCells_at P g (n * k.size) k.el news 0 cur w hg (by simp only [Nat.add_zero]; omega) h1
    simp only [Nat.add_zero] at hst
    obtain ⟨new, hnew⟩ : ∃ new, new = (cur.toList.take (n * k.size) ++ news ++ cur.toList.drop (n * k.size + news.length)).toArray := ⟨_, rfl⟩
    rw [← hnew] at hst
    refine ⟨w.setRow g new, new, g, c, ?_, ?_, ?_, ?_, ?_, fun b _ hb => setRow_other _ _ _ _ hb, .inl rfl, setRow_heap _ _ _ _ _ _ hg, hroom, hcm, ?_, fun j hj => ?_⟩
    · simp [Builtin.append_, run_underlying (SK.under k), sizeOf, typeInfo, hi, hs, Builtin.lenOf, hroom, hfc, Addr.add_lit, hst]
    · rfl
    · rfl
    · rfl
    · simp
    · rw [hnew]
      simp only [List.size_toArray, List.length_append, List.length_take, List.length_drop, Array.length_toList]
      omega
    · rw [hnew]
      simp only [List.getElem?_toArray]
      rw [splice_get _ _ _ _ (by simp only [Array.length_toList]; omega)]
      by_cases hjn : j < n * k.size
      · rw [if_neg (by omega), if_pos hjn]; simp
      · rw [if_pos (by omega), if_neg hjn]
  · have hg0 : c < n + m := by omega
    have hm : m ≠ 0 := by omega
    have hA : ∃ ad, A = some ad := by
      have : 0 < news.length := by rw [hl]; exact Nat.mul_pos (by omega) hsp
      obtain ⟨ad, hA, -⟩ := hn 0 _ (List.getElem?_eq_getElem this)
      exact ⟨ad, hA⟩
    obtain ⟨ad, rfl⟩ := hA
    have hge := grownCap_ge w (n + m) c k.el
    have hcm' := grownCap_le_maxLen w (n + m) c k.el (by unfold maxLen; omega)
    have hol : (cur.toList.take (n * k.size)).length = n * k.size := by simp only [List.length_take, Array.length_toList]; omega
    have hr := run_append_grow (P := P) w k.ty ty k.el i z (SK.under k) hi hz ⟨g, 0, none⟩ n c (cur.toList.take (n * k.size)) (by rw [hs]; exact hol) (fun j v hv => by
      rw [addr_add, Nat.zero_add]
      refine cell_at hg ?_
      rw [List.getElem?_take] at hv
      split at hv
      · simpa using hv
      · cases hv) ad m c' news (by rw [hs]; exact hl) (fun j u hu => by
        obtain ⟨ad', e, hx⟩ := hn j u hu
        cases e; exact hx) hg0 (by omega) (growslice_fits hg0 (Nat.le_trans (Nat.mul_le_mul hb hby) (by decide)))
    refine ⟨_, (cur.toList.take (n * k.size)).toArray ++ news.toArray ++ Builtin.zeroCells z.cells (grownCap w (n + m) c k.el - (n + m)), w.heap.size, _, hr, rfl, rfl, rfl, ?_, fun b hb _ => ?_, .inr (Nat.le_refl _), ?_, hge, hcm', ?_, fun j hj => ?_⟩
    · rw [World.size_alloc]; exact Nat.le_succ _
    · exact alloc_old w.drew _ b hb
    · exact alloc_new w.drew _
    · have h1 : (n + m) * k.size ≤ grownCap w (n + m) c k.el * k.size := Nat.mul_le_mul_right _ hge
      simp only [Array.size_append, List.size_toArray, hl, size_zeroCells, hzs, hol, ← Nat.add_mul]
      rw [Nat.add_sub_cancel' hge]
    · rw [Array.getElem?_append_left (by simp only [Array.size_append, List.size_toArray, hl, hol]; omega)]
      by_cases hjn : j < n * k.size
      · rw [Array.getElem?_append_left (by simp only [List.size_toArray, hol]; exact hjn), if_pos hjn]
        simp [List.getElem?_take, hjn]
      · rw [Array.getElem?_append_right (by simp only [List.size_toArray, hol]; omega), if_neg hjn]
        simp only [List.size_toArray, hol, List.getElem?_toArray]

theorem append_sound {B : Base} {nt : Nat} {C : Cx} {st : St} {a : Act} (h : SimL B nt C st a) {o : Oper} {c : Call} (ho : o.op = .call c) (hc : c.callee = .builtin .append) {x y : Nat} {z : CV} {k : SK} (hs : evs st.T c.args.toList c.argTypes.toList = some [.ref y, z])
    (ht : c.argTypes.toList = [k.ty, k.ty]) {l : List k.T} (hg : get st.H y = some (.arr true k l)) (hx : look st.H x = none) {R : Type} {K : List k.T → Option R} {r : R} (hk : source st.H k z K = some r) :
    ∃ l', K l' = some r ∧ (l.length + l'.length ≤ 4294967296 → Wr B nt st a o C.w (.ref x) [(x, some (.arr true k (l ++ l'))), (y, none)]) := by
  obtain ⟨h1, h2⟩ := evs_sound h hs
  obtain ⟨u, v, e, hu, hv⟩ := list2 h1
  obtain ⟨l', hK, A, cc, rfl, news, hl, hn, hr⟩ := source_R h hk hv
  refine ⟨l', hK, fun hb Kc Q hKc => ?_⟩
  have e1 : c.argTypes = #[k.ty, k.ty] := arr_of ht
  have e2 : c.args.map a.eval = #[u, .slice A l'.length cc] := arr_of (by rw [map_toList]; exact e)
  have hrun : ∀ v w', (Builtin.append_ #[k.ty, k.ty] o.type #[u, .slice A l'.length cc]).run P C.w = .ok v w' → (execOp a.eval o).run P C.w = .ok (.value v) w' := by
    intro v w' hr
    rw [call_run a o c _ ho hc, e1, e2]
    exact run_v _ _ hr
  have hlk := get_some.1 hg
  have hlv : C.lv y := (h.lv y).2 ⟨_, hlk⟩
  have hu2 := hu.2 hlv
  have hbl := (h.bl y _ hlk).1
  have fin : ∀ {w' : World} {L : Option Lc} {v : Value}, (execOp a.eval o).run P C.w = .ok (.value v) w' →
      SimL B nt ⟨w', C.R, fun z => (C.lv z ∧ z ≠ y) ∨ z = x, fun z => if z = x then L else C.loc z⟩ ⟨st.T, (x, some (.arr true k (l ++ l'))) :: (y, none) :: st.H⟩ a →
      ((∃ A n c, v = .slice A n c) ∧ (match L with
      | none => ∃ A, v = .slice A 0 0
      | some L => v = .slice (some ⟨L.g, L.o, none⟩) L.n L.c)) → o.wp P a C.w Kc Q := by
    intro w' L v hr hsim hv
    refine wp_value hr (hKc _ v ⟨hsim, ⟨hv.1, fun _ => ?_⟩, fun q hq => ?_⟩)
    · simp only [if_true]
      cases L <;> exact hv.2
    · simp only [n2, n1, n0, List.mem_singleton] at hq
      subst hq
      exact ⟨some (.arr true k (l ++ l')), by simp [look_cons]⟩
  cases hL : C.loc y with
  | none =>
    rw [hL] at hu2
    simp only [blkR, hL] at hbl
    obtain ⟨A0, rfl⟩ := hu2
    subst hbl
    rcases append_nil_run k o.type A0 A l'.length cc news C.w hl hn (by simp at hb; exact hb) with ⟨h0, hr0⟩ | ⟨w', cur, cap, hr0, a1, a2, a3, a4, a5, a6, a7, a8⟩
    · have hl0 : l' = [] := List.eq_nil_of_length_eq_zero h0
      subst hl0
      exact fin (L := none) (hrun _ _ hr0) (h.app hx hlk rfl rfl rfl (Nat.le_refl _) (fun _ _ _ => rfl) (fun M hM => by cases hM) (by simp [blkR]) rfl) ⟨⟨_, _, _, rfl⟩, ⟨_, rfl⟩⟩
    · have hsz : w'.heap.size = C.w.heap.size + 1 := by rw [a4]; simp
      refine fin (L := some ⟨C.w.heap.size, 0, l'.length, cap, k.size⟩) (hrun _ _ hr0) (h.app hx hlk a1 a2 a3 (by omega) (fun q hq _ => by rw [a4]; simp [Array.getElem?_push, Nat.ne_of_lt hq]) (fun M hM => by
        cases hM; exact ⟨by simp [hsz], .inr (Nat.le_refl _)⟩) ?_ rfl) ⟨⟨_, _, _, rfl⟩, rfl⟩
      simp only [blkR, if_true]
      refine ⟨by simp, trivial, a5, a6, cur, by rw [a4]; simp, fun _ => ⟨trivial, a7⟩, fun j u hj => ?_⟩
      simp only [List.nil_append] at hj
      obtain ⟨y', hy', hr'⟩ := hr.get hj
      refine ⟨y', by rw [Nat.zero_add]; exact a8 j y' hy', bvR_tr (fun b hb => ?_) (fun _ h => h) hr'⟩
      rw [a4]; simp [Array.getElem?_push, Nat.ne_of_lt (h.rlt b hb)]
  | some L =>
    rw [hL] at hu2
    simp only [blkR, hL] at hbl
    obtain ⟨b1, b2, b3, b4, cur, b5, b6, b7⟩ := hbl
    obtain ⟨b61, b62⟩ := b6 trivial
    obtain ⟨g, o', n', c', s'⟩ := L
    simp only at b1 b2 b3 b4 b5 b61 b62 b7 hu2
    subst b1 b2 b61 hu2
    obtain ⟨w', cur', g', cap, hr0, a1, a2, a3, a4, a5, a6, a7, a8, a9, a10, a11⟩ := append_run k o.type g l.length c' l'.length cc A news C.w cur b5 b3 b4 b62 hl hn (All2.one hr) hb
    refine fin (L := some ⟨g', 0, l.length + l'.length, cap, k.size⟩) (hrun _ _ hr0) (h.app hx hlk a1 a2 a3 a4 (fun q hq hM => a5 q hq (hM _ hL)) (fun M hM => by
      cases hM
      exact ⟨(Array.getElem?_eq_some_iff.1 a7).1, a6.imp (fun e => ⟨_, hL, e⟩) id⟩) ?_ rfl) ⟨⟨_, _, _, rfl⟩, rfl⟩
    have hRg : ∀ b, C.R b → w'.heap[b]? = C.w.heap[b]? := fun b hb => a5 b (h.rlt b hb) fun e => ((h.bl y _ hlk).2 _ hL).2.1 (e ▸ hb)
    simp only [blkR, if_true]
    refine ⟨by simp, trivial, a8, a9, cur', a7, fun _ => ⟨trivial, a10⟩, fun j u hj => ?_⟩
    have hjl : j < (l.length + l'.length) * k.size := by
      have := (List.getElem?_eq_some_iff.1 hj).1
      rwa [row_len, List.length_append] at this
    rw [List.flatMap_append] at hj
    rw [Nat.zero_add, a11 j hjl]
    by_cases hjn : j < l.length * k.size
    · rw [if_pos hjn]
      rw [List.getElem?_append_left (by rw [row_len]; exact hjn)] at hj
      obtain ⟨y', hy', hr'⟩ := b7 j u hj
      exact ⟨y', by simpa using hy', bvR_tr hRg (fun _ h => h) hr'⟩
    · rw [if_neg hjn]
      rw [List.getElem?_append_right (by rw [row_len]; omega), row_len] at hj
      obtain ⟨y', hy', hr'⟩ := hr.get hj
      exact ⟨y', hy', bvR_tr hRg (fun _ h => h) hr'⟩
end Go.Proofs.Ytnfgfdeidkhdkaa.Eng
