/- The engine, second part: operations that write, regions in one order, code, points at which what is not wanted any more is forgotten, functions. -/
import Derived.Test.YtnfgfdeidkhdkaaEa
import Derived.Orders
namespace Go.Proofs.Ytnfgfdeidkhdkaa.Eng

/-- what is forgotten at a region's begin, and what is kept: 'thaw': a slice that is still nil becomes an empty row of the call's own (the tmp; the place of a cell behind it); 'src': the blocks that are kept; 'live': the tmps -/
structure Ann where
  thaw : List (Nat × Option Nat × SK)
  src : List (Nat × Option Nat)
  live : List Nat

/-- a function's surroundings: how many tmps, the least that is written, what is called, which calls let go of what they are handed, which write into the row that they are handed first, the points, the rounds -/
structure Env where
  nt : Nat
  low : Nat
  sem : Sems
  kill : List Nat
  msem : Nat → List Int → List CV → Option (Bool × List Int)
  wrs : List Nat
  pts : List (Nat × Ann)
  fuel : Nat

abbrev Hp := List (Nat × Option Blk)
/-- what an operation turns: tmps, blocks -/
structure U where
  T : List (Nat × CV)
  H : Hp
def St.app (st : St) (u : U) : St := ⟨u.T ++ st.T, u.H ++ st.H⟩

def nm0 : CV → List Nat
  | .ref x => [x]
  | .win x _ _ => [x]
  | _ => []
/-- it is no pointer -/
def npt : CV → Bool
  | .ptr _ _ => false
  | .pe _ _ _ => false
  | _ => true
/-- the boxes that a closure holds -/
def nmf (H : Hp) : List CV → Option (List Nat)
  | [] => some []
  | c :: cs => match nmf H cs with
    | none => none
    | some ys => match c with
      | .ptr x _ => match get H x with
        | some (.cells _ ds) => bif ds.all nl0 then some (x :: ys) else none
        | _ => none
      | c => bif nl1 c then some ys else none
def nms (H : Hp) : List CV → Option (List Nat)
  | [] => some []
  | v :: vs => match nms H vs with
    | none => none
    | some ys => match v with
      | .agg cs => bif cs.all npt then some (cs.flatMap nm0 ++ ys) else none
      | .ptr _ _ => none
      | .pe _ _ _ => none
      | .fn _ cs => match nmf H cs with | some zs => some (zs ++ ys) | none => none
      | .tup _ => none
      | v => some (nm0 v ++ ys)

/-- the rows that a written-out row's elements name -/
def nmE (T : List (Nat × CV)) (k : SK) (ps : List (Nat × Operand)) : List Nat := ps.flatMap fun p => match ev k.el T p.2 with
  | some v => v.cells.flatMap nm0
  | none => []
def wop {R : Type} (E : Env) (o : Op) (x : Nat) (st : St) (K : CV → Hp → Option R) : Option R :=
  match o with
  | .store t a v => match ev 0 st.T a with
    | none => none
    | some a => match ev t st.T v with
      | none => none
      | some v => match cks t with
        | none => none
        | some (_, ks) => bif Nat.beq ks.length v.cells.length && v.cells.all CV.isC then
            (match a with
            | .ptr y o => match get st.H y with
              | some (.cells t' cs) => bif Nat.ble (o + v.cells.length) cs.length then K (.tup []) [(y, some (.cells t' (setAt cs o v.cells)))] else none
              | _ => none
            | .pe y i j => match get st.H y with
              | some (.arr ap k l) => match l[i]? with
                | none => none
                | some e => bif v.cells.all nl0 && Nat.ble (j + v.cells.length) k.size then
                    (match k.elem? (setAt (k.cells e) j v.cells) with
                    | some e => K (.tup []) [(y, some (.arr ap k (l.set i e)))]
                    | none => none) else none
              | _ => none
            | _ => none) else none
  | .buildSlice t n parts => match kindOf t with
    | none => none
    | some k => bif Nat.beq parts.size n && !Nat.beq n 0 && Nat.beq E.low 0 && Nat.ble n 1000 then
        (match elemsF (bv0 st.H) st.T k 0 parts.toList with
        | some l => K (.ref x) ((x, some (.arr true k l)) :: (nmE st.T k parts.toList).map fun y => (y, none))
        | none => none) else none
  | .slice t s none (some hi) (some mx) => match ev t st.T s with
    | some (.ref y) => match get st.H y with
      | some (.arr _ k l) => match ev 3 st.T hi with
        | some (.int _ b) => match ev 3 st.T mx with
          | some (.int _ m) => bif Nat.beq k.ty t && decide (b = (l.length : Int)) && decide (m = (l.length : Int)) then K (.ref x) [(x, some (.arr false k l)), (y, none)] else none
          | _ => none
        | _ => none
      | _ => none
    | _ => none
  | .call c => match c.callee with
    | .builtin .append => match evs st.T c.args.toList c.argTypes.toList with
      | some [.ref y, z] => match c.argTypes.toList with
        | [t, t'] => match get st.H y with
          | some (.arr true k l) => bif Nat.beq t k.ty && Nat.beq t' k.ty then
              source st.H k z fun l' => bif Nat.ble (l.length + l'.length) 4294967296 then K (.ref x) [(x, some (.arr true k (l ++ l'))), (y, none)] else none
            else none
          | _ => none
        | _ => none
      | _ => none
    | .builtin .copy => match evs st.T c.args.toList c.argTypes.toList with
      | some [d, z] => match c.argTypes.toList with
       | [t, _] => match d with
        | .ref y => match get st.H y with
          | some (.arr ap k l) => bif !(Nat.beq k.size 1 && Nat.beq t k.ty) then none else source st.H k z fun l' =>
              K (.int .i64 ((min l.length l'.length : Nat) : Int)) [(y, some (.arr ap k (l'.take (min l.length l'.length) ++ l.drop (min l.length l'.length))))]
          | _ => none
        | .win y off len => match get st.H y with
          | some (.arr ap k l) => bif !(Nat.beq k.size 1 && Nat.beq t k.ty) then none else source st.H k z fun l' =>
              bif decide (off + len ≤ l.length) then
                K (.int .i64 ((min len l'.length : Nat) : Int)) [(y, some (.arr ap k (l.take off ++ l'.take (min len l'.length) ++ l.drop (off + min len l'.length))))]
              else none
          | _ => none
        | _ => none
       | _ => none
      | _ => none
    | .value (.func f) => match evs st.T c.args.toList c.argTypes.toList with
      | none => none
      | some us =>
        bif E.wrs.contains f then
          (match us with
          | .ref y :: us => match get st.H y with
            | some (.arr true .int l) => match bvs (bv2 st.H) us with
              | none => none
              | some vs => match nms st.H us with
                | none => none
                | some ys => bif ys.contains y then none else
                  (match E.msem f l vs with
                  | some (g, l') => bif g && decide (l'.length = l.length) then K (.tup []) [(y, some (.arr true .int l'))] else none
                  | none => none)
            | _ => none
          | _ => none)
        else (match bvs (bv2 st.H) us with
          | none => none
          | some vs => match nms st.H us with
            | none => none
            | some ys => match E.sem f vs with
              | some (false, g, r) => bif g then K r (ys.map fun y => (y, none)) else none
              | _ => none)
    | _ => none
  | _ => none

def nameB : Nat → List Blk → Hp
  | _, [] => []
  | x, b :: bs => (x, some b) :: nameB (x + 1) bs
def freshB (H : Hp) : Nat → List Blk → Bool
  | _, [] => true
  | x, _ :: bs => (match look H x with | none => true | _ => false) && freshB H (x + 1) bs
/-- does the operation write? -/
def isW (E : Env) (o : Op) (T : List (Nat × CV)) : Bool :=
  match o with
  | .store .. => true
  | .slice _ _ none (some _) (some _) => true
  | .buildSlice t n _ => (Nat.beq t 34 || Nat.beq t 53) && !Nat.beq n 0
  | .call c => match c.callee with
    | .builtin .append => match evs T c.args.toList c.argTypes.toList with
      | some (.nil _ :: _) => false
      | _ => true
    | .builtin .copy => true
    | .value (.func f) => E.wrs.contains f || E.kill.contains f
    | _ => false
  | _ => false
def isApp : Op → Bool
  | .buildSlice t n _ => (Nat.beq t 34 || Nat.beq t 53) && !Nat.beq n 0
  | .slice _ _ none (some _) (some _) => true
  | .call c => match c.callee with
    | .builtin .append => true
    | _ => false
  | _ => false
/-- one operation, its guard not looked at -/
def op1 {R : Type} (E : Env) (o : Oper) (st : St) (K : U → Option R) : Option R :=
  match o.dst with
  | some d => bif Nat.blt d E.nt && Nat.ble E.low d then
      (bif isW E o.op st.T then wop E o.op (8 * d) st fun v H => (bif !isApp o.op || (look st.H (8 * d)).isNone then K ⟨[(d, v)], H⟩ else none)
       else quiet E.sem o.op o.type (8 * d) st fun v bs => bif freshB st.H (8 * d) bs && Nat.ble bs.length 8 then K ⟨[(d, v)], nameB (8 * d) bs⟩ else none)
      else none
  | none => bif isW E o.op st.T && !isApp o.op then wop E o.op 0 st (fun _ H => K ⟨[], H⟩) else none
/-- what is left of an operation that is not wanted -/
def skipU {R : Type} (E : Env) (o : Oper) (K : U → Option R) : Option R :=
  match o.dst with
  | some d => bif Nat.blt d E.nt && Nat.ble E.low d then K ⟨[(d, .tup [])], []⟩ else none
  | none => K ⟨[], []⟩
/-- one operation of a region, with its guard -/
def opG {R : Type} (E : Env) (ops : Array Oper) (o : Oper) (st : St) (K : U → Option R) : Option R :=
  match o.guard with
  | none => op1 E o st K
  | some (g, want) => match (ops[g]?).bind (·.dst) with
    | none => none
    | some d => match look st.T d with
      | some (.bool b) => bif b == want then op1 E o st K else skipU E o K
      | some (.tup []) => skipU E o K
      | _ => none
/-- a truth that others wait for is told apart at once -/
def splitK {R : Type} (g : Bool) (u : U) (K : U → Option R) : Option R :=
  match g, u with
  | true, ⟨[(d, .bool b)], []⟩ => bif b then K ⟨[(d, .bool true)], []⟩ else K ⟨[(d, .bool false)], []⟩
  | _, u => K u
def guards (ops : Array Oper) : List Nat := ops.toList.filterMap fun p => match p.guard with | some (g, _) => (ops[g]?).bind (·.dst) | none => none
def isG (gs : List Nat) (o : Oper) : Bool := match o.dst with | some d => gs.contains d | none => false
def opS {R : Type} (E : Env) (ops : Array Oper) (gs : List Nat) (o : Oper) (st : St) (K : U → Option R) : Option R :=
  opG E ops o st fun u => splitK (isG gs o) u K
/-- a region in the text's order -/
def seqK {R : Type} (E : Env) (ops : Array Oper) (gs : List Nat) : List Oper → St → (St → Option R) → Option R
  | [], st, K => K st
  | o :: os, st, K => opS E ops gs o st fun u => seqK E ops gs os (st.app u) K

/-! ### regions whose order is open -/
def befStep (acc : List (List Nat)) (o : Oper) : List (List Nat) :=
  acc ++ [o.after.toList.flatMap fun e => bif Region.binds .any e then e.on :: (acc[e.on]?).getD [] else []]
def befs (os : List Oper) : List (List Nat) := os.foldl befStep []
def bef (B : List (List Nat)) (i : Nat) : List Nat := (B[i]?).getD []
def ord (B : List (List Nat)) (i j : Nat) : Bool := (bef B i).contains j || (bef B j).contains i
def readsOf (ops : Array Oper) (o : Oper) : List Nat :=
  (o.op.operands.toList.filterMap fun x => match x with | .tmp t => some t | _ => none) ++
  (match o.guard with | some (g, _) => (match (ops[g]?).bind (·.dst) with | some d => [d] | none => []) | none => [])
def noHeap : Op → Bool
  | .move _ => true
  | .assign _ => true
  | .pick .. => true
  | .binOp .. => true
  | .unOp .. => true
  | .extract .. => true
  | .fieldAddr .. => true
  | _ => false
def isLoad : Op → Bool
  | .load .. => true
  | _ => false
def isStore : Op → Bool
  | .store .. => true
  | _ => false
def hideArr (H : Hp) : Hp := H.map fun p => match p with | (x, some (.arr _ _ _)) => (x, none) | p => p
/-- what operation i may see: what it reads of the tmps; blocks, but for those that a store may turn whose order to it is open -/
def view (ops : Array Oper) (os : List Oper) (B : List (List Nat)) (i : Nat) (o : Oper) (st : St) : St :=
  ⟨st.T.filter fun p => (readsOf ops o).contains p.1,
   bif noHeap o.op then [] else
   bif isLoad o.op && (List.range os.length).any (fun j => !Nat.beq j i && !ord B i j && (match os[j]? with | some p => isStore p.op | none => false)) then hideArr st.H else st.H⟩
def appAll (st : St) : List (Nat × U) → St
  | [] => st
  | u :: us => appAll (st.app u.2) us
def viewAt (ops : Array Oper) (os : List Oper) (B : List (List Nat)) (base : St) (us : List (Nat × U)) (i : Nat) (o : Oper) : St :=
  view ops os B i o (appAll base (us.filter fun u => (bef B i).contains u.1))
/-- what binds lies ahead -/
def backOk (os : List Oper) : Bool := os.zipIdx.all fun p => p.1.after.toList.all fun e => !Region.binds .any e || Nat.blt e.on p.2
/-- the region's own form: no two operations write one tmp; none reads what another one writes whose order to it is open -/
def statOk (ops : Array Oper) (os : List Oper) (B : List (List Nat)) : Bool :=
  backOk os && (os.zipIdx.all fun p => match p.1.dst with
    | none => true
    | some d => os.zipIdx.all fun q => Nat.beq p.2 q.2 || ((match q.1.dst with | some e => !Nat.beq d e | none => true) && (ord B p.2 q.2 || !(readsOf ops q.1).contains d)))
/-- blocks that were there and are turned by an operation whose order to another one is open: the other one has not seen them -/
def segOk (ops : Array Oper) (os : List Oper) (B : List (List Nat)) (base : St) (us : List (Nat × U)) : Bool :=
  us.all fun u => u.2.H.all fun h => us.all fun w => Nat.beq u.1 w.1 || ord B u.1 w.1 ||
    ((match os[w.1]? with | some o => (match get (viewAt ops os B base us w.1 o).H h.1 with | none => true | some _ => false) | none => false) && w.2.H.all fun k => !Nat.beq k.1 h.1)
def drawK {R : Type} (E : Env) (ops : Array Oper) (os : List Oper) (gs : List Nat) (B : List (List Nat)) : List (Nat × Oper) → St → List (Nat × U) → (St → Option R) → Option R
  | [], base, us, K => bif segOk ops os B base us then K (appAll base us) else none
  | (i, o) :: rest, base, us, K => opS E ops gs o (viewAt ops os B base us i o) fun u => drawK E ops os gs B rest base (us ++ [(i, u)]) K

/-! ### forgetting -/
def thaw1 (st : St) (a : Nat × Option Nat × SK) : St :=
  match a with
  | (t, none, k) => match look st.T t with
    | some (.nil k') => bif decide (k' = k) then (match look st.H (16000 + t) with
        | none => ⟨(t, .ref (16000 + t)) :: st.T, (16000 + t, some (.arr true k [])) :: st.H⟩
        | some _ => st) else st
    | _ => st
  | (t, some j, k) => match look st.T t with
    | some (.ptr x 0) => match get st.H x with
      | some (.cells t' cs) => match cs[j]? with
        | some (.nil k') => bif decide (k' = k) then (match look st.H (24000 + 64 * t + j) with
            | none => ⟨st.T, (x, some (.cells t' (cs.set j (.ref (24000 + 64 * t + j))))) :: (24000 + 64 * t + j, some (.arr true k [])) :: st.H⟩
            | some _ => st) else st
        | _ => st
      | _ => st
    | _ => st
def srcOf (st : St) (a : Nat × Option Nat) : Option Nat :=
  match a with
  | (t, none) => match look st.T t with
    | some (.ref x) => some x
    | some (.win x _ _) => some x
    | some (.ptr x _) => some x
    | some (.pe x _ _) => some x
    | _ => none
  | (t, some j) => match look st.T t with
    | some (.ptr x _) => match get st.H x with
      | some (.cells _ cs) => match cs[j]? with
        | some (.ref y) => some y
        | some (.win y _ _) => some y
        | _ => none
      | _ => none
    | _ => none
def srcs (st : St) : List (Nat × Option Nat) → Option (List Nat)
  | [] => some []
  | a :: l => match srcOf st a with
    | none => srcs st l
    | some x => match srcs st l with
      | none => none
      | some xs => bif xs.contains x then some xs else some (x :: xs)
/-- the new name of a block that is kept -/
def ren : Nat → List Nat → Nat → Option Nat
  | _, [], _ => none
  | n, y :: ys, x => bif Nat.beq y x then some n else ren (n + 1) ys x
def rnC (xs : List Nat) : CV → Option CV
  | .ref x => match ren 8000 xs x with | some y => some (.ref y) | none => none
  | .win x o l => match ren 8000 xs x with | some y => some (.win y o l) | none => none
  | .int k n => some (.int k n)
  | .bool b => some (.bool b)
  | .nil k => some (.sl k [])
  | .sl k l => some (.sl k l)
  | _ => none
def rn0 (xs : List Nat) : CV → Option CV
  | .ref x => match ren 8000 xs x with | some y => some (.ref y) | none => none
  | .win x o l => match ren 8000 xs x with | some y => some (.win y o l) | none => none
  | .ptr x o => match ren 8000 xs x with | some y => some (.ptr y o) | none => none
  | .pe x i j => match ren 8000 xs x with | some y => some (.pe y i j) | none => none
  | .agg cs => match bvs (rnC xs) cs with | some cs => some (.agg cs) | none => none
  | .tup _ => none
  | .fn _ _ => none
  | .nil k => some (.sl k [])
  | v => some v
def rnT (xs : List Nat) : CV → Option CV
  | .fn f cs => bif cs.all nl1 then some (.fn f cs) else none
  | v => rn0 xs v
def rnB (xs : List Nat) : Option Blk → Option (Option Blk)
  | some (.arr ap k l) => some (some (.arr ap k l))
  | some (.cells t cs) => match bvs (rn0 xs) cs with | some cs => some (some (.cells t cs)) | none => none
  | none => none
def keepT (st : St) (xs : List Nat) : List Nat → Option (List (Nat × CV))
  | [] => some []
  | t :: ts => match look st.T t with
    | none => keepT st xs ts
    | some v => match rnT xs v with
      | none => none
      | some v => match keepT st xs ts with
        | none => none
        | some r => some ((t, v) :: r)
def keepH (st : St) (xs : List Nat) : Nat → List Nat → Option Hp
  | _, [] => some []
  | n, y :: ys => match rnB xs (get st.H y) with
    | none => none
    | some b => match keepH st xs (n + 1) ys with
      | none => none
      | some r => some ((n, b) :: r)
def norm {R : Type} (a : Ann) (st : St) (K : St → Option R) : Option R :=
  match srcs (a.thaw.foldl thaw1 st) a.src with
  | none => none
  | some xs => match keepT (a.thaw.foldl thaw1 st) xs a.live with
    | none => none
    | some T => match keepH (a.thaw.foldl thaw1 st) xs 8000 xs with
      | none => none
      | some H => K ⟨T, H⟩

/-! ### code -/
def regK {R : Type} (E : Env) (ops : Array Oper) (draw : Bool) (st : St) (K : St → Option R) : Option R :=
  match draw with
  | false => seqK E ops (guards ops) ops.toList st K
  | true => bif statOk ops ops.toList (befs ops.toList) then drawK E ops ops.toList (guards ops) (befs ops.toList) (ops.toList.zipIdx.map fun p => (p.2, p.1)) st [] K else none
/-- a loop's own number: its first region's, and a hundred thousand -/
def loopId : Code → Nat
  | .region id _ _ => 100000 + id
  | .seq a _ => loopId a
  | .block _ c => loopId c
  | .scope c => loopId c
  | _ => 99999
def normL {R : Type} (E : Env) (c : Code) (st : St) (K : St → Option R) : Option R :=
  match look E.pts (loopId c) with
  | none => K st
  | some a => norm a st K
def loopK {R : Type} (nrm : St → (St → Option R) → Option R) (body : (St → Option R) → St → Option R) : Nat → St → Option R
  | 0, _ => none
  | n + 1, st => nrm st (body (loopK nrm body n))
def exK {R : Type} (E : Env) : Code → (St → Option R) → (Nat → St → Option R) → (St → Option R) → St → Option R
  | .skip, kn, _, _, st => kn st
  | .region id ops draw, kn, _, _, st => match look E.pts id with
    | none => regK E ops draw st kn
    | some a => norm a st fun st => regK E ops draw st kn
  | .seq a b, kn, ke, kr, st => exK E a (fun st => exK E b kn ke kr st) ke kr st
  | .cond c a b, kn, ke, kr, st => match ev 4 st.T c with
    | some (.bool t) => bif t then exK E a kn ke kr st else exK E b kn ke kr st
    | _ => none
  | .block id c, kn, ke, kr, st => exK E c kn (fun i st => bif Nat.beq i id then kn st else ke i st) kr st
  | .loop c, _, ke, kr, st => loopK (normL E c) (fun again st => exK E c again ke kr st) E.fuel st
  | .exit id, _, ke, _, st => ke id st
  | .scope c, kn, ke, kr, st => exK E c kn ke kr st
  | .label _, kn, _, _, st => kn st
  | .ret, _, _, kr, st => kr st
  | _, _, _, _, _ => none

/-! ### a function -/
def resOf (st : St) : ResultVar → Option CV
  | .tmp t => look st.T t
  | .cell a t => match look st.T a with
    | some p => loadK t st.H p some
    | none => none
def ress (st : St) : List ResultVar → Option (List CV)
  | [] => some []
  | r :: rs => match resOf st r with
    | none => none
    | some v => match ress st rs with
      | none => none
      | some vs => some (v :: vs)
def oneOf : List CV → CV
  | [v] => v
  | vs => .tup vs
/-- its elements are of plain numbers -/
def SK.plain : SK → Bool
  | .part => false
  | .net => false
  | _ => true
/-- handed back as the callee's own: slices are blocks of its own, no block twice -/
def out0 (H : Hp) (seen : List Nat) : CV → Option (CV × List Nat)
  | .nil k => bif k.plain then some (.sl k [], seen) else none
  | .ref x => bif seen.contains x then none else (match get H x with | some (.arr _ k l) => bif k.plain then some (.sl k l, x :: seen) else none | _ => none)
  | .int k n => some (.int k n, seen)
  | .bool b => some (.bool b, seen)
  | .flt b => some (.flt b, seen)
  | _ => none
def outs (f : List Nat → CV → Option (CV × List Nat)) (seen : List Nat) : List CV → Option (List CV × List Nat)
  | [] => some ([], seen)
  | v :: vs => match f seen v with
    | none => none
    | some (v, seen) => match outs f seen vs with
      | none => none
      | some (vs, seen) => some (v :: vs, seen)
def out1 (H : Hp) (seen : List Nat) : CV → Option (CV × List Nat)
  | .agg cs => match outs (out0 H) seen cs with | some (cs, seen) => some (.agg cs, seen) | none => none
  | v => out0 H seen v
def out2 (H : Hp) : CV → Option CV
  | .tup cs => match outs (out1 H) [] cs with | some (cs, _) => some (.tup cs) | none => none
  | v => match out1 H [] v with | some (v, _) => some v | none => none
/-- the function's end: 'own': what is handed back is new memory -/
def endK (own : Bool) (rs : List ResultVar) (st : St) : Option CV :=
  match ress st rs with
  | none => none
  | some vs => match own with
    | true => out2 st.H (oneOf vs)
    | false => bv2 st.H (oneOf vs)
def parT : Nat → List CV → List (Nat × CV)
  | _, [] => []
  | i, v :: vs => (i, v) :: parT (i + 1) vs
def runF (E : Env) (own : Bool) (fn : Func) (args : List CV) : Option CV :=
  match fn.body with
  | none => none
  | some c => exK E c (endK own fn.results.toList) (fun _ _ => none) (endK own fn.results.toList) ⟨parT 0 args, []⟩
/-- a function that writes into the row that it is handed first -/
def endM (st : St) : Option (List Int) :=
  match look st.T 0 with
  | some (.ref y) => match get st.H y with
    | some (.arr true .int l) => some l
    | _ => none
  | _ => none
def runM (E : Env) (fn : Func) (l : List Int) (args : List CV) : Option (List Int) :=
  match fn.body with
  | none => none
  | some c => exK E c endM (fun _ _ => none) endM ⟨parT 0 (.ref 90000 :: args), [(90000, some (.arr true .int l))]⟩
end Go.Proofs.Ytnfgfdeidkhdkaa.Eng
