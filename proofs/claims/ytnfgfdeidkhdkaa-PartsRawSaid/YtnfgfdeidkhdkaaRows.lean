/-
  No cell of these rows narrows 'for every input' (looked for: loops, veiled, ifaces, maps, wideKeys, modest, calm, conditions, laid).
  DERIVED. THE GIVEN ROWS OF THIS SEAT. 14 by the template 'for every input the law returns true; each argument reads behind the call as it read before'; 0 by the template 'total and deterministic' (their statements: YtnfgfdeidkhdkaaTotals.lean).
  GIVEN WITH THE SEED: the statements are not yours to turn. If you find one false, say at which input.
  Laid BY PROGRAM, IN A SANDBOX (cutbox-rows.mjs): the forced cells as the released guide's own fill.sh prints them over the translation 51e4a85d8efac6d1… (all of the seat's roots in one cut). By AI agents, Wed Nov 11 2026. No macro, syntax, notation, axiom, sorry.
-/
import Derived.Test.YtnfgfdeidkhdkaaChecked
import GoSem.Claim
import GoSem.ClaimJoined
import GoSem.ClaimMapViews
import Derived.JoinedTies
import Derived.KernelRfl
namespace Go.Proofs.Ytnfgfdeidkhdkaa
/- THE CELL 'sum', in the pinned program and in every row, IS THE sha256 OF THE DUMP (.gsa) THAT YtnfgfdeidkhdkaaProg.lean LOADS. Nothing in Lean hashes anything: it is a label: what it is worth is what the hold of that sum in a sandbox is worth. -/
noncomputable def Try.pinned : Pinned := { name := "ytnfgfdeidkhdkaa", sum := "51e4a85d8efac6d15029154201a860caee8510563b3357499734be81e8195840", checked := Try.checked }
namespace Rows
def none {H : Type} : Left H := { results := [], args := [] }

/-- 'watershedlaw2.RotPlanes': WHATEVER THE INPUT: true; the input reads as it did. -/
def rotPlanesSpec : ChangeSpec := { name := "rotPlanes", fn := fun _ => fun
  | [d1, d2, d3] => { results := [.lit (.bool true)], args := [d1, d2, d3] }
  | _ => none }
def rotPlanesRow : OpenClaim := { program := "ytnfgfdeidkhdkaa", sum := "51e4a85d8efac6d15029154201a860caee8510563b3357499734be81e8195840", func := "watershed/watershedlaw2.RotPlanes", spec := "rotPlanes", unfollowed := true, recurses := true, apart := false }
def RotPlanesSaid : Prop := rotPlanesRow.holds Try.pinned (OpenSpec.ofChange rotPlanesSpec)

/-- ITS FALSE NEIGHBOUR: 'it returns false'. Refute it at one input. -/
def rotPlanesWrong : ChangeSpec := { name := "rotPlanes", fn := fun _ => fun
  | [d1, d2, d3] => { results := [.lit (.bool false)], args := [d1, d2, d3] }
  | _ => none }
def RotPlanesWrongFalsely : Prop := rotPlanesRow.holds Try.pinned (OpenSpec.ofChange rotPlanesWrong)

/-- 'watershedlaw2.RotChecks': WHATEVER THE INPUT: true; the input reads as it did. -/
def rotChecksSpec : ChangeSpec := { name := "rotChecks", fn := fun _ => fun
  | [d1, d2, d3, d4, d5] => { results := [.lit (.bool true)], args := [d1, d2, d3, d4, d5] }
  | _ => none }
def rotChecksRow : OpenClaim := { program := "ytnfgfdeidkhdkaa", sum := "51e4a85d8efac6d15029154201a860caee8510563b3357499734be81e8195840", func := "watershed/watershedlaw2.RotChecks", spec := "rotChecks", unfollowed := true, recurses := true, apart := false }
def RotChecksSaid : Prop := rotChecksRow.holds Try.pinned (OpenSpec.ofChange rotChecksSpec)

/-- ITS FALSE NEIGHBOUR: 'it returns false'. Refute it at one input. -/
def rotChecksWrong : ChangeSpec := { name := "rotChecks", fn := fun _ => fun
  | [d1, d2, d3, d4, d5] => { results := [.lit (.bool false)], args := [d1, d2, d3, d4, d5] }
  | _ => none }
def RotChecksWrongFalsely : Prop := rotChecksRow.holds Try.pinned (OpenSpec.ofChange rotChecksWrong)

/-- 'watershedlaw2.RotRows': WHATEVER THE INPUT: true; the input reads as it did. -/
def rotRowsSpec : ChangeSpec := { name := "rotRows", fn := fun _ => fun
  | [d1, d2, d3, d4] => { results := [.lit (.bool true)], args := [d1, d2, d3, d4] }
  | _ => none }
def rotRowsRow : OpenClaim := { program := "ytnfgfdeidkhdkaa", sum := "51e4a85d8efac6d15029154201a860caee8510563b3357499734be81e8195840", func := "watershed/watershedlaw2.RotRows", spec := "rotRows", unfollowed := true, recurses := true, apart := false }
def RotRowsSaid : Prop := rotRowsRow.holds Try.pinned (OpenSpec.ofChange rotRowsSpec)

/-- ITS FALSE NEIGHBOUR: 'it returns false'. Refute it at one input. -/
def rotRowsWrong : ChangeSpec := { name := "rotRows", fn := fun _ => fun
  | [d1, d2, d3, d4] => { results := [.lit (.bool false)], args := [d1, d2, d3, d4] }
  | _ => none }
def RotRowsWrongFalsely : Prop := rotRowsRow.holds Try.pinned (OpenSpec.ofChange rotRowsWrong)

/-- 'watershedlaw2.RotParts': WHATEVER THE INPUT: true; the input reads as it did. -/
def rotPartsSpec : ChangeSpec := { name := "rotParts", fn := fun _ => fun
  | [d1, d2, d3, d4] => { results := [.lit (.bool true)], args := [d1, d2, d3, d4] }
  | _ => none }
def rotPartsRow : OpenClaim := { program := "ytnfgfdeidkhdkaa", sum := "51e4a85d8efac6d15029154201a860caee8510563b3357499734be81e8195840", func := "watershed/watershedlaw2.RotParts", spec := "rotParts", unfollowed := true, recurses := true, apart := false }
def RotPartsSaid : Prop := rotPartsRow.holds Try.pinned (OpenSpec.ofChange rotPartsSpec)

/-- ITS FALSE NEIGHBOUR: 'it returns false'. Refute it at one input. -/
def rotPartsWrong : ChangeSpec := { name := "rotParts", fn := fun _ => fun
  | [d1, d2, d3, d4] => { results := [.lit (.bool false)], args := [d1, d2, d3, d4] }
  | _ => none }
def RotPartsWrongFalsely : Prop := rotPartsRow.holds Try.pinned (OpenSpec.ofChange rotPartsWrong)

/-- 'watershedlaw2.RotKnown': WHATEVER THE INPUT: true; the input reads as it did. -/
def rotKnownSpec : ChangeSpec := { name := "rotKnown", fn := fun _ => fun
  | [d] => { results := [.lit (.bool true)], args := [d] }
  | _ => none }
def rotKnownRow : OpenClaim := { program := "ytnfgfdeidkhdkaa", sum := "51e4a85d8efac6d15029154201a860caee8510563b3357499734be81e8195840", func := "watershed/watershedlaw2.RotKnown", spec := "rotKnown", unfollowed := true, recurses := true, apart := false }
def RotKnownSaid : Prop := rotKnownRow.holds Try.pinned (OpenSpec.ofChange rotKnownSpec)

/-- ITS FALSE NEIGHBOUR: 'it returns false'. Refute it at one input. -/
def rotKnownWrong : ChangeSpec := { name := "rotKnown", fn := fun _ => fun
  | [d] => { results := [.lit (.bool false)], args := [d] }
  | _ => none }
def RotKnownWrongFalsely : Prop := rotKnownRow.holds Try.pinned (OpenSpec.ofChange rotKnownWrong)

/-- 'watershedlaw2.RotGrows': WHATEVER THE INPUT: true; the input reads as it did. -/
def rotGrowsSpec : ChangeSpec := { name := "rotGrows", fn := fun _ => fun
  | [d1, d2, d3, d4] => { results := [.lit (.bool true)], args := [d1, d2, d3, d4] }
  | _ => none }
def rotGrowsRow : OpenClaim := { program := "ytnfgfdeidkhdkaa", sum := "51e4a85d8efac6d15029154201a860caee8510563b3357499734be81e8195840", func := "watershed/watershedlaw2.RotGrows", spec := "rotGrows", unfollowed := true, recurses := true, apart := false }
def RotGrowsSaid : Prop := rotGrowsRow.holds Try.pinned (OpenSpec.ofChange rotGrowsSpec)

/-- ITS FALSE NEIGHBOUR: 'it returns false'. Refute it at one input. -/
def rotGrowsWrong : ChangeSpec := { name := "rotGrows", fn := fun _ => fun
  | [d1, d2, d3, d4] => { results := [.lit (.bool false)], args := [d1, d2, d3, d4] }
  | _ => none }
def RotGrowsWrongFalsely : Prop := rotGrowsRow.holds Try.pinned (OpenSpec.ofChange rotGrowsWrong)

/-- 'watershedlaw11.PartsSplit': WHATEVER THE INPUT: true; the input reads as it did. -/
def partsSplitSpec : ChangeSpec := { name := "partsSplit", fn := fun _ => fun
  | [d1, d2, d3, d4] => { results := [.lit (.bool true)], args := [d1, d2, d3, d4] }
  | _ => none }
def partsSplitRow : OpenClaim := { program := "ytnfgfdeidkhdkaa", sum := "51e4a85d8efac6d15029154201a860caee8510563b3357499734be81e8195840", func := "watershed/watershedlaw11.PartsSplit", spec := "partsSplit", unfollowed := true, recurses := true, apart := false }
def PartsSplitSaid : Prop := partsSplitRow.holds Try.pinned (OpenSpec.ofChange partsSplitSpec)

/-- ITS FALSE NEIGHBOUR: 'it returns false'. Refute it at one input. -/
def partsSplitWrong : ChangeSpec := { name := "partsSplit", fn := fun _ => fun
  | [d1, d2, d3, d4] => { results := [.lit (.bool false)], args := [d1, d2, d3, d4] }
  | _ => none }
def PartsSplitWrongFalsely : Prop := partsSplitRow.holds Try.pinned (OpenSpec.ofChange partsSplitWrong)

/-- 'watershedlaw11.PartsJoin': WHATEVER THE INPUT: true; the input reads as it did. -/
def partsJoinSpec : ChangeSpec := { name := "partsJoin", fn := fun _ => fun
  | [d1, d2, d3, d4] => { results := [.lit (.bool true)], args := [d1, d2, d3, d4] }
  | _ => none }
def partsJoinRow : OpenClaim := { program := "ytnfgfdeidkhdkaa", sum := "51e4a85d8efac6d15029154201a860caee8510563b3357499734be81e8195840", func := "watershed/watershedlaw11.PartsJoin", spec := "partsJoin", unfollowed := true, recurses := true, apart := false }
def PartsJoinSaid : Prop := partsJoinRow.holds Try.pinned (OpenSpec.ofChange partsJoinSpec)

/-- ITS FALSE NEIGHBOUR: 'it returns false'. Refute it at one input. -/
def partsJoinWrong : ChangeSpec := { name := "partsJoin", fn := fun _ => fun
  | [d1, d2, d3, d4] => { results := [.lit (.bool false)], args := [d1, d2, d3, d4] }
  | _ => none }
def PartsJoinWrongFalsely : Prop := partsJoinRow.holds Try.pinned (OpenSpec.ofChange partsJoinWrong)

/-- 'watershedlaw11.PartsWays': WHATEVER THE INPUT: true; the input reads as it did. -/
def partsWaysSpec : ChangeSpec := { name := "partsWays", fn := fun _ => fun
  | [d1, d2, d3, d4] => { results := [.lit (.bool true)], args := [d1, d2, d3, d4] }
  | _ => none }
def partsWaysRow : OpenClaim := { program := "ytnfgfdeidkhdkaa", sum := "51e4a85d8efac6d15029154201a860caee8510563b3357499734be81e8195840", func := "watershed/watershedlaw11.PartsWays", spec := "partsWays", unfollowed := true, recurses := true, apart := false }
def PartsWaysSaid : Prop := partsWaysRow.holds Try.pinned (OpenSpec.ofChange partsWaysSpec)

/-- ITS FALSE NEIGHBOUR: 'it returns false'. Refute it at one input. -/
def partsWaysWrong : ChangeSpec := { name := "partsWays", fn := fun _ => fun
  | [d1, d2, d3, d4] => { results := [.lit (.bool false)], args := [d1, d2, d3, d4] }
  | _ => none }
def PartsWaysWrongFalsely : Prop := partsWaysRow.holds Try.pinned (OpenSpec.ofChange partsWaysWrong)

/-- 'watershedlaw11.PartsRaw': WHATEVER THE INPUT: true; the input reads as it did. -/
def partsRawSpec : ChangeSpec := { name := "partsRaw", fn := fun _ => fun
  | [d1, d2, d3, d4] => { results := [.lit (.bool true)], args := [d1, d2, d3, d4] }
  | _ => none }
def partsRawRow : OpenClaim := { program := "ytnfgfdeidkhdkaa", sum := "51e4a85d8efac6d15029154201a860caee8510563b3357499734be81e8195840", func := "watershed/watershedlaw11.PartsRaw", spec := "partsRaw", unfollowed := true, recurses := true, apart := false }
def PartsRawSaid : Prop := partsRawRow.holds Try.pinned (OpenSpec.ofChange partsRawSpec)

/-- ITS FALSE NEIGHBOUR: 'it returns false'. Refute it at one input. -/
def partsRawWrong : ChangeSpec := { name := "partsRaw", fn := fun _ => fun
  | [d1, d2, d3, d4] => { results := [.lit (.bool false)], args := [d1, d2, d3, d4] }
  | _ => none }
def PartsRawWrongFalsely : Prop := partsRawRow.holds Try.pinned (OpenSpec.ofChange partsRawWrong)

/-- 'watershedlaw11.PartsOwn': WHATEVER THE INPUT: true; the input reads as it did. -/
def partsOwnSpec : ChangeSpec := { name := "partsOwn", fn := fun _ => fun
  | [d1, d2, d3, d4] => { results := [.lit (.bool true)], args := [d1, d2, d3, d4] }
  | _ => none }
def partsOwnRow : OpenClaim := { program := "ytnfgfdeidkhdkaa", sum := "51e4a85d8efac6d15029154201a860caee8510563b3357499734be81e8195840", func := "watershed/watershedlaw11.PartsOwn", spec := "partsOwn", unfollowed := true, recurses := true, apart := false }
def PartsOwnSaid : Prop := partsOwnRow.holds Try.pinned (OpenSpec.ofChange partsOwnSpec)

/-- ITS FALSE NEIGHBOUR: 'it returns false'. Refute it at one input. -/
def partsOwnWrong : ChangeSpec := { name := "partsOwn", fn := fun _ => fun
  | [d1, d2, d3, d4] => { results := [.lit (.bool false)], args := [d1, d2, d3, d4] }
  | _ => none }
def PartsOwnWrongFalsely : Prop := partsOwnRow.holds Try.pinned (OpenSpec.ofChange partsOwnWrong)

/-- 'watershedtop.TopHeaps': WHATEVER THE INPUT: true; the input reads as it did. -/
def topHeapsSpec : ChangeSpec := { name := "topHeaps", fn := fun _ => fun
  | [d1, d2] => { results := [.lit (.bool true)], args := [d1, d2] }
  | _ => none }
def topHeapsRow : OpenClaim := { program := "ytnfgfdeidkhdkaa", sum := "51e4a85d8efac6d15029154201a860caee8510563b3357499734be81e8195840", func := "watershed/watershedtop.TopHeaps", spec := "topHeaps", inPlace := ["math.Float64frombits", "math/bits.Add64"], unfollowed := true, recurses := true, apart := false }
def TopHeapsSaid : Prop := topHeapsRow.holds Try.pinned (OpenSpec.ofChange topHeapsSpec)

/-- ITS FALSE NEIGHBOUR: 'it returns false'. Refute it at one input. -/
def topHeapsWrong : ChangeSpec := { name := "topHeaps", fn := fun _ => fun
  | [d1, d2] => { results := [.lit (.bool false)], args := [d1, d2] }
  | _ => none }
def TopHeapsWrongFalsely : Prop := topHeapsRow.holds Try.pinned (OpenSpec.ofChange topHeapsWrong)

/-- 'watershedtop.TopParts': WHATEVER THE INPUT: true; the input reads as it did. -/
def topPartsSpec : ChangeSpec := { name := "topParts", fn := fun _ => fun
  | [d1, d2, d3] => { results := [.lit (.bool true)], args := [d1, d2, d3] }
  | _ => none }
def topPartsRow : OpenClaim := { program := "ytnfgfdeidkhdkaa", sum := "51e4a85d8efac6d15029154201a860caee8510563b3357499734be81e8195840", func := "watershed/watershedtop.TopParts", spec := "topParts", inPlace := ["math.Float64frombits", "math/bits.Add64"], unfollowed := true, recurses := true, apart := false }
def TopPartsSaid : Prop := topPartsRow.holds Try.pinned (OpenSpec.ofChange topPartsSpec)

/-- ITS FALSE NEIGHBOUR: 'it returns false'. Refute it at one input. -/
def topPartsWrong : ChangeSpec := { name := "topParts", fn := fun _ => fun
  | [d1, d2, d3] => { results := [.lit (.bool false)], args := [d1, d2, d3] }
  | _ => none }
def TopPartsWrongFalsely : Prop := topPartsRow.holds Try.pinned (OpenSpec.ofChange topPartsWrong)

/-- 'watershedtop.TopTrees': WHATEVER THE INPUT: true; the input reads as it did. -/
def topTreesSpec : ChangeSpec := { name := "topTrees", fn := fun _ => fun
  | [d1, d2] => { results := [.lit (.bool true)], args := [d1, d2] }
  | _ => none }
def topTreesRow : OpenClaim := { program := "ytnfgfdeidkhdkaa", sum := "51e4a85d8efac6d15029154201a860caee8510563b3357499734be81e8195840", func := "watershed/watershedtop.TopTrees", spec := "topTrees", inPlace := ["math.Float64frombits", "math/bits.Add64"], unfollowed := true, recurses := true, apart := false }
def TopTreesSaid : Prop := topTreesRow.holds Try.pinned (OpenSpec.ofChange topTreesSpec)

/-- ITS FALSE NEIGHBOUR: 'it returns false'. Refute it at one input. -/
def topTreesWrong : ChangeSpec := { name := "topTrees", fn := fun _ => fun
  | [d1, d2] => { results := [.lit (.bool false)], args := [d1, d2] }
  | _ => none }
def TopTreesWrongFalsely : Prop := topTreesRow.holds Try.pinned (OpenSpec.ofChange topTreesWrong)

/- THE SECOND FORM. 'bulk': how many values and letters a reading holds, each counted each time it is reached (what is shared counts as often as it is met; a slice's spare places count too). A statement '..UptoSaid' is the law's where the arguments, and the package variables that the reading takes, are together of bulk at most 1048576: NARROWER than '..Said'. Prove '..Said' where nothing that the law and all that it calls make is longer than what came in: it says more and counts as full. Else prove '..UptoSaid'. A law counts once. -/
mutual
def uptoBulk {H : Type} : DataW H → Nat
  | .lit (.string bytes) => bytes.length + 1
  | .lit _ => 1
  | .nil => 1
  | .ptr d => uptoBulk d + 1
  | .slice elems spare => uptoBulkAll elems + uptoBulkAll spare + 1
  | .agg parts => uptoBulkAll parts + 1
  | .iface _ d => uptoBulk d + 1
  | .map entries => uptoBulkEntries entries + 1
  | .held _ => 1
def uptoBulkAll {H : Type} : List (DataW H) → Nat
  | [] => 0
  | d :: r => uptoBulk d + uptoBulkAll r
def uptoBulkEntries {H : Type} : List (Lit × DataW H) → Nat
  | [] => 0
  | x :: r => uptoBulkEntry x + uptoBulkEntries r
def uptoBulkEntry {H : Type} : Lit × DataW H → Nat
  | (.string bytes, d) => bytes.length + uptoBulk d + 1
  | (_, d) => uptoBulk d + 1
 end
def uptoSmall : (H : Type) → List (DataW H) → Bool := fun _ ds => decide (uptoBulkAll ds ≤ 1048576)
def OpenSpec.upto (s : _root_.Go.ChangeSpec) : _root_.Go.OpenSpec := { _root_.Go.OpenSpec.ofChange s with cond := some uptoSmall }

/-- 'watershedlaw2.RotPlanes', WHERE WHAT IT READS IS OF BULK AT MOST 1048576: true; the input reads as it did. -/
def rotPlanesUptoRow : OpenClaim := { program := "ytnfgfdeidkhdkaa", sum := "51e4a85d8efac6d15029154201a860caee8510563b3357499734be81e8195840", func := "watershed/watershedlaw2.RotPlanes", spec := "rotPlanes", unfollowed := true, recurses := true, apart := false, narrowed := true }
def RotPlanesUptoSaid : Prop := rotPlanesUptoRow.holds Try.pinned (OpenSpec.upto rotPlanesSpec)

/-- 'watershedlaw2.RotChecks', WHERE WHAT IT READS IS OF BULK AT MOST 1048576: true; the input reads as it did. -/
def rotChecksUptoRow : OpenClaim := { program := "ytnfgfdeidkhdkaa", sum := "51e4a85d8efac6d15029154201a860caee8510563b3357499734be81e8195840", func := "watershed/watershedlaw2.RotChecks", spec := "rotChecks", unfollowed := true, recurses := true, apart := false, narrowed := true }
def RotChecksUptoSaid : Prop := rotChecksUptoRow.holds Try.pinned (OpenSpec.upto rotChecksSpec)

/-- 'watershedlaw2.RotRows', WHERE WHAT IT READS IS OF BULK AT MOST 1048576: true; the input reads as it did. -/
def rotRowsUptoRow : OpenClaim := { program := "ytnfgfdeidkhdkaa", sum := "51e4a85d8efac6d15029154201a860caee8510563b3357499734be81e8195840", func := "watershed/watershedlaw2.RotRows", spec := "rotRows", unfollowed := true, recurses := true, apart := false, narrowed := true }
def RotRowsUptoSaid : Prop := rotRowsUptoRow.holds Try.pinned (OpenSpec.upto rotRowsSpec)

/-- 'watershedlaw2.RotParts', WHERE WHAT IT READS IS OF BULK AT MOST 1048576: true; the input reads as it did. -/
def rotPartsUptoRow : OpenClaim := { program := "ytnfgfdeidkhdkaa", sum := "51e4a85d8efac6d15029154201a860caee8510563b3357499734be81e8195840", func := "watershed/watershedlaw2.RotParts", spec := "rotParts", unfollowed := true, recurses := true, apart := false, narrowed := true }
def RotPartsUptoSaid : Prop := rotPartsUptoRow.holds Try.pinned (OpenSpec.upto rotPartsSpec)

/-- 'watershedlaw2.RotKnown', WHERE WHAT IT READS IS OF BULK AT MOST 1048576: true; the input reads as it did. -/
def rotKnownUptoRow : OpenClaim := { program := "ytnfgfdeidkhdkaa", sum := "51e4a85d8efac6d15029154201a860caee8510563b3357499734be81e8195840", func := "watershed/watershedlaw2.RotKnown", spec := "rotKnown", unfollowed := true, recurses := true, apart := false, narrowed := true }
def RotKnownUptoSaid : Prop := rotKnownUptoRow.holds Try.pinned (OpenSpec.upto rotKnownSpec)

/-- 'watershedlaw2.RotGrows', WHERE WHAT IT READS IS OF BULK AT MOST 1048576: true; the input reads as it did. -/
def rotGrowsUptoRow : OpenClaim := { program := "ytnfgfdeidkhdkaa", sum := "51e4a85d8efac6d15029154201a860caee8510563b3357499734be81e8195840", func := "watershed/watershedlaw2.RotGrows", spec := "rotGrows", unfollowed := true, recurses := true, apart := false, narrowed := true }
def RotGrowsUptoSaid : Prop := rotGrowsUptoRow.holds Try.pinned (OpenSpec.upto rotGrowsSpec)

/-- 'watershedlaw11.PartsSplit', WHERE WHAT IT READS IS OF BULK AT MOST 1048576: true; the input reads as it did. -/
def partsSplitUptoRow : OpenClaim := { program := "ytnfgfdeidkhdkaa", sum := "51e4a85d8efac6d15029154201a860caee8510563b3357499734be81e8195840", func := "watershed/watershedlaw11.PartsSplit", spec := "partsSplit", unfollowed := true, recurses := true, apart := false, narrowed := true }
def PartsSplitUptoSaid : Prop := partsSplitUptoRow.holds Try.pinned (OpenSpec.upto partsSplitSpec)

/-- 'watershedlaw11.PartsJoin', WHERE WHAT IT READS IS OF BULK AT MOST 1048576: true; the input reads as it did. -/
def partsJoinUptoRow : OpenClaim := { program := "ytnfgfdeidkhdkaa", sum := "51e4a85d8efac6d15029154201a860caee8510563b3357499734be81e8195840", func := "watershed/watershedlaw11.PartsJoin", spec := "partsJoin", unfollowed := true, recurses := true, apart := false, narrowed := true }
def PartsJoinUptoSaid : Prop := partsJoinUptoRow.holds Try.pinned (OpenSpec.upto partsJoinSpec)

/-- 'watershedlaw11.PartsWays', WHERE WHAT IT READS IS OF BULK AT MOST 1048576: true; the input reads as it did. -/
def partsWaysUptoRow : OpenClaim := { program := "ytnfgfdeidkhdkaa", sum := "51e4a85d8efac6d15029154201a860caee8510563b3357499734be81e8195840", func := "watershed/watershedlaw11.PartsWays", spec := "partsWays", unfollowed := true, recurses := true, apart := false, narrowed := true }
def PartsWaysUptoSaid : Prop := partsWaysUptoRow.holds Try.pinned (OpenSpec.upto partsWaysSpec)

/-- 'watershedlaw11.PartsRaw', WHERE WHAT IT READS IS OF BULK AT MOST 1048576: true; the input reads as it did. -/
def partsRawUptoRow : OpenClaim := { program := "ytnfgfdeidkhdkaa", sum := "51e4a85d8efac6d15029154201a860caee8510563b3357499734be81e8195840", func := "watershed/watershedlaw11.PartsRaw", spec := "partsRaw", unfollowed := true, recurses := true, apart := false, narrowed := true }
def PartsRawUptoSaid : Prop := partsRawUptoRow.holds Try.pinned (OpenSpec.upto partsRawSpec)

/-- 'watershedlaw11.PartsOwn', WHERE WHAT IT READS IS OF BULK AT MOST 1048576: true; the input reads as it did. -/
def partsOwnUptoRow : OpenClaim := { program := "ytnfgfdeidkhdkaa", sum := "51e4a85d8efac6d15029154201a860caee8510563b3357499734be81e8195840", func := "watershed/watershedlaw11.PartsOwn", spec := "partsOwn", unfollowed := true, recurses := true, apart := false, narrowed := true }
def PartsOwnUptoSaid : Prop := partsOwnUptoRow.holds Try.pinned (OpenSpec.upto partsOwnSpec)

/-- 'watershedtop.TopHeaps', WHERE WHAT IT READS IS OF BULK AT MOST 1048576: true; the input reads as it did. -/
def topHeapsUptoRow : OpenClaim := { program := "ytnfgfdeidkhdkaa", sum := "51e4a85d8efac6d15029154201a860caee8510563b3357499734be81e8195840", func := "watershed/watershedtop.TopHeaps", spec := "topHeaps", inPlace := ["math.Float64frombits", "math/bits.Add64"], unfollowed := true, recurses := true, apart := false, narrowed := true }
def TopHeapsUptoSaid : Prop := topHeapsUptoRow.holds Try.pinned (OpenSpec.upto topHeapsSpec)

/-- 'watershedtop.TopParts', WHERE WHAT IT READS IS OF BULK AT MOST 1048576: true; the input reads as it did. -/
def topPartsUptoRow : OpenClaim := { program := "ytnfgfdeidkhdkaa", sum := "51e4a85d8efac6d15029154201a860caee8510563b3357499734be81e8195840", func := "watershed/watershedtop.TopParts", spec := "topParts", inPlace := ["math.Float64frombits", "math/bits.Add64"], unfollowed := true, recurses := true, apart := false, narrowed := true }
def TopPartsUptoSaid : Prop := topPartsUptoRow.holds Try.pinned (OpenSpec.upto topPartsSpec)

/-- 'watershedtop.TopTrees', WHERE WHAT IT READS IS OF BULK AT MOST 1048576: true; the input reads as it did. -/
def topTreesUptoRow : OpenClaim := { program := "ytnfgfdeidkhdkaa", sum := "51e4a85d8efac6d15029154201a860caee8510563b3357499734be81e8195840", func := "watershed/watershedtop.TopTrees", spec := "topTrees", inPlace := ["math.Float64frombits", "math/bits.Add64"], unfollowed := true, recurses := true, apart := false, narrowed := true }
def TopTreesUptoSaid : Prop := topTreesUptoRow.holds Try.pinned (OpenSpec.upto topTreesSpec)

end Rows
end Go.Proofs.Ytnfgfdeidkhdkaa
