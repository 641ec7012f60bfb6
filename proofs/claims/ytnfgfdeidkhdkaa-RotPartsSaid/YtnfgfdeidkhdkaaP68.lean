/- watershed/watershedref1.Round: its run from loop to loop, as Lean printed it (a program of this session's wrote these rows). No condition. -/
import Derived.Test.YtnfgfdeidkhdkaaGd
import Derived.Test.YtnfgfdeidkhdkaaP104
namespace Go.Proofs.Ytnfgfdeidkhdkaa.Eng
set_option linter.unusedVariables false
set_option maxRecDepth 100000
noncomputable def ents68 : List (Nat × Ent) := [(104, ent104)]
noncomputable def mems68 : List (Nat × EntM) := []
noncomputable def E68 (fu : Nat) : Env := ⟨109, 0, semOf ents68, [], memOf mems68, [], [(100002, ⟨[], [(1, none), (2, none), (3, none), (3, some 0), (3, some 1), (3, some 2), (3, some 3), (6, none), (6, some 0), (6, some 1), (6, some 2), (6, some 3), (8, none)], [1, 2, 3, 6, 8]⟩), (100007, ⟨[], [(1, none), (2, none), (3, none), (3, some 0), (3, some 1), (3, some 2), (3, some 3), (6, none), (6, some 0), (6, some 1), (6, some 2), (6, some 3), (9, none)], [1, 2, 3, 6, 9]⟩), (100012, ⟨[], [(1, none), (2, none), (3, none), (3, some 0), (3, some 1), (3, some 2), (3, some 3), (6, none), (6, some 0), (6, some 1), (6, some 2), (6, some 3), (10, none)], [1, 2, 3, 6, 10]⟩), (100018, ⟨[], [(2, none), (3, none), (3, some 0), (3, some 1), (3, some 2), (3, some 3), (6, none), (6, some 0), (6, some 1), (6, some 2), (6, some 3), (11, none)], [2, 3, 6, 11]⟩)], fu⟩
theorem fuel68 : Fuel E68 := fun _ => rfl
noncomputable def kr68 : St → Option CV := endK false Try.f68.results.toList
noncomputable def K68_2 : List Fr := theK Try.f68 100002
noncomputable def C68_2 : Code := theC Try.f68 100002
def s68_2 (i1 : Int) (l2 : List Int) (i8 : Int) (iM0_0 : Int) (lM0_1 : List Int) (lM0_2 : List Int) (lM0_3 : List Int) (iM1_0 : Int) (lM1_1 : List Int) (lM1_2 : List Int) (lM1_3 : List Int) : St := ⟨[(1, .int .i64 i1), (2, .sl .int l2), (3, .ptr 8000 0), (6, .ptr 8001 0), (8, .int .i64 i8)], [(8000, some (.cells 25 [.int .i64 iM0_0, .sl .int lM0_1, .sl .int lM0_2, .sl .int lM0_3])), (8001, some (.cells 25 [.int .i64 iM1_0, .sl .int lM1_1, .sl .int lM1_2, .sl .int lM1_3]))]⟩
noncomputable def a68_2 (i1 : Int) (l2 : List Int) (i8 : Int) (iM0_0 : Int) (lM0_1 : List Int) (lM0_2 : List Int) (lM0_3 : List Int) (iM1_0 : Int) (lM1_1 : List Int) (lM1_2 : List Int) (lM1_3 : List Int) : Leaf := .at K68_2 C68_2 (s68_2 i1 l2 i8 iM0_0 lM0_1 lM0_2 lM0_3 iM1_0 lM1_1 lM1_2 lM1_3)
noncomputable def K68_7 : List Fr := theK Try.f68 100007
noncomputable def C68_7 : Code := theC Try.f68 100007
def s68_7 (i1 : Int) (l2 : List Int) (i9 : Int) (iM0_0 : Int) (lM0_1 : List Int) (lM0_2 : List Int) (lM0_3 : List Int) (iM1_0 : Int) (lM1_1 : List Int) (lM1_2 : List Int) (lM1_3 : List Int) : St := ⟨[(1, .int .i64 i1), (2, .sl .int l2), (3, .ptr 8000 0), (6, .ptr 8001 0), (9, .int .i64 i9)], [(8000, some (.cells 25 [.int .i64 iM0_0, .sl .int lM0_1, .sl .int lM0_2, .sl .int lM0_3])), (8001, some (.cells 25 [.int .i64 iM1_0, .sl .int lM1_1, .sl .int lM1_2, .sl .int lM1_3]))]⟩
noncomputable def a68_7 (i1 : Int) (l2 : List Int) (i9 : Int) (iM0_0 : Int) (lM0_1 : List Int) (lM0_2 : List Int) (lM0_3 : List Int) (iM1_0 : Int) (lM1_1 : List Int) (lM1_2 : List Int) (lM1_3 : List Int) : Leaf := .at K68_7 C68_7 (s68_7 i1 l2 i9 iM0_0 lM0_1 lM0_2 lM0_3 iM1_0 lM1_1 lM1_2 lM1_3)
noncomputable def K68_12 : List Fr := theK Try.f68 100012
noncomputable def C68_12 : Code := theC Try.f68 100012
def s68_12 (i1 : Int) (l2 : List Int) (i10 : Int) (iM0_0 : Int) (lM0_1 : List Int) (lM0_2 : List Int) (lM0_3 : List Int) (iM1_0 : Int) (lM1_1 : List Int) (lM1_2 : List Int) (lM1_3 : List Int) : St := ⟨[(1, .int .i64 i1), (2, .sl .int l2), (3, .ptr 8000 0), (6, .ptr 8001 0), (10, .int .i64 i10)], [(8000, some (.cells 25 [.int .i64 iM0_0, .sl .int lM0_1, .sl .int lM0_2, .sl .int lM0_3])), (8001, some (.cells 25 [.int .i64 iM1_0, .sl .int lM1_1, .sl .int lM1_2, .sl .int lM1_3]))]⟩
noncomputable def a68_12 (i1 : Int) (l2 : List Int) (i10 : Int) (iM0_0 : Int) (lM0_1 : List Int) (lM0_2 : List Int) (lM0_3 : List Int) (iM1_0 : Int) (lM1_1 : List Int) (lM1_2 : List Int) (lM1_3 : List Int) : Leaf := .at K68_12 C68_12 (s68_12 i1 l2 i10 iM0_0 lM0_1 lM0_2 lM0_3 iM1_0 lM1_1 lM1_2 lM1_3)
noncomputable def K68_18 : List Fr := theK Try.f68 100018
noncomputable def C68_18 : Code := theC Try.f68 100018
def s68_18 (l2 : List Int) (i11 : Int) (iM0_0 : Int) (lM0_1 : List Int) (lM0_3 : List Int) (mM1 : List Int) (iM2_0 : Int) (lM2_1 : List Int) (lM2_2 : List Int) (lM2_3 : List Int) : St := ⟨[(2, .sl .int l2), (3, .ptr 8000 0), (6, .ptr 8002 0), (11, .int .i64 i11)], [(8000, some (.cells 25 [.int .i64 iM0_0, .sl .int lM0_1, .ref 8001, .sl .int lM0_3])), (8001, some (.arr true .int mM1)), (8002, some (.cells 25 [.int .i64 iM2_0, .sl .int lM2_1, .sl .int lM2_2, .sl .int lM2_3]))]⟩
noncomputable def a68_18 (l2 : List Int) (i11 : Int) (iM0_0 : Int) (lM0_1 : List Int) (lM0_3 : List Int) (mM1 : List Int) (iM2_0 : Int) (lM2_1 : List Int) (lM2_2 : List Int) (lM2_3 : List Int) : Leaf := .at K68_18 C68_18 (s68_18 l2 i11 iM0_0 lM0_1 lM0_3 mM1 iM2_0 lM2_1 lM2_2 lM2_3)
noncomputable def t68_2 (i1 : Int) (l2 : List Int) (i8 : Int) (iM0_0 : Int) (lM0_1 : List Int) (lM0_2 : List Int) (lM0_3 : List Int) (iM1_0 : Int) (lM1_1 : List Int) (lM1_2 : List Int) (lM1_3 : List Int) : Option Leaf :=
  bif Decidable.decide (i8 < (↑(List.length l2) : Int)) then
   bif Decidable.decide ((0 : Int) ≤ i8) then
    ob (l2[Int.toNat i8]?) fun x1 =>
     bif Decidable.decide (x1 < (0 : Int)) then
      some (.ret (CV.tup [CV.agg [CV.int IntKind.i64 iM0_0, CV.sl SK.int lM0_1, CV.sl SK.int lM0_2, CV.sl SK.int lM0_3], CV.int IntKind.i64 (5 : Int)]))
     else
      bif Decidable.decide ((0 : Int) ≤ i8) then
       ob (l2[Int.toNat i8]?) fun x2 =>
        bif Decidable.decide ((↑(List.length lM0_1) : Int) ≤ x2) then
         some (.ret (CV.tup [CV.agg [CV.int IntKind.i64 iM0_0, CV.sl SK.int lM0_1, CV.sl SK.int lM0_2, CV.sl SK.int lM0_3], CV.int IntKind.i64 (5 : Int)]))
        else
         bif Decidable.decide ((0 : Int) ≤ i8) then
          ob (l2[Int.toNat i8]?) fun x3 =>
           bif Decidable.decide ((0 : Int) ≤ x3) then
            ob (lM0_1[Int.toNat x3]?) fun x4 =>
             bif !Decidable.decide (x4 = i1) then
              some (.ret (CV.tup [CV.agg [CV.int IntKind.i64 iM0_0, CV.sl SK.int lM0_1, CV.sl SK.int lM0_2, CV.sl SK.int lM0_3], CV.int IntKind.i64 (5 : Int)]))
             else
              some (a68_2 i1 l2 (IntKind.wrap IntKind.i64 (i8 + (1 : Int))) iM0_0 lM0_1 lM0_2 lM0_3 iM1_0 lM1_1 lM1_2 lM1_3)
           else
            none
         else
          none
      else
       none
   else
    none
  else
   some (a68_7 i1 l2 ((0 : Int)) iM0_0 lM0_1 lM0_2 lM0_3 iM1_0 lM1_1 lM1_2 lM1_3)
theorem c68_2 (fu : Nat) (i1 : Int) (l2 : List Int) (i8 : Int) (iM0_0 : Int) (lM0_1 : List Int) (lM0_2 : List Int) (lM0_3 : List Int) (iM1_0 : Int) (lM1_1 : List Int) (lM1_2 : List Int) (lM1_3 : List Int) : cutL (E68 fu) kr68 K68_2 C68_2 (s68_2 i1 l2 i8 iM0_0 lM0_1 lM0_2 lM0_3 iM1_0 lM1_1 lM1_2 lM1_3) = t68_2 i1 l2 i8 iM0_0 lM0_1 lM0_2 lM0_3 iM1_0 lM1_1 lM1_2 lM1_3 := by kernel_rfl
theorem h68_2 (i1 : Int) (l2 : List Int) (i8 : Int) (iM0_0 : Int) (lM0_1 : List Int) (lM0_2 : List Int) (lM0_3 : List Int) (iM1_0 : Int) (lM1_1 : List Int) (lM1_2 : List Int) (lM1_3 : List Int) (r : CV) (h : Good E68 kr68 (t68_2 i1 l2 i8 iM0_0 lM0_1 lM0_2 lM0_3 iM1_0 lM1_1 lM1_2 lM1_3) r) : Lead E68 kr68 r (a68_2 i1 l2 i8 iM0_0 lM0_1 lM0_2 lM0_3 iM1_0 lM1_1 lM1_2 lM1_3) := Lead.at fuel68 (fun fu => c68_2 fu i1 l2 i8 iM0_0 lM0_1 lM0_2 lM0_3 iM1_0 lM1_1 lM1_2 lM1_3) h
noncomputable def t68_7 (i1 : Int) (l2 : List Int) (i9 : Int) (iM0_0 : Int) (lM0_1 : List Int) (lM0_2 : List Int) (lM0_3 : List Int) (iM1_0 : Int) (lM1_1 : List Int) (lM1_2 : List Int) (lM1_3 : List Int) : Option Leaf :=
  bif Decidable.decide (i9 < (↑(List.length l2) : Int)) then
   bif Decidable.decide ((0 : Int) ≤ i9) then
    bif Decidable.decide (i9 ≤ (↑(List.length l2) : Int)) then
     bif Decidable.decide ((0 : Int) ≤ i9) then
      ob (l2[Int.toNat i9]?) fun x5 =>
       bif ok104 (List.take (Int.toNat i9 - Int.toNat (0 : Int)) (List.drop (Int.toNat (0 : Int)) l2)) x5 then
        bif v104 (List.take (Int.toNat i9 - Int.toNat (0 : Int)) (List.drop (Int.toNat (0 : Int)) l2)) x5 then
         some (.ret (CV.tup [CV.agg [CV.int IntKind.i64 iM0_0, CV.sl SK.int lM0_1, CV.sl SK.int lM0_2, CV.sl SK.int lM0_3], CV.int IntKind.i64 (6 : Int)]))
        else
         some (a68_7 i1 l2 (IntKind.wrap IntKind.i64 (i9 + (1 : Int))) iM0_0 lM0_1 lM0_2 lM0_3 iM1_0 lM1_1 lM1_2 lM1_3)
       else
        none
     else
      none
    else
     none
   else
    none
  else
   some (a68_12 i1 l2 ((0 : Int)) iM0_0 lM0_1 lM0_2 lM0_3 iM1_0 lM1_1 lM1_2 lM1_3)
theorem c68_7 (fu : Nat) (i1 : Int) (l2 : List Int) (i9 : Int) (iM0_0 : Int) (lM0_1 : List Int) (lM0_2 : List Int) (lM0_3 : List Int) (iM1_0 : Int) (lM1_1 : List Int) (lM1_2 : List Int) (lM1_3 : List Int) : cutL (E68 fu) kr68 K68_7 C68_7 (s68_7 i1 l2 i9 iM0_0 lM0_1 lM0_2 lM0_3 iM1_0 lM1_1 lM1_2 lM1_3) = t68_7 i1 l2 i9 iM0_0 lM0_1 lM0_2 lM0_3 iM1_0 lM1_1 lM1_2 lM1_3 := by kernel_rfl
theorem h68_7 (i1 : Int) (l2 : List Int) (i9 : Int) (iM0_0 : Int) (lM0_1 : List Int) (lM0_2 : List Int) (lM0_3 : List Int) (iM1_0 : Int) (lM1_1 : List Int) (lM1_2 : List Int) (lM1_3 : List Int) (r : CV) (h : Good E68 kr68 (t68_7 i1 l2 i9 iM0_0 lM0_1 lM0_2 lM0_3 iM1_0 lM1_1 lM1_2 lM1_3) r) : Lead E68 kr68 r (a68_7 i1 l2 i9 iM0_0 lM0_1 lM0_2 lM0_3 iM1_0 lM1_1 lM1_2 lM1_3) := Lead.at fuel68 (fun fu => c68_7 fu i1 l2 i9 iM0_0 lM0_1 lM0_2 lM0_3 iM1_0 lM1_1 lM1_2 lM1_3) h
noncomputable def t68_12 (i1 : Int) (l2 : List Int) (i10 : Int) (iM0_0 : Int) (lM0_1 : List Int) (lM0_2 : List Int) (lM0_3 : List Int) (iM1_0 : Int) (lM1_1 : List Int) (lM1_2 : List Int) (lM1_3 : List Int) : Option Leaf :=
  bif Decidable.decide (i10 < (↑(List.length lM0_1) : Int)) then
   bif Decidable.decide ((0 : Int) ≤ i10) then
    ob (lM0_1[Int.toNat i10]?) fun x6 =>
     bif Decidable.decide (x6 = i1) then
      bif ok104 l2 i10 then
       bif !v104 l2 i10 then
        some (.ret (CV.tup [CV.agg [CV.int IntKind.i64 iM0_0, CV.sl SK.int lM0_1, CV.sl SK.int lM0_2, CV.sl SK.int lM0_3], CV.int IntKind.i64 (6 : Int)]))
       else
        some (a68_12 i1 l2 (IntKind.wrap IntKind.i64 (i10 + (1 : Int))) iM0_0 lM0_1 lM0_2 lM0_3 iM1_0 lM1_1 lM1_2 lM1_3)
      else
       none
     else
      some (a68_12 i1 l2 (IntKind.wrap IntKind.i64 (i10 + (1 : Int))) iM0_0 lM0_1 lM0_2 lM0_3 iM1_0 lM1_1 lM1_2 lM1_3)
   else
    none
  else
   bif Nat.ble (List.length lM0_2) (4294967296 : Nat) then
    some (a68_18 l2 ((0 : Int)) iM0_0 lM0_1 lM0_3 lM0_2 iM1_0 lM1_1 lM1_2 lM1_3)
   else
    none
theorem c68_12 (fu : Nat) (i1 : Int) (l2 : List Int) (i10 : Int) (iM0_0 : Int) (lM0_1 : List Int) (lM0_2 : List Int) (lM0_3 : List Int) (iM1_0 : Int) (lM1_1 : List Int) (lM1_2 : List Int) (lM1_3 : List Int) : cutL (E68 fu) kr68 K68_12 C68_12 (s68_12 i1 l2 i10 iM0_0 lM0_1 lM0_2 lM0_3 iM1_0 lM1_1 lM1_2 lM1_3) = t68_12 i1 l2 i10 iM0_0 lM0_1 lM0_2 lM0_3 iM1_0 lM1_1 lM1_2 lM1_3 := by kernel_rfl
theorem h68_12 (i1 : Int) (l2 : List Int) (i10 : Int) (iM0_0 : Int) (lM0_1 : List Int) (lM0_2 : List Int) (lM0_3 : List Int) (iM1_0 : Int) (lM1_1 : List Int) (lM1_2 : List Int) (lM1_3 : List Int) (r : CV) (h : Good E68 kr68 (t68_12 i1 l2 i10 iM0_0 lM0_1 lM0_2 lM0_3 iM1_0 lM1_1 lM1_2 lM1_3) r) : Lead E68 kr68 r (a68_12 i1 l2 i10 iM0_0 lM0_1 lM0_2 lM0_3 iM1_0 lM1_1 lM1_2 lM1_3) := Lead.at fuel68 (fun fu => c68_12 fu i1 l2 i10 iM0_0 lM0_1 lM0_2 lM0_3 iM1_0 lM1_1 lM1_2 lM1_3) h
noncomputable def t68_18 (l2 : List Int) (i11 : Int) (iM0_0 : Int) (lM0_1 : List Int) (lM0_3 : List Int) (mM1 : List Int) (iM2_0 : Int) (lM2_1 : List Int) (lM2_2 : List Int) (lM2_3 : List Int) : Option Leaf :=
  bif Decidable.decide (i11 < (↑(List.length l2) : Int)) then
   bif Decidable.decide ((0 : Int) ≤ i11) then
    ob (l2[Int.toNat i11]?) fun x7 =>
     bif Decidable.decide ((↑(List.length l2) : Int) = (0 : Int)) then
      none
     else
      bif Decidable.decide ((0 : Int) ≤ Int.tmod (IntKind.wrap IntKind.i64 (i11 + (1 : Int))) (↑(List.length l2) : Int)) then
       ob (l2[Int.toNat (Int.tmod (IntKind.wrap IntKind.i64 (i11 + (1 : Int))) (↑(List.length l2) : Int))]?) fun x8 =>
        bif Decidable.decide ((0 : Int) ≤ x7) then
         bif Decidable.decide (x7 < (↑(List.length mM1) : Int)) then
          ob (mM1[Int.toNat x7]?) fun x9 =>
           some (a68_18 l2 (IntKind.wrap IntKind.i64 (i11 + (1 : Int))) iM0_0 lM0_1 lM0_3 (List.set mM1 (Int.toNat x7) x8) iM2_0 lM2_1 lM2_2 lM2_3)
         else
          none
        else
         none
      else
       none
   else
    none
  else
   some (.ret (CV.tup [CV.agg [CV.int IntKind.i64 iM0_0, CV.sl SK.int lM0_1, CV.sl SK.int mM1, CV.sl SK.int lM0_3], CV.int IntKind.i64 (0 : Int)]))
theorem c68_18 (fu : Nat) (l2 : List Int) (i11 : Int) (iM0_0 : Int) (lM0_1 : List Int) (lM0_3 : List Int) (mM1 : List Int) (iM2_0 : Int) (lM2_1 : List Int) (lM2_2 : List Int) (lM2_3 : List Int) : cutL (E68 fu) kr68 K68_18 C68_18 (s68_18 l2 i11 iM0_0 lM0_1 lM0_3 mM1 iM2_0 lM2_1 lM2_2 lM2_3) = t68_18 l2 i11 iM0_0 lM0_1 lM0_3 mM1 iM2_0 lM2_1 lM2_2 lM2_3 := by kernel_rfl
theorem h68_18 (l2 : List Int) (i11 : Int) (iM0_0 : Int) (lM0_1 : List Int) (lM0_3 : List Int) (mM1 : List Int) (iM2_0 : Int) (lM2_1 : List Int) (lM2_2 : List Int) (lM2_3 : List Int) (r : CV) (h : Good E68 kr68 (t68_18 l2 i11 iM0_0 lM0_1 lM0_3 mM1 iM2_0 lM2_1 lM2_2 lM2_3) r) : Lead E68 kr68 r (a68_18 l2 i11 iM0_0 lM0_1 lM0_3 mM1 iM2_0 lM2_1 lM2_2 lM2_3) := Lead.at fuel68 (fun fu => c68_18 fu l2 i11 iM0_0 lM0_1 lM0_3 mM1 iM2_0 lM2_1 lM2_2 lM2_3) h
noncomputable def t68 (gN : Int) (gT : List Int) (gX : List Int) (gC : List Int) (v : Int) (l : List Int) : Option Leaf :=
  some (a68_2 v l ((0 : Int)) gN gT gX gC ((0 : Int)) [] [] [])
theorem c68 (fu : Nat) (gN : Int) (gT : List Int) (gX : List Int) (gC : List Int) (v : Int) (l : List Int) : cutB (E68 fu) kr68 Try.f68 (⟨parT 0 [.agg [.int .i64 gN, .sl .int gT, .sl .int gX, .sl .int gC], .int .i64 v, .sl .int l], []⟩) = t68 gN gT gX gC v l := by kernel_rfl
def R68 (gN : Int) (gT : List Int) (gX : List Int) (gC : List Int) (v : Int) (l : List Int) (r : NetV × Int) : Prop := RunF E68 false Try.f68 [.agg [.int .i64 gN, .sl .int gT, .sl .int gX, .sl .int gC], .int .i64 v, .sl .int l] (.tup [.agg [.int .i64 r.1.N, .sl .int r.1.T, .sl .int r.1.X, .sl .int r.1.C], .int .i64 r.2])
theorem run68 (gN : Int) (gT : List Int) (gX : List Int) (gC : List Int) (v : Int) (l : List Int) (r : NetV × Int) (h : Good E68 kr68 (t68 gN gT gX gC v l) (.tup [.agg [.int .i64 r.1.N, .sl .int r.1.T, .sl .int r.1.X, .sl .int r.1.C], .int .i64 r.2])) : R68 gN gT gX gC v l r := RunF.of fuel68 (fun fu => c68 fu gN gT gX gC v l) h
noncomputable def ok68 (gN : Int) (gT : List Int) (gX : List Int) (gC : List Int) (v : Int) (l : List Int) : Bool := okP (R68 gN gT gX gC v l)
noncomputable def v68 (gN : Int) (gT : List Int) (gX : List Int) (gC : List Int) (v : Int) (l : List Int) : NetV × Int := valP (R68 gN gT gX gC v l)
theorem sp68 (gN : Int) (gT : List Int) (gX : List Int) (gC : List Int) (v : Int) (l : List Int) (r : NetV × Int) (h : R68 gN gT gX gC v l r) : ok68 gN gT gX gC v l = true ∧ v68 gN gT gX gC v l = r := okP_of h fun b hb => by
  have := RunF.uniq hb h
  rcases b with ⟨⟨_, _, _, _⟩, _⟩; rcases r with ⟨⟨_, _, _, _⟩, _⟩; simp_all
theorem at68 : P.funcs[68]? = some Try.f68 := by kernel_rfl
theorem callable68 : callable 68 = true := by kernel_rfl
theorem semok68 : SemOk (semOf ents68) := EntsOk.sem (.cons entok104 (.nil))
theorem memok68 : MemOk (memOf mems68) := EntsMOk.mem (.nil)
noncomputable def ent68 : Ent := fun args => match args with
  | [.agg [.int .i64 gN, .sl .int gT, .sl .int gX, .sl .int gC], .int .i64 v, .sl .int l] => some (false, ok68 gN gT gX gC v l, .tup [.agg [.int .i64 (v68 gN gT gX gC v l).1.N, .sl .int (v68 gN gT gX gC v l).1.T, .sl .int (v68 gN gT gX gC v l).1.X, .sl .int (v68 gN gT gX gC v l).1.C], .int .i64 (v68 gN gT gX gC v l).2])
  | _ => none
theorem entok68 : EntOk 68 ent68 := fun args own r h => by
  unfold ent68 at h
  split at h
  · simp only [Option.some.injEq, Prod.mk.injEq] at h
    obtain ⟨rfl, h, rfl⟩ := h
    exact ⟨RunF.calls (fun _ => semok68) (fun _ => memok68) at68 rfl (Nat.le_of_ble_eq_true rfl) (fun _ => rfl) (okP_val h), callable68⟩
  · cases h
end Go.Proofs.Ytnfgfdeidkhdkaa.Eng
