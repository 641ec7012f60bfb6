/- watershed/watershedlaw1.Make: its run from loop to loop, as Lean printed it (a program of this session's wrote these rows). No condition. -/
import Derived.Test.YtnfgfdeidkhdkaaGd
import Derived.Test.YtnfgfdeidkhdkaaP64
import Derived.Test.YtnfgfdeidkhdkaaP66
import Derived.Test.YtnfgfdeidkhdkaaP67
import Derived.Test.YtnfgfdeidkhdkaaP68
namespace Go.Proofs.Ytnfgfdeidkhdkaa.Eng
set_option linter.unusedVariables false
set_option maxRecDepth 100000
noncomputable def ents19 : List (Nat × Ent) := [(64, ent64), (66, ent66), (67, ent67), (68, ent68)]
noncomputable def mems19 : List (Nat × EntM) := []
noncomputable def E19 (fu : Nat) : Env := ⟨119, 0, semOf ents19, [67, 68], memOf mems19, [], [(100003, ⟨[], [(1, none), (4, none), (4, some 0), (4, some 1), (4, some 2), (4, some 3), (5, none), (5, some 0), (5, some 1), (5, some 2), (5, some 3), (6, none)], [1, 4, 5, 6]⟩), (100008, ⟨[], [(1, none), (4, none), (4, some 0), (4, some 1), (4, some 2), (4, some 3), (5, none), (5, some 0), (5, some 1), (5, some 2), (5, some 3), (8, none)], [1, 4, 5, 8]⟩), (100012, ⟨[(9, none, .int)], [(1, none), (4, none), (4, some 0), (4, some 1), (4, some 2), (4, some 3), (5, none), (5, some 0), (5, some 1), (5, some 2), (5, some 3), (8, none), (9, none), (10, none)], [1, 4, 5, 8, 9, 10]⟩)], fu⟩
theorem fuel19 : Fuel E19 := fun _ => rfl
noncomputable def kr19 : St → Option CV := endK false Try.f19.results.toList
noncomputable def K19_3 : List Fr := theK Try.f19 100003
noncomputable def C19_3 : Code := theC Try.f19 100003
def s19_3 (l1 : List Int) (i6 : Int) (iM0_0 : Int) (lM0_1 : List Int) (lM0_2 : List Int) (lM0_3 : List Int) (iM1_0 : Int) (lM1_1 : List Int) (lM1_2 : List Int) (lM1_3 : List Int) : St := ⟨[(1, .sl .int l1), (4, .ptr 8000 0), (5, .ptr 8001 0), (6, .int .i64 i6)], [(8000, some (.cells 25 [.int .i64 iM0_0, .sl .int lM0_1, .sl .int lM0_2, .sl .int lM0_3])), (8001, some (.cells 25 [.int .i64 iM1_0, .sl .int lM1_1, .sl .int lM1_2, .sl .int lM1_3]))]⟩
noncomputable def a19_3 (l1 : List Int) (i6 : Int) (iM0_0 : Int) (lM0_1 : List Int) (lM0_2 : List Int) (lM0_3 : List Int) (iM1_0 : Int) (lM1_1 : List Int) (lM1_2 : List Int) (lM1_3 : List Int) : Leaf := .at K19_3 C19_3 (s19_3 l1 i6 iM0_0 lM0_1 lM0_2 lM0_3 iM1_0 lM1_1 lM1_2 lM1_3)
noncomputable def K19_8 : List Fr := theK Try.f19 100008
noncomputable def C19_8 : Code := theC Try.f19 100008
def s19_8 (l1 : List Int) (i8 : Int) (iM0_0 : Int) (lM0_1 : List Int) (lM0_2 : List Int) (lM0_3 : List Int) (iM1_0 : Int) (lM1_1 : List Int) (lM1_2 : List Int) (lM1_3 : List Int) : St := ⟨[(1, .sl .int l1), (4, .ptr 8000 0), (5, .ptr 8001 0), (8, .int .i64 i8)], [(8000, some (.cells 25 [.int .i64 iM0_0, .sl .int lM0_1, .sl .int lM0_2, .sl .int lM0_3])), (8001, some (.cells 25 [.int .i64 iM1_0, .sl .int lM1_1, .sl .int lM1_2, .sl .int lM1_3]))]⟩
noncomputable def a19_8 (l1 : List Int) (i8 : Int) (iM0_0 : Int) (lM0_1 : List Int) (lM0_2 : List Int) (lM0_3 : List Int) (iM1_0 : Int) (lM1_1 : List Int) (lM1_2 : List Int) (lM1_3 : List Int) : Leaf := .at K19_8 C19_8 (s19_8 l1 i8 iM0_0 lM0_1 lM0_2 lM0_3 iM1_0 lM1_1 lM1_2 lM1_3)
noncomputable def K19_12 : List Fr := theK Try.f19 100012
noncomputable def C19_12 : Code := theC Try.f19 100012
def s19_12 (l1 : List Int) (i8 : Int) (i10 : Int) (iM0_0 : Int) (lM0_1 : List Int) (lM0_2 : List Int) (lM0_3 : List Int) (iM1_0 : Int) (lM1_1 : List Int) (lM1_2 : List Int) (lM1_3 : List Int) (mM2 : List Int) : St := ⟨[(1, .sl .int l1), (4, .ptr 8000 0), (5, .ptr 8001 0), (8, .int .i64 i8), (9, .ref 8002), (10, .int .i64 i10)], [(8000, some (.cells 25 [.int .i64 iM0_0, .sl .int lM0_1, .sl .int lM0_2, .sl .int lM0_3])), (8001, some (.cells 25 [.int .i64 iM1_0, .sl .int lM1_1, .sl .int lM1_2, .sl .int lM1_3])), (8002, some (.arr true .int mM2))]⟩
noncomputable def a19_12 (l1 : List Int) (i8 : Int) (i10 : Int) (iM0_0 : Int) (lM0_1 : List Int) (lM0_2 : List Int) (lM0_3 : List Int) (iM1_0 : Int) (lM1_1 : List Int) (lM1_2 : List Int) (lM1_3 : List Int) (mM2 : List Int) : Leaf := .at K19_12 C19_12 (s19_12 l1 i8 i10 iM0_0 lM0_1 lM0_2 lM0_3 iM1_0 lM1_1 lM1_2 lM1_3 mM2)
noncomputable def t19_3 (l1 : List Int) (i6 : Int) (iM0_0 : Int) (lM0_1 : List Int) (lM0_2 : List Int) (lM0_3 : List Int) (iM1_0 : Int) (lM1_1 : List Int) (lM1_2 : List Int) (lM1_3 : List Int) : Option Leaf :=
  bif Decidable.decide (IntKind.wrap IntKind.i64 (i6 + (1 : Int)) < (↑(List.length l1) : Int)) then
   bif Decidable.decide (i6 < (40 : Int)) then
    bif Decidable.decide ((0 : Int) < iM1_0) then
     bif Decidable.decide ((0 : Int) ≤ i6) then
      ob (l1[Int.toNat i6]?) fun x1 =>
       bif ok66 x1 (1099511627776 : Int) then
        bif Decidable.decide (iM1_0 = (0 : Int)) then
         none
        else
         bif Decidable.decide (iM1_0 = (0 : Int)) then
          none
         else
          bif Decidable.decide ((0 : Int) ≤ IntKind.wrap IntKind.i64 (i6 + (1 : Int))) then
           ob (l1[Int.toNat (IntKind.wrap IntKind.i64 (i6 + (1 : Int)))]?) fun x2 =>
            bif ok64 x2 then
             bif Decidable.decide ((0 : Int) ≤ IntKind.wrap IntKind.i64 (i6 + (1 : Int))) then
              ob (l1[Int.toNat (IntKind.wrap IntKind.i64 (i6 + (1 : Int)))]?) fun x3 =>
               bif ok64 (IntKind.wrap IntKind.i64 (Int.tdiv x3 (11 : Int))) then
                bif ok67 iM1_0 lM1_1 lM1_2 lM1_3 [Int.tmod (v66 x1 (1099511627776 : Int)) iM1_0, Int.tmod (IntKind.wrap IntKind.i64 (Int.tdiv (v66 x1 (1099511627776 : Int)) (9 : Int))) iM1_0, v64 x2, v64 (IntKind.wrap IntKind.i64 (Int.tdiv x3 (11 : Int)))] then
                 some (a19_3 l1 (IntKind.wrap IntKind.i64 (i6 + (2 : Int))) iM0_0 lM0_1 lM0_2 lM0_3 (NetV.N (Prod.fst (v67 iM1_0 lM1_1 lM1_2 lM1_3 [Int.tmod (v66 x1 (1099511627776 : Int)) iM1_0, Int.tmod (IntKind.wrap IntKind.i64 (Int.tdiv (v66 x1 (1099511627776 : Int)) (9 : Int))) iM1_0, v64 x2, v64 (IntKind.wrap IntKind.i64 (Int.tdiv x3 (11 : Int)))]))) (NetV.T (Prod.fst (v67 iM1_0 lM1_1 lM1_2 lM1_3 [Int.tmod (v66 x1 (1099511627776 : Int)) iM1_0, Int.tmod (IntKind.wrap IntKind.i64 (Int.tdiv (v66 x1 (1099511627776 : Int)) (9 : Int))) iM1_0, v64 x2, v64 (IntKind.wrap IntKind.i64 (Int.tdiv x3 (11 : Int)))]))) (NetV.X (Prod.fst (v67 iM1_0 lM1_1 lM1_2 lM1_3 [Int.tmod (v66 x1 (1099511627776 : Int)) iM1_0, Int.tmod (IntKind.wrap IntKind.i64 (Int.tdiv (v66 x1 (1099511627776 : Int)) (9 : Int))) iM1_0, v64 x2, v64 (IntKind.wrap IntKind.i64 (Int.tdiv x3 (11 : Int)))]))) (NetV.C (Prod.fst (v67 iM1_0 lM1_1 lM1_2 lM1_3 [Int.tmod (v66 x1 (1099511627776 : Int)) iM1_0, Int.tmod (IntKind.wrap IntKind.i64 (Int.tdiv (v66 x1 (1099511627776 : Int)) (9 : Int))) iM1_0, v64 x2, v64 (IntKind.wrap IntKind.i64 (Int.tdiv x3 (11 : Int)))]))))
                else
                 none
               else
                none
             else
              none
            else
             none
          else
           none
       else
        none
     else
      none
    else
     some (a19_8 l1 ((0 : Int)) iM0_0 lM0_1 lM0_2 lM0_3 iM1_0 lM1_1 lM1_2 lM1_3)
   else
    some (a19_8 l1 ((0 : Int)) iM0_0 lM0_1 lM0_2 lM0_3 iM1_0 lM1_1 lM1_2 lM1_3)
  else
   some (a19_8 l1 ((0 : Int)) iM0_0 lM0_1 lM0_2 lM0_3 iM1_0 lM1_1 lM1_2 lM1_3)
theorem c19_3 (fu : Nat) (l1 : List Int) (i6 : Int) (iM0_0 : Int) (lM0_1 : List Int) (lM0_2 : List Int) (lM0_3 : List Int) (iM1_0 : Int) (lM1_1 : List Int) (lM1_2 : List Int) (lM1_3 : List Int) : cutL (E19 fu) kr19 K19_3 C19_3 (s19_3 l1 i6 iM0_0 lM0_1 lM0_2 lM0_3 iM1_0 lM1_1 lM1_2 lM1_3) = t19_3 l1 i6 iM0_0 lM0_1 lM0_2 lM0_3 iM1_0 lM1_1 lM1_2 lM1_3 := by kernel_rfl
theorem h19_3 (l1 : List Int) (i6 : Int) (iM0_0 : Int) (lM0_1 : List Int) (lM0_2 : List Int) (lM0_3 : List Int) (iM1_0 : Int) (lM1_1 : List Int) (lM1_2 : List Int) (lM1_3 : List Int) (r : CV) (h : Good E19 kr19 (t19_3 l1 i6 iM0_0 lM0_1 lM0_2 lM0_3 iM1_0 lM1_1 lM1_2 lM1_3) r) : Lead E19 kr19 r (a19_3 l1 i6 iM0_0 lM0_1 lM0_2 lM0_3 iM1_0 lM1_1 lM1_2 lM1_3) := Lead.at fuel19 (fun fu => c19_3 fu l1 i6 iM0_0 lM0_1 lM0_2 lM0_3 iM1_0 lM1_1 lM1_2 lM1_3) h
noncomputable def t19_8 (l1 : List Int) (i8 : Int) (iM0_0 : Int) (lM0_1 : List Int) (lM0_2 : List Int) (lM0_3 : List Int) (iM1_0 : Int) (lM1_1 : List Int) (lM1_2 : List Int) (lM1_3 : List Int) : Option Leaf :=
  bif Decidable.decide (i8 < iM1_0) then
   some (a19_12 l1 i8 ((0 : Int)) iM0_0 lM0_1 lM0_2 lM0_3 iM1_0 lM1_1 lM1_2 lM1_3 [])
  else
   some (.ret (CV.agg [CV.int IntKind.i64 iM1_0, CV.sl SK.int lM1_1, CV.sl SK.int lM1_2, CV.sl SK.int lM1_3]))
theorem c19_8 (fu : Nat) (l1 : List Int) (i8 : Int) (iM0_0 : Int) (lM0_1 : List Int) (lM0_2 : List Int) (lM0_3 : List Int) (iM1_0 : Int) (lM1_1 : List Int) (lM1_2 : List Int) (lM1_3 : List Int) : cutL (E19 fu) kr19 K19_8 C19_8 (s19_8 l1 i8 iM0_0 lM0_1 lM0_2 lM0_3 iM1_0 lM1_1 lM1_2 lM1_3) = t19_8 l1 i8 iM0_0 lM0_1 lM0_2 lM0_3 iM1_0 lM1_1 lM1_2 lM1_3 := by kernel_rfl
theorem h19_8 (l1 : List Int) (i8 : Int) (iM0_0 : Int) (lM0_1 : List Int) (lM0_2 : List Int) (lM0_3 : List Int) (iM1_0 : Int) (lM1_1 : List Int) (lM1_2 : List Int) (lM1_3 : List Int) (r : CV) (h : Good E19 kr19 (t19_8 l1 i8 iM0_0 lM0_1 lM0_2 lM0_3 iM1_0 lM1_1 lM1_2 lM1_3) r) : Lead E19 kr19 r (a19_8 l1 i8 iM0_0 lM0_1 lM0_2 lM0_3 iM1_0 lM1_1 lM1_2 lM1_3) := Lead.at fuel19 (fun fu => c19_8 fu l1 i8 iM0_0 lM0_1 lM0_2 lM0_3 iM1_0 lM1_1 lM1_2 lM1_3) h
noncomputable def t19_12 (l1 : List Int) (i8 : Int) (i10 : Int) (iM0_0 : Int) (lM0_1 : List Int) (lM0_2 : List Int) (lM0_3 : List Int) (iM1_0 : Int) (lM1_1 : List Int) (lM1_2 : List Int) (lM1_3 : List Int) (mM2 : List Int) : Option Leaf :=
  bif Decidable.decide (i10 < (↑(List.length lM1_1) : Int)) then
   bif Decidable.decide ((0 : Int) ≤ i10) then
    ob (lM1_1[Int.toNat i10]?) fun x4 =>
     bif !Decidable.decide (x4 = i8) then
      some (a19_12 l1 i8 (IntKind.wrap IntKind.i64 (i10 + (1 : Int))) iM0_0 lM0_1 lM0_2 lM0_3 iM1_0 lM1_1 lM1_2 lM1_3 mM2)
     else
      bif Decidable.decide ((0 : Int) < (↑(List.length l1) : Int)) then
       bif Decidable.decide ((↑(List.length l1) : Int) = (0 : Int)) then
        none
       else
        bif Decidable.decide ((0 : Int) ≤ Int.tmod i10 (↑(List.length l1) : Int)) then
         ob (l1[Int.toNat (Int.tmod i10 (↑(List.length l1) : Int))]?) fun x5 =>
          bif ok66 (IntKind.wrap IntKind.i64 (Int.tdiv x5 (7 : Int))) (IntKind.wrap IntKind.i64 ((↑(List.length mM2) : Int) + (1 : Int))) then
           bif Decidable.decide ((0 : Int) ≤ v66 (IntKind.wrap IntKind.i64 (Int.tdiv x5 (7 : Int))) (IntKind.wrap IntKind.i64 ((↑(List.length mM2) : Int) + (1 : Int)))) then
            bif Decidable.decide (v66 (IntKind.wrap IntKind.i64 (Int.tdiv x5 (7 : Int))) (IntKind.wrap IntKind.i64 ((↑(List.length mM2) : Int) + (1 : Int))) ≤ v66 (IntKind.wrap IntKind.i64 (Int.tdiv x5 (7 : Int))) (IntKind.wrap IntKind.i64 ((↑(List.length mM2) : Int) + (1 : Int)))) then
             bif Decidable.decide (v66 (IntKind.wrap IntKind.i64 (Int.tdiv x5 (7 : Int))) (IntKind.wrap IntKind.i64 ((↑(List.length mM2) : Int) + (1 : Int))) ≤ (↑(List.length mM2) : Int)) then
              bif Nat.ble (List.length (List.take (Int.toNat (v66 (IntKind.wrap IntKind.i64 (Int.tdiv x5 (7 : Int))) (IntKind.wrap IntKind.i64 ((↑(List.length mM2) : Int) + (1 : Int)))) - Int.toNat (0 : Int)) (List.drop (Int.toNat (0 : Int)) mM2))) (4294967296 : Nat) then
               bif Nat.ble (List.length (List.take (Int.toNat (v66 (IntKind.wrap IntKind.i64 (Int.tdiv x5 (7 : Int))) (IntKind.wrap IntKind.i64 ((↑(List.length mM2) : Int) + (1 : Int)))) - Int.toNat (0 : Int)) (List.drop (Int.toNat (0 : Int)) mM2)) + List.length [i10]) (4294967296 : Nat) then
                bif Decidable.decide ((0 : Int) ≤ v66 (IntKind.wrap IntKind.i64 (Int.tdiv x5 (7 : Int))) (IntKind.wrap IntKind.i64 ((↑(List.length mM2) : Int) + (1 : Int)))) then
                 bif Decidable.decide (v66 (IntKind.wrap IntKind.i64 (Int.tdiv x5 (7 : Int))) (IntKind.wrap IntKind.i64 ((↑(List.length mM2) : Int) + (1 : Int))) ≤ (↑(List.length mM2) : Int)) then
                  bif Decidable.decide ((↑(List.length mM2) : Int) ≤ (↑(List.length mM2) : Int)) then
                   bif Decidable.decide ((↑(List.length mM2) : Int) ≤ (↑(List.length mM2) : Int)) then
                    bif Nat.ble (List.length (List.take (Int.toNat (v66 (IntKind.wrap IntKind.i64 (Int.tdiv x5 (7 : Int))) (IntKind.wrap IntKind.i64 ((↑(List.length mM2) : Int) + (1 : Int)))) - Int.toNat (0 : Int)) (List.drop (Int.toNat (0 : Int)) mM2) ++ [i10]) + List.length (List.take (Int.toNat (↑(List.length mM2) : Int) - Int.toNat (v66 (IntKind.wrap IntKind.i64 (Int.tdiv x5 (7 : Int))) (IntKind.wrap IntKind.i64 ((↑(List.length mM2) : Int) + (1 : Int))))) (List.drop (Int.toNat (v66 (IntKind.wrap IntKind.i64 (Int.tdiv x5 (7 : Int))) (IntKind.wrap IntKind.i64 ((↑(List.length mM2) : Int) + (1 : Int))))) mM2))) (4294967296 : Nat) then
                     some (a19_12 l1 i8 (IntKind.wrap IntKind.i64 (i10 + (1 : Int))) iM0_0 lM0_1 lM0_2 lM0_3 iM1_0 lM1_1 lM1_2 lM1_3 (List.take (Int.toNat (v66 (IntKind.wrap IntKind.i64 (Int.tdiv x5 (7 : Int))) (IntKind.wrap IntKind.i64 ((↑(List.length mM2) : Int) + (1 : Int)))) - Int.toNat (0 : Int)) (List.drop (Int.toNat (0 : Int)) mM2) ++ [i10] ++ List.take (Int.toNat (↑(List.length mM2) : Int) - Int.toNat (v66 (IntKind.wrap IntKind.i64 (Int.tdiv x5 (7 : Int))) (IntKind.wrap IntKind.i64 ((↑(List.length mM2) : Int) + (1 : Int))))) (List.drop (Int.toNat (v66 (IntKind.wrap IntKind.i64 (Int.tdiv x5 (7 : Int))) (IntKind.wrap IntKind.i64 ((↑(List.length mM2) : Int) + (1 : Int))))) mM2)))
                    else
                     none
                   else
                    none
                  else
                   none
                 else
                  none
                else
                 none
               else
                none
              else
               none
             else
              none
            else
             none
           else
            none
          else
           none
        else
         none
      else
       bif Decidable.decide ((↑(List.length mM2) : Int) ≤ (↑(List.length mM2) : Int)) then
        bif Decidable.decide ((↑(List.length mM2) : Int) ≤ (↑(List.length mM2) : Int)) then
         bif Nat.ble (List.length (List.take (Int.toNat (0 : Int) - Int.toNat (0 : Int)) (List.drop (Int.toNat (0 : Int)) mM2) ++ [i10]) + List.length (List.take (Int.toNat (↑(List.length mM2) : Int) - Int.toNat (0 : Int)) (List.drop (Int.toNat (0 : Int)) mM2))) (4294967296 : Nat) then
          some (a19_12 l1 i8 (IntKind.wrap IntKind.i64 (i10 + (1 : Int))) iM0_0 lM0_1 lM0_2 lM0_3 iM1_0 lM1_1 lM1_2 lM1_3 (List.take (Int.toNat (0 : Int) - Int.toNat (0 : Int)) (List.drop (Int.toNat (0 : Int)) mM2) ++ [i10] ++ List.take (Int.toNat (↑(List.length mM2) : Int) - Int.toNat (0 : Int)) (List.drop (Int.toNat (0 : Int)) mM2)))
         else
          none
        else
         none
       else
        none
   else
    none
  else
   bif ok68 iM1_0 lM1_1 lM1_2 lM1_3 i8 mM2 then
    some (a19_8 l1 (IntKind.wrap IntKind.i64 (i8 + (1 : Int))) iM0_0 lM0_1 lM0_2 lM0_3 (NetV.N (Prod.fst (v68 iM1_0 lM1_1 lM1_2 lM1_3 i8 mM2))) (NetV.T (Prod.fst (v68 iM1_0 lM1_1 lM1_2 lM1_3 i8 mM2))) (NetV.X (Prod.fst (v68 iM1_0 lM1_1 lM1_2 lM1_3 i8 mM2))) (NetV.C (Prod.fst (v68 iM1_0 lM1_1 lM1_2 lM1_3 i8 mM2))))
   else
    none
theorem c19_12 (fu : Nat) (l1 : List Int) (i8 : Int) (i10 : Int) (iM0_0 : Int) (lM0_1 : List Int) (lM0_2 : List Int) (lM0_3 : List Int) (iM1_0 : Int) (lM1_1 : List Int) (lM1_2 : List Int) (lM1_3 : List Int) (mM2 : List Int) : cutL (E19 fu) kr19 K19_12 C19_12 (s19_12 l1 i8 i10 iM0_0 lM0_1 lM0_2 lM0_3 iM1_0 lM1_1 lM1_2 lM1_3 mM2) = t19_12 l1 i8 i10 iM0_0 lM0_1 lM0_2 lM0_3 iM1_0 lM1_1 lM1_2 lM1_3 mM2 := by kernel_rfl
theorem h19_12 (l1 : List Int) (i8 : Int) (i10 : Int) (iM0_0 : Int) (lM0_1 : List Int) (lM0_2 : List Int) (lM0_3 : List Int) (iM1_0 : Int) (lM1_1 : List Int) (lM1_2 : List Int) (lM1_3 : List Int) (mM2 : List Int) (r : CV) (h : Good E19 kr19 (t19_12 l1 i8 i10 iM0_0 lM0_1 lM0_2 lM0_3 iM1_0 lM1_1 lM1_2 lM1_3 mM2) r) : Lead E19 kr19 r (a19_12 l1 i8 i10 iM0_0 lM0_1 lM0_2 lM0_3 iM1_0 lM1_1 lM1_2 lM1_3 mM2) := Lead.at fuel19 (fun fu => c19_12 fu l1 i8 i10 iM0_0 lM0_1 lM0_2 lM0_3 iM1_0 lM1_1 lM1_2 lM1_3 mM2) h
noncomputable def t19 (size : Int) (ns : List Int) : Option Leaf :=
  bif ok66 size (9 : Int) then
   some (a19_3 ns ((0 : Int)) ((0 : Int)) [] [] [] (v66 size (9 : Int)) [] [] [])
  else
   none
theorem c19 (fu : Nat) (size : Int) (ns : List Int) : cutB (E19 fu) kr19 Try.f19 (⟨parT 0 [.int .i64 size, .sl .int ns], []⟩) = t19 size ns := by kernel_rfl
def R19 (size : Int) (ns : List Int) (r : NetV) : Prop := RunF E19 false Try.f19 [.int .i64 size, .sl .int ns] (.agg [.int .i64 r.N, .sl .int r.T, .sl .int r.X, .sl .int r.C])
theorem run19 (size : Int) (ns : List Int) (r : NetV) (h : Good E19 kr19 (t19 size ns) (.agg [.int .i64 r.N, .sl .int r.T, .sl .int r.X, .sl .int r.C])) : R19 size ns r := RunF.of fuel19 (fun fu => c19 fu size ns) h
noncomputable def ok19 (size : Int) (ns : List Int) : Bool := okP (R19 size ns)
noncomputable def v19 (size : Int) (ns : List Int) : NetV := valP (R19 size ns)
theorem sp19 (size : Int) (ns : List Int) (r : NetV) (h : R19 size ns r) : ok19 size ns = true ∧ v19 size ns = r := okP_of h fun b hb => by
  have := RunF.uniq hb h
  cases b; cases r; simp_all
theorem at19 : P.funcs[19]? = some Try.f19 := by kernel_rfl
theorem callable19 : callable 19 = true := by kernel_rfl
theorem semok19 : SemOk (semOf ents19) := EntsOk.sem (.cons entok64 (.cons entok66 (.cons entok67 (.cons entok68 (.nil)))))
theorem memok19 : MemOk (memOf mems19) := EntsMOk.mem (.nil)
noncomputable def ent19 : Ent := fun args => match args with
  | [.int .i64 size, .sl .int ns] => some (false, ok19 size ns, .agg [.int .i64 (v19 size ns).N, .sl .int (v19 size ns).T, .sl .int (v19 size ns).X, .sl .int (v19 size ns).C])
  | _ => none
theorem entok19 : EntOk 19 ent19 := fun args own r h => by
  unfold ent19 at h
  split at h
  · simp only [Option.some.injEq, Prod.mk.injEq] at h
    obtain ⟨rfl, h, rfl⟩ := h
    exact ⟨RunF.calls (fun _ => semok19) (fun _ => memok19) at19 rfl (Nat.le_of_ble_eq_true rfl) (fun _ => rfl) (okP_val h), callable19⟩
  · cases h
end Go.Proofs.Ytnfgfdeidkhdkaa.Eng
