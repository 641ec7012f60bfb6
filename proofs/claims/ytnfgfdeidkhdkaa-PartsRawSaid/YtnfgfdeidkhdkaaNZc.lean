/- watershed/watershedlaw11.PartsRaw: its run from loop to loop, as Lean printed it (a program of this session's wrote these rows). No condition · PartsRaw: any parts are joined as the document says: their order does not matter -/
import Derived.Test.YtnfgfdeidkhdkaaNZb
/- P12: watershed/watershedlaw11.PartsRaw: its run from loop to loop, as Lean printed it (a program of this session's wrote these rows). No condition. -/
namespace Go.Proofs.Ytnfgfdeidkhdkaa.Eng
set_option linter.unusedVariables false
set_option maxRecDepth 100000
noncomputable def ents12 : List (Nat × Ent) := [(18, ent18), (27, ent27), (37, ent37), (43, ent43), (45, ent45), (46, ent46)]
noncomputable def mems12 : List (Nat × EntM) := []
noncomputable def E12 (fu : Nat) : Env := ⟨117, 0, semOf ents12, [], memOf mems12, [], [(100006, ⟨[(10, none, .part), (12, some 2, .int)], [(1, none), (2, none), (3, none), (9, none), (9, some 0), (9, some 1), (9, some 2), (9, some 3), (10, none), (11, none)], [1, 2, 3, 9, 10, 11]⟩), (100010, ⟨[(10, none, .part), (12, some 2, .int)], [(1, none), (2, none), (3, none), (9, none), (9, some 0), (9, some 1), (9, some 2), (9, some 3), (10, none), (11, none), (12, none), (12, some 0), (12, some 1), (12, some 2), (13, none)], [1, 2, 3, 9, 10, 11, 12, 13]⟩)], fu⟩
theorem fuel12 : Fuel E12 := fun _ => rfl
noncomputable def kr12 : St → Option CV := endK true Try.f12.results.toList
noncomputable def K12_6 : List Fr := theK Try.f12 100006
noncomputable def C12_6 : Code := theC Try.f12 100006
def s12_6 (l1 : List Int) (l2 : List Int) (i3 : Int) (i11 : Int) (iM0_0 : Int) (mM1 : List Int) (mM2 : List Int) (mM3 : List Int) (mM4 : List (Bool × Int × List Int)) : St := ⟨[(1, .sl .int l1), (2, .sl .int l2), (3, .int .i64 i3), (9, .ptr 8000 0), (10, .ref 8004), (11, .int .i64 i11)], [(8000, some (.cells 25 [.int .i64 iM0_0, .ref 8001, .ref 8002, .ref 8003])), (8001, some (.arr false .int mM1)), (8002, some (.arr false .int mM2)), (8003, some (.arr false .int mM3)), (8004, some (.arr true .part mM4))]⟩
noncomputable def a12_6 (l1 : List Int) (l2 : List Int) (i3 : Int) (i11 : Int) (iM0_0 : Int) (mM1 : List Int) (mM2 : List Int) (mM3 : List Int) (mM4 : List (Bool × Int × List Int)) : Leaf := .at K12_6 C12_6 (s12_6 l1 l2 i3 i11 iM0_0 mM1 mM2 mM3 mM4)
noncomputable def K12_10 : List Fr := theK Try.f12 100010
noncomputable def C12_10 : Code := theC Try.f12 100010
def s12_10 (l1 : List Int) (l2 : List Int) (i3 : Int) (i11 : Int) (i13 : Int) (iM0_0 : Int) (mM1 : List Int) (mM2 : List Int) (mM3 : List Int) (mM4 : List (Bool × Int × List Int)) (bM5_0 : Bool) (iM5_1 : Int) (mM6 : List Int) : St := ⟨[(1, .sl .int l1), (2, .sl .int l2), (3, .int .i64 i3), (9, .ptr 8000 0), (10, .ref 8004), (11, .int .i64 i11), (12, .ptr 8005 0), (13, .int .i64 i13)], [(8000, some (.cells 25 [.int .i64 iM0_0, .ref 8001, .ref 8002, .ref 8003])), (8001, some (.arr false .int mM1)), (8002, some (.arr false .int mM2)), (8003, some (.arr false .int mM3)), (8004, some (.arr true .part mM4)), (8005, some (.cells 57 [.bool bM5_0, .int .i64 iM5_1, .ref 8006])), (8006, some (.arr true .int mM6))]⟩
noncomputable def a12_10 (l1 : List Int) (l2 : List Int) (i3 : Int) (i11 : Int) (i13 : Int) (iM0_0 : Int) (mM1 : List Int) (mM2 : List Int) (mM3 : List Int) (mM4 : List (Bool × Int × List Int)) (bM5_0 : Bool) (iM5_1 : Int) (mM6 : List Int) : Leaf := .at K12_10 C12_10 (s12_10 l1 l2 i3 i11 i13 iM0_0 mM1 mM2 mM3 mM4 bM5_0 iM5_1 mM6)
noncomputable def t12_6 (l1 : List Int) (l2 : List Int) (i3 : Int) (i11 : Int) (iM0_0 : Int) (mM1 : List Int) (mM2 : List Int) (mM3 : List Int) (mM4 : List (Bool × Int × List Int)) : Option Leaf :=
  bif Decidable.decide (i11 < (↑(List.length l2) : Int)) then
   bif Decidable.decide (i11 < (8 : Int)) then
    bif Decidable.decide ((0 : Int) < (↑(List.length mM1) : Int)) then
     bif Decidable.decide ((0 : Int) ≤ i11) then
      ob (l2[Int.toNat i11]?) fun x1 =>
       bif Decidable.decide ((0 : Int) ≤ i11) then
        ob (l2[Int.toNat i11]?) fun x2 =>
         bif ok45 x2 (2000 : Int) then
          some (a12_10 l1 l2 i3 i11 ((0 : Int)) iM0_0 mM1 mM2 mM3 mM4 (Decidable.decide (Int.tmod x1 (2 : Int) = (0 : Int))) (IntKind.wrap IntKind.i64 (v45 x2 (2000 : Int) - (1000 : Int))) [])
         else
          none
       else
        none
     else
      none
    else
     bif ok45 i3 (IntKind.wrap IntKind.i64 ((↑(List.length mM4) : Int) + (1 : Int))) then
      bif Decidable.decide ((0 : Int) ≤ v45 i3 (IntKind.wrap IntKind.i64 ((↑(List.length mM4) : Int) + (1 : Int)))) then
       bif Decidable.decide (v45 i3 (IntKind.wrap IntKind.i64 ((↑(List.length mM4) : Int) + (1 : Int))) ≤ (↑(List.length mM4) : Int)) then
        bif Decidable.decide ((↑(List.length mM4) : Int) ≤ (↑(List.length mM4) : Int)) then
         bif Decidable.decide ((↑(List.length mM4) : Int) ≤ (↑(List.length mM4) : Int)) then
          bif Nat.ble (List.length (List.take (Int.toNat (↑(List.length mM4) : Int) - Int.toNat (v45 i3 (IntKind.wrap IntKind.i64 ((↑(List.length mM4) : Int) + (1 : Int))))) (List.drop (Int.toNat (v45 i3 (IntKind.wrap IntKind.i64 ((↑(List.length mM4) : Int) + (1 : Int))))) mM4))) (4294967296 : Nat) then
           bif Decidable.decide ((0 : Int) ≤ v45 i3 (IntKind.wrap IntKind.i64 ((↑(List.length mM4) : Int) + (1 : Int)))) then
            bif Decidable.decide (v45 i3 (IntKind.wrap IntKind.i64 ((↑(List.length mM4) : Int) + (1 : Int))) ≤ v45 i3 (IntKind.wrap IntKind.i64 ((↑(List.length mM4) : Int) + (1 : Int)))) then
             bif Decidable.decide (v45 i3 (IntKind.wrap IntKind.i64 ((↑(List.length mM4) : Int) + (1 : Int))) ≤ (↑(List.length mM4) : Int)) then
              bif Nat.ble (List.length (List.take (Int.toNat (↑(List.length mM4) : Int) - Int.toNat (v45 i3 (IntKind.wrap IntKind.i64 ((↑(List.length mM4) : Int) + (1 : Int))))) (List.drop (Int.toNat (v45 i3 (IntKind.wrap IntKind.i64 ((↑(List.length mM4) : Int) + (1 : Int))))) mM4)) + List.length (List.take (Int.toNat (v45 i3 (IntKind.wrap IntKind.i64 ((↑(List.length mM4) : Int) + (1 : Int)))) - Int.toNat (0 : Int)) (List.drop (Int.toNat (0 : Int)) mM4))) (4294967296 : Nat) then
               bif ok43 iM0_0 mM1 mM2 mM3 mM4 then
                bif ok46 iM0_0 mM1 mM2 mM3 mM4 then
                 bif ok27 (v43 iM0_0 mM1 mM2 mM3 mM4) (v46 iM0_0 mM1 mM2 mM3 mM4) then
                  bif v27 (v43 iM0_0 mM1 mM2 mM3 mM4) (v46 iM0_0 mM1 mM2 mM3 mM4) then
                   bif ok43 iM0_0 mM1 mM2 mM3 (List.take (Int.toNat (↑(List.length mM4) : Int) - Int.toNat (v45 i3 (IntKind.wrap IntKind.i64 ((↑(List.length mM4) : Int) + (1 : Int))))) (List.drop (Int.toNat (v45 i3 (IntKind.wrap IntKind.i64 ((↑(List.length mM4) : Int) + (1 : Int))))) mM4) ++ List.take (Int.toNat (v45 i3 (IntKind.wrap IntKind.i64 ((↑(List.length mM4) : Int) + (1 : Int)))) - Int.toNat (0 : Int)) (List.drop (Int.toNat (0 : Int)) mM4)) then
                    bif ok46 iM0_0 mM1 mM2 mM3 mM4 then
                     bif ok27 (v43 iM0_0 mM1 mM2 mM3 (List.take (Int.toNat (↑(List.length mM4) : Int) - Int.toNat (v45 i3 (IntKind.wrap IntKind.i64 ((↑(List.length mM4) : Int) + (1 : Int))))) (List.drop (Int.toNat (v45 i3 (IntKind.wrap IntKind.i64 ((↑(List.length mM4) : Int) + (1 : Int))))) mM4) ++ List.take (Int.toNat (v45 i3 (IntKind.wrap IntKind.i64 ((↑(List.length mM4) : Int) + (1 : Int)))) - Int.toNat (0 : Int)) (List.drop (Int.toNat (0 : Int)) mM4))) (v46 iM0_0 mM1 mM2 mM3 mM4) then
                      bif v27 (v43 iM0_0 mM1 mM2 mM3 (List.take (Int.toNat (↑(List.length mM4) : Int) - Int.toNat (v45 i3 (IntKind.wrap IntKind.i64 ((↑(List.length mM4) : Int) + (1 : Int))))) (List.drop (Int.toNat (v45 i3 (IntKind.wrap IntKind.i64 ((↑(List.length mM4) : Int) + (1 : Int))))) mM4) ++ List.take (Int.toNat (v45 i3 (IntKind.wrap IntKind.i64 ((↑(List.length mM4) : Int) + (1 : Int)))) - Int.toNat (0 : Int)) (List.drop (Int.toNat (0 : Int)) mM4))) (v46 iM0_0 mM1 mM2 mM3 mM4) then
                       bif ok43 iM0_0 mM1 mM2 mM3 [] then
                        some (.ret (CV.bool (Decidable.decide ((↑(List.length (v43 iM0_0 mM1 mM2 mM3 [])) : Int) = (↑(List.length mM1) : Int)))))
                       else
                        none
                      else
                       some (.ret (CV.bool Bool.false))
                     else
                      none
                    else
                     none
                   else
                    none
                  else
                   some (.ret (CV.bool Bool.false))
                 else
                  none
                else
                 none
               else
                none
              else
               none
             else
              none
            else
             none
           else
            none
          else
           none
         else
          none
        else
         none
       else
        none
      else
       none
     else
      none
   else
    bif ok45 i3 (IntKind.wrap IntKind.i64 ((↑(List.length mM4) : Int) + (1 : Int))) then
     bif Decidable.decide ((0 : Int) ≤ v45 i3 (IntKind.wrap IntKind.i64 ((↑(List.length mM4) : Int) + (1 : Int)))) then
      bif Decidable.decide (v45 i3 (IntKind.wrap IntKind.i64 ((↑(List.length mM4) : Int) + (1 : Int))) ≤ (↑(List.length mM4) : Int)) then
       bif Decidable.decide ((↑(List.length mM4) : Int) ≤ (↑(List.length mM4) : Int)) then
        bif Decidable.decide ((↑(List.length mM4) : Int) ≤ (↑(List.length mM4) : Int)) then
         bif Nat.ble (List.length (List.take (Int.toNat (↑(List.length mM4) : Int) - Int.toNat (v45 i3 (IntKind.wrap IntKind.i64 ((↑(List.length mM4) : Int) + (1 : Int))))) (List.drop (Int.toNat (v45 i3 (IntKind.wrap IntKind.i64 ((↑(List.length mM4) : Int) + (1 : Int))))) mM4))) (4294967296 : Nat) then
          bif Decidable.decide ((0 : Int) ≤ v45 i3 (IntKind.wrap IntKind.i64 ((↑(List.length mM4) : Int) + (1 : Int)))) then
           bif Decidable.decide (v45 i3 (IntKind.wrap IntKind.i64 ((↑(List.length mM4) : Int) + (1 : Int))) ≤ v45 i3 (IntKind.wrap IntKind.i64 ((↑(List.length mM4) : Int) + (1 : Int)))) then
            bif Decidable.decide (v45 i3 (IntKind.wrap IntKind.i64 ((↑(List.length mM4) : Int) + (1 : Int))) ≤ (↑(List.length mM4) : Int)) then
             bif Nat.ble (List.length (List.take (Int.toNat (↑(List.length mM4) : Int) - Int.toNat (v45 i3 (IntKind.wrap IntKind.i64 ((↑(List.length mM4) : Int) + (1 : Int))))) (List.drop (Int.toNat (v45 i3 (IntKind.wrap IntKind.i64 ((↑(List.length mM4) : Int) + (1 : Int))))) mM4)) + List.length (List.take (Int.toNat (v45 i3 (IntKind.wrap IntKind.i64 ((↑(List.length mM4) : Int) + (1 : Int)))) - Int.toNat (0 : Int)) (List.drop (Int.toNat (0 : Int)) mM4))) (4294967296 : Nat) then
              bif ok43 iM0_0 mM1 mM2 mM3 mM4 then
               bif ok46 iM0_0 mM1 mM2 mM3 mM4 then
                bif ok27 (v43 iM0_0 mM1 mM2 mM3 mM4) (v46 iM0_0 mM1 mM2 mM3 mM4) then
                 bif v27 (v43 iM0_0 mM1 mM2 mM3 mM4) (v46 iM0_0 mM1 mM2 mM3 mM4) then
                  bif ok43 iM0_0 mM1 mM2 mM3 (List.take (Int.toNat (↑(List.length mM4) : Int) - Int.toNat (v45 i3 (IntKind.wrap IntKind.i64 ((↑(List.length mM4) : Int) + (1 : Int))))) (List.drop (Int.toNat (v45 i3 (IntKind.wrap IntKind.i64 ((↑(List.length mM4) : Int) + (1 : Int))))) mM4) ++ List.take (Int.toNat (v45 i3 (IntKind.wrap IntKind.i64 ((↑(List.length mM4) : Int) + (1 : Int)))) - Int.toNat (0 : Int)) (List.drop (Int.toNat (0 : Int)) mM4)) then
                   bif ok46 iM0_0 mM1 mM2 mM3 mM4 then
                    bif ok27 (v43 iM0_0 mM1 mM2 mM3 (List.take (Int.toNat (↑(List.length mM4) : Int) - Int.toNat (v45 i3 (IntKind.wrap IntKind.i64 ((↑(List.length mM4) : Int) + (1 : Int))))) (List.drop (Int.toNat (v45 i3 (IntKind.wrap IntKind.i64 ((↑(List.length mM4) : Int) + (1 : Int))))) mM4) ++ List.take (Int.toNat (v45 i3 (IntKind.wrap IntKind.i64 ((↑(List.length mM4) : Int) + (1 : Int)))) - Int.toNat (0 : Int)) (List.drop (Int.toNat (0 : Int)) mM4))) (v46 iM0_0 mM1 mM2 mM3 mM4) then
                     bif v27 (v43 iM0_0 mM1 mM2 mM3 (List.take (Int.toNat (↑(List.length mM4) : Int) - Int.toNat (v45 i3 (IntKind.wrap IntKind.i64 ((↑(List.length mM4) : Int) + (1 : Int))))) (List.drop (Int.toNat (v45 i3 (IntKind.wrap IntKind.i64 ((↑(List.length mM4) : Int) + (1 : Int))))) mM4) ++ List.take (Int.toNat (v45 i3 (IntKind.wrap IntKind.i64 ((↑(List.length mM4) : Int) + (1 : Int)))) - Int.toNat (0 : Int)) (List.drop (Int.toNat (0 : Int)) mM4))) (v46 iM0_0 mM1 mM2 mM3 mM4) then
                      bif ok43 iM0_0 mM1 mM2 mM3 [] then
                       some (.ret (CV.bool (Decidable.decide ((↑(List.length (v43 iM0_0 mM1 mM2 mM3 [])) : Int) = (↑(List.length mM1) : Int)))))
                      else
                       none
                     else
                      some (.ret (CV.bool Bool.false))
                    else
                     none
                   else
                    none
                  else
                   none
                 else
                  some (.ret (CV.bool Bool.false))
                else
                 none
               else
                none
              else
               none
             else
              none
            else
             none
           else
            none
          else
           none
         else
          none
        else
         none
       else
        none
      else
       none
     else
      none
    else
     none
  else
   bif ok45 i3 (IntKind.wrap IntKind.i64 ((↑(List.length mM4) : Int) + (1 : Int))) then
    bif Decidable.decide ((0 : Int) ≤ v45 i3 (IntKind.wrap IntKind.i64 ((↑(List.length mM4) : Int) + (1 : Int)))) then
     bif Decidable.decide (v45 i3 (IntKind.wrap IntKind.i64 ((↑(List.length mM4) : Int) + (1 : Int))) ≤ (↑(List.length mM4) : Int)) then
      bif Decidable.decide ((↑(List.length mM4) : Int) ≤ (↑(List.length mM4) : Int)) then
       bif Decidable.decide ((↑(List.length mM4) : Int) ≤ (↑(List.length mM4) : Int)) then
        bif Nat.ble (List.length (List.take (Int.toNat (↑(List.length mM4) : Int) - Int.toNat (v45 i3 (IntKind.wrap IntKind.i64 ((↑(List.length mM4) : Int) + (1 : Int))))) (List.drop (Int.toNat (v45 i3 (IntKind.wrap IntKind.i64 ((↑(List.length mM4) : Int) + (1 : Int))))) mM4))) (4294967296 : Nat) then
         bif Decidable.decide ((0 : Int) ≤ v45 i3 (IntKind.wrap IntKind.i64 ((↑(List.length mM4) : Int) + (1 : Int)))) then
          bif Decidable.decide (v45 i3 (IntKind.wrap IntKind.i64 ((↑(List.length mM4) : Int) + (1 : Int))) ≤ v45 i3 (IntKind.wrap IntKind.i64 ((↑(List.length mM4) : Int) + (1 : Int)))) then
           bif Decidable.decide (v45 i3 (IntKind.wrap IntKind.i64 ((↑(List.length mM4) : Int) + (1 : Int))) ≤ (↑(List.length mM4) : Int)) then
            bif Nat.ble (List.length (List.take (Int.toNat (↑(List.length mM4) : Int) - Int.toNat (v45 i3 (IntKind.wrap IntKind.i64 ((↑(List.length mM4) : Int) + (1 : Int))))) (List.drop (Int.toNat (v45 i3 (IntKind.wrap IntKind.i64 ((↑(List.length mM4) : Int) + (1 : Int))))) mM4)) + List.length (List.take (Int.toNat (v45 i3 (IntKind.wrap IntKind.i64 ((↑(List.length mM4) : Int) + (1 : Int)))) - Int.toNat (0 : Int)) (List.drop (Int.toNat (0 : Int)) mM4))) (4294967296 : Nat) then
             bif ok43 iM0_0 mM1 mM2 mM3 mM4 then
              bif ok46 iM0_0 mM1 mM2 mM3 mM4 then
               bif ok27 (v43 iM0_0 mM1 mM2 mM3 mM4) (v46 iM0_0 mM1 mM2 mM3 mM4) then
                bif v27 (v43 iM0_0 mM1 mM2 mM3 mM4) (v46 iM0_0 mM1 mM2 mM3 mM4) then
                 bif ok43 iM0_0 mM1 mM2 mM3 (List.take (Int.toNat (↑(List.length mM4) : Int) - Int.toNat (v45 i3 (IntKind.wrap IntKind.i64 ((↑(List.length mM4) : Int) + (1 : Int))))) (List.drop (Int.toNat (v45 i3 (IntKind.wrap IntKind.i64 ((↑(List.length mM4) : Int) + (1 : Int))))) mM4) ++ List.take (Int.toNat (v45 i3 (IntKind.wrap IntKind.i64 ((↑(List.length mM4) : Int) + (1 : Int)))) - Int.toNat (0 : Int)) (List.drop (Int.toNat (0 : Int)) mM4)) then
                  bif ok46 iM0_0 mM1 mM2 mM3 mM4 then
                   bif ok27 (v43 iM0_0 mM1 mM2 mM3 (List.take (Int.toNat (↑(List.length mM4) : Int) - Int.toNat (v45 i3 (IntKind.wrap IntKind.i64 ((↑(List.length mM4) : Int) + (1 : Int))))) (List.drop (Int.toNat (v45 i3 (IntKind.wrap IntKind.i64 ((↑(List.length mM4) : Int) + (1 : Int))))) mM4) ++ List.take (Int.toNat (v45 i3 (IntKind.wrap IntKind.i64 ((↑(List.length mM4) : Int) + (1 : Int)))) - Int.toNat (0 : Int)) (List.drop (Int.toNat (0 : Int)) mM4))) (v46 iM0_0 mM1 mM2 mM3 mM4) then
                    bif v27 (v43 iM0_0 mM1 mM2 mM3 (List.take (Int.toNat (↑(List.length mM4) : Int) - Int.toNat (v45 i3 (IntKind.wrap IntKind.i64 ((↑(List.length mM4) : Int) + (1 : Int))))) (List.drop (Int.toNat (v45 i3 (IntKind.wrap IntKind.i64 ((↑(List.length mM4) : Int) + (1 : Int))))) mM4) ++ List.take (Int.toNat (v45 i3 (IntKind.wrap IntKind.i64 ((↑(List.length mM4) : Int) + (1 : Int)))) - Int.toNat (0 : Int)) (List.drop (Int.toNat (0 : Int)) mM4))) (v46 iM0_0 mM1 mM2 mM3 mM4) then
                     bif ok43 iM0_0 mM1 mM2 mM3 [] then
                      some (.ret (CV.bool (Decidable.decide ((↑(List.length (v43 iM0_0 mM1 mM2 mM3 [])) : Int) = (↑(List.length mM1) : Int)))))
                     else
                      none
                    else
                     some (.ret (CV.bool Bool.false))
                   else
                    none
                  else
                   none
                 else
                  none
                else
                 some (.ret (CV.bool Bool.false))
               else
                none
              else
               none
             else
              none
            else
             none
           else
            none
          else
           none
         else
          none
        else
         none
       else
        none
      else
       none
     else
      none
    else
     none
   else
    none
theorem c12_6 (fu : Nat) (l1 : List Int) (l2 : List Int) (i3 : Int) (i11 : Int) (iM0_0 : Int) (mM1 : List Int) (mM2 : List Int) (mM3 : List Int) (mM4 : List (Bool × Int × List Int)) : cutL (E12 fu) kr12 K12_6 C12_6 (s12_6 l1 l2 i3 i11 iM0_0 mM1 mM2 mM3 mM4) = t12_6 l1 l2 i3 i11 iM0_0 mM1 mM2 mM3 mM4 := by kernel_rfl
theorem h12_6 (l1 : List Int) (l2 : List Int) (i3 : Int) (i11 : Int) (iM0_0 : Int) (mM1 : List Int) (mM2 : List Int) (mM3 : List Int) (mM4 : List (Bool × Int × List Int)) (r : CV) (h : Good E12 kr12 (t12_6 l1 l2 i3 i11 iM0_0 mM1 mM2 mM3 mM4) r) : Lead E12 kr12 r (a12_6 l1 l2 i3 i11 iM0_0 mM1 mM2 mM3 mM4) := Lead.at fuel12 (fun fu => c12_6 fu l1 l2 i3 i11 iM0_0 mM1 mM2 mM3 mM4) h
noncomputable def t12_10 (l1 : List Int) (l2 : List Int) (i3 : Int) (i11 : Int) (i13 : Int) (iM0_0 : Int) (mM1 : List Int) (mM2 : List Int) (mM3 : List Int) (mM4 : List (Bool × Int × List Int)) (bM5_0 : Bool) (iM5_1 : Int) (mM6 : List Int) : Option Leaf :=
  bif Decidable.decide (i13 < (↑(List.length l1) : Int)) then
   bif Decidable.decide (i13 < (6 : Int)) then
    bif Decidable.decide ((0 : Int) ≤ i13) then
     ob (l1[Int.toNat i13]?) fun x3 =>
      bif ok45 (IntKind.wrap IntKind.i64 (x3 + i11)) (↑(List.length mM1) : Int) then
       bif Nat.ble (List.length mM6 + List.length [v45 (IntKind.wrap IntKind.i64 (x3 + i11)) (↑(List.length mM1) : Int)]) (4294967296 : Nat) then
        some (a12_10 l1 l2 i3 i11 (IntKind.wrap IntKind.i64 (i13 + (1 : Int))) iM0_0 mM1 mM2 mM3 mM4 bM5_0 iM5_1 (mM6 ++ [v45 (IntKind.wrap IntKind.i64 (x3 + i11)) (↑(List.length mM1) : Int)]))
       else
        none
      else
       none
    else
     none
   else
    bif Nat.ble (List.length mM4 + List.length [(bM5_0, iM5_1, mM6)]) (4294967296 : Nat) then
     some (a12_6 l1 l2 i3 (IntKind.wrap IntKind.i64 (i11 + (1 : Int))) iM0_0 mM1 mM2 mM3 (mM4 ++ [(bM5_0, iM5_1, mM6)]))
    else
     none
  else
   bif Nat.ble (List.length mM4 + List.length [(bM5_0, iM5_1, mM6)]) (4294967296 : Nat) then
    some (a12_6 l1 l2 i3 (IntKind.wrap IntKind.i64 (i11 + (1 : Int))) iM0_0 mM1 mM2 mM3 (mM4 ++ [(bM5_0, iM5_1, mM6)]))
   else
    none
theorem c12_10 (fu : Nat) (l1 : List Int) (l2 : List Int) (i3 : Int) (i11 : Int) (i13 : Int) (iM0_0 : Int) (mM1 : List Int) (mM2 : List Int) (mM3 : List Int) (mM4 : List (Bool × Int × List Int)) (bM5_0 : Bool) (iM5_1 : Int) (mM6 : List Int) : cutL (E12 fu) kr12 K12_10 C12_10 (s12_10 l1 l2 i3 i11 i13 iM0_0 mM1 mM2 mM3 mM4 bM5_0 iM5_1 mM6) = t12_10 l1 l2 i3 i11 i13 iM0_0 mM1 mM2 mM3 mM4 bM5_0 iM5_1 mM6 := by kernel_rfl
theorem h12_10 (l1 : List Int) (l2 : List Int) (i3 : Int) (i11 : Int) (i13 : Int) (iM0_0 : Int) (mM1 : List Int) (mM2 : List Int) (mM3 : List Int) (mM4 : List (Bool × Int × List Int)) (bM5_0 : Bool) (iM5_1 : Int) (mM6 : List Int) (r : CV) (h : Good E12 kr12 (t12_10 l1 l2 i3 i11 i13 iM0_0 mM1 mM2 mM3 mM4 bM5_0 iM5_1 mM6) r) : Lead E12 kr12 r (a12_10 l1 l2 i3 i11 i13 iM0_0 mM1 mM2 mM3 mM4 bM5_0 iM5_1 mM6) := Lead.at fuel12 (fun fu => c12_10 fu l1 l2 i3 i11 i13 iM0_0 mM1 mM2 mM3 mM4 bM5_0 iM5_1 mM6) h
noncomputable def t12 (ns : List Int) (ds : List Int) (as_ : List Int) (turn : Int) : Option Leaf :=
  bif ok18 ns then
   some (a12_6 ds as_ turn ((0 : Int)) (NetV.N (v18 ns)) (NetV.T (v18 ns)) (NetV.X (v18 ns)) (NetV.C (v18 ns)) [])
  else
   none
theorem c12 (fu : Nat) (ns : List Int) (ds : List Int) (as_ : List Int) (turn : Int) : cutB (E12 fu) kr12 Try.f12 (⟨parT 0 [.sl .int ns, .sl .int ds, .sl .int as_, .int .i64 turn], []⟩) = t12 ns ds as_ turn := by kernel_rfl
def R12 (ns : List Int) (ds : List Int) (as_ : List Int) (turn : Int) (r : Bool) : Prop := RunF E12 true Try.f12 [.sl .int ns, .sl .int ds, .sl .int as_, .int .i64 turn] (.bool r)
theorem run12 (ns : List Int) (ds : List Int) (as_ : List Int) (turn : Int) (r : Bool) (h : Good E12 kr12 (t12 ns ds as_ turn) (.bool r)) : R12 ns ds as_ turn r := RunF.of fuel12 (fun fu => c12 fu ns ds as_ turn) h
noncomputable def ok12 (ns : List Int) (ds : List Int) (as_ : List Int) (turn : Int) : Bool := okP (R12 ns ds as_ turn)
noncomputable def v12 (ns : List Int) (ds : List Int) (as_ : List Int) (turn : Int) : Bool := valP (R12 ns ds as_ turn)
theorem sp12 (ns : List Int) (ds : List Int) (as_ : List Int) (turn : Int) (r : Bool) (h : R12 ns ds as_ turn r) : ok12 ns ds as_ turn = true ∧ v12 ns ds as_ turn = r := okP_of h fun b hb => by
  have := RunF.uniq hb h
  simp_all
theorem at12 : P.funcs[12]? = some Try.f12 := by kernel_rfl
theorem callable12 : callable 12 = true := by kernel_rfl
theorem semok12 : SemOk (semOf ents12) := EntsOk.sem (.cons entok18 (.cons entok27 (.cons entok37 (.cons entok43 (.cons entok45 (.cons entok46 (.nil)))))))
theorem memok12 : MemOk (memOf mems12) := EntsMOk.mem (.nil)
noncomputable def ent12 : Ent := fun args => match args with
  | [.sl .int ns, .sl .int ds, .sl .int as_, .int .i64 turn] => some (true, ok12 ns ds as_ turn, .bool (v12 ns ds as_ turn))
  | _ => none
theorem entok12 : EntOk 12 ent12 := fun args own r h => by
  unfold ent12 at h
  split at h
  · simp only [Option.some.injEq, Prod.mk.injEq] at h
    obtain ⟨rfl, h, rfl⟩ := h
    exact ⟨RunF.calls (fun _ => semok12) (fun _ => memok12) at12 rfl (Nat.le_of_ble_eq_true rfl) (fun _ => rfl) (okP_val h), callable12⟩
  · cases h
end Go.Proofs.Ytnfgfdeidkhdkaa.Eng
/- Lv: PartsRaw: any parts are joined as the document says: their order does not matter. -/
namespace Go.Proofs.Ytnfgfdeidkhdkaa.Eng
set_option linter.unusedVariables false
set_option linter.unusedSimpArgs false
theorem l12_6 {ds as_ : List Int} {turn : Int} {m : NetV} (hm : (m.T.length : Int) % 2 = 0) (he : (m.T.length : Int) ≤ 240) :
    ∀ (n : Nat) (i : Int) (l : List (Bool × Int × List Int)), 0 ≤ i → i ≤ 8 → 8 - i = n → (l.length : Int) ≤ i → (∀ p, p ∈ l → PartOk m.T.length p) → Lead E12 kr12 (.bool true) (a12_6 ds as_ turn i m.N m.T m.X m.C l) := by
  intro n
  induction n with
  | zero =>
    intro i l i0 i1 i2 hl hp
    refine h12_6 _ _ _ _ _ _ _ _ _ _ ?_
    unfold t12_6
    by_cases c1 : i < (as_.length : Int)
    · refine good_pos c1 (good_neg (by omega) ?_)
      obtain ⟨k1, k2, k3⟩ := f45 (a := turn) (n := (l.length : Int) + 1) (by omega) (by omega)
      have e0 : IntKind.wrap IntKind.i64 ((l.length : Int) + 1) = (l.length : Int) + 1 := wrap_in (by omega) (by omega)
      rw [e0]
      refine good_true k1 ?_
      generalize v45 turn ((l.length : Int) + 1) = k at k2 k3 ⊢
      have hT : List.take (Int.toNat (l.length : Int) - Int.toNat k) (List.drop (Int.toNat k) l) = l.drop k.toNat := List.take_of_length_le (by rw [List.length_drop]; omega)
      have hD : List.take (Int.toNat k - Int.toNat 0) (List.drop (Int.toNat 0) l) = l.take k.toNat := rfl
      rw [hT, hD]
      have hlen : (l.drop k.toNat ++ l.take k.toNat).length = l.length := by rw [List.length_append, List.length_drop, List.length_take]; omega
      simp only [List.length_drop, List.length_take]
      repeat (first | (refine good_pos (by omega) ?_) | (refine good_pos trivial ?_) | (refine good_neg (by omega) ?_) | (refine good_npos (by omega) ?_) | (refine good_nneg (by omega) ?_) | (refine good_gi (by omega) (by omega) ?_) | (refine good_gb (by omega) (by omega) ?_) | (refine good_ble (by omega) ?_))
      obtain ⟨a1, a2⟩ := f43 (N := m.N) (T := m.T) (X := m.X) (C := m.C) hm he (by omega) hp
      obtain ⟨b1, b2⟩ := f46 (N := m.N) (T := m.T) (X := m.X) (C := m.C) hm he (by omega) hp a2
      have hp2 : ∀ p, p ∈ l.drop k.toNat ++ l.take k.toNat → PartOk m.T.length p := fun p h => by
        rcases List.mem_append.1 h with h | h
        · exact hp p (List.mem_of_mem_drop h)
        · exact hp p (List.mem_of_mem_take h)
      obtain ⟨c1, c2⟩ := f43 (N := m.N) (T := m.T) (X := m.X) (C := m.C) hm he (by omega) hp2
      obtain ⟨d1, d2⟩ := f43 (N := m.N) (T := m.T) (X := m.X) (C := m.C) (l := []) hm he (by simp) (fun p h => by cases h)
      have hs : v43 m.N m.T m.X m.C (l.drop k.toNat ++ l.take k.toNat) = v43 m.N m.T m.X m.C l := c2.uniq a2 fun e => by
        have : jP l e = jP (l.take k.toNat ++ l.drop k.toNat) e := by rw [List.take_append_drop]
        rw [this, jP_append, jP_append]; omega
      have hl1 := a2.len
      have hl2 := d2.len
      obtain ⟨g1, g2⟩ := f27_same (a := v43 m.N m.T m.X m.C l) rfl (by omega)
      simp only [hs, b2, a1, b1, c1, d1, g1, g2, cond_true, hl2, decide_true]
      exact good_end rfl
    · refine good_neg c1 ?_
      obtain ⟨k1, k2, k3⟩ := f45 (a := turn) (n := (l.length : Int) + 1) (by omega) (by omega)
      have e0 : IntKind.wrap IntKind.i64 ((l.length : Int) + 1) = (l.length : Int) + 1 := wrap_in (by omega) (by omega)
      rw [e0]
      refine good_true k1 ?_
      generalize v45 turn ((l.length : Int) + 1) = k at k2 k3 ⊢
      have hT : List.take (Int.toNat (l.length : Int) - Int.toNat k) (List.drop (Int.toNat k) l) = l.drop k.toNat := List.take_of_length_le (by rw [List.length_drop]; omega)
      have hD : List.take (Int.toNat k - Int.toNat 0) (List.drop (Int.toNat 0) l) = l.take k.toNat := rfl
      rw [hT, hD]
      have hlen : (l.drop k.toNat ++ l.take k.toNat).length = l.length := by rw [List.length_append, List.length_drop, List.length_take]; omega
      simp only [List.length_drop, List.length_take]
      repeat (first | (refine good_pos (by omega) ?_) | (refine good_pos trivial ?_) | (refine good_neg (by omega) ?_) | (refine good_npos (by omega) ?_) | (refine good_nneg (by omega) ?_) | (refine good_gi (by omega) (by omega) ?_) | (refine good_gb (by omega) (by omega) ?_) | (refine good_ble (by omega) ?_))
      obtain ⟨a1, a2⟩ := f43 (N := m.N) (T := m.T) (X := m.X) (C := m.C) hm he (by omega) hp
      obtain ⟨b1, b2⟩ := f46 (N := m.N) (T := m.T) (X := m.X) (C := m.C) hm he (by omega) hp a2
      have hp2 : ∀ p, p ∈ l.drop k.toNat ++ l.take k.toNat → PartOk m.T.length p := fun p h => by
        rcases List.mem_append.1 h with h | h
        · exact hp p (List.mem_of_mem_drop h)
        · exact hp p (List.mem_of_mem_take h)
      obtain ⟨c1, c2⟩ := f43 (N := m.N) (T := m.T) (X := m.X) (C := m.C) hm he (by omega) hp2
      obtain ⟨d1, d2⟩ := f43 (N := m.N) (T := m.T) (X := m.X) (C := m.C) (l := []) hm he (by simp) (fun p h => by cases h)
      have hs : v43 m.N m.T m.X m.C (l.drop k.toNat ++ l.take k.toNat) = v43 m.N m.T m.X m.C l := c2.uniq a2 fun e => by
        have : jP l e = jP (l.take k.toNat ++ l.drop k.toNat) e := by rw [List.take_append_drop]
        rw [this, jP_append, jP_append]; omega
      have hl1 := a2.len
      have hl2 := d2.len
      obtain ⟨g1, g2⟩ := f27_same (a := v43 m.N m.T m.X m.C l) rfl (by omega)
      simp only [hs, b2, a1, b1, c1, d1, g1, g2, cond_true, hl2, decide_true]
      exact good_end rfl
  | succ n ih =>
    intro i l i0 i1 i2 hl hp
    refine h12_6 _ _ _ _ _ _ _ _ _ _ ?_
    unfold t12_6
    by_cases c1 : i < (as_.length : Int)
    · by_cases c3 : 0 < (m.T.length : Int)
      · obtain ⟨x1, x2, x3⟩ := f45 (a := gi as_ i) (n := 2000) (by omega) (by omega)
        have e1 : IntKind.wrap IntKind.i64 (v45 (gi as_ i) 2000 - 1000) = v45 (gi as_ i) 2000 - 1000 := wrap_in (by omega) (by omega)
        have inner : ∀ (k : Nat) (j : Int) (D : List Int) (b : Bool), 0 ≤ j → j ≤ 6 → 6 - j = k → (D.length : Int) ≤ j → (∀ d, d ∈ D → 0 ≤ d ∧ d < (m.T.length : Int)) →
            Lead E12 kr12 (.bool true) (a12_10 ds as_ turn i j m.N m.T m.X m.C l b (v45 (gi as_ i) 2000 - 1000) D) := by
          intro k
          induction k with
          | zero =>
            intro j D b j0 j1 j2 hD hd
            have nxt := ih (i + 1) (l ++ [(b, v45 (gi as_ i) 2000 - 1000, D)]) (by omega) (by omega) (by omega) (by simp; omega) (fun p h => by
              rcases List.mem_append.1 h with h | h
              · exact hp p h
              · rw [List.mem_singleton] at h
                subst h
                exact ⟨by simp only; omega, by simp only; omega, hd⟩)
            refine h12_10 _ _ _ _ _ _ _ _ _ _ _ _ _ _ ?_
            unfold t12_10
            simp (disch := omega) only [wrap_in]
            simp only [List.length_singleton]
            by_cases c : j < (ds.length : Int)
            · repeat (first | (refine good_pos (by omega) ?_) | (refine good_pos trivial ?_) | (refine good_neg (by omega) ?_) | (refine good_npos (by omega) ?_) | (refine good_nneg (by omega) ?_) | (refine good_gi (by omega) (by omega) ?_) | (refine good_gb (by omega) (by omega) ?_) | (refine good_ble (by omega) ?_))
              exact good_at nxt
            · repeat (first | (refine good_pos (by omega) ?_) | (refine good_pos trivial ?_) | (refine good_neg (by omega) ?_) | (refine good_npos (by omega) ?_) | (refine good_nneg (by omega) ?_) | (refine good_gi (by omega) (by omega) ?_) | (refine good_gb (by omega) (by omega) ?_) | (refine good_ble (by omega) ?_))
              exact good_at nxt
          | succ k ihk =>
            intro j D b j0 j1 j2 hD hd
            refine h12_10 _ _ _ _ _ _ _ _ _ _ _ _ _ _ ?_
            unfold t12_10
            by_cases c : j < (ds.length : Int)
            · obtain ⟨y1, y2, y3⟩ := f45 (a := IntKind.wrap IntKind.i64 (gi ds j + i)) (n := (m.T.length : Int)) c3 (by omega)
              have nxt := ihk (j + 1) (D ++ [v45 (IntKind.wrap IntKind.i64 (gi ds j + i)) m.T.length]) b (by omega) (by omega) (by omega) (by simp; omega) (fun d h => by
                rcases List.mem_append.1 h with h | h
                · exact hd d h
                · rw [List.mem_singleton] at h
                  subst h; exact ⟨y2, y3⟩)
              have e2 : IntKind.wrap IntKind.i64 (j + 1) = j + 1 := wrap_in (by omega) (by omega)
              rw [e2]
              repeat (first | (refine good_pos (by omega) ?_) | (refine good_pos trivial ?_) | (refine good_neg (by omega) ?_) | (refine good_npos (by omega) ?_) | (refine good_nneg (by omega) ?_) | (refine good_gi (by omega) (by omega) ?_) | (refine good_gb (by omega) (by omega) ?_) | (refine good_ble (by omega) ?_))
              refine good_true y1 ?_
              simp only [List.length_singleton]
              repeat (first | (refine good_pos (by omega) ?_) | (refine good_pos trivial ?_) | (refine good_neg (by omega) ?_) | (refine good_npos (by omega) ?_) | (refine good_nneg (by omega) ?_) | (refine good_gi (by omega) (by omega) ?_) | (refine good_gb (by omega) (by omega) ?_) | (refine good_ble (by omega) ?_))
              exact good_at nxt
            · have nxt := ih (i + 1) (l ++ [(b, v45 (gi as_ i) 2000 - 1000, D)]) (by omega) (by omega) (by omega) (by simp; omega) (fun p h => by
                rcases List.mem_append.1 h with h | h
                · exact hp p h
                · rw [List.mem_singleton] at h
                  subst h
                  exact ⟨by simp only; omega, by simp only; omega, hd⟩)
              have e2 : IntKind.wrap IntKind.i64 (i + 1) = i + 1 := wrap_in (by omega) (by omega)
              rw [e2]
              simp only [List.length_singleton]
              repeat (first | (refine good_pos (by omega) ?_) | (refine good_pos trivial ?_) | (refine good_neg (by omega) ?_) | (refine good_npos (by omega) ?_) | (refine good_nneg (by omega) ?_) | (refine good_gi (by omega) (by omega) ?_) | (refine good_gb (by omega) (by omega) ?_) | (refine good_ble (by omega) ?_))
              exact good_at nxt
        refine good_pos c1 (good_pos (by omega) (good_pos c3 ?_))
        repeat (first | (refine good_pos (by omega) ?_) | (refine good_pos trivial ?_) | (refine good_neg (by omega) ?_) | (refine good_npos (by omega) ?_) | (refine good_nneg (by omega) ?_) | (refine good_gi (by omega) (by omega) ?_) | (refine good_gb (by omega) (by omega) ?_) | (refine good_ble (by omega) ?_))
        refine good_true x1 ?_
        rw [e1]
        exact good_at (inner 6 0 [] _ (by omega) (by omega) (by omega) (by simp) (fun d h => by cases h))
      · refine good_pos c1 (good_pos (by omega) (good_neg c3 ?_))
        obtain ⟨k1, k2, k3⟩ := f45 (a := turn) (n := (l.length : Int) + 1) (by omega) (by omega)
        have e0 : IntKind.wrap IntKind.i64 ((l.length : Int) + 1) = (l.length : Int) + 1 := wrap_in (by omega) (by omega)
        rw [e0]
        refine good_true k1 ?_
        generalize v45 turn ((l.length : Int) + 1) = k at k2 k3 ⊢
        have hT : List.take (Int.toNat (l.length : Int) - Int.toNat k) (List.drop (Int.toNat k) l) = l.drop k.toNat := List.take_of_length_le (by rw [List.length_drop]; omega)
        have hD : List.take (Int.toNat k - Int.toNat 0) (List.drop (Int.toNat 0) l) = l.take k.toNat := rfl
        rw [hT, hD]
        have hlen : (l.drop k.toNat ++ l.take k.toNat).length = l.length := by rw [List.length_append, List.length_drop, List.length_take]; omega
        simp only [List.length_drop, List.length_take]
        repeat (first | (refine good_pos (by omega) ?_) | (refine good_pos trivial ?_) | (refine good_neg (by omega) ?_) | (refine good_npos (by omega) ?_) | (refine good_nneg (by omega) ?_) | (refine good_gi (by omega) (by omega) ?_) | (refine good_gb (by omega) (by omega) ?_) | (refine good_ble (by omega) ?_))
        obtain ⟨a1, a2⟩ := f43 (N := m.N) (T := m.T) (X := m.X) (C := m.C) hm he (by omega) hp
        obtain ⟨b1, b2⟩ := f46 (N := m.N) (T := m.T) (X := m.X) (C := m.C) hm he (by omega) hp a2
        have hp2 : ∀ p, p ∈ l.drop k.toNat ++ l.take k.toNat → PartOk m.T.length p := fun p h => by
          rcases List.mem_append.1 h with h | h
          · exact hp p (List.mem_of_mem_drop h)
          · exact hp p (List.mem_of_mem_take h)
        obtain ⟨c1, c2⟩ := f43 (N := m.N) (T := m.T) (X := m.X) (C := m.C) hm he (by omega) hp2
        obtain ⟨d1, d2⟩ := f43 (N := m.N) (T := m.T) (X := m.X) (C := m.C) (l := []) hm he (by simp) (fun p h => by cases h)
        have hs : v43 m.N m.T m.X m.C (l.drop k.toNat ++ l.take k.toNat) = v43 m.N m.T m.X m.C l := c2.uniq a2 fun e => by
          have : jP l e = jP (l.take k.toNat ++ l.drop k.toNat) e := by rw [List.take_append_drop]
          rw [this, jP_append, jP_append]; omega
        have hl1 := a2.len
        have hl2 := d2.len
        obtain ⟨g1, g2⟩ := f27_same (a := v43 m.N m.T m.X m.C l) rfl (by omega)
        simp only [hs, b2, a1, b1, c1, d1, g1, g2, cond_true, hl2, decide_true]
        exact good_end rfl
    · refine good_neg c1 ?_
      obtain ⟨k1, k2, k3⟩ := f45 (a := turn) (n := (l.length : Int) + 1) (by omega) (by omega)
      have e0 : IntKind.wrap IntKind.i64 ((l.length : Int) + 1) = (l.length : Int) + 1 := wrap_in (by omega) (by omega)
      rw [e0]
      refine good_true k1 ?_
      generalize v45 turn ((l.length : Int) + 1) = k at k2 k3 ⊢
      have hT : List.take (Int.toNat (l.length : Int) - Int.toNat k) (List.drop (Int.toNat k) l) = l.drop k.toNat := List.take_of_length_le (by rw [List.length_drop]; omega)
      have hD : List.take (Int.toNat k - Int.toNat 0) (List.drop (Int.toNat 0) l) = l.take k.toNat := rfl
      rw [hT, hD]
      have hlen : (l.drop k.toNat ++ l.take k.toNat).length = l.length := by rw [List.length_append, List.length_drop, List.length_take]; omega
      simp only [List.length_drop, List.length_take]
      repeat (first | (refine good_pos (by omega) ?_) | (refine good_pos trivial ?_) | (refine good_neg (by omega) ?_) | (refine good_npos (by omega) ?_) | (refine good_nneg (by omega) ?_) | (refine good_gi (by omega) (by omega) ?_) | (refine good_gb (by omega) (by omega) ?_) | (refine good_ble (by omega) ?_))
      obtain ⟨a1, a2⟩ := f43 (N := m.N) (T := m.T) (X := m.X) (C := m.C) hm he (by omega) hp
      obtain ⟨b1, b2⟩ := f46 (N := m.N) (T := m.T) (X := m.X) (C := m.C) hm he (by omega) hp a2
      have hp2 : ∀ p, p ∈ l.drop k.toNat ++ l.take k.toNat → PartOk m.T.length p := fun p h => by
        rcases List.mem_append.1 h with h | h
        · exact hp p (List.mem_of_mem_drop h)
        · exact hp p (List.mem_of_mem_take h)
      obtain ⟨c1, c2⟩ := f43 (N := m.N) (T := m.T) (X := m.X) (C := m.C) hm he (by omega) hp2
      obtain ⟨d1, d2⟩ := f43 (N := m.N) (T := m.T) (X := m.X) (C := m.C) (l := []) hm he (by simp) (fun p h => by cases h)
      have hs : v43 m.N m.T m.X m.C (l.drop k.toNat ++ l.take k.toNat) = v43 m.N m.T m.X m.C l := c2.uniq a2 fun e => by
        have : jP l e = jP (l.take k.toNat ++ l.drop k.toNat) e := by rw [List.take_append_drop]
        rw [this, jP_append, jP_append]; omega
      have hl1 := a2.len
      have hl2 := d2.len
      obtain ⟨g1, g2⟩ := f27_same (a := v43 m.N m.T m.X m.C l) rfl (by omega)
      simp only [hs, b2, a1, b1, c1, d1, g1, g2, cond_true, hl2, decide_true]
      exact good_end rfl
theorem f12 (ns ds as_ : List Int) (turn : Int) : R12 ns ds as_ turn true := by
  obtain ⟨a1, a2, -⟩ := f18 ns
  refine run12 _ _ _ _ _ ?_
  unfold t12
  exact good_true a1 (good_at (l12_6 a2.s.e a2.s.k 8 0 [] (by omega) (by omega) (by omega) (by simp) (fun p h => by cases h)))
theorem partsRaw_calls (ns ds as_ : List Int) (turn : Int) : CallsC 12 [.sl .int ns, .sl .int ds, .sl .int as_, .int .i64 turn] true (.bool true) :=
  RunF.calls (fun _ => semok12) (fun _ => memok12) at12 rfl (Nat.le_of_ble_eq_true rfl) (fun _ => rfl) (f12 ns ds as_ turn)
end Go.Proofs.Ytnfgfdeidkhdkaa.Eng
