/- watershed/watershedlaw2.RotParts: its run from loop to loop, as Lean printed it (a program of this session's wrote these rows). No condition. -/
import Derived.Test.YtnfgfdeidkhdkaaGd
import Derived.Test.YtnfgfdeidkhdkaaGe
import Derived.Test.YtnfgfdeidkhdkaaP19
import Derived.Test.YtnfgfdeidkhdkaaP22
import Derived.Test.YtnfgfdeidkhdkaaP25
namespace Go.Proofs.Ytnfgfdeidkhdkaa.Eng
set_option linter.unusedVariables false
set_option maxRecDepth 100000
noncomputable def ents6 : List (Nat × Ent) := [(17, ent17), (19, ent19), (22, ent22), (25, ent25)]
noncomputable def mems6 : List (Nat × EntM) := []
noncomputable def E6 (fu : Nat) : Env := ⟨135, 0, semOf ents6, [], memOf mems6, [], [(100013, ⟨[], [(9, none), (9, some 0), (9, some 1), (9, some 2), (9, some 3), (10, none), (11, none), (12, none), (13, none), (14, none), (15, none)], [9, 10, 11, 12, 13, 14, 15]⟩), (100016, ⟨[], [(9, none), (9, some 0), (9, some 1), (9, some 2), (9, some 3), (10, none), (11, none), (12, none), (13, none), (14, none), (15, none), (16, none)], [9, 10, 11, 12, 13, 14, 15, 16]⟩), (100023, ⟨[], [(9, none), (9, some 0), (9, some 1), (9, some 2), (9, some 3), (10, none), (11, none), (12, none), (13, none), (14, none), (17, none), (18, none)], [9, 10, 11, 12, 13, 14, 17, 18]⟩)], fu⟩
theorem fuel6 : Fuel E6 := fun _ => rfl
noncomputable def kr6 : St → Option CV := endK true Try.f6.results.toList
noncomputable def K6_13 : List Fr := theK Try.f6 100013
noncomputable def C6_13 : Code := theC Try.f6 100013
def s6_13 (i11 : Int) (i13 : Int) (i14 : Int) (b15 : Bool) (iM0_0 : Int) (lM0_1 : List Int) (lM0_2 : List Int) (lM0_3 : List Int) (mM1 : List Int) (mM2 : List Bool) : St := ⟨[(9, .ptr 8000 0), (10, .ref 8001), (11, .int .i64 i11), (12, .ref 8002), (13, .int .i64 i13), (14, .int .i64 i14), (15, .bool b15)], [(8000, some (.cells 25 [.int .i64 iM0_0, .sl .int lM0_1, .sl .int lM0_2, .sl .int lM0_3])), (8001, some (.arr false .int mM1)), (8002, some (.arr true .bool mM2))]⟩
noncomputable def a6_13 (i11 : Int) (i13 : Int) (i14 : Int) (b15 : Bool) (iM0_0 : Int) (lM0_1 : List Int) (lM0_2 : List Int) (lM0_3 : List Int) (mM1 : List Int) (mM2 : List Bool) : Leaf := .at K6_13 C6_13 (s6_13 i11 i13 i14 b15 iM0_0 lM0_1 lM0_2 lM0_3 mM1 mM2)
noncomputable def K6_16 : List Fr := theK Try.f6 100016
noncomputable def C6_16 : Code := theC Try.f6 100016
def s6_16 (i11 : Int) (i13 : Int) (i14 : Int) (b15 : Bool) (i16 : Int) (iM0_0 : Int) (lM0_1 : List Int) (lM0_2 : List Int) (lM0_3 : List Int) (mM1 : List Int) (mM2 : List Bool) : St := ⟨[(9, .ptr 8000 0), (10, .ref 8001), (11, .int .i64 i11), (12, .ref 8002), (13, .int .i64 i13), (14, .int .i64 i14), (15, .bool b15), (16, .int .i64 i16)], [(8000, some (.cells 25 [.int .i64 iM0_0, .sl .int lM0_1, .sl .int lM0_2, .sl .int lM0_3])), (8001, some (.arr false .int mM1)), (8002, some (.arr true .bool mM2))]⟩
noncomputable def a6_16 (i11 : Int) (i13 : Int) (i14 : Int) (b15 : Bool) (i16 : Int) (iM0_0 : Int) (lM0_1 : List Int) (lM0_2 : List Int) (lM0_3 : List Int) (mM1 : List Int) (mM2 : List Bool) : Leaf := .at K6_16 C6_16 (s6_16 i11 i13 i14 b15 i16 iM0_0 lM0_1 lM0_2 lM0_3 mM1 mM2)
noncomputable def K6_23 : List Fr := theK Try.f6 100023
noncomputable def C6_23 : Code := theC Try.f6 100023
def s6_23 (i11 : Int) (i13 : Int) (i14 : Int) (i17 : Int) (i18 : Int) (iM0_0 : Int) (lM0_1 : List Int) (lM0_2 : List Int) (lM0_3 : List Int) (mM1 : List Int) (mM2 : List Bool) : St := ⟨[(9, .ptr 8000 0), (10, .ref 8001), (11, .int .i64 i11), (12, .ref 8002), (13, .int .i64 i13), (14, .int .i64 i14), (17, .int .i64 i17), (18, .int .i64 i18)], [(8000, some (.cells 25 [.int .i64 iM0_0, .sl .int lM0_1, .sl .int lM0_2, .sl .int lM0_3])), (8001, some (.arr false .int mM1)), (8002, some (.arr true .bool mM2))]⟩
noncomputable def a6_23 (i11 : Int) (i13 : Int) (i14 : Int) (i17 : Int) (i18 : Int) (iM0_0 : Int) (lM0_1 : List Int) (lM0_2 : List Int) (lM0_3 : List Int) (mM1 : List Int) (mM2 : List Bool) : Leaf := .at K6_23 C6_23 (s6_23 i11 i13 i14 i17 i18 iM0_0 lM0_1 lM0_2 lM0_3 mM1 mM2)
noncomputable def t6_13 (i11 : Int) (i13 : Int) (i14 : Int) (b15 : Bool) (iM0_0 : Int) (lM0_1 : List Int) (lM0_2 : List Int) (lM0_3 : List Int) (mM1 : List Int) (mM2 : List Bool) : Option Leaf :=
  bif b15 then
   some (a6_16 i11 i13 i14 Bool.false ((0 : Int)) iM0_0 lM0_1 lM0_2 lM0_3 mM1 mM2)
  else
   some (a6_23 i11 i13 i14 ((0 : Int)) ((0 : Int)) iM0_0 lM0_1 lM0_2 lM0_3 mM1 mM2)
theorem c6_13 (fu : Nat) (i11 : Int) (i13 : Int) (i14 : Int) (b15 : Bool) (iM0_0 : Int) (lM0_1 : List Int) (lM0_2 : List Int) (lM0_3 : List Int) (mM1 : List Int) (mM2 : List Bool) : cutL (E6 fu) kr6 K6_13 C6_13 (s6_13 i11 i13 i14 b15 iM0_0 lM0_1 lM0_2 lM0_3 mM1 mM2) = t6_13 i11 i13 i14 b15 iM0_0 lM0_1 lM0_2 lM0_3 mM1 mM2 := by kernel_rfl
theorem h6_13 (i11 : Int) (i13 : Int) (i14 : Int) (b15 : Bool) (iM0_0 : Int) (lM0_1 : List Int) (lM0_2 : List Int) (lM0_3 : List Int) (mM1 : List Int) (mM2 : List Bool) (r : CV) (h : Good E6 kr6 (t6_13 i11 i13 i14 b15 iM0_0 lM0_1 lM0_2 lM0_3 mM1 mM2) r) : Lead E6 kr6 r (a6_13 i11 i13 i14 b15 iM0_0 lM0_1 lM0_2 lM0_3 mM1 mM2) := Lead.at fuel6 (fun fu => c6_13 fu i11 i13 i14 b15 iM0_0 lM0_1 lM0_2 lM0_3 mM1 mM2) h
noncomputable def t6_16 (i11 : Int) (i13 : Int) (i14 : Int) (b15 : Bool) (i16 : Int) (iM0_0 : Int) (lM0_1 : List Int) (lM0_2 : List Int) (lM0_3 : List Int) (mM1 : List Int) (mM2 : List Bool) : Option Leaf :=
  bif Decidable.decide (i16 < (↑(List.length lM0_1) : Int)) then
   bif Decidable.decide ((0 : Int) ≤ i16) then
    ob (lM0_1[Int.toNat i16]?) fun x2 =>
     bif Decidable.decide ((0 : Int) ≤ x2) then
      bif Decidable.decide (x2 < (↑(List.length mM2) : Int)) then
       ob (mM2[Int.toNat x2]?) fun x3 =>
        bif x3 then
         bif Decidable.decide ((0 : Int) ≤ bitsI BinOp.xor IntKind.i64 i16 (1 : Int)) then
          ob (lM0_1[Int.toNat (bitsI BinOp.xor IntKind.i64 i16 (1 : Int))]?) fun x4 =>
           bif Decidable.decide ((0 : Int) ≤ x4) then
            bif Decidable.decide (x4 < (↑(List.length mM2) : Int)) then
             ob (mM2[Int.toNat x4]?) fun x5 =>
              bif !x5 then
               bif Decidable.decide ((0 : Int) ≤ bitsI BinOp.xor IntKind.i64 i16 (1 : Int)) then
                ob (lM0_1[Int.toNat (bitsI BinOp.xor IntKind.i64 i16 (1 : Int))]?) fun x6 =>
                 bif Decidable.decide ((0 : Int) ≤ x6) then
                  bif Decidable.decide (x6 < (↑(List.length mM2) : Int)) then
                   ob (mM2[Int.toNat x6]?) fun x7 =>
                    some (a6_16 i11 i13 i14 Bool.true (IntKind.wrap IntKind.i64 (i16 + (1 : Int))) iM0_0 lM0_1 lM0_2 lM0_3 mM1 (List.set mM2 (Int.toNat x6) Bool.true))
                  else
                   none
                 else
                  none
               else
                none
              else
               some (a6_16 i11 i13 i14 b15 (IntKind.wrap IntKind.i64 (i16 + (1 : Int))) iM0_0 lM0_1 lM0_2 lM0_3 mM1 mM2)
            else
             none
           else
            none
         else
          none
        else
         some (a6_16 i11 i13 i14 b15 (IntKind.wrap IntKind.i64 (i16 + (1 : Int))) iM0_0 lM0_1 lM0_2 lM0_3 mM1 mM2)
      else
       none
     else
      none
   else
    none
  else
   some (a6_13 i11 i13 i14 b15 iM0_0 lM0_1 lM0_2 lM0_3 mM1 mM2)
theorem c6_16 (fu : Nat) (i11 : Int) (i13 : Int) (i14 : Int) (b15 : Bool) (i16 : Int) (iM0_0 : Int) (lM0_1 : List Int) (lM0_2 : List Int) (lM0_3 : List Int) (mM1 : List Int) (mM2 : List Bool) : cutL (E6 fu) kr6 K6_16 C6_16 (s6_16 i11 i13 i14 b15 i16 iM0_0 lM0_1 lM0_2 lM0_3 mM1 mM2) = t6_16 i11 i13 i14 b15 i16 iM0_0 lM0_1 lM0_2 lM0_3 mM1 mM2 := by kernel_rfl
theorem h6_16 (i11 : Int) (i13 : Int) (i14 : Int) (b15 : Bool) (i16 : Int) (iM0_0 : Int) (lM0_1 : List Int) (lM0_2 : List Int) (lM0_3 : List Int) (mM1 : List Int) (mM2 : List Bool) (r : CV) (h : Good E6 kr6 (t6_16 i11 i13 i14 b15 i16 iM0_0 lM0_1 lM0_2 lM0_3 mM1 mM2) r) : Lead E6 kr6 r (a6_16 i11 i13 i14 b15 i16 iM0_0 lM0_1 lM0_2 lM0_3 mM1 mM2) := Lead.at fuel6 (fun fu => c6_16 fu i11 i13 i14 b15 i16 iM0_0 lM0_1 lM0_2 lM0_3 mM1 mM2) h
noncomputable def t6_23 (i11 : Int) (i13 : Int) (i14 : Int) (i17 : Int) (i18 : Int) (iM0_0 : Int) (lM0_1 : List Int) (lM0_2 : List Int) (lM0_3 : List Int) (mM1 : List Int) (mM2 : List Bool) : Option Leaf :=
  bif Decidable.decide (i18 < iM0_0) then
   bif Decidable.decide ((0 : Int) ≤ i18) then
    bif Decidable.decide (i18 < (↑(List.length mM1) : Int)) then
     ob (mM1[Int.toNat i18]?) fun x8 =>
      bif Decidable.decide (i17 < x8) then
       some (.ret (CV.bool Bool.false))
      else
       bif Decidable.decide ((0 : Int) ≤ i18) then
        bif Decidable.decide (i18 < (↑(List.length mM1) : Int)) then
         ob (mM1[Int.toNat i18]?) fun x9 =>
          bif Decidable.decide (x9 < (0 : Int)) then
           some (.ret (CV.bool Bool.false))
          else
           bif Decidable.decide ((0 : Int) ≤ i18) then
            bif Decidable.decide (i18 < (↑(List.length mM1) : Int)) then
             ob (mM1[Int.toNat i18]?) fun x10 =>
              bif Decidable.decide (x10 = i17) then
               some (a6_23 i11 i13 i14 (IntKind.wrap IntKind.i64 (i17 + (1 : Int))) (IntKind.wrap IntKind.i64 (i18 + (1 : Int))) iM0_0 lM0_1 lM0_2 lM0_3 mM1 mM2)
              else
               some (a6_23 i11 i13 i14 i17 (IntKind.wrap IntKind.i64 (i18 + (1 : Int))) iM0_0 lM0_1 lM0_2 lM0_3 mM1 mM2)
            else
             none
           else
            none
        else
         none
       else
        none
    else
     none
   else
    none
  else
   bif Decidable.decide ((0 : Int) ≤ i13) then
    bif Decidable.decide (i13 < (↑(List.length mM1) : Int)) then
     ob (mM1[Int.toNat i13]?) fun x11 =>
      bif Decidable.decide ((0 : Int) ≤ i14) then
       bif Decidable.decide (i14 < (↑(List.length mM1) : Int)) then
        ob (mM1[Int.toNat i14]?) fun x12 =>
         bif Decidable.decide ((0 : Int) ≤ i14) then
          bif Decidable.decide (i14 < (↑(List.length mM2) : Int)) then
           ob (mM2[Int.toNat i14]?) fun x13 =>
            bif Decidable.decide (x11 = x12) == x13 then
             some (.ret (CV.bool (Decidable.decide (i17 = i11))))
            else
             some (.ret (CV.bool Bool.false))
          else
           none
         else
          none
       else
        none
      else
       none
    else
     none
   else
    none
theorem c6_23 (fu : Nat) (i11 : Int) (i13 : Int) (i14 : Int) (i17 : Int) (i18 : Int) (iM0_0 : Int) (lM0_1 : List Int) (lM0_2 : List Int) (lM0_3 : List Int) (mM1 : List Int) (mM2 : List Bool) : cutL (E6 fu) kr6 K6_23 C6_23 (s6_23 i11 i13 i14 i17 i18 iM0_0 lM0_1 lM0_2 lM0_3 mM1 mM2) = t6_23 i11 i13 i14 i17 i18 iM0_0 lM0_1 lM0_2 lM0_3 mM1 mM2 := by kernel_rfl
theorem h6_23 (i11 : Int) (i13 : Int) (i14 : Int) (i17 : Int) (i18 : Int) (iM0_0 : Int) (lM0_1 : List Int) (lM0_2 : List Int) (lM0_3 : List Int) (mM1 : List Int) (mM2 : List Bool) (r : CV) (h : Good E6 kr6 (t6_23 i11 i13 i14 i17 i18 iM0_0 lM0_1 lM0_2 lM0_3 mM1 mM2) r) : Lead E6 kr6 r (a6_23 i11 i13 i14 i17 i18 iM0_0 lM0_1 lM0_2 lM0_3 mM1 mM2) := Lead.at fuel6 (fun fu => c6_23 fu i11 i13 i14 i17 i18 iM0_0 lM0_1 lM0_2 lM0_3 mM1 mM2) h
noncomputable def t6 (size : Int) (ms : List Int) (a : Int) (b : Int) : Option Leaf :=
  bif ok22 size (8 : Int) then
   bif ok19 (IntKind.wrap IntKind.i64 ((1 : Int) + v22 size (8 : Int))) ms then
    bif Decidable.decide (NetV.N (v19 (IntKind.wrap IntKind.i64 ((1 : Int) + v22 size (8 : Int))) ms) = (0 : Int)) then
     some (.ret (CV.bool Bool.true))
    else
     bif ok25 (NetV.N (v19 (IntKind.wrap IntKind.i64 ((1 : Int) + v22 size (8 : Int))) ms)) (NetV.T (v19 (IntKind.wrap IntKind.i64 ((1 : Int) + v22 size (8 : Int))) ms)) (NetV.X (v19 (IntKind.wrap IntKind.i64 ((1 : Int) + v22 size (8 : Int))) ms)) (NetV.C (v19 (IntKind.wrap IntKind.i64 ((1 : Int) + v22 size (8 : Int))) ms)) then
      bif !Decidable.decide ((↑(List.length (Prod.fst (v25 (NetV.N (v19 (IntKind.wrap IntKind.i64 ((1 : Int) + v22 size (8 : Int))) ms)) (NetV.T (v19 (IntKind.wrap IntKind.i64 ((1 : Int) + v22 size (8 : Int))) ms)) (NetV.X (v19 (IntKind.wrap IntKind.i64 ((1 : Int) + v22 size (8 : Int))) ms)) (NetV.C (v19 (IntKind.wrap IntKind.i64 ((1 : Int) + v22 size (8 : Int))) ms))))) : Int) = NetV.N (v19 (IntKind.wrap IntKind.i64 ((1 : Int) + v22 size (8 : Int))) ms)) then
       some (.ret (CV.bool Bool.false))
      else
       bif Decidable.decide (NetV.N (v19 (IntKind.wrap IntKind.i64 ((1 : Int) + v22 size (8 : Int))) ms) = NetV.N (v19 (IntKind.wrap IntKind.i64 ((1 : Int) + v22 size (8 : Int))) ms)) then
        bif Decidable.decide ((0 : Int) ≤ NetV.N (v19 (IntKind.wrap IntKind.i64 ((1 : Int) + v22 size (8 : Int))) ms)) then
         bif Decidable.decide (NetV.N (v19 (IntKind.wrap IntKind.i64 ((1 : Int) + v22 size (8 : Int))) ms) ≤ (4294967296 : Int)) then
          bif ok22 a (NetV.N (v19 (IntKind.wrap IntKind.i64 ((1 : Int) + v22 size (8 : Int))) ms)) then
           bif ok22 b (NetV.N (v19 (IntKind.wrap IntKind.i64 ((1 : Int) + v22 size (8 : Int))) ms)) then
            bif Decidable.decide ((0 : Int) ≤ v22 a (NetV.N (v19 (IntKind.wrap IntKind.i64 ((1 : Int) + v22 size (8 : Int))) ms))) then
             bif Decidable.decide (v22 a (NetV.N (v19 (IntKind.wrap IntKind.i64 ((1 : Int) + v22 size (8 : Int))) ms)) < (↑(List.length (List.replicate (Int.toNat (NetV.N (v19 (IntKind.wrap IntKind.i64 ((1 : Int) + v22 size (8 : Int))) ms))) Bool.false)) : Int)) then
              ob ((List.replicate (Int.toNat (NetV.N (v19 (IntKind.wrap IntKind.i64 ((1 : Int) + v22 size (8 : Int))) ms))) Bool.false)[Int.toNat (v22 a (NetV.N (v19 (IntKind.wrap IntKind.i64 ((1 : Int) + v22 size (8 : Int))) ms)))]?) fun x1 =>
               some (a6_13 (Prod.snd (v25 (NetV.N (v19 (IntKind.wrap IntKind.i64 ((1 : Int) + v22 size (8 : Int))) ms)) (NetV.T (v19 (IntKind.wrap IntKind.i64 ((1 : Int) + v22 size (8 : Int))) ms)) (NetV.X (v19 (IntKind.wrap IntKind.i64 ((1 : Int) + v22 size (8 : Int))) ms)) (NetV.C (v19 (IntKind.wrap IntKind.i64 ((1 : Int) + v22 size (8 : Int))) ms)))) (v22 a (NetV.N (v19 (IntKind.wrap IntKind.i64 ((1 : Int) + v22 size (8 : Int))) ms))) (v22 b (NetV.N (v19 (IntKind.wrap IntKind.i64 ((1 : Int) + v22 size (8 : Int))) ms))) Bool.true (NetV.N (v19 (IntKind.wrap IntKind.i64 ((1 : Int) + v22 size (8 : Int))) ms)) (NetV.T (v19 (IntKind.wrap IntKind.i64 ((1 : Int) + v22 size (8 : Int))) ms)) (NetV.X (v19 (IntKind.wrap IntKind.i64 ((1 : Int) + v22 size (8 : Int))) ms)) (NetV.C (v19 (IntKind.wrap IntKind.i64 ((1 : Int) + v22 size (8 : Int))) ms)) (Prod.fst (v25 (NetV.N (v19 (IntKind.wrap IntKind.i64 ((1 : Int) + v22 size (8 : Int))) ms)) (NetV.T (v19 (IntKind.wrap IntKind.i64 ((1 : Int) + v22 size (8 : Int))) ms)) (NetV.X (v19 (IntKind.wrap IntKind.i64 ((1 : Int) + v22 size (8 : Int))) ms)) (NetV.C (v19 (IntKind.wrap IntKind.i64 ((1 : Int) + v22 size (8 : Int))) ms)))) (List.set (List.replicate (Int.toNat (NetV.N (v19 (IntKind.wrap IntKind.i64 ((1 : Int) + v22 size (8 : Int))) ms))) Bool.false) (Int.toNat (v22 a (NetV.N (v19 (IntKind.wrap IntKind.i64 ((1 : Int) + v22 size (8 : Int))) ms)))) Bool.true))
             else
              none
            else
             none
           else
            none
          else
           none
         else
          none
        else
         none
       else
        none
     else
      none
   else
    none
  else
   none
theorem c6 (fu : Nat) (size : Int) (ms : List Int) (a : Int) (b : Int) : cutB (E6 fu) kr6 Try.f6 (⟨parT 0 [.int .i64 size, .sl .int ms, .int .i64 a, .int .i64 b], []⟩) = t6 size ms a b := by kernel_rfl
def R6 (size : Int) (ms : List Int) (a : Int) (b : Int) (r : Bool) : Prop := RunF E6 true Try.f6 [.int .i64 size, .sl .int ms, .int .i64 a, .int .i64 b] (.bool r)
theorem run6 (size : Int) (ms : List Int) (a : Int) (b : Int) (r : Bool) (h : Good E6 kr6 (t6 size ms a b) (.bool r)) : R6 size ms a b r := RunF.of fuel6 (fun fu => c6 fu size ms a b) h
noncomputable def ok6 (size : Int) (ms : List Int) (a : Int) (b : Int) : Bool := okP (R6 size ms a b)
noncomputable def v6 (size : Int) (ms : List Int) (a : Int) (b : Int) : Bool := valP (R6 size ms a b)
theorem sp6 (size : Int) (ms : List Int) (a : Int) (b : Int) (r : Bool) (h : R6 size ms a b r) : ok6 size ms a b = true ∧ v6 size ms a b = r := okP_of h fun b hb => by
  have := RunF.uniq hb h
  simp_all
theorem at6 : P.funcs[6]? = some Try.f6 := by kernel_rfl
theorem callable6 : callable 6 = true := by kernel_rfl
theorem semok6 : SemOk (semOf ents6) := EntsOk.sem (.cons entok17 (.cons entok19 (.cons entok22 (.cons entok25 (.nil)))))
theorem memok6 : MemOk (memOf mems6) := EntsMOk.mem (.nil)
noncomputable def ent6 : Ent := fun args => match args with
  | [.int .i64 size, .sl .int ms, .int .i64 a, .int .i64 b] => some (true, ok6 size ms a b, .bool (v6 size ms a b))
  | _ => none
theorem entok6 : EntOk 6 ent6 := fun args own r h => by
  unfold ent6 at h
  split at h
  · simp only [Option.some.injEq, Prod.mk.injEq] at h
    obtain ⟨rfl, h, rfl⟩ := h
    exact ⟨RunF.calls (fun _ => semok6) (fun _ => memok6) at6 rfl (Nat.le_of_ble_eq_true rfl) (fun _ => rfl) (okP_val h), callable6⟩
  · cases h
end Go.Proofs.Ytnfgfdeidkhdkaa.Eng
