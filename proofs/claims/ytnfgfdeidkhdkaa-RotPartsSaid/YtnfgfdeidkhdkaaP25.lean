/- watershed/rot.Parts: its run from loop to loop, as Lean printed it (a program of this session's wrote these rows). No condition. -/
import Derived.Test.YtnfgfdeidkhdkaaGd
import Derived.Test.YtnfgfdeidkhdkaaP31
import Derived.Test.YtnfgfdeidkhdkaaP72
import Derived.Test.YtnfgfdeidkhdkaaP75
namespace Go.Proofs.Ytnfgfdeidkhdkaa.Eng
set_option linter.unusedVariables false
set_option maxRecDepth 100000
noncomputable def ents25 : List (Nat × Ent) := [(31, ent31), (72, ent72), (75, ent75)]
noncomputable def mems25 : List (Nat × EntM) := []
noncomputable def E25 (fu : Nat) : Env := ⟨67, 0, semOf ents25, [], memOf mems25, [], [(100006, ⟨[], [(1, none), (1, some 0), (1, some 1), (1, some 2), (1, some 3), (4, none), (5, none), (19, none), (20, none)], [1, 4, 5, 19, 20]⟩), (100011, ⟨[], [(1, none), (1, some 0), (1, some 1), (1, some 2), (1, some 3), (4, none), (5, none), (7, none), (19, none), (20, none)], [1, 4, 5, 7, 19, 20]⟩), (100014, ⟨[], [(1, none), (1, some 0), (1, some 1), (1, some 2), (1, some 3), (4, none), (5, none), (7, none), (19, none), (20, none), (34, none), (35, none), (36, none)], [1, 4, 5, 7, 19, 20, 34, 35, 36]⟩)], fu⟩
theorem fuel25 : Fuel E25 := fun _ => rfl
noncomputable def kr25 : St → Option CV := endK true Try.f25.results.toList
noncomputable def K25_6 : List Fr := theK Try.f25 100006
noncomputable def C25_6 : Code := theC Try.f25 100006
def s25_6 (i5 : Int) (i19 : Int) (i20 : Int) (iM0_0 : Int) (lM0_1 : List Int) (lM0_2 : List Int) (lM0_3 : List Int) (mM1 : List Int) : St := ⟨[(1, .ptr 8000 0), (4, .ref 8001), (5, .int .i64 i5), (19, .int .i64 i19), (20, .int .i64 i20)], [(8000, some (.cells 25 [.int .i64 iM0_0, .sl .int lM0_1, .sl .int lM0_2, .sl .int lM0_3])), (8001, some (.arr false .int mM1))]⟩
noncomputable def a25_6 (i5 : Int) (i19 : Int) (i20 : Int) (iM0_0 : Int) (lM0_1 : List Int) (lM0_2 : List Int) (lM0_3 : List Int) (mM1 : List Int) : Leaf := .at K25_6 C25_6 (s25_6 i5 i19 i20 iM0_0 lM0_1 lM0_2 lM0_3 mM1)
noncomputable def K25_11 : List Fr := theK Try.f25 100011
noncomputable def C25_11 : Code := theC Try.f25 100011
def s25_11 (i5 : Int) (b7 : Bool) (i19 : Int) (i20 : Int) (iM0_0 : Int) (lM0_1 : List Int) (lM0_2 : List Int) (lM0_3 : List Int) (mM1 : List Int) : St := ⟨[(1, .ptr 8000 0), (4, .ref 8001), (5, .int .i64 i5), (7, .bool b7), (19, .int .i64 i19), (20, .int .i64 i20)], [(8000, some (.cells 25 [.int .i64 iM0_0, .sl .int lM0_1, .sl .int lM0_2, .sl .int lM0_3])), (8001, some (.arr false .int mM1))]⟩
noncomputable def a25_11 (i5 : Int) (b7 : Bool) (i19 : Int) (i20 : Int) (iM0_0 : Int) (lM0_1 : List Int) (lM0_2 : List Int) (lM0_3 : List Int) (mM1 : List Int) : Leaf := .at K25_11 C25_11 (s25_11 i5 b7 i19 i20 iM0_0 lM0_1 lM0_2 lM0_3 mM1)
noncomputable def K25_14 : List Fr := theK Try.f25 100014
noncomputable def C25_14 : Code := theC Try.f25 100014
def s25_14 (i5 : Int) (b7 : Bool) (i19 : Int) (i20 : Int) (l34 : List Int) (i35 : Int) (i36 : Int) (iM0_0 : Int) (lM0_1 : List Int) (lM0_2 : List Int) (lM0_3 : List Int) (mM1 : List Int) : St := ⟨[(1, .ptr 8000 0), (4, .ref 8001), (5, .int .i64 i5), (7, .bool b7), (19, .int .i64 i19), (20, .int .i64 i20), (34, .sl .int l34), (35, .int .i64 i35), (36, .int .i64 i36)], [(8000, some (.cells 25 [.int .i64 iM0_0, .sl .int lM0_1, .sl .int lM0_2, .sl .int lM0_3])), (8001, some (.arr false .int mM1))]⟩
noncomputable def a25_14 (i5 : Int) (b7 : Bool) (i19 : Int) (i20 : Int) (l34 : List Int) (i35 : Int) (i36 : Int) (iM0_0 : Int) (lM0_1 : List Int) (lM0_2 : List Int) (lM0_3 : List Int) (mM1 : List Int) : Leaf := .at K25_14 C25_14 (s25_14 i5 b7 i19 i20 l34 i35 i36 iM0_0 lM0_1 lM0_2 lM0_3 mM1)
noncomputable def t25_6 (i5 : Int) (i19 : Int) (i20 : Int) (iM0_0 : Int) (lM0_1 : List Int) (lM0_2 : List Int) (lM0_3 : List Int) (mM1 : List Int) : Option Leaf :=
  bif Decidable.decide (i20 < i19) then
   bif Decidable.decide ((0 : Int) ≤ i20) then
    bif Decidable.decide (i20 < (↑(List.length mM1) : Int)) then
     ob (mM1[Int.toNat i20]?) fun x1 =>
      bif Decidable.decide ((0 : Int) ≤ x1) then
       some (a25_6 i5 i19 (IntKind.wrap IntKind.i64 (i20 + (1 : Int))) iM0_0 lM0_1 lM0_2 lM0_3 mM1)
      else
       bif Decidable.decide ((0 : Int) ≤ i20) then
        bif Decidable.decide (i20 < (↑(List.length mM1) : Int)) then
         ob (mM1[Int.toNat i20]?) fun x2 =>
          some (a25_11 i5 Bool.true i19 i20 iM0_0 lM0_1 lM0_2 lM0_3 (List.set mM1 (Int.toNat i20) i5))
        else
         none
       else
        none
    else
     none
   else
    none
  else
   some (.ret (CV.tup [CV.sl SK.int mM1, CV.int IntKind.i64 i5]))
theorem c25_6 (fu : Nat) (i5 : Int) (i19 : Int) (i20 : Int) (iM0_0 : Int) (lM0_1 : List Int) (lM0_2 : List Int) (lM0_3 : List Int) (mM1 : List Int) : cutL (E25 fu) kr25 K25_6 C25_6 (s25_6 i5 i19 i20 iM0_0 lM0_1 lM0_2 lM0_3 mM1) = t25_6 i5 i19 i20 iM0_0 lM0_1 lM0_2 lM0_3 mM1 := by kernel_rfl
theorem h25_6 (i5 : Int) (i19 : Int) (i20 : Int) (iM0_0 : Int) (lM0_1 : List Int) (lM0_2 : List Int) (lM0_3 : List Int) (mM1 : List Int) (r : CV) (h : Good E25 kr25 (t25_6 i5 i19 i20 iM0_0 lM0_1 lM0_2 lM0_3 mM1) r) : Lead E25 kr25 r (a25_6 i5 i19 i20 iM0_0 lM0_1 lM0_2 lM0_3 mM1) := Lead.at fuel25 (fun fu => c25_6 fu i5 i19 i20 iM0_0 lM0_1 lM0_2 lM0_3 mM1) h
noncomputable def t25_11 (i5 : Int) (b7 : Bool) (i19 : Int) (i20 : Int) (iM0_0 : Int) (lM0_1 : List Int) (lM0_2 : List Int) (lM0_3 : List Int) (mM1 : List Int) : Option Leaf :=
  bif b7 then
   some (a25_14 i5 Bool.false i19 i20 lM0_1 ((↑(List.length lM0_1) : Int)) ((0 : Int)) iM0_0 lM0_1 lM0_2 lM0_3 mM1)
  else
   some (a25_6 (IntKind.wrap IntKind.i64 (i5 + (1 : Int))) i19 (IntKind.wrap IntKind.i64 (i20 + (1 : Int))) iM0_0 lM0_1 lM0_2 lM0_3 mM1)
theorem c25_11 (fu : Nat) (i5 : Int) (b7 : Bool) (i19 : Int) (i20 : Int) (iM0_0 : Int) (lM0_1 : List Int) (lM0_2 : List Int) (lM0_3 : List Int) (mM1 : List Int) : cutL (E25 fu) kr25 K25_11 C25_11 (s25_11 i5 b7 i19 i20 iM0_0 lM0_1 lM0_2 lM0_3 mM1) = t25_11 i5 b7 i19 i20 iM0_0 lM0_1 lM0_2 lM0_3 mM1 := by kernel_rfl
theorem h25_11 (i5 : Int) (b7 : Bool) (i19 : Int) (i20 : Int) (iM0_0 : Int) (lM0_1 : List Int) (lM0_2 : List Int) (lM0_3 : List Int) (mM1 : List Int) (r : CV) (h : Good E25 kr25 (t25_11 i5 b7 i19 i20 iM0_0 lM0_1 lM0_2 lM0_3 mM1) r) : Lead E25 kr25 r (a25_11 i5 b7 i19 i20 iM0_0 lM0_1 lM0_2 lM0_3 mM1) := Lead.at fuel25 (fun fu => c25_11 fu i5 b7 i19 i20 iM0_0 lM0_1 lM0_2 lM0_3 mM1) h
noncomputable def t25_14 (i5 : Int) (b7 : Bool) (i19 : Int) (i20 : Int) (l34 : List Int) (i35 : Int) (i36 : Int) (iM0_0 : Int) (lM0_1 : List Int) (lM0_2 : List Int) (lM0_3 : List Int) (mM1 : List Int) : Option Leaf :=
  bif Decidable.decide (i36 < i35) then
   bif Decidable.decide ((0 : Int) ≤ i36) then
    ob (l34[Int.toNat i36]?) fun x3 =>
     bif ok31 iM0_0 lM0_1 lM0_2 lM0_3 i36 then
      bif Decidable.decide ((0 : Int) ≤ x3) then
       bif Decidable.decide (x3 < (↑(List.length mM1) : Int)) then
        ob (mM1[Int.toNat x3]?) fun x4 =>
         bif Decidable.decide (x4 = i5) then
          bif Decidable.decide ((0 : Int) ≤ v31 iM0_0 lM0_1 lM0_2 lM0_3 i36) then
           bif Decidable.decide (v31 iM0_0 lM0_1 lM0_2 lM0_3 i36 < (↑(List.length mM1) : Int)) then
            ob (mM1[Int.toNat (v31 iM0_0 lM0_1 lM0_2 lM0_3 i36)]?) fun x5 =>
             bif Decidable.decide (x5 < (0 : Int)) then
              bif Decidable.decide ((0 : Int) ≤ v31 iM0_0 lM0_1 lM0_2 lM0_3 i36) then
               bif Decidable.decide (v31 iM0_0 lM0_1 lM0_2 lM0_3 i36 < (↑(List.length mM1) : Int)) then
                ob (mM1[Int.toNat (v31 iM0_0 lM0_1 lM0_2 lM0_3 i36)]?) fun x6 =>
                 some (a25_14 i5 Bool.true i19 i20 l34 i35 (IntKind.wrap IntKind.i64 (i36 + (1 : Int))) iM0_0 lM0_1 lM0_2 lM0_3 (List.set mM1 (Int.toNat (v31 iM0_0 lM0_1 lM0_2 lM0_3 i36)) i5))
               else
                none
              else
               none
             else
              some (a25_14 i5 b7 i19 i20 l34 i35 (IntKind.wrap IntKind.i64 (i36 + (1 : Int))) iM0_0 lM0_1 lM0_2 lM0_3 mM1)
           else
            none
          else
           none
         else
          some (a25_14 i5 b7 i19 i20 l34 i35 (IntKind.wrap IntKind.i64 (i36 + (1 : Int))) iM0_0 lM0_1 lM0_2 lM0_3 mM1)
       else
        none
      else
       none
     else
      none
   else
    none
  else
   some (a25_11 i5 b7 i19 i20 iM0_0 lM0_1 lM0_2 lM0_3 mM1)
theorem c25_14 (fu : Nat) (i5 : Int) (b7 : Bool) (i19 : Int) (i20 : Int) (l34 : List Int) (i35 : Int) (i36 : Int) (iM0_0 : Int) (lM0_1 : List Int) (lM0_2 : List Int) (lM0_3 : List Int) (mM1 : List Int) : cutL (E25 fu) kr25 K25_14 C25_14 (s25_14 i5 b7 i19 i20 l34 i35 i36 iM0_0 lM0_1 lM0_2 lM0_3 mM1) = t25_14 i5 b7 i19 i20 l34 i35 i36 iM0_0 lM0_1 lM0_2 lM0_3 mM1 := by kernel_rfl
theorem h25_14 (i5 : Int) (b7 : Bool) (i19 : Int) (i20 : Int) (l34 : List Int) (i35 : Int) (i36 : Int) (iM0_0 : Int) (lM0_1 : List Int) (lM0_2 : List Int) (lM0_3 : List Int) (mM1 : List Int) (r : CV) (h : Good E25 kr25 (t25_14 i5 b7 i19 i20 l34 i35 i36 iM0_0 lM0_1 lM0_2 lM0_3 mM1) r) : Lead E25 kr25 r (a25_14 i5 b7 i19 i20 l34 i35 i36 iM0_0 lM0_1 lM0_2 lM0_3 mM1) := Lead.at fuel25 (fun fu => c25_14 fu i5 b7 i19 i20 l34 i35 i36 iM0_0 lM0_1 lM0_2 lM0_3 mM1) h
noncomputable def t25 (gN : Int) (gT : List Int) (gX : List Int) (gC : List Int) : Option Leaf :=
  bif ok72 gN gT gX gC then
   bif !v72 gN gT gX gC then
    some (.ret (CV.tup [CV.sl SK.int [], CV.int IntKind.i64 (0 : Int)]))
   else
    bif ok75 [(-1 : Int)] gN then
     some (a25_6 ((0 : Int)) ((↑(List.length (v75 [(-1 : Int)] gN)) : Int)) ((0 : Int)) gN gT gX gC (v75 [(-1 : Int)] gN))
    else
     none
  else
   none
theorem c25 (fu : Nat) (gN : Int) (gT : List Int) (gX : List Int) (gC : List Int) : cutB (E25 fu) kr25 Try.f25 (⟨parT 0 [.agg [.int .i64 gN, .sl .int gT, .sl .int gX, .sl .int gC]], []⟩) = t25 gN gT gX gC := by kernel_rfl
def R25 (gN : Int) (gT : List Int) (gX : List Int) (gC : List Int) (r : List Int × Int) : Prop := RunF E25 true Try.f25 [.agg [.int .i64 gN, .sl .int gT, .sl .int gX, .sl .int gC]] (.tup [.sl .int r.1, .int .i64 r.2])
theorem run25 (gN : Int) (gT : List Int) (gX : List Int) (gC : List Int) (r : List Int × Int) (h : Good E25 kr25 (t25 gN gT gX gC) (.tup [.sl .int r.1, .int .i64 r.2])) : R25 gN gT gX gC r := RunF.of fuel25 (fun fu => c25 fu gN gT gX gC) h
noncomputable def ok25 (gN : Int) (gT : List Int) (gX : List Int) (gC : List Int) : Bool := okP (R25 gN gT gX gC)
noncomputable def v25 (gN : Int) (gT : List Int) (gX : List Int) (gC : List Int) : List Int × Int := valP (R25 gN gT gX gC)
theorem sp25 (gN : Int) (gT : List Int) (gX : List Int) (gC : List Int) (r : List Int × Int) (h : R25 gN gT gX gC r) : ok25 gN gT gX gC = true ∧ v25 gN gT gX gC = r := okP_of h fun b hb => by
  have := RunF.uniq hb h
  rcases b with ⟨_, _⟩; rcases r with ⟨_, _⟩; simp_all
theorem at25 : P.funcs[25]? = some Try.f25 := by kernel_rfl
theorem callable25 : callable 25 = true := by kernel_rfl
theorem semok25 : SemOk (semOf ents25) := EntsOk.sem (.cons entok31 (.cons entok72 (.cons entok75 (.nil))))
theorem memok25 : MemOk (memOf mems25) := EntsMOk.mem (.nil)
noncomputable def ent25 : Ent := fun args => match args with
  | [.agg [.int .i64 gN, .sl .int gT, .sl .int gX, .sl .int gC]] => some (true, ok25 gN gT gX gC, .tup [.sl .int (v25 gN gT gX gC).1, .int .i64 (v25 gN gT gX gC).2])
  | _ => none
theorem entok25 : EntOk 25 ent25 := fun args own r h => by
  unfold ent25 at h
  split at h
  · simp only [Option.some.injEq, Prod.mk.injEq] at h
    obtain ⟨rfl, h, rfl⟩ := h
    exact ⟨RunF.calls (fun _ => semok25) (fun _ => memok25) at25 rfl (Nat.le_of_ble_eq_true rfl) (fun _ => rfl) (okP_val h), callable25⟩
  · cases h
end Go.Proofs.Ytnfgfdeidkhdkaa.Eng
