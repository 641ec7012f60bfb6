/- watershed/rot.shape: its run from loop to loop, as Lean printed it (a program of this session's wrote these rows). No condition. -/
import Derived.Test.YtnfgfdeidkhdkaaGd
namespace Go.Proofs.Ytnfgfdeidkhdkaa.Eng
set_option linter.unusedVariables false
set_option maxRecDepth 100000
noncomputable def ents69 : List (Nat × Ent) := []
noncomputable def mems69 : List (Nat × EntM) := []
noncomputable def E69 (fu : Nat) : Env := ⟨71, 0, semOf ents69, [], memOf mems69, [], [(100007, ⟨[], [(1, none), (1, some 0), (1, some 1), (1, some 2), (1, some 3), (3, none), (38, none), (39, none), (40, none)], [1, 3, 38, 39, 40]⟩), (100015, ⟨[], [(1, none), (1, some 0), (1, some 1), (1, some 2), (1, some 3), (56, none), (57, none), (58, none)], [1, 56, 57, 58]⟩)], fu⟩
theorem fuel69 : Fuel E69 := fun _ => rfl
noncomputable def kr69 : St → Option CV := endK true Try.f69.results.toList
noncomputable def K69_7 : List Fr := theK Try.f69 100007
noncomputable def C69_7 : Code := theC Try.f69 100007
def s69_7 (i3 : Int) (l38 : List Int) (i39 : Int) (i40 : Int) (iM0_0 : Int) (lM0_1 : List Int) (lM0_2 : List Int) (lM0_3 : List Int) : St := ⟨[(1, .ptr 8000 0), (3, .int .i64 i3), (38, .sl .int l38), (39, .int .i64 i39), (40, .int .i64 i40)], [(8000, some (.cells 25 [.int .i64 iM0_0, .sl .int lM0_1, .sl .int lM0_2, .sl .int lM0_3]))]⟩
noncomputable def a69_7 (i3 : Int) (l38 : List Int) (i39 : Int) (i40 : Int) (iM0_0 : Int) (lM0_1 : List Int) (lM0_2 : List Int) (lM0_3 : List Int) : Leaf := .at K69_7 C69_7 (s69_7 i3 l38 i39 i40 iM0_0 lM0_1 lM0_2 lM0_3)
noncomputable def K69_15 : List Fr := theK Try.f69 100015
noncomputable def C69_15 : Code := theC Try.f69 100015
def s69_15 (l56 : List Int) (i57 : Int) (i58 : Int) (iM0_0 : Int) (lM0_1 : List Int) (lM0_2 : List Int) (lM0_3 : List Int) : St := ⟨[(1, .ptr 8000 0), (56, .sl .int l56), (57, .int .i64 i57), (58, .int .i64 i58)], [(8000, some (.cells 25 [.int .i64 iM0_0, .sl .int lM0_1, .sl .int lM0_2, .sl .int lM0_3]))]⟩
noncomputable def a69_15 (l56 : List Int) (i57 : Int) (i58 : Int) (iM0_0 : Int) (lM0_1 : List Int) (lM0_2 : List Int) (lM0_3 : List Int) : Leaf := .at K69_15 C69_15 (s69_15 l56 i57 i58 iM0_0 lM0_1 lM0_2 lM0_3)
noncomputable def t69_7 (i3 : Int) (l38 : List Int) (i39 : Int) (i40 : Int) (iM0_0 : Int) (lM0_1 : List Int) (lM0_2 : List Int) (lM0_3 : List Int) : Option Leaf :=
  bif Decidable.decide (i40 < i39) then
   bif Decidable.decide ((0 : Int) ≤ i40) then
    ob (l38[Int.toNat i40]?) fun x1 =>
     bif Decidable.decide (x1 < (0 : Int)) then
      some (.ret (CV.int IntKind.i64 (5 : Int)))
     else
      bif Decidable.decide (i3 ≤ x1) then
       some (.ret (CV.int IntKind.i64 (5 : Int)))
      else
       some (a69_7 i3 l38 i39 (IntKind.wrap IntKind.i64 (i40 + (1 : Int))) iM0_0 lM0_1 lM0_2 lM0_3)
   else
    none
  else
   bif Decidable.decide (iM0_0 < (1 : Int)) then
    some (.ret (CV.int IntKind.i64 (3 : Int)))
   else
    some (a69_15 lM0_1 ((↑(List.length lM0_1) : Int)) ((0 : Int)) iM0_0 lM0_1 lM0_2 lM0_3)
theorem c69_7 (fu : Nat) (i3 : Int) (l38 : List Int) (i39 : Int) (i40 : Int) (iM0_0 : Int) (lM0_1 : List Int) (lM0_2 : List Int) (lM0_3 : List Int) : cutL (E69 fu) kr69 K69_7 C69_7 (s69_7 i3 l38 i39 i40 iM0_0 lM0_1 lM0_2 lM0_3) = t69_7 i3 l38 i39 i40 iM0_0 lM0_1 lM0_2 lM0_3 := by kernel_rfl
theorem h69_7 (i3 : Int) (l38 : List Int) (i39 : Int) (i40 : Int) (iM0_0 : Int) (lM0_1 : List Int) (lM0_2 : List Int) (lM0_3 : List Int) (r : CV) (h : Good E69 kr69 (t69_7 i3 l38 i39 i40 iM0_0 lM0_1 lM0_2 lM0_3) r) : Lead E69 kr69 r (a69_7 i3 l38 i39 i40 iM0_0 lM0_1 lM0_2 lM0_3) := Lead.at fuel69 (fun fu => c69_7 fu i3 l38 i39 i40 iM0_0 lM0_1 lM0_2 lM0_3) h
noncomputable def t69_15 (l56 : List Int) (i57 : Int) (i58 : Int) (iM0_0 : Int) (lM0_1 : List Int) (lM0_2 : List Int) (lM0_3 : List Int) : Option Leaf :=
  bif Decidable.decide (i58 < i57) then
   bif Decidable.decide ((0 : Int) ≤ i58) then
    ob (l56[Int.toNat i58]?) fun x2 =>
     bif Decidable.decide (x2 < (0 : Int)) then
      some (.ret (CV.int IntKind.i64 (3 : Int)))
     else
      bif Decidable.decide (iM0_0 ≤ x2) then
       some (.ret (CV.int IntKind.i64 (3 : Int)))
      else
       some (a69_15 l56 i57 (IntKind.wrap IntKind.i64 (i58 + (1 : Int))) iM0_0 lM0_1 lM0_2 lM0_3)
   else
    none
  else
   some (.ret (CV.int IntKind.i64 (0 : Int)))
theorem c69_15 (fu : Nat) (l56 : List Int) (i57 : Int) (i58 : Int) (iM0_0 : Int) (lM0_1 : List Int) (lM0_2 : List Int) (lM0_3 : List Int) : cutL (E69 fu) kr69 K69_15 C69_15 (s69_15 l56 i57 i58 iM0_0 lM0_1 lM0_2 lM0_3) = t69_15 l56 i57 i58 iM0_0 lM0_1 lM0_2 lM0_3 := by kernel_rfl
theorem h69_15 (l56 : List Int) (i57 : Int) (i58 : Int) (iM0_0 : Int) (lM0_1 : List Int) (lM0_2 : List Int) (lM0_3 : List Int) (r : CV) (h : Good E69 kr69 (t69_15 l56 i57 i58 iM0_0 lM0_1 lM0_2 lM0_3) r) : Lead E69 kr69 r (a69_15 l56 i57 i58 iM0_0 lM0_1 lM0_2 lM0_3) := Lead.at fuel69 (fun fu => c69_15 fu l56 i57 i58 iM0_0 lM0_1 lM0_2 lM0_3) h
noncomputable def t69 (gN : Int) (gT : List Int) (gX : List Int) (gC : List Int) : Option Leaf :=
  bif Decidable.decide ((60 : Int) < gN) then
   some (.ret (CV.int IntKind.i64 (2 : Int)))
  else
   bif Decidable.decide ((240 : Int) < (↑(List.length gT) : Int)) then
    some (.ret (CV.int IntKind.i64 (2 : Int)))
   else
    bif !Decidable.decide ((↑(List.length gX) : Int) = (↑(List.length gT) : Int)) then
     some (.ret (CV.int IntKind.i64 (5 : Int)))
    else
     bif !Decidable.decide ((↑(List.length gC) : Int) = (↑(List.length gT) : Int)) then
      some (.ret (CV.int IntKind.i64 (5 : Int)))
     else
      bif !Decidable.decide (Int.tmod (↑(List.length gT) : Int) (2 : Int) = (0 : Int)) then
       some (.ret (CV.int IntKind.i64 (5 : Int)))
      else
       some (a69_7 ((↑(List.length gT) : Int)) gX ((↑(List.length gX) : Int)) ((0 : Int)) gN gT gX gC)
theorem c69 (fu : Nat) (gN : Int) (gT : List Int) (gX : List Int) (gC : List Int) : cutB (E69 fu) kr69 Try.f69 (⟨parT 0 [.agg [.int .i64 gN, .sl .int gT, .sl .int gX, .sl .int gC]], []⟩) = t69 gN gT gX gC := by kernel_rfl
def R69 (gN : Int) (gT : List Int) (gX : List Int) (gC : List Int) (r : Int) : Prop := RunF E69 true Try.f69 [.agg [.int .i64 gN, .sl .int gT, .sl .int gX, .sl .int gC]] (.int .i64 r)
theorem run69 (gN : Int) (gT : List Int) (gX : List Int) (gC : List Int) (r : Int) (h : Good E69 kr69 (t69 gN gT gX gC) (.int .i64 r)) : R69 gN gT gX gC r := RunF.of fuel69 (fun fu => c69 fu gN gT gX gC) h
noncomputable def ok69 (gN : Int) (gT : List Int) (gX : List Int) (gC : List Int) : Bool := okP (R69 gN gT gX gC)
noncomputable def v69 (gN : Int) (gT : List Int) (gX : List Int) (gC : List Int) : Int := valP (R69 gN gT gX gC)
theorem sp69 (gN : Int) (gT : List Int) (gX : List Int) (gC : List Int) (r : Int) (h : R69 gN gT gX gC r) : ok69 gN gT gX gC = true ∧ v69 gN gT gX gC = r := okP_of h fun b hb => by
  have := RunF.uniq hb h
  simp_all
theorem at69 : P.funcs[69]? = some Try.f69 := by kernel_rfl
theorem callable69 : callable 69 = true := by kernel_rfl
theorem semok69 : SemOk (semOf ents69) := EntsOk.sem (.nil)
theorem memok69 : MemOk (memOf mems69) := EntsMOk.mem (.nil)
noncomputable def ent69 : Ent := fun args => match args with
  | [.agg [.int .i64 gN, .sl .int gT, .sl .int gX, .sl .int gC]] => some (true, ok69 gN gT gX gC, .int .i64 (v69 gN gT gX gC))
  | _ => none
theorem entok69 : EntOk 69 ent69 := fun args own r h => by
  unfold ent69 at h
  split at h
  · simp only [Option.some.injEq, Prod.mk.injEq] at h
    obtain ⟨rfl, h, rfl⟩ := h
    exact ⟨RunF.calls (fun _ => semok69) (fun _ => memok69) at69 rfl (Nat.le_of_ble_eq_true rfl) (fun _ => rfl) (okP_val h), callable69⟩
  · cases h
end Go.Proofs.Ytnfgfdeidkhdkaa.Eng
