/- watershed/watershedref1.has: its run from loop to loop, as Lean printed it (a program of this session's wrote these rows). No condition. -/
import Derived.Test.YtnfgfdeidkhdkaaGd
namespace Go.Proofs.Ytnfgfdeidkhdkaa.Eng
set_option linter.unusedVariables false
set_option maxRecDepth 100000
noncomputable def ents104 : List (Nat × Ent) := []
noncomputable def mems104 : List (Nat × EntM) := []
noncomputable def E104 (fu : Nat) : Env := ⟨18, 0, semOf ents104, [], memOf mems104, [], [(100002, ⟨[], [(0, none), (1, none), (5, none)], [0, 1, 5]⟩)], fu⟩
theorem fuel104 : Fuel E104 := fun _ => rfl
noncomputable def kr104 : St → Option CV := endK true Try.f104.results.toList
noncomputable def K104_2 : List Fr := theK Try.f104 100002
noncomputable def C104_2 : Code := theC Try.f104 100002
def s104_2 (l0 : List Int) (i1 : Int) (i5 : Int) : St := ⟨[(0, .sl .int l0), (1, .int .i64 i1), (5, .int .i64 i5)], []⟩
noncomputable def a104_2 (l0 : List Int) (i1 : Int) (i5 : Int) : Leaf := .at K104_2 C104_2 (s104_2 l0 i1 i5)
noncomputable def t104_2 (l0 : List Int) (i1 : Int) (i5 : Int) : Option Leaf :=
  bif Decidable.decide (i5 < ↑(List.length l0)) then
   bif Decidable.decide (0 ≤ i5) then
    ob (l0[Int.toNat i5]?) fun x1 =>
     bif Decidable.decide (x1 = i1) then
      some (.ret (CV.bool Bool.true))
     else
      some (a104_2 l0 i1 (IntKind.wrap IntKind.i64 (i5 + 1)))
   else
    none
  else
   some (.ret (CV.bool Bool.false))
theorem c104_2 (fu : Nat) (l0 : List Int) (i1 : Int) (i5 : Int) : cutL (E104 fu) kr104 K104_2 C104_2 (s104_2 l0 i1 i5) = t104_2 l0 i1 i5 := by kernel_rfl
theorem h104_2 (l0 : List Int) (i1 : Int) (i5 : Int) (r : CV) (h : Good E104 kr104 (t104_2 l0 i1 i5) r) : Lead E104 kr104 r (a104_2 l0 i1 i5) := Lead.at fuel104 (fun fu => c104_2 fu l0 i1 i5) h
noncomputable def t104 (l : List Int) (d : Int) : Option Leaf :=
  some (a104_2 l d 0)
theorem c104 (fu : Nat) (l : List Int) (d : Int) : cutB (E104 fu) kr104 Try.f104 (⟨parT 0 [.sl .int l, .int .i64 d], []⟩) = t104 l d := by kernel_rfl
def R104 (l : List Int) (d : Int) (r : Bool) : Prop := RunF E104 true Try.f104 [.sl .int l, .int .i64 d] (.bool r)
theorem run104 (l : List Int) (d : Int) (r : Bool) (h : Good E104 kr104 (t104 l d) (.bool r)) : R104 l d r := RunF.of fuel104 (fun fu => c104 fu l d) h
noncomputable def ok104 (l : List Int) (d : Int) : Bool := okP (R104 l d)
noncomputable def v104 (l : List Int) (d : Int) : Bool := valP (R104 l d)
theorem sp104 (l : List Int) (d : Int) (r : Bool) (h : R104 l d r) : ok104 l d = true ∧ v104 l d = r := okP_of h fun b hb => by
  have := RunF.uniq hb h
  simp_all
theorem at104 : P.funcs[104]? = some Try.f104 := by kernel_rfl
theorem callable104 : callable 104 = true := by kernel_rfl
theorem semok104 : SemOk (semOf ents104) := EntsOk.sem (.nil)
theorem memok104 : MemOk (memOf mems104) := EntsMOk.mem (.nil)
noncomputable def ent104 : Ent := fun args => match args with
  | [.sl .int l, .int .i64 d] => some (true, ok104 l d, .bool (v104 l d))
  | _ => none
theorem entok104 : EntOk 104 ent104 := fun args own r h => by
  unfold ent104 at h
  split at h
  · simp only [Option.some.injEq, Prod.mk.injEq] at h
    obtain ⟨rfl, h, rfl⟩ := h
    exact ⟨RunF.calls (fun _ => semok104) (fun _ => memok104) at104 rfl (Nat.le_of_ble_eq_true rfl) (fun _ => rfl) (okP_val h), callable104⟩
  · cases h
end Go.Proofs.Ytnfgfdeidkhdkaa.Eng
