/- watershed/rot.Head: its run from loop to loop, as Lean printed it (a program of this session's wrote these rows). No condition. -/
import Derived.Test.YtnfgfdeidkhdkaaGd
import Derived.Test.YtnfgfdeidkhdkaaP77
namespace Go.Proofs.Ytnfgfdeidkhdkaa.Eng
set_option linter.unusedVariables false
set_option maxRecDepth 100000
noncomputable def ents31 : List (Nat × Ent) := [(77, ent77)]
noncomputable def mems31 : List (Nat × EntM) := []
noncomputable def E31 (fu : Nat) : Env := ⟨21, 0, semOf ents31, [], memOf mems31, [], [], fu⟩
theorem fuel31 : Fuel E31 := fun _ => rfl
noncomputable def kr31 : St → Option CV := endK true Try.f31.results.toList
noncomputable def t31 (gN : Int) (gT : List Int) (gX : List Int) (gC : List Int) (d : Int) : Option Leaf :=
  bif Decidable.decide (d < (0 : Int)) then
   some (.ret (CV.int IntKind.i64 (0 : Int)))
  else
   bif ok77 d then
    bif Decidable.decide ((↑(List.length gT) : Int) ≤ v77 d) then
     some (.ret (CV.int IntKind.i64 (0 : Int)))
    else
     bif ok77 d then
      bif Decidable.decide ((0 : Int) ≤ v77 d) then
       ob (gT[Int.toNat (v77 d)]?) fun x1 =>
        some (.ret (CV.int IntKind.i64 x1))
      else
       none
     else
      none
   else
    none
theorem c31 (fu : Nat) (gN : Int) (gT : List Int) (gX : List Int) (gC : List Int) (d : Int) : cutB (E31 fu) kr31 Try.f31 (⟨parT 0 [.agg [.int .i64 gN, .sl .int gT, .sl .int gX, .sl .int gC], .int .i64 d], []⟩) = t31 gN gT gX gC d := by kernel_rfl
def R31 (gN : Int) (gT : List Int) (gX : List Int) (gC : List Int) (d : Int) (r : Int) : Prop := RunF E31 true Try.f31 [.agg [.int .i64 gN, .sl .int gT, .sl .int gX, .sl .int gC], .int .i64 d] (.int .i64 r)
theorem run31 (gN : Int) (gT : List Int) (gX : List Int) (gC : List Int) (d : Int) (r : Int) (h : Good E31 kr31 (t31 gN gT gX gC d) (.int .i64 r)) : R31 gN gT gX gC d r := RunF.of fuel31 (fun fu => c31 fu gN gT gX gC d) h
noncomputable def ok31 (gN : Int) (gT : List Int) (gX : List Int) (gC : List Int) (d : Int) : Bool := okP (R31 gN gT gX gC d)
noncomputable def v31 (gN : Int) (gT : List Int) (gX : List Int) (gC : List Int) (d : Int) : Int := valP (R31 gN gT gX gC d)
theorem sp31 (gN : Int) (gT : List Int) (gX : List Int) (gC : List Int) (d : Int) (r : Int) (h : R31 gN gT gX gC d r) : ok31 gN gT gX gC d = true ∧ v31 gN gT gX gC d = r := okP_of h fun b hb => by
  have := RunF.uniq hb h
  simp_all
theorem at31 : P.funcs[31]? = some Try.f31 := by kernel_rfl
theorem callable31 : callable 31 = true := by kernel_rfl
theorem semok31 : SemOk (semOf ents31) := EntsOk.sem (.cons entok77 (.nil))
theorem memok31 : MemOk (memOf mems31) := EntsMOk.mem (.nil)
noncomputable def ent31 : Ent := fun args => match args with
  | [.agg [.int .i64 gN, .sl .int gT, .sl .int gX, .sl .int gC], .int .i64 d] => some (true, ok31 gN gT gX gC d, .int .i64 (v31 gN gT gX gC d))
  | _ => none
theorem entok31 : EntOk 31 ent31 := fun args own r h => by
  unfold ent31 at h
  split at h
  · simp only [Option.some.injEq, Prod.mk.injEq] at h
    obtain ⟨rfl, h, rfl⟩ := h
    exact ⟨RunF.calls (fun _ => semok31) (fun _ => memok31) at31 rfl (Nat.le_of_ble_eq_true rfl) (fun _ => rfl) (okP_val h), callable31⟩
  · cases h
end Go.Proofs.Ytnfgfdeidkhdkaa.Eng
