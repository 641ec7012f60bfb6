/- watershed/rot.fine: its run from loop to loop, as Lean printed it (a program of this session's wrote these rows). No condition. -/
import Derived.Test.YtnfgfdeidkhdkaaGd
import Derived.Test.YtnfgfdeidkhdkaaP69
namespace Go.Proofs.Ytnfgfdeidkhdkaa.Eng
set_option linter.unusedVariables false
set_option maxRecDepth 100000
noncomputable def ents72 : List (Nat × Ent) := [(69, ent69)]
noncomputable def mems72 : List (Nat × EntM) := []
noncomputable def E72 (fu : Nat) : Env := ⟨19, 0, semOf ents72, [], memOf mems72, [], [], fu⟩
theorem fuel72 : Fuel E72 := fun _ => rfl
noncomputable def kr72 : St → Option CV := endK true Try.f72.results.toList
noncomputable def t72 (gN : Int) (gT : List Int) (gX : List Int) (gC : List Int) : Option Leaf :=
  bif ok69 gN gT gX gC then
   bif Decidable.decide (v69 gN gT gX gC = (0 : Int)) then
    some (.ret (CV.bool Bool.true))
   else
    bif Decidable.decide (gN = (0 : Int)) then
     some (.ret (CV.bool (Decidable.decide ((↑(List.length gT) : Int) = (0 : Int)))))
    else
     some (.ret (CV.bool Bool.false))
  else
   none
theorem c72 (fu : Nat) (gN : Int) (gT : List Int) (gX : List Int) (gC : List Int) : cutB (E72 fu) kr72 Try.f72 (⟨parT 0 [.agg [.int .i64 gN, .sl .int gT, .sl .int gX, .sl .int gC]], []⟩) = t72 gN gT gX gC := by kernel_rfl
def R72 (gN : Int) (gT : List Int) (gX : List Int) (gC : List Int) (r : Bool) : Prop := RunF E72 true Try.f72 [.agg [.int .i64 gN, .sl .int gT, .sl .int gX, .sl .int gC]] (.bool r)
theorem run72 (gN : Int) (gT : List Int) (gX : List Int) (gC : List Int) (r : Bool) (h : Good E72 kr72 (t72 gN gT gX gC) (.bool r)) : R72 gN gT gX gC r := RunF.of fuel72 (fun fu => c72 fu gN gT gX gC) h
noncomputable def ok72 (gN : Int) (gT : List Int) (gX : List Int) (gC : List Int) : Bool := okP (R72 gN gT gX gC)
noncomputable def v72 (gN : Int) (gT : List Int) (gX : List Int) (gC : List Int) : Bool := valP (R72 gN gT gX gC)
theorem sp72 (gN : Int) (gT : List Int) (gX : List Int) (gC : List Int) (r : Bool) (h : R72 gN gT gX gC r) : ok72 gN gT gX gC = true ∧ v72 gN gT gX gC = r := okP_of h fun b hb => by
  have := RunF.uniq hb h
  simp_all
theorem at72 : P.funcs[72]? = some Try.f72 := by kernel_rfl
theorem callable72 : callable 72 = true := by kernel_rfl
theorem semok72 : SemOk (semOf ents72) := EntsOk.sem (.cons entok69 (.nil))
theorem memok72 : MemOk (memOf mems72) := EntsMOk.mem (.nil)
noncomputable def ent72 : Ent := fun args => match args with
  | [.agg [.int .i64 gN, .sl .int gT, .sl .int gX, .sl .int gC]] => some (true, ok72 gN gT gX gC, .bool (v72 gN gT gX gC))
  | _ => none
theorem entok72 : EntOk 72 ent72 := fun args own r h => by
  unfold ent72 at h
  split at h
  · simp only [Option.some.injEq, Prod.mk.injEq] at h
    obtain ⟨rfl, h, rfl⟩ := h
    exact ⟨RunF.calls (fun _ => semok72) (fun _ => memok72) at72 rfl (Nat.le_of_ble_eq_true rfl) (fun _ => rfl) (okP_val h), callable72⟩
  · cases h
end Go.Proofs.Ytnfgfdeidkhdkaa.Eng
