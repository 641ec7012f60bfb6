/- watershed/watershedlaw2.within: its run from loop to loop, as Lean printed it (a program of this session's wrote these rows). No condition. -/
import Derived.Test.YtnfgfdeidkhdkaaGd
namespace Go.Proofs.Ytnfgfdeidkhdkaa.Eng
set_option linter.unusedVariables false
set_option maxRecDepth 100000
noncomputable def ents22 : List (Nat × Ent) := []
noncomputable def mems22 : List (Nat × EntM) := []
noncomputable def E22 (fu : Nat) : Env := ⟨15, 0, semOf ents22, [], memOf mems22, [], [], fu⟩
theorem fuel22 : Fuel E22 := fun _ => rfl
noncomputable def kr22 : St → Option CV := endK true Try.f22.results.toList
noncomputable def t22 (a : Int) (n : Int) : Option Leaf :=
  bif Decidable.decide (n = 0) then
   none
  else
   bif Decidable.decide (Int.tmod a n < 0) then
    some (.ret (CV.int IntKind.i64 (IntKind.wrap IntKind.i64 (Int.tmod a n + n))))
   else
    some (.ret (CV.int IntKind.i64 (Int.tmod a n)))
theorem c22 (fu : Nat) (a : Int) (n : Int) : cutB (E22 fu) kr22 Try.f22 (⟨parT 0 [.int .i64 a, .int .i64 n], []⟩) = t22 a n := by kernel_rfl
def R22 (a : Int) (n : Int) (r : Int) : Prop := RunF E22 true Try.f22 [.int .i64 a, .int .i64 n] (.int .i64 r)
theorem run22 (a : Int) (n : Int) (r : Int) (h : Good E22 kr22 (t22 a n) (.int .i64 r)) : R22 a n r := RunF.of fuel22 (fun fu => c22 fu a n) h
noncomputable def ok22 (a : Int) (n : Int) : Bool := okP (R22 a n)
noncomputable def v22 (a : Int) (n : Int) : Int := valP (R22 a n)
theorem sp22 (a : Int) (n : Int) (r : Int) (h : R22 a n r) : ok22 a n = true ∧ v22 a n = r := okP_of h fun b hb => by
  have := RunF.uniq hb h
  simp_all
theorem at22 : P.funcs[22]? = some Try.f22 := by kernel_rfl
theorem callable22 : callable 22 = true := by kernel_rfl
theorem semok22 : SemOk (semOf ents22) := EntsOk.sem (.nil)
theorem memok22 : MemOk (memOf mems22) := EntsMOk.mem (.nil)
noncomputable def ent22 : Ent := fun args => match args with
  | [.int .i64 a, .int .i64 n] => some (true, ok22 a n, .int .i64 (v22 a n))
  | _ => none
theorem entok22 : EntOk 22 ent22 := fun args own r h => by
  unfold ent22 at h
  split at h
  · simp only [Option.some.injEq, Prod.mk.injEq] at h
    obtain ⟨rfl, h, rfl⟩ := h
    exact ⟨RunF.calls (fun _ => semok22) (fun _ => memok22) at22 rfl (Nat.le_of_ble_eq_true rfl) (fun _ => rfl) (okP_val h), callable22⟩
  · cases h
end Go.Proofs.Ytnfgfdeidkhdkaa.Eng
