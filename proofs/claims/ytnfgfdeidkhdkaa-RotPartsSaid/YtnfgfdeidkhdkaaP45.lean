/- watershed/watershedlaw11.within: its run from loop to loop, as Lean printed it (a program of this session's wrote these rows). No condition. -/
import Derived.Test.YtnfgfdeidkhdkaaGd
namespace Go.Proofs.Ytnfgfdeidkhdkaa.Eng
set_option linter.unusedVariables false
set_option maxRecDepth 100000
noncomputable def ents45 : List (Nat × Ent) := []
noncomputable def mems45 : List (Nat × EntM) := []
noncomputable def E45 (fu : Nat) : Env := ⟨15, 0, semOf ents45, [], memOf mems45, [], [], fu⟩
theorem fuel45 : Fuel E45 := fun _ => rfl
noncomputable def kr45 : St → Option CV := endK true Try.f45.results.toList
noncomputable def t45 (a : Int) (n : Int) : Option Leaf :=
  bif Decidable.decide (n = (0 : Int)) then
   none
  else
   bif Decidable.decide (Int.tmod a n < (0 : Int)) then
    some (.ret (CV.int IntKind.i64 (IntKind.wrap IntKind.i64 (Int.tmod a n + n))))
   else
    some (.ret (CV.int IntKind.i64 (Int.tmod a n)))
theorem c45 (fu : Nat) (a : Int) (n : Int) : cutB (E45 fu) kr45 Try.f45 (⟨parT 0 [.int .i64 a, .int .i64 n], []⟩) = t45 a n := by kernel_rfl
def R45 (a : Int) (n : Int) (r : Int) : Prop := RunF E45 true Try.f45 [.int .i64 a, .int .i64 n] (.int .i64 r)
theorem run45 (a : Int) (n : Int) (r : Int) (h : Good E45 kr45 (t45 a n) (.int .i64 r)) : R45 a n r := RunF.of fuel45 (fun fu => c45 fu a n) h
noncomputable def ok45 (a : Int) (n : Int) : Bool := okP (R45 a n)
noncomputable def v45 (a : Int) (n : Int) : Int := valP (R45 a n)
theorem sp45 (a : Int) (n : Int) (r : Int) (h : R45 a n r) : ok45 a n = true ∧ v45 a n = r := okP_of h fun b hb => by
  have := RunF.uniq hb h
  simp_all
theorem at45 : P.funcs[45]? = some Try.f45 := by kernel_rfl
theorem callable45 : callable 45 = true := by kernel_rfl
theorem semok45 : SemOk (semOf ents45) := EntsOk.sem (.nil)
theorem memok45 : MemOk (memOf mems45) := EntsMOk.mem (.nil)
noncomputable def ent45 : Ent := fun args => match args with
  | [.int .i64 a, .int .i64 n] => some (true, ok45 a n, .int .i64 (v45 a n))
  | _ => none
theorem entok45 : EntOk 45 ent45 := fun args own r h => by
  unfold ent45 at h
  split at h
  · simp only [Option.some.injEq, Prod.mk.injEq] at h
    obtain ⟨rfl, h, rfl⟩ := h
    exact ⟨RunF.calls (fun _ => semok45) (fun _ => memok45) at45 rfl (Nat.le_of_ble_eq_true rfl) (fun _ => rfl) (okP_val h), callable45⟩
  · cases h
end Go.Proofs.Ytnfgfdeidkhdkaa.Eng
