/- watershed/watershedlaw1.within: its run from loop to loop, as Lean printed it (a program of this session's wrote these rows). No condition. -/
import Derived.Test.YtnfgfdeidkhdkaaGd
namespace Go.Proofs.Ytnfgfdeidkhdkaa.Eng
set_option linter.unusedVariables false
set_option maxRecDepth 100000
noncomputable def ents66 : List (Nat × Ent) := []
noncomputable def mems66 : List (Nat × EntM) := []
noncomputable def E66 (fu : Nat) : Env := ⟨15, 0, semOf ents66, [], memOf mems66, [], [], fu⟩
theorem fuel66 : Fuel E66 := fun _ => rfl
noncomputable def kr66 : St → Option CV := endK true Try.f66.results.toList
noncomputable def t66 (a : Int) (n : Int) : Option Leaf :=
  bif Decidable.decide (n = 0) then
   none
  else
   bif Decidable.decide (Int.tmod a n < 0) then
    some (.ret (CV.int IntKind.i64 (IntKind.wrap IntKind.i64 (Int.tmod a n + n))))
   else
    some (.ret (CV.int IntKind.i64 (Int.tmod a n)))
theorem c66 (fu : Nat) (a : Int) (n : Int) : cutB (E66 fu) kr66 Try.f66 (⟨parT 0 [.int .i64 a, .int .i64 n], []⟩) = t66 a n := by kernel_rfl
def R66 (a : Int) (n : Int) (r : Int) : Prop := RunF E66 true Try.f66 [.int .i64 a, .int .i64 n] (.int .i64 r)
theorem run66 (a : Int) (n : Int) (r : Int) (h : Good E66 kr66 (t66 a n) (.int .i64 r)) : R66 a n r := RunF.of fuel66 (fun fu => c66 fu a n) h
noncomputable def ok66 (a : Int) (n : Int) : Bool := okP (R66 a n)
noncomputable def v66 (a : Int) (n : Int) : Int := valP (R66 a n)
theorem sp66 (a : Int) (n : Int) (r : Int) (h : R66 a n r) : ok66 a n = true ∧ v66 a n = r := okP_of h fun b hb => by
  have := RunF.uniq hb h
  simp_all
theorem at66 : P.funcs[66]? = some Try.f66 := by kernel_rfl
theorem callable66 : callable 66 = true := by kernel_rfl
theorem semok66 : SemOk (semOf ents66) := EntsOk.sem (.nil)
theorem memok66 : MemOk (memOf mems66) := EntsMOk.mem (.nil)
noncomputable def ent66 : Ent := fun args => match args with
  | [.int .i64 a, .int .i64 n] => some (true, ok66 a n, .int .i64 (v66 a n))
  | _ => none
theorem entok66 : EntOk 66 ent66 := fun args own r h => by
  unfold ent66 at h
  split at h
  · simp only [Option.some.injEq, Prod.mk.injEq] at h
    obtain ⟨rfl, h, rfl⟩ := h
    exact ⟨RunF.calls (fun _ => semok66) (fun _ => memok66) at66 rfl (Nat.le_of_ble_eq_true rfl) (fun _ => rfl) (okP_val h), callable66⟩
  · cases h
end Go.Proofs.Ytnfgfdeidkhdkaa.Eng
