/- watershed/rot.other: its run from loop to loop, as Lean printed it (a program of this session's wrote these rows). No condition. -/
import Derived.Test.YtnfgfdeidkhdkaaGd
namespace Go.Proofs.Ytnfgfdeidkhdkaa.Eng
set_option linter.unusedVariables false
set_option maxRecDepth 100000
noncomputable def ents77 : List (Nat × Ent) := []
noncomputable def mems77 : List (Nat × EntM) := []
noncomputable def E77 (fu : Nat) : Env := ⟨5, 0, semOf ents77, [], memOf mems77, [], [], fu⟩
theorem fuel77 : Fuel E77 := fun _ => rfl
noncomputable def kr77 : St → Option CV := endK true Try.f77.results.toList
noncomputable def t77 (d : Int) : Option Leaf :=
  some (.ret (CV.int IntKind.i64 (bitsI BinOp.xor IntKind.i64 d (1 : Int))))
theorem c77 (fu : Nat) (d : Int) : cutB (E77 fu) kr77 Try.f77 (⟨parT 0 [.int .i64 d], []⟩) = t77 d := by kernel_rfl
def R77 (d : Int) (r : Int) : Prop := RunF E77 true Try.f77 [.int .i64 d] (.int .i64 r)
theorem run77 (d : Int) (r : Int) (h : Good E77 kr77 (t77 d) (.int .i64 r)) : R77 d r := RunF.of fuel77 (fun fu => c77 fu d) h
noncomputable def ok77 (d : Int) : Bool := okP (R77 d)
noncomputable def v77 (d : Int) : Int := valP (R77 d)
theorem sp77 (d : Int) (r : Int) (h : R77 d r) : ok77 d = true ∧ v77 d = r := okP_of h fun b hb => by
  have := RunF.uniq hb h
  simp_all
theorem at77 : P.funcs[77]? = some Try.f77 := by kernel_rfl
theorem callable77 : callable 77 = true := by kernel_rfl
theorem semok77 : SemOk (semOf ents77) := EntsOk.sem (.nil)
theorem memok77 : MemOk (memOf mems77) := EntsMOk.mem (.nil)
noncomputable def ent77 : Ent := fun args => match args with
  | [.int .i64 d] => some (true, ok77 d, .int .i64 (v77 d))
  | _ => none
theorem entok77 : EntOk 77 ent77 := fun args own r h => by
  unfold ent77 at h
  split at h
  · simp only [Option.some.injEq, Prod.mk.injEq] at h
    obtain ⟨rfl, h, rfl⟩ := h
    exact ⟨RunF.calls (fun _ => semok77) (fun _ => memok77) at77 rfl (Nat.le_of_ble_eq_true rfl) (fun _ => rfl) (okP_val h), callable77⟩
  · cases h
end Go.Proofs.Ytnfgfdeidkhdkaa.Eng
