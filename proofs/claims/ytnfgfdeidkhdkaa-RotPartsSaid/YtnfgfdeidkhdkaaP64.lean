/- watershed/watershedlaw1.Cap: its run from loop to loop, as Lean printed it (a program of this session's wrote these rows). No condition. -/
import Derived.Test.YtnfgfdeidkhdkaaGd
import Derived.Test.YtnfgfdeidkhdkaaP66
namespace Go.Proofs.Ytnfgfdeidkhdkaa.Eng
set_option linter.unusedVariables false
set_option maxRecDepth 100000
noncomputable def ents64 : List (Nat × Ent) := [(66, ent66)]
noncomputable def mems64 : List (Nat × EntM) := []
noncomputable def E64 (fu : Nat) : Env := ⟨24, 0, semOf ents64, [], memOf mems64, [], [], fu⟩
theorem fuel64 : Fuel E64 := fun _ => rfl
noncomputable def kr64 : St → Option CV := endK true Try.f64.results.toList
noncomputable def t64 (n : Int) : Option Leaf :=
  bif ok66 n 1099511627776 then
   bif Decidable.decide (Int.tmod (v66 n 1099511627776) 7 = 0) then
    some (.ret (CV.int IntKind.i64 0))
   else
    bif Decidable.decide (Int.tmod (v66 n 1099511627776) 7 = 1) then
     some (.ret (CV.int IntKind.i64 (IntKind.wrap IntKind.i64 (2147483648 - Int.tmod (IntKind.wrap IntKind.i64 (Int.tdiv (v66 n 1099511627776) 7)) 3))))
    else
     bif Decidable.decide (Int.tmod (v66 n 1099511627776) 7 = 2) then
      some (.ret (CV.int IntKind.i64 (Int.tmod (IntKind.wrap IntKind.i64 (Int.tdiv (v66 n 1099511627776) 7)) 1000000)))
     else
      some (.ret (CV.int IntKind.i64 (Int.tmod (IntKind.wrap IntKind.i64 (Int.tdiv (v66 n 1099511627776) 7)) 9)))
  else
   none
theorem c64 (fu : Nat) (n : Int) : cutB (E64 fu) kr64 Try.f64 (⟨parT 0 [.int .i64 n], []⟩) = t64 n := by kernel_rfl
def R64 (n : Int) (r : Int) : Prop := RunF E64 true Try.f64 [.int .i64 n] (.int .i64 r)
theorem run64 (n : Int) (r : Int) (h : Good E64 kr64 (t64 n) (.int .i64 r)) : R64 n r := RunF.of fuel64 (fun fu => c64 fu n) h
noncomputable def ok64 (n : Int) : Bool := okP (R64 n)
noncomputable def v64 (n : Int) : Int := valP (R64 n)
theorem sp64 (n : Int) (r : Int) (h : R64 n r) : ok64 n = true ∧ v64 n = r := okP_of h fun b hb => by
  have := RunF.uniq hb h
  simp_all
theorem at64 : P.funcs[64]? = some Try.f64 := by kernel_rfl
theorem callable64 : callable 64 = true := by kernel_rfl
theorem semok64 : SemOk (semOf ents64) := EntsOk.sem (.cons entok66 (.nil))
theorem memok64 : MemOk (memOf mems64) := EntsMOk.mem (.nil)
noncomputable def ent64 : Ent := fun args => match args with
  | [.int .i64 n] => some (true, ok64 n, .int .i64 (v64 n))
  | _ => none
theorem entok64 : EntOk 64 ent64 := fun args own r h => by
  unfold ent64 at h
  split at h
  · simp only [Option.some.injEq, Prod.mk.injEq] at h
    obtain ⟨rfl, h, rfl⟩ := h
    exact ⟨RunF.calls (fun _ => semok64) (fun _ => memok64) at64 rfl (Nat.le_of_ble_eq_true rfl) (fun _ => rfl) (okP_val h), callable64⟩
  · cases h
end Go.Proofs.Ytnfgfdeidkhdkaa.Eng
