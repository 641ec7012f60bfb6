/- math/bits.Mul: its run from loop to loop, as Lean printed it (a program of this session's wrote these rows). No condition. -/
import Derived.Test.YtnfgfdeidkhdkaaGd
import Derived.Test.YtnfgfdeidkhdkaaP123
namespace Go.Proofs.Ytnfgfdeidkhdkaa.Eng
set_option linter.unusedVariables false
set_option maxRecDepth 100000
noncomputable def ents107 : List (Nat × Ent) := [(123, ent123)]
noncomputable def mems107 : List (Nat × EntM) := []
noncomputable def E107 (fu : Nat) : Env := ⟨30, 0, semOf ents107, [], memOf mems107, [], [], fu⟩
theorem fuel107 : Fuel E107 := fun _ => rfl
noncomputable def kr107 : St → Option CV := endK true Try.f107.results.toList
noncomputable def t107 (a : Int) (b : Int) : Option Leaf :=
  bif ok123 a b then
   some (.ret (CV.tup [CV.int IntKind.u64 (Prod.fst (v123 a b)), CV.int IntKind.u64 (Prod.snd (v123 a b))]))
  else
   none
theorem c107 (fu : Nat) (a : Int) (b : Int) : cutB (E107 fu) kr107 Try.f107 (⟨parT 0 [.int .u64 a, .int .u64 b], []⟩) = t107 a b := by kernel_rfl
def R107 (a : Int) (b : Int) (r : Int × Int) : Prop := RunF E107 true Try.f107 [.int .u64 a, .int .u64 b] (.tup [.int .u64 r.1, .int .u64 r.2])
theorem run107 (a : Int) (b : Int) (r : Int × Int) (h : Good E107 kr107 (t107 a b) (.tup [.int .u64 r.1, .int .u64 r.2])) : R107 a b r := RunF.of fuel107 (fun fu => c107 fu a b) h
noncomputable def ok107 (a : Int) (b : Int) : Bool := okP (R107 a b)
noncomputable def v107 (a : Int) (b : Int) : Int × Int := valP (R107 a b)
theorem sp107 (a : Int) (b : Int) (r : Int × Int) (h : R107 a b r) : ok107 a b = true ∧ v107 a b = r := okP_of h fun b hb => by
  have := RunF.uniq hb h
  rcases b with ⟨_, _⟩; rcases r with ⟨_, _⟩; simp_all
theorem at107 : P.funcs[107]? = some Try.f107 := by kernel_rfl
theorem callable107 : callable 107 = true := by kernel_rfl
theorem semok107 : SemOk (semOf ents107) := EntsOk.sem (.cons entok123 (.nil))
theorem memok107 : MemOk (memOf mems107) := EntsMOk.mem (.nil)
noncomputable def ent107 : Ent := fun args => match args with
  | [.int .u64 a, .int .u64 b] => some (true, ok107 a b, .tup [.int .u64 (v107 a b).1, .int .u64 (v107 a b).2])
  | _ => none
theorem entok107 : EntOk 107 ent107 := fun args own r h => by
  unfold ent107 at h
  split at h
  · simp only [Option.some.injEq, Prod.mk.injEq] at h
    obtain ⟨rfl, h, rfl⟩ := h
    exact ⟨RunF.calls (fun _ => semok107) (fun _ => memok107) at107 rfl (Nat.le_of_ble_eq_true rfl) (fun _ => rfl) (okP_val h), callable107⟩
  · cases h
end Go.Proofs.Ytnfgfdeidkhdkaa.Eng
