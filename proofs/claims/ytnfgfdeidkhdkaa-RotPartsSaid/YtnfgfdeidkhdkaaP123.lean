/- math/bits.Mul64: its run from loop to loop, as Lean printed it (a program of this session's wrote these rows). No condition. -/
import Derived.Test.YtnfgfdeidkhdkaaGd
namespace Go.Proofs.Ytnfgfdeidkhdkaa.Eng
set_option linter.unusedVariables false
set_option maxRecDepth 100000
noncomputable def ents123 : List (Nat × Ent) := []
noncomputable def mems123 : List (Nat × EntM) := []
noncomputable def E123 (fu : Nat) : Env := ⟨51, 0, semOf ents123, [], memOf mems123, [], [], fu⟩
theorem fuel123 : Fuel E123 := fun _ => rfl
noncomputable def kr123 : St → Option CV := endK true Try.f123.results.toList
noncomputable def t123 (a : Int) (b : Int) : Option Leaf :=
  some (.ret (CV.tup [CV.int IntKind.u64 (IntKind.wrap IntKind.u64 (IntKind.wrap IntKind.u64 (IntKind.wrap IntKind.u64 (Int.fdiv a ((2 : Int) ^ Min.min (Int.toNat (32 : Int)) (IntKind.bits IntKind.u64)) * Int.fdiv b ((2 : Int) ^ Min.min (Int.toNat (32 : Int)) (IntKind.bits IntKind.u64))) + Int.fdiv (IntKind.wrap IntKind.u64 (IntKind.wrap IntKind.u64 (Int.fdiv a ((2 : Int) ^ Min.min (Int.toNat (32 : Int)) (IntKind.bits IntKind.u64)) * bitsI BinOp.and IntKind.u64 b (4294967295 : Int)) + Int.fdiv (IntKind.wrap IntKind.u64 (bitsI BinOp.and IntKind.u64 a (4294967295 : Int) * bitsI BinOp.and IntKind.u64 b (4294967295 : Int))) ((2 : Int) ^ Min.min (Int.toNat (32 : Int)) (IntKind.bits IntKind.u64)))) ((2 : Int) ^ Min.min (Int.toNat (32 : Int)) (IntKind.bits IntKind.u64))) + Int.fdiv (IntKind.wrap IntKind.u64 (bitsI BinOp.and IntKind.u64 (IntKind.wrap IntKind.u64 (IntKind.wrap IntKind.u64 (Int.fdiv a ((2 : Int) ^ Min.min (Int.toNat (32 : Int)) (IntKind.bits IntKind.u64)) * bitsI BinOp.and IntKind.u64 b (4294967295 : Int)) + Int.fdiv (IntKind.wrap IntKind.u64 (bitsI BinOp.and IntKind.u64 a (4294967295 : Int) * bitsI BinOp.and IntKind.u64 b (4294967295 : Int))) ((2 : Int) ^ Min.min (Int.toNat (32 : Int)) (IntKind.bits IntKind.u64)))) (4294967295 : Int) + IntKind.wrap IntKind.u64 (bitsI BinOp.and IntKind.u64 a (4294967295 : Int) * Int.fdiv b ((2 : Int) ^ Min.min (Int.toNat (32 : Int)) (IntKind.bits IntKind.u64))))) ((2 : Int) ^ Min.min (Int.toNat (32 : Int)) (IntKind.bits IntKind.u64)))), CV.int IntKind.u64 (IntKind.wrap IntKind.u64 (a * b))]))
theorem c123 (fu : Nat) (a : Int) (b : Int) : cutB (E123 fu) kr123 Try.f123 (⟨parT 0 [.int .u64 a, .int .u64 b], []⟩) = t123 a b := by kernel_rfl
def R123 (a : Int) (b : Int) (r : Int × Int) : Prop := RunF E123 true Try.f123 [.int .u64 a, .int .u64 b] (.tup [.int .u64 r.1, .int .u64 r.2])
theorem run123 (a : Int) (b : Int) (r : Int × Int) (h : Good E123 kr123 (t123 a b) (.tup [.int .u64 r.1, .int .u64 r.2])) : R123 a b r := RunF.of fuel123 (fun fu => c123 fu a b) h
noncomputable def ok123 (a : Int) (b : Int) : Bool := okP (R123 a b)
noncomputable def v123 (a : Int) (b : Int) : Int × Int := valP (R123 a b)
theorem sp123 (a : Int) (b : Int) (r : Int × Int) (h : R123 a b r) : ok123 a b = true ∧ v123 a b = r := okP_of h fun b hb => by
  have := RunF.uniq hb h
  rcases b with ⟨_, _⟩; rcases r with ⟨_, _⟩; simp_all
theorem at123 : P.funcs[123]? = some Try.f123 := by kernel_rfl
theorem callable123 : callable 123 = true := by kernel_rfl
theorem semok123 : SemOk (semOf ents123) := EntsOk.sem (.nil)
theorem memok123 : MemOk (memOf mems123) := EntsMOk.mem (.nil)
noncomputable def ent123 : Ent := fun args => match args with
  | [.int .u64 a, .int .u64 b] => some (true, ok123 a b, .tup [.int .u64 (v123 a b).1, .int .u64 (v123 a b).2])
  | _ => none
theorem entok123 : EntOk 123 ent123 := fun args own r h => by
  unfold ent123 at h
  split at h
  · simp only [Option.some.injEq, Prod.mk.injEq] at h
    obtain ⟨rfl, h, rfl⟩ := h
    exact ⟨RunF.calls (fun _ => semok123) (fun _ => memok123) at123 rfl (Nat.le_of_ble_eq_true rfl) (fun _ => rfl) (okP_val h), callable123⟩
  · cases h
end Go.Proofs.Ytnfgfdeidkhdkaa.Eng
