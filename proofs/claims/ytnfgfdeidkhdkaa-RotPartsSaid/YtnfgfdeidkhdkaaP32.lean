/- watershed/watershedref2.Head: its run from loop to loop, as Lean printed it (a program of this session's wrote these rows). No condition. -/
import Derived.Test.YtnfgfdeidkhdkaaGd
namespace Go.Proofs.Ytnfgfdeidkhdkaa.Eng
set_option linter.unusedVariables false
set_option maxRecDepth 100000
noncomputable def ents32 : List (Nat × Ent) := []
noncomputable def mems32 : List (Nat × EntM) := []
noncomputable def E32 (fu : Nat) : Env := ⟨11, 0, semOf ents32, [], memOf mems32, [], [], fu⟩
theorem fuel32 : Fuel E32 := fun _ => rfl
noncomputable def kr32 : St → Option CV := endK true Try.f32.results.toList
noncomputable def t32 (gN : Int) (gT : List Int) (gX : List Int) (gC : List Int) (d : Int) : Option Leaf :=
  bif Decidable.decide ((0 : Int) ≤ bitsI BinOp.xor IntKind.i64 d (1 : Int)) then
   ob (gT[Int.toNat (bitsI BinOp.xor IntKind.i64 d (1 : Int))]?) fun x1 =>
    some (.ret (CV.int IntKind.i64 x1))
  else
   none
theorem c32 (fu : Nat) (gN : Int) (gT : List Int) (gX : List Int) (gC : List Int) (d : Int) : cutB (E32 fu) kr32 Try.f32 (⟨parT 0 [.agg [.int .i64 gN, .sl .int gT, .sl .int gX, .sl .int gC], .int .i64 d], []⟩) = t32 gN gT gX gC d := by kernel_rfl
def R32 (gN : Int) (gT : List Int) (gX : List Int) (gC : List Int) (d : Int) (r : Int) : Prop := RunF E32 true Try.f32 [.agg [.int .i64 gN, .sl .int gT, .sl .int gX, .sl .int gC], .int .i64 d] (.int .i64 r)
theorem run32 (gN : Int) (gT : List Int) (gX : List Int) (gC : List Int) (d : Int) (r : Int) (h : Good E32 kr32 (t32 gN gT gX gC d) (.int .i64 r)) : R32 gN gT gX gC d r := RunF.of fuel32 (fun fu => c32 fu gN gT gX gC d) h
noncomputable def ok32 (gN : Int) (gT : List Int) (gX : List Int) (gC : List Int) (d : Int) : Bool := okP (R32 gN gT gX gC d)
noncomputable def v32 (gN : Int) (gT : List Int) (gX : List Int) (gC : List Int) (d : Int) : Int := valP (R32 gN gT gX gC d)
theorem sp32 (gN : Int) (gT : List Int) (gX : List Int) (gC : List Int) (d : Int) (r : Int) (h : R32 gN gT gX gC d r) : ok32 gN gT gX gC d = true ∧ v32 gN gT gX gC d = r := okP_of h fun b hb => by
  have := RunF.uniq hb h
  simp_all
theorem at32 : P.funcs[32]? = some Try.f32 := by kernel_rfl
theorem callable32 : callable 32 = true := by kernel_rfl
theorem semok32 : SemOk (semOf ents32) := EntsOk.sem (.nil)
theorem memok32 : MemOk (memOf mems32) := EntsMOk.mem (.nil)
noncomputable def ent32 : Ent := fun args => match args with
  | [.agg [.int .i64 gN, .sl .int gT, .sl .int gX, .sl .int gC], .int .i64 d] => some (true, ok32 gN gT gX gC d, .int .i64 (v32 gN gT gX gC d))
  | _ => none
theorem entok32 : EntOk 32 ent32 := fun args own r h => by
  unfold ent32 at h
  split at h
  · simp only [Option.some.injEq, Prod.mk.injEq] at h
    obtain ⟨rfl, h, rfl⟩ := h
    exact ⟨RunF.calls (fun _ => semok32) (fun _ => memok32) at32 rfl (Nat.le_of_ble_eq_true rfl) (fun _ => rfl) (okP_val h), callable32⟩
  · cases h
end Go.Proofs.Ytnfgfdeidkhdkaa.Eng
