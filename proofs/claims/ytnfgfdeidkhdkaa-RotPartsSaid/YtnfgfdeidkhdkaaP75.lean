/- slices.Repeat(()int,int): its run from loop to loop, as Lean printed it (a program of this session's wrote these rows). No condition. -/
import Derived.Test.YtnfgfdeidkhdkaaGd
import Derived.Test.YtnfgfdeidkhdkaaP107
namespace Go.Proofs.Ytnfgfdeidkhdkaa.Eng
set_option linter.unusedVariables false
set_option maxRecDepth 100000
noncomputable def ents75 : List (Nat × Ent) := [(107, ent107)]
noncomputable def mems75 : List (Nat × EntM) := []
noncomputable def E75 (fu : Nat) : Env := ⟨48, 0, semOf ents75, [], memOf mems75, [], [(100008, ⟨[], [(7, none), (8, none)], [7, 8]⟩)], fu⟩
theorem fuel75 : Fuel E75 := fun _ => rfl
noncomputable def kr75 : St → Option CV := endK true Try.f75.results.toList
noncomputable def K75_8 : List Fr := theK Try.f75 100008
noncomputable def C75_8 : Code := theC Try.f75 100008
def s75_8 (i8 : Int) (mM0 : List Int) : St := ⟨[(7, .ref 8000), (8, .int .i64 i8)], [(8000, some (.arr true .int mM0))]⟩
noncomputable def a75_8 (i8 : Int) (mM0 : List Int) : Leaf := .at K75_8 C75_8 (s75_8 i8 mM0)
noncomputable def t75_8 (i8 : Int) (mM0 : List Int) : Option Leaf :=
  bif Decidable.decide (i8 < (↑(List.length mM0) : Int)) then
   bif Decidable.decide ((0 : Int) ≤ i8) then
    bif Decidable.decide (i8 ≤ (↑(List.length mM0) : Int)) then
     bif Decidable.decide ((↑(List.length mM0) : Int) ≤ (↑(List.length mM0) : Int)) then
      bif Decidable.decide ((↑(List.length mM0) : Int) ≤ (↑(List.length mM0) : Int)) then
       bif Decidable.decide ((0 : Int) ≤ i8) then
        bif Decidable.decide (i8 ≤ i8) then
         bif Decidable.decide (i8 ≤ (↑(List.length mM0) : Int)) then
          bif Decidable.decide (Int.toNat i8 + (Int.toNat (↑(List.length mM0) : Int) - Int.toNat i8) ≤ List.length mM0) then
           some (a75_8 (IntKind.wrap IntKind.i64 (i8 + (↑(Min.min (Int.toNat (↑(List.length mM0) : Int) - Int.toNat i8) (List.length (List.take (Int.toNat i8 - Int.toNat (0 : Int)) (List.drop (Int.toNat (0 : Int)) mM0)))) : Int))) (List.take (Int.toNat i8) mM0 ++ List.take (Min.min (Int.toNat (↑(List.length mM0) : Int) - Int.toNat i8) (List.length (List.take (Int.toNat i8 - Int.toNat (0 : Int)) (List.drop (Int.toNat (0 : Int)) mM0)))) (List.take (Int.toNat i8 - Int.toNat (0 : Int)) (List.drop (Int.toNat (0 : Int)) mM0)) ++ List.drop (Int.toNat i8 + Min.min (Int.toNat (↑(List.length mM0) : Int) - Int.toNat i8) (List.length (List.take (Int.toNat i8 - Int.toNat (0 : Int)) (List.drop (Int.toNat (0 : Int)) mM0)))) mM0))
          else
           none
         else
          none
        else
         none
       else
        none
      else
       none
     else
      none
    else
     none
   else
    none
  else
   some (.ret (CV.sl SK.int mM0))
theorem c75_8 (fu : Nat) (i8 : Int) (mM0 : List Int) : cutL (E75 fu) kr75 K75_8 C75_8 (s75_8 i8 mM0) = t75_8 i8 mM0 := by kernel_rfl
theorem h75_8 (i8 : Int) (mM0 : List Int) (r : CV) (h : Good E75 kr75 (t75_8 i8 mM0) r) : Lead E75 kr75 r (a75_8 i8 mM0) := Lead.at fuel75 (fun fu => c75_8 fu i8 mM0) h
noncomputable def t75 (l : List Int) (n : Int) : Option Leaf :=
  bif Decidable.decide (n < (0 : Int)) then
   none
  else
   bif ok107 (IntKind.wrap IntKind.u64 (↑(List.length l) : Int)) (IntKind.wrap IntKind.u64 n) then
    bif Decidable.decide ((0 : Int) < Prod.fst (v107 (IntKind.wrap IntKind.u64 (↑(List.length l) : Int)) (IntKind.wrap IntKind.u64 n))) then
     none
    else
     bif Decidable.decide ((9223372036854775807 : Int) < Prod.snd (v107 (IntKind.wrap IntKind.u64 (↑(List.length l) : Int)) (IntKind.wrap IntKind.u64 n))) then
      none
     else
      bif Decidable.decide (IntKind.wrap IntKind.i64 (Prod.snd (v107 (IntKind.wrap IntKind.u64 (↑(List.length l) : Int)) (IntKind.wrap IntKind.u64 n))) = IntKind.wrap IntKind.i64 (Prod.snd (v107 (IntKind.wrap IntKind.u64 (↑(List.length l) : Int)) (IntKind.wrap IntKind.u64 n)))) then
       bif Decidable.decide ((0 : Int) ≤ IntKind.wrap IntKind.i64 (Prod.snd (v107 (IntKind.wrap IntKind.u64 (↑(List.length l) : Int)) (IntKind.wrap IntKind.u64 n)))) then
        bif Decidable.decide (IntKind.wrap IntKind.i64 (Prod.snd (v107 (IntKind.wrap IntKind.u64 (↑(List.length l) : Int)) (IntKind.wrap IntKind.u64 n))) ≤ (4294967296 : Int)) then
         some (a75_8 ((↑(Min.min (List.length (List.replicate (Int.toNat (IntKind.wrap IntKind.i64 (Prod.snd (v107 (IntKind.wrap IntKind.u64 (↑(List.length l) : Int)) (IntKind.wrap IntKind.u64 n))))) (0 : SK.T SK.int))) (List.length l)) : Int)) (List.take (Min.min (List.length (List.replicate (Int.toNat (IntKind.wrap IntKind.i64 (Prod.snd (v107 (IntKind.wrap IntKind.u64 (↑(List.length l) : Int)) (IntKind.wrap IntKind.u64 n))))) (0 : SK.T SK.int))) (List.length l)) l ++ List.drop (Min.min (List.length (List.replicate (Int.toNat (IntKind.wrap IntKind.i64 (Prod.snd (v107 (IntKind.wrap IntKind.u64 (↑(List.length l) : Int)) (IntKind.wrap IntKind.u64 n))))) (0 : SK.T SK.int))) (List.length l)) (List.replicate (Int.toNat (IntKind.wrap IntKind.i64 (Prod.snd (v107 (IntKind.wrap IntKind.u64 (↑(List.length l) : Int)) (IntKind.wrap IntKind.u64 n))))) (0 : SK.T SK.int))))
        else
         none
       else
        none
      else
       none
   else
    none
theorem c75 (fu : Nat) (l : List Int) (n : Int) : cutB (E75 fu) kr75 Try.f75 (⟨parT 0 [.sl .int l, .int .i64 n], []⟩) = t75 l n := by kernel_rfl
def R75 (l : List Int) (n : Int) (r : List Int) : Prop := RunF E75 true Try.f75 [.sl .int l, .int .i64 n] (.sl .int r)
theorem run75 (l : List Int) (n : Int) (r : List Int) (h : Good E75 kr75 (t75 l n) (.sl .int r)) : R75 l n r := RunF.of fuel75 (fun fu => c75 fu l n) h
noncomputable def ok75 (l : List Int) (n : Int) : Bool := okP (R75 l n)
noncomputable def v75 (l : List Int) (n : Int) : List Int := valP (R75 l n)
theorem sp75 (l : List Int) (n : Int) (r : List Int) (h : R75 l n r) : ok75 l n = true ∧ v75 l n = r := okP_of h fun b hb => by
  have := RunF.uniq hb h
  simp_all
theorem at75 : P.funcs[75]? = some Try.f75 := by kernel_rfl
theorem callable75 : callable 75 = true := by kernel_rfl
theorem semok75 : SemOk (semOf ents75) := EntsOk.sem (.cons entok107 (.nil))
theorem memok75 : MemOk (memOf mems75) := EntsMOk.mem (.nil)
noncomputable def ent75 : Ent := fun args => match args with
  | [.sl .int l, .int .i64 n] => some (true, ok75 l n, .sl .int (v75 l n))
  | _ => none
theorem entok75 : EntOk 75 ent75 := fun args own r h => by
  unfold ent75 at h
  split at h
  · simp only [Option.some.injEq, Prod.mk.injEq] at h
    obtain ⟨rfl, h, rfl⟩ := h
    exact ⟨RunF.calls (fun _ => semok75) (fun _ => memok75) at75 rfl (Nat.le_of_ble_eq_true rfl) (fun _ => rfl) (okP_val h), callable75⟩
  · cases h
end Go.Proofs.Ytnfgfdeidkhdkaa.Eng
