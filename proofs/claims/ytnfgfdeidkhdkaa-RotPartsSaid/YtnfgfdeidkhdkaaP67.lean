/- watershed/watershedref1.Edge: its run from loop to loop, as Lean printed it (a program of this session's wrote these rows). No condition. -/
import Derived.Test.YtnfgfdeidkhdkaaGd
namespace Go.Proofs.Ytnfgfdeidkhdkaa.Eng
set_option linter.unusedVariables false
set_option maxRecDepth 100000
noncomputable def ents67 : List (Nat × Ent) := []
noncomputable def mems67 : List (Nat × EntM) := []
noncomputable def E67 (fu : Nat) : Env := ⟨93, 0, semOf ents67, [], memOf mems67, [], [], fu⟩
theorem fuel67 : Fuel E67 := fun _ => rfl
noncomputable def kr67 : St → Option CV := endK false Try.f67.results.toList
noncomputable def t67 (gN : Int) (gT : List Int) (gX : List Int) (gC : List Int) (l : List Int) : Option Leaf :=
  bif Decidable.decide ((240 : Int) ≤ (↑(List.length gT) : Int)) then
   some (.ret (CV.tup [CV.agg [CV.int IntKind.i64 gN, CV.sl SK.int gT, CV.sl SK.int gX, CV.sl SK.int gC], CV.int IntKind.i64 (2 : Int)]))
  else
   ob (l[Int.toNat (0 : Int)]?) fun x1 =>
    bif Decidable.decide (x1 < (0 : Int)) then
     some (.ret (CV.tup [CV.agg [CV.int IntKind.i64 gN, CV.sl SK.int gT, CV.sl SK.int gX, CV.sl SK.int gC], CV.int IntKind.i64 (3 : Int)]))
    else
     ob (l[Int.toNat (1 : Int)]?) fun x2 =>
      bif Decidable.decide (x2 < (0 : Int)) then
       some (.ret (CV.tup [CV.agg [CV.int IntKind.i64 gN, CV.sl SK.int gT, CV.sl SK.int gX, CV.sl SK.int gC], CV.int IntKind.i64 (3 : Int)]))
      else
       ob (l[Int.toNat (0 : Int)]?) fun x3 =>
        bif Decidable.decide (gN ≤ x3) then
         some (.ret (CV.tup [CV.agg [CV.int IntKind.i64 gN, CV.sl SK.int gT, CV.sl SK.int gX, CV.sl SK.int gC], CV.int IntKind.i64 (3 : Int)]))
        else
         ob (l[Int.toNat (1 : Int)]?) fun x4 =>
          bif Decidable.decide (gN ≤ x4) then
           some (.ret (CV.tup [CV.agg [CV.int IntKind.i64 gN, CV.sl SK.int gT, CV.sl SK.int gX, CV.sl SK.int gC], CV.int IntKind.i64 (3 : Int)]))
          else
           ob (l[Int.toNat (2 : Int)]?) fun x5 =>
            bif Decidable.decide ((2147483648 : Int) < x5) then
             some (.ret (CV.tup [CV.agg [CV.int IntKind.i64 gN, CV.sl SK.int gT, CV.sl SK.int gX, CV.sl SK.int gC], CV.int IntKind.i64 (4 : Int)]))
            else
             ob (l[Int.toNat (3 : Int)]?) fun x6 =>
              bif Decidable.decide ((2147483648 : Int) < x6) then
               some (.ret (CV.tup [CV.agg [CV.int IntKind.i64 gN, CV.sl SK.int gT, CV.sl SK.int gX, CV.sl SK.int gC], CV.int IntKind.i64 (4 : Int)]))
              else
               bif Nat.ble (List.length gT) (4294967296 : Nat) then
                ob (l[Int.toNat (0 : Int)]?) fun x7 =>
                 ob (l[Int.toNat (1 : Int)]?) fun x8 =>
                  bif Nat.ble (List.length gT + List.length [x7, x8]) (4294967296 : Nat) then
                   bif Nat.ble (List.length gX) (4294967296 : Nat) then
                    bif Nat.ble (List.length gX + List.length [(↑(List.length gT) : Int), IntKind.wrap IntKind.i64 ((↑(List.length gT) : Int) + (1 : Int))]) (4294967296 : Nat) then
                     bif Nat.ble (List.length gC) (4294967296 : Nat) then
                      ob (l[Int.toNat (2 : Int)]?) fun x9 =>
                       ob (l[Int.toNat (3 : Int)]?) fun x10 =>
                        bif Nat.ble (List.length gC + List.length [x9, x10]) (4294967296 : Nat) then
                         some (.ret (CV.tup [CV.agg [CV.int IntKind.i64 gN, CV.sl SK.int (gT ++ [x7, x8]), CV.sl SK.int (gX ++ [(↑(List.length gT) : Int), IntKind.wrap IntKind.i64 ((↑(List.length gT) : Int) + (1 : Int))]), CV.sl SK.int (gC ++ [x9, x10])], CV.int IntKind.i64 (0 : Int)]))
                        else
                         none
                     else
                      none
                    else
                     none
                   else
                    none
                  else
                   none
               else
                none
theorem c67 (fu : Nat) (gN : Int) (gT : List Int) (gX : List Int) (gC : List Int) (l : List Int) : cutB (E67 fu) kr67 Try.f67 (⟨parT 0 [.agg [.int .i64 gN, .sl .int gT, .sl .int gX, .sl .int gC], .sl .int l], []⟩) = t67 gN gT gX gC l := by kernel_rfl
def R67 (gN : Int) (gT : List Int) (gX : List Int) (gC : List Int) (l : List Int) (r : NetV × Int) : Prop := RunF E67 false Try.f67 [.agg [.int .i64 gN, .sl .int gT, .sl .int gX, .sl .int gC], .sl .int l] (.tup [.agg [.int .i64 r.1.N, .sl .int r.1.T, .sl .int r.1.X, .sl .int r.1.C], .int .i64 r.2])
theorem run67 (gN : Int) (gT : List Int) (gX : List Int) (gC : List Int) (l : List Int) (r : NetV × Int) (h : Good E67 kr67 (t67 gN gT gX gC l) (.tup [.agg [.int .i64 r.1.N, .sl .int r.1.T, .sl .int r.1.X, .sl .int r.1.C], .int .i64 r.2])) : R67 gN gT gX gC l r := RunF.of fuel67 (fun fu => c67 fu gN gT gX gC l) h
noncomputable def ok67 (gN : Int) (gT : List Int) (gX : List Int) (gC : List Int) (l : List Int) : Bool := okP (R67 gN gT gX gC l)
noncomputable def v67 (gN : Int) (gT : List Int) (gX : List Int) (gC : List Int) (l : List Int) : NetV × Int := valP (R67 gN gT gX gC l)
theorem sp67 (gN : Int) (gT : List Int) (gX : List Int) (gC : List Int) (l : List Int) (r : NetV × Int) (h : R67 gN gT gX gC l r) : ok67 gN gT gX gC l = true ∧ v67 gN gT gX gC l = r := okP_of h fun b hb => by
  have := RunF.uniq hb h
  rcases b with ⟨⟨_, _, _, _⟩, _⟩; rcases r with ⟨⟨_, _, _, _⟩, _⟩; simp_all
theorem at67 : P.funcs[67]? = some Try.f67 := by kernel_rfl
theorem callable67 : callable 67 = true := by kernel_rfl
theorem semok67 : SemOk (semOf ents67) := EntsOk.sem (.nil)
theorem memok67 : MemOk (memOf mems67) := EntsMOk.mem (.nil)
noncomputable def ent67 : Ent := fun args => match args with
  | [.agg [.int .i64 gN, .sl .int gT, .sl .int gX, .sl .int gC], .sl .int l] => some (false, ok67 gN gT gX gC l, .tup [.agg [.int .i64 (v67 gN gT gX gC l).1.N, .sl .int (v67 gN gT gX gC l).1.T, .sl .int (v67 gN gT gX gC l).1.X, .sl .int (v67 gN gT gX gC l).1.C], .int .i64 (v67 gN gT gX gC l).2])
  | _ => none
theorem entok67 : EntOk 67 ent67 := fun args own r h => by
  unfold ent67 at h
  split at h
  · simp only [Option.some.injEq, Prod.mk.injEq] at h
    obtain ⟨rfl, h, rfl⟩ := h
    exact ⟨RunF.calls (fun _ => semok67) (fun _ => memok67) at67 rfl (Nat.le_of_ble_eq_true rfl) (fun _ => rfl) (okP_val h), callable67⟩
  · cases h
end Go.Proofs.Ytnfgfdeidkhdkaa.Eng
