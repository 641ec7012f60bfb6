/- 'within', and what is told of some nets. -/
import Derived.Test.YtnfgfdeidkhdkaaFb
import Derived.IntWalk
namespace Go.Proofs.Ytnfgfdeidkhdkaa.Eng
set_option linter.unusedVariables false

def withinI (a n : Int) : Int := bif decide (a.tmod n < 0) then IntKind.i64.wrap (a.tmod n + n) else a.tmod n
theorem withinI_range {a n : Int} (h0 : 0 < n) (h1 : n ≤ 4611686018427387904) : 0 ≤ withinI a n ∧ withinI a n < n := by
  unfold withinI
  have hb : -n < a.tmod n ∧ a.tmod n < n := ⟨Int.lt_tmod_of_pos a h0, Int.tmod_lt_of_pos a h0⟩
  by_cases h : a.tmod n < 0
  · simp only [h, decide_true, cond_true]
    rw [IntWalk.i64_in _ ⟨by omega, by omega⟩]
    omega
  · simp only [h, decide_false, cond_false]
    omega
def E22 : Env := ⟨15, 0, fun _ _ => none, [], fun _ _ _ => none, [], [], 0⟩
theorem run22 (a n : Int) : runF E22 true Try.f22 [.int .i64 a, .int .i64 n] = bif decide (n = 0) then none else bif decide (a.tmod n < 0) then some (.int .i64 (IntKind.i64.wrap (a.tmod n + n))) else some (.int .i64 (a.tmod n)) := by kernel_rfl
theorem callable22 : callable 22 = true := by kernel_rfl
theorem f22_at : P.funcs[22]? = some Try.f22 := by kernel_rfl
theorem within_calls (a n : Int) (hn : n ≠ 0) : CallsC 22 [.int .i64 a, .int .i64 n] true (.int .i64 (withinI a n)) := by
  refine runF_calls (E := E22) (fun _ _ _ _ h => by cases h) noMem f22_at rfl (by show 2 ≤ 15; decide) rfl ?_
  rw [run22]
  unfold withinI
  by_cases h : a.tmod n < 0 <;> simp [hn, h]

noncomputable def sem7 : Sems := fun f args =>
  bif Nat.beq f 22 then (match args with
    | [.int .i64 a, .int .i64 n] => bif decide (n = 0) then none else some (true, .int .i64 (withinI a n))
    | _ => none)
  else semN 8 f args
theorem sem7_ok : SemOk sem7 := fun f args own r h => by
  simp only [sem7] at h
  by_cases hf : Nat.beq f 22 = true
  · rw [hf, cond_true] at h
    obtain rfl := Nat.eq_of_beq_eq_true hf
    split at h
    · rename_i a n
      by_cases hn : n = 0
      · simp [hn] at h
      · simp only [hn, decide_false, cond_false] at h
        cases h
        exact ⟨within_calls a n hn, callable22⟩
    · cases h
  · rw [Bool.eq_false_iff.2 hf, cond_false] at h
    exact semN_ok 8 f args own r h
noncomputable def E7 : Env := ⟨68, 0, sem7, [], fun _ _ _ => none, [], [(6, ⟨[], [(3, none), (4, none)], [3, 4, 5]⟩)], 0⟩
noncomputable def tail7 : Code := match Try.f7.body with
  | some (.seq _ (.seq _ (.seq _ (.seq _ (.seq _ t))))) => t
  | _ => .skip
def nets7 : List SK.net.T := [(1, [], [], []), (0, [], [], []), (2, [], [], []), (61, [], [], []), (1, [0, 0], [1, 0], [1, 1]), (1, [0, 0], [0, 1], [1, 1]), (1, [0, 0], [1, 0], [1, -1]), (1, [0, 0], [1, 2], [1, 1]), (1, [0, 0], [1], [1, 1]),
  (1, [0, 1], [1, 0], [1, 1]), (1, [0, 0, 0, 0], [2, 3, 1, 0], [1, 1, 1, 1]), (1, [0, 0, 0, 0], [1, 2, 3, 0], [1, 1, 1, 1]), (2, [0, 1], [1, 0], [1, 1]), (1, [0], [0], [1])]
def errs7 : List SK.eno.T := [0, 3, 7, 2, 0, 6, 4, 5, 5, 3, 8, 0, 6, 5]
def st7 (k : Int) : St := ⟨[(3, .ref 8000), (4, .ref 8001), (5, .int .i64 k)], [(8000, some (.arr true .net nets7)), (8001, some (.arr true .eno errs7))]⟩
noncomputable def e7 : St → Option CV := endK true Try.f7.results.toList
theorem seg7 (which : Int) : runF E7 true Try.f7 [.int .i64 which] = exK E7 tail7 e7 (fun _ _ => none) e7 (st7 (withinI which 14)) := by kernel_rfl
theorem case7_0 : exK E7 tail7 e7 (fun _ _ => none) e7 (st7 0) = some (.bool true) := by kernel_rfl
theorem case7_1 : exK E7 tail7 e7 (fun _ _ => none) e7 (st7 1) = some (.bool true) := by kernel_rfl
theorem case7_2 : exK E7 tail7 e7 (fun _ _ => none) e7 (st7 2) = some (.bool true) := by kernel_rfl
theorem case7_3 : exK E7 tail7 e7 (fun _ _ => none) e7 (st7 3) = some (.bool true) := by kernel_rfl
theorem case7_4 : exK E7 tail7 e7 (fun _ _ => none) e7 (st7 4) = some (.bool true) := by kernel_rfl
theorem case7_5 : exK E7 tail7 e7 (fun _ _ => none) e7 (st7 5) = some (.bool true) := by kernel_rfl
theorem case7_6 : exK E7 tail7 e7 (fun _ _ => none) e7 (st7 6) = some (.bool true) := by kernel_rfl
theorem case7_7 : exK E7 tail7 e7 (fun _ _ => none) e7 (st7 7) = some (.bool true) := by kernel_rfl
theorem case7_8 : exK E7 tail7 e7 (fun _ _ => none) e7 (st7 8) = some (.bool true) := by kernel_rfl
theorem case7_9 : exK E7 tail7 e7 (fun _ _ => none) e7 (st7 9) = some (.bool true) := by kernel_rfl
theorem case7_10 : exK E7 tail7 e7 (fun _ _ => none) e7 (st7 10) = some (.bool true) := by kernel_rfl
theorem case7_11 : exK E7 tail7 e7 (fun _ _ => none) e7 (st7 11) = some (.bool true) := by kernel_rfl
theorem case7_12 : exK E7 tail7 e7 (fun _ _ => none) e7 (st7 12) = some (.bool true) := by kernel_rfl
theorem case7_13 : exK E7 tail7 e7 (fun _ _ => none) e7 (st7 13) = some (.bool true) := by kernel_rfl
theorem all7 (k : Int) (h0 : 0 ≤ k) (h1 : k < 14) : exK E7 tail7 e7 (fun _ _ => none) e7 (st7 k) = some (.bool true) := by
  have : k = 0 ∨ k = 1 ∨ k = 2 ∨ k = 3 ∨ k = 4 ∨ k = 5 ∨ k = 6 ∨ k = 7 ∨ k = 8 ∨ k = 9 ∨ k = 10 ∨ k = 11 ∨ k = 12 ∨ k = 13 := by omega
  rcases this with rfl | rfl | rfl | rfl | rfl | rfl | rfl | rfl | rfl | rfl | rfl | rfl | rfl | rfl
  · exact case7_0
  · exact case7_1
  · exact case7_2
  · exact case7_3
  · exact case7_4
  · exact case7_5
  · exact case7_6
  · exact case7_7
  · exact case7_8
  · exact case7_9
  · exact case7_10
  · exact case7_11
  · exact case7_12
  · exact case7_13
theorem f7_at : P.funcs[7]? = some Try.f7 := by kernel_rfl
theorem rotKnown_calls (which : Int) : CallsC 7 [.int .i64 which] true (.bool true) := by
  refine runF_calls (E := E7) sem7_ok noMem f7_at rfl (by show 1 ≤ 68; decide) rfl ?_
  rw [seg7]
  obtain ⟨h0, h1⟩ := withinI_range (a := which) (n := 14) (by decide) (by decide)
  exact all7 _ h0 h1
/-- a truth that is told -/
theorem bool_told {base : Nat} {w : World} {R : Nat → Prop} {b : Bool} {v : Value} (h : Res true base w R (.bool b) v) : v = .bool b := by
  obtain ⟨ls, -, h, -⟩ := h 0
  exact h
theorem calls_true {f : Nat} {args : List CV} (h : CallsC f args true (.bool true)) (w : World) (R : Nat → Prop) (vs : Array Value) (hR : ∀ b, R b → b < w.heap.size) (ha : All2 (valR (byV w R)) args vs.toList) :
    Calls P f vs w fun e w' => e = .returned (.bool true) ∧ Go.RowKit.Below w.heap.size w w' :=
  (h w R vs hR ha).mono fun e w' ⟨v, he, hb, _, _, _, _, hr⟩ => ⟨by rw [he, bool_told hr], hb⟩
end Go.Proofs.Ytnfgfdeidkhdkaa.Eng
