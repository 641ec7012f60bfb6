/- What is known of functions that were walked by hand, or run: slices.Clone, the example; and how a call that tells 'true' is said. -/
import Derived.Test.YtnfgfdeidkhdkaaGd
import Derived.Test.YtnfgfdeidkhdkaaFb
namespace Go.Proofs.Ytnfgfdeidkhdkaa.Eng
set_option linter.unusedVariables false
noncomputable def ent76 : Ent := fun args => match args with
  | [.sl .int l] => some (true, Nat.ble l.length 4294967296, .sl .int l)
  | _ => none
theorem entok76 : EntOk 76 ent76 := fun args own r h => by
  unfold ent76 at h
  split at h
  · rename_i l
    simp only [Option.some.injEq, Prod.mk.injEq] at h
    obtain ⟨rfl, h, rfl⟩ := h
    exact ⟨clone_calls l (Nat.le_of_ble_eq_true h), callable76⟩
  · cases h
noncomputable def ent17 : Ent := fun args => match args with
  | [] => some (true, true, .bool true)
  | _ => none
theorem entok17 : EntOk 17 ent17 := fun args own r h => by
  unfold ent17 at h
  split at h
  · simp only [Option.some.injEq, Prod.mk.injEq] at h
    obtain ⟨rfl, h, rfl⟩ := h
    exact ⟨known17_calls, callable17⟩
  · cases h
/-- a truth that is told -/
theorem truth_told {base : Nat} {w : World} {R : Nat → Prop} {b : Bool} {v : Value} (h : Res true base w R (.bool b) v) : v = .bool b := by
  obtain ⟨ls, -, h, -⟩ := h 0
  exact h
theorem calls_tells {f : Nat} {args : List CV} (h : CallsC f args true (.bool true)) (w : World) (R : Nat → Prop) (vs : Array Value) (hR : ∀ b, R b → b < w.heap.size) (ha : All2 (valR (byV w R)) args vs.toList) :
    Calls P f vs w fun e w' => e = .returned (.bool true) ∧ Go.RowKit.Below w.heap.size w w' :=
  (h w R vs hR ha).mono fun e w' ⟨v, he, hb, _, _, _, _, hr⟩ => ⟨by rw [he, truth_told hr], hb⟩
/-- a slice of whole numbers that came in, as data -/
theorem ints_val {w : World} {A : Option Addr} {len cap : Nat} {zs : List Int} (h : (A = none ∧ len = 0 ∧ cap = 0 ∧ zs = []) ∨
    ∃ x, A = some x ∧ len ≤ cap ∧ cap ≤ maxLen ∧ zs.length = cap ∧ (∀ i, i < zs.length → w.cell? (x.add i) = some (.int .i64 (zs.getD i 0))) ∧ ∀ n ∈ zs, (Lit.int .i64 n).wf = true) :
    ∃ l : List Int, valR (byV w fun b => b < w.heap.size) (.sl .int l) (.slice A len cap) := by
  rcases h with ⟨rfl, rfl, rfl, rfl⟩ | ⟨x, rfl, h1, h2, h3, h4, -⟩
  · exact ⟨[], none, 0, rfl, Nat.le_refl 0, fun i u hu => by simp at hu⟩
  · refine ⟨zs.take len, some x, cap, by rw [List.length_take, h3, Nat.min_eq_left h1], by rw [List.length_take, h3]; omega, fun i u hu => ?_⟩
    have hf : (List.take len zs).flatMap SK.int.cells = (List.take len zs).map fun n => CV.int .i64 n := by
      rw [List.map_eq_flatMap]; rfl
    rw [hf, List.getElem?_map] at hu
    have hi : i < len := by
      by_cases hi : i < len
      · exact hi
      · rw [List.getElem?_eq_none (by rw [List.length_take]; omega)] at hu; simp at hu
    have hz : i < zs.length := by omega
    rw [List.getElem?_take_of_lt hi, List.getElem?_eq_getElem hz] at hu
    simp only [Option.map_some, Option.some.injEq] at hu
    subst hu
    have hc := h4 i hz
    refine ⟨x, _, rfl, ?_, hc, ?_⟩
    · show x.block < w.heap.size
      unfold World.cell? at hc
      split at hc
      · rename_i hh
        have := (Array.getElem?_eq_some_iff.1 hh).1
        rwa [addr_block] at this
      · cases hc
    · show Value.int .i64 (zs.getD i 0) = Value.int .i64 zs[i]
      rw [List.getD_eq_getElem?_getD, List.getElem?_eq_getElem hz]; rfl
end Go.Proofs.Ytnfgfdeidkhdkaa.Eng
