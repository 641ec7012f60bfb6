/- Closed runs: functions that call functions, each run in the engine · What is known of functions that were walked by hand, or run: slices.Clone, the example; and how a call that tells 'true' is said -/
import Derived.Test.YtnfgfdeidkhdkaaMb
/- Fb: Closed runs: functions that call functions, each run in the engine. -/
namespace Go.Proofs.Ytnfgfdeidkhdkaa.Eng
set_option linter.unusedVariables false

/-- how a function is run: tmps, whether what it tells is its own, the calls that let go, the points, the rounds -/
structure Cf where
  nt : Nat
  own : Bool
  kill : List Nat
  pts : List (Nat × Ann)
  fuel : Nat
def cfg : Nat → Option Cf
  | 107 => some ⟨30, true, [], [], 100⟩
  | 123 => some ⟨51, true, [], [], 100⟩
  | 17 => some ⟨73, true, [], [], 100⟩
  | 20 => some ⟨54, true, [], [(100007, ⟨[(1, none, .int), (19, none, .int), (20, none, .int), (21, none, .int)], [(1, none), (1, some 0), (1, some 1), (1, some 2), (1, some 3), (19, none), (20, none), (21, none)], [1, 19, 20, 21]⟩)], 100⟩
  | 22 => some ⟨15, true, [], [], 100⟩
  | 23 => some ⟨23, true, [], [], 100⟩
  | 25 => some ⟨67, true, [], [(100006, ⟨[(1, none, .int), (4, none, .int), (5, none, .int), (19, none, .int), (20, none, .int)], [(1, none), (1, some 0), (1, some 1), (1, some 2), (1, some 3), (4, none), (5, none), (19, none), (20, none)], [1, 4, 5, 19, 20]⟩), (100011, ⟨[(1, none, .int), (4, none, .int), (5, none, .int), (7, none, .int), (19, none, .int), (20, none, .int)], [(1, none), (1, some 0), (1, some 1), (1, some 2), (1, some 3), (4, none), (5, none), (7, none), (19, none), (20, none)], [1, 4, 5, 7, 19, 20]⟩), (100014, ⟨[(1, none, .int), (4, none, .int), (5, none, .int), (7, none, .int), (19, none, .int), (20, none, .int), (34, none, .int), (35, none, .int), (36, none, .int)], [(1, none), (1, some 0), (1, some 1), (1, some 2), (1, some 3), (4, none), (5, none), (7, none), (19, none), (20, none), (34, none), (35, none), (36, none)], [1, 4, 5, 7, 19, 20, 34, 35, 36]⟩)], 100⟩
  | 29 => some ⟨42, true, [], [(100003, ⟨[(2, none, .int), (3, none, .int), (19, none, .int), (20, none, .int), (21, none, .int)], [(2, none), (2, some 0), (2, some 1), (2, some 2), (2, some 3), (3, none), (3, some 0), (3, some 1), (3, some 2), (3, some 3), (19, none), (20, none), (21, none)], [2, 3, 19, 20, 21]⟩)], 100⟩
  | 31 => some ⟨21, true, [], [], 100⟩
  | 33 => some ⟨9, true, [], [], 100⟩
  | 35 => some ⟨10, true, [], [], 100⟩
  | 69 => some ⟨71, true, [], [(100007, ⟨[(1, none, .int), (3, none, .int), (38, none, .int), (39, none, .int), (40, none, .int)], [(1, none), (1, some 0), (1, some 1), (1, some 2), (1, some 3), (3, none), (38, none), (39, none), (40, none)], [1, 3, 38, 39, 40]⟩), (100015, ⟨[(1, none, .int), (56, none, .int), (57, none, .int), (58, none, .int)], [(1, none), (1, some 0), (1, some 1), (1, some 2), (1, some 3), (56, none), (57, none), (58, none)], [1, 56, 57, 58]⟩)], 100⟩
  | 70 => some ⟨69, true, [], [(100006, ⟨[(1, none, .int), (3, none, .int), (6, none, .int), (25, none, .int), (26, none, .int), (27, none, .int)], [(1, none), (1, some 0), (1, some 1), (1, some 2), (1, some 3), (3, none), (6, none), (25, none), (26, none), (27, none)], [1, 3, 6, 25, 26, 27]⟩)], 100⟩
  | 72 => some ⟨19, true, [], [], 100⟩
  | 73 => some ⟨44, true, [], [(100004, ⟨[(1, none, .int), (7, none, .int), (8, none, .int), (14, none, .int), (15, none, .int)], [(1, none), (7, none), (8, none), (14, none), (15, none)], [1, 7, 8, 14, 15]⟩), (100008, ⟨[(1, none, .int), (7, none, .int), (8, none, .int), (9, none, .int), (10, none, .int), (14, none, .int), (15, none, .int)], [(1, none), (7, none), (8, none), (9, none), (10, none), (14, none), (15, none)], [1, 7, 8, 9, 10, 14, 15]⟩)], 100⟩
  | 74 => some ⟨4, false, [], [], 100⟩
  | 75 => some ⟨48, true, [], [(100008, ⟨[(7, none, .int), (8, none, .int)], [(7, none), (8, none)], [7, 8]⟩)], 100⟩
  | 77 => some ⟨5, true, [], [], 100⟩
  | 78 => some ⟨51, true, [], [(100005, ⟨[(1, none, .int), (2, none, .int), (3, none, .int), (7, none, .int), (8, none, .int)], [(1, none), (2, none), (3, none), (3, some 0), (3, some 1), (3, some 2), (3, some 3), (7, none), (8, none)], [1, 2, 3, 7, 8]⟩)], 100⟩
  | 79 => some ⟨9, true, [], [], 100⟩
  | 105 => some ⟨9, true, [], [], 100⟩
  | 106 => some ⟨10, true, [], [], 100⟩
  | _ => none
noncomputable def runC (sem : Sems) (f : Nat) (args : List CV) : Option (Bool × Bool × CV) :=
  match cfg f with
  | none => none
  | some c => match P.funcs[f]? with
    | none => none
    | some fn => bif noNames args && Nat.ble args.length fn.ntmps && Nat.beq c.nt fn.ntmps && callable f then
        (match runF ⟨c.nt, 0, sem, c.kill, fun _ _ _ => none, [], c.pts, c.fuel⟩ c.own fn args with
        | some r => some (c.own, true, r)
        | none => none) else none
noncomputable def semN : Nat → Sems
  | 0 => fun _ _ => none
  | d + 1 => fun f args => bif Nat.beq f 76 then (match args with | [.sl .int l] => bif Nat.ble l.length 4294967296 then some (true, true, .sl .int l) else none | _ => none) else runC (semN d) f args
theorem noMem : MemOk fun _ _ _ => none := fun _ _ _ _ h => by cases h
theorem runC_ok {sem : Sems} (hs : SemOk sem) {f : Nat} {args : List CV} {own : Bool} {r : CV} (h : runC sem f args = some (own, true, r)) : CallsC f args own r ∧ callable f = true := by
  unfold runC at h
  split at h
  · cases h
  · rename_i c hc
    split at h
    · cases h
    · rename_i fn hf
      by_cases hb : (noNames args && Nat.ble args.length fn.ntmps && Nat.beq c.nt fn.ntmps && callable f) = true
      · rw [hb, cond_true] at h
        simp only [Bool.and_eq_true] at hb
        split at h
        · rename_i r' hr
          cases h
          exact ⟨runF_calls (E := ⟨c.nt, 0, sem, c.kill, fun _ _ _ => none, [], c.pts, c.fuel⟩) hs noMem hf hb.1.1.1 (Nat.le_of_ble_eq_true hb.1.1.2) (Nat.eq_of_beq_eq_true hb.1.2) hr, hb.2⟩
        · cases h
      · rw [Bool.eq_false_iff.2 hb] at h; cases h
theorem callable76 : callable 76 = true := by kernel_rfl
theorem semN_ok : ∀ d, SemOk (semN d)
  | 0 => fun _ _ _ _ h => by cases h
  | d + 1 => fun f args own r h => by
    simp only [semN] at h
    by_cases hf : Nat.beq f 76 = true
    · rw [hf, cond_true] at h
      obtain rfl := Nat.eq_of_beq_eq_true hf
      split at h
      · rename_i l
        by_cases hl : Nat.ble l.length 4294967296 = true
        · rw [hl, cond_true] at h
          cases h
          exact ⟨clone_calls l (Nat.le_of_ble_eq_true hl), callable76⟩
        · rw [Bool.eq_false_iff.2 hl] at h; cases h
      · cases h
    · rw [Bool.eq_false_iff.2 hf, cond_false] at h
      exact runC_ok (semN_ok d) h
theorem callable17 : callable 17 = true := by kernel_rfl
/-- the example is as it should be -/
theorem known17 : semN 8 17 [] = some (true, true, .bool true) := by kernel_rfl
theorem known17_calls : CallsC 17 [] true (.bool true) := (semN_ok 8 17 [] true _ known17).1
end Go.Proofs.Ytnfgfdeidkhdkaa.Eng
/- Ge: What is known of functions that were walked by hand, or run: slices.Clone, the example; and how a call that tells 'true' is said. -/
namespace Go.Proofs.Ytnfgfdeidkhdkaa.Eng
set_option linter.unusedVariables false
noncomputable def ent76 : Ent := fun args => match args with
  | [.sl .int l] => some (true, Nat.ble l.length 4294967296, .fn 999 [.sl .int l])
  | _ => none
theorem entok76 : EntOk 76 ent76 := fun args own r h => by
  unfold ent76 at h
  split at h
  · rename_i l
    simp only [Option.some.injEq, Prod.mk.injEq] at h
    obtain ⟨rfl, h, rfl⟩ := h
    exact ⟨cloneW_calls l (Nat.le_of_ble_eq_true h), callable76⟩
  · cases h
noncomputable def ent17 : Ent := fun args => match args with
  | [] => some (true, true, .bool true)
  | _ => none
theorem entok17 : EntOk 17 ent17 := fun args own r h => by
  unfold ent17 at h
  split at h
  · simp only [Option.some.injEq, Prod.mk.injEq] at h
    obtain ⟨rfl, h, rfl⟩ := h
    exact ⟨known17_calls, callable17⟩
  · cases h
/-- a truth that is told -/
theorem truth_told {base : Nat} {w : World} {R : Nat → Prop} {b : Bool} {v : Value} (h : Res true base w R (.bool b) v) : v = .bool b := by
  obtain ⟨ls, -, h, -⟩ := h 0
  exact h
theorem calls_tells {f : Nat} {args : List CV} (h : CallsC f args true (.bool true)) (w : World) (R : Nat → Prop) (vs : Array Value) (hR : ∀ b, R b → b < w.heap.size) (ha : All2 (valR (byV w R)) args vs.toList) :
    Calls P f vs w fun e w' => e = .returned (.bool true) ∧ Go.RowKit.Below w.heap.size w w' :=
  (h w R vs hR ha).mono fun e w' ⟨v, he, hb, _, _, _, _, hr⟩ => ⟨by rw [he, truth_told hr], hb⟩
/-- a slice of whole numbers that came in, as data -/
theorem ints_val {w : World} {A : Option Addr} {len cap : Nat} {zs : List Int} (h : (A = none ∧ len = 0 ∧ cap = 0 ∧ zs = []) ∨
    ∃ x, A = some x ∧ len ≤ cap ∧ cap ≤ maxLen ∧ zs.length = cap ∧ (∀ i, i < zs.length → w.cell? (x.add i) = some (.int .i64 (zs.getD i 0))) ∧ ∀ n ∈ zs, (Lit.int .i64 n).wf = true) :
    ∃ l : List Int, valR (byV w fun b => b < w.heap.size) (.sl .int l) (.slice A len cap) := by
  rcases h with ⟨rfl, rfl, rfl, rfl⟩ | ⟨x, rfl, h1, h2, h3, h4, -⟩
  · exact ⟨[], none, 0, rfl, Nat.le_refl 0, fun i u hu => by simp at hu⟩
  · refine ⟨zs.take len, some x, cap, by rw [List.length_take, h3, Nat.min_eq_left h1], by rw [List.length_take, h3]; omega, fun i u hu => ?_⟩
    have hf : (List.take len zs).flatMap SK.int.cells = (List.take len zs).map fun n => CV.int .i64 n := by
      rw [List.map_eq_flatMap]; rfl
    rw [hf, List.getElem?_map] at hu
    have hi : i < len := by
      by_cases hi : i < len
      · exact hi
      · rw [List.getElem?_eq_none (by rw [List.length_take]; omega)] at hu; simp at hu
    have hz : i < zs.length := by omega
    rw [List.getElem?_take_of_lt hi, List.getElem?_eq_getElem hz] at hu
    simp only [Option.map_some, Option.some.injEq] at hu
    subst hu
    have hc := h4 i hz
    refine ⟨x, _, rfl, ?_, hc, ?_⟩
    · show x.block < w.heap.size
      unfold World.cell? at hc
      split at hc
      · rename_i hh
        have := (Array.getElem?_eq_some_iff.1 hh).1
        rwa [addr_block] at this
      · cases hc
    · show Value.int .i64 (zs.getD i 0) = Value.int .i64 zs[i]
      rw [List.getD_eq_getElem?_getD, List.getElem?_eq_getElem hz]; rfl
end Go.Proofs.Ytnfgfdeidkhdkaa.Eng
