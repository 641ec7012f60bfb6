/- Closed runs: functions that call functions, each run in the engine · What is known of functions that were walked by hand, or run: slices.Clone, the example; and how a call that tells 'true' is said · slices.Clone of parts, by hand: an empty slice may be nil or not · Closed runs of the examples of other chapters: functions that call functions, some of which write into the row that they are handed -/
import Derived.Test.YtnfgfdeidkhdkaaMb
/- Fb: Closed runs: functions that call functions, each run in the engine. -/
namespace Go.Proofs.Ytnfgfdeidkhdkaa.Eng
set_option linter.unusedVariables false

/-- how a function is run: tmps, whether what it tells is its own, the calls that let go, the points, the rounds -/
structure Cf where
  nt : Nat
  own : Bool
  kill : List Nat
  pts : List (Nat × Ann)
  fuel : Nat
def cfg : Nat → Option Cf
  | 107 => some ⟨30, true, [], [], 100⟩
  | 123 => some ⟨51, true, [], [], 100⟩
  | 17 => some ⟨73, true, [], [], 100⟩
  | 20 => some ⟨54, true, [], [(100007, ⟨[(1, none, .int), (19, none, .int), (20, none, .int), (21, none, .int)], [(1, none), (1, some 0), (1, some 1), (1, some 2), (1, some 3), (19, none), (20, none), (21, none)], [1, 19, 20, 21]⟩)], 100⟩
  | 22 => some ⟨15, true, [], [], 100⟩
  | 23 => some ⟨23, true, [], [], 100⟩
  | 25 => some ⟨67, true, [], [(100006, ⟨[(1, none, .int), (4, none, .int), (5, none, .int), (19, none, .int), (20, none, .int)], [(1, none), (1, some 0), (1, some 1), (1, some 2), (1, some 3), (4, none), (5, none), (19, none), (20, none)], [1, 4, 5, 19, 20]⟩), (100011, ⟨[(1, none, .int), (4, none, .int), (5, none, .int), (7, none, .int), (19, none, .int), (20, none, .int)], [(1, none), (1, some 0), (1, some 1), (1, some 2), (1, some 3), (4, none), (5, none), (7, none), (19, none), (20, none)], [1, 4, 5, 7, 19, 20]⟩), (100014, ⟨[(1, none, .int), (4, none, .int), (5, none, .int), (7, none, .int), (19, none, .int), (20, none, .int), (34, none, .int), (35, none, .int), (36, none, .int)], [(1, none), (1, some 0), (1, some 1), (1, some 2), (1, some 3), (4, none), (5, none), (7, none), (19, none), (20, none), (34, none), (35, none), (36, none)], [1, 4, 5, 7, 19, 20, 34, 35, 36]⟩)], 100⟩
  | 29 => some ⟨42, true, [], [(100003, ⟨[(2, none, .int), (3, none, .int), (19, none, .int), (20, none, .int), (21, none, .int)], [(2, none), (2, some 0), (2, some 1), (2, some 2), (2, some 3), (3, none), (3, some 0), (3, some 1), (3, some 2), (3, some 3), (19, none), (20, none), (21, none)], [2, 3, 19, 20, 21]⟩)], 100⟩
  | 31 => some ⟨21, true, [], [], 100⟩
  | 33 => some ⟨9, true, [], [], 100⟩
  | 35 => some ⟨10, true, [], [], 100⟩
  | 69 => some ⟨71, true, [], [(100007, ⟨[(1, none, .int), (3, none, .int), (38, none, .int), (39, none, .int), (40, none, .int)], [(1, none), (1, some 0), (1, some 1), (1, some 2), (1, some 3), (3, none), (38, none), (39, none), (40, none)], [1, 3, 38, 39, 40]⟩), (100015, ⟨[(1, none, .int), (56, none, .int), (57, none, .int), (58, none, .int)], [(1, none), (1, some 0), (1, some 1), (1, some 2), (1, some 3), (56, none), (57, none), (58, none)], [1, 56, 57, 58]⟩)], 100⟩
  | 70 => some ⟨69, true, [], [(100006, ⟨[(1, none, .int), (3, none, .int), (6, none, .int), (25, none, .int), (26, none, .int), (27, none, .int)], [(1, none), (1, some 0), (1, some 1), (1, some 2), (1, some 3), (3, none), (6, none), (25, none), (26, none), (27, none)], [1, 3, 6, 25, 26, 27]⟩)], 100⟩
  | 72 => some ⟨19, true, [], [], 100⟩
  | 73 => some ⟨44, true, [], [(100004, ⟨[(1, none, .int), (7, none, .int), (8, none, .int), (14, none, .int), (15, none, .int)], [(1, none), (7, none), (8, none), (14, none), (15, none)], [1, 7, 8, 14, 15]⟩), (100008, ⟨[(1, none, .int), (7, none, .int), (8, none, .int), (9, none, .int), (10, none, .int), (14, none, .int), (15, none, .int)], [(1, none), (7, none), (8, none), (9, none), (10, none), (14, none), (15, none)], [1, 7, 8, 9, 10, 14, 15]⟩)], 100⟩
  | 74 => some ⟨4, false, [], [], 100⟩
  | 75 => some ⟨48, true, [], [(100008, ⟨[(7, none, .int), (8, none, .int)], [(7, none), (8, none)], [7, 8]⟩)], 100⟩
  | 77 => some ⟨5, true, [], [], 100⟩
  | 78 => some ⟨51, true, [], [(100005, ⟨[(1, none, .int), (2, none, .int), (3, none, .int), (7, none, .int), (8, none, .int)], [(1, none), (2, none), (3, none), (3, some 0), (3, some 1), (3, some 2), (3, some 3), (7, none), (8, none)], [1, 2, 3, 7, 8]⟩)], 100⟩
  | 79 => some ⟨9, true, [], [], 100⟩
  | 105 => some ⟨9, true, [], [], 100⟩
  | 106 => some ⟨10, true, [], [], 100⟩
  | _ => none
noncomputable def runC (sem : Sems) (f : Nat) (args : List CV) : Option (Bool × Bool × CV) :=
  match cfg f with
  | none => none
  | some c => match P.funcs[f]? with
    | none => none
    | some fn => bif noNames args && Nat.ble args.length fn.ntmps && Nat.beq c.nt fn.ntmps && callable f then
        (match runF ⟨c.nt, 0, sem, c.kill, fun _ _ _ => none, [], c.pts, c.fuel⟩ c.own fn args with
        | some r => some (c.own, true, r)
        | none => none) else none
noncomputable def semN : Nat → Sems
  | 0 => fun _ _ => none
  | d + 1 => fun f args => bif Nat.beq f 76 then (match args with | [.sl .int l] => bif Nat.ble l.length 4294967296 then some (true, true, .sl .int l) else none | _ => none) else runC (semN d) f args
theorem noMem : MemOk fun _ _ _ => none := fun _ _ _ _ h => by cases h
theorem runC_ok {sem : Sems} (hs : SemOk sem) {f : Nat} {args : List CV} {own : Bool} {r : CV} (h : runC sem f args = some (own, true, r)) : CallsC f args own r ∧ callable f = true := by
  unfold runC at h
  split at h
  · cases h
  · rename_i c hc
    split at h
    · cases h
    · rename_i fn hf
      by_cases hb : (noNames args && Nat.ble args.length fn.ntmps && Nat.beq c.nt fn.ntmps && callable f) = true
      · rw [hb, cond_true] at h
        simp only [Bool.and_eq_true] at hb
        split at h
        · rename_i r' hr
          cases h
          exact ⟨runF_calls (E := ⟨c.nt, 0, sem, c.kill, fun _ _ _ => none, [], c.pts, c.fuel⟩) hs noMem hf hb.1.1.1 (Nat.le_of_ble_eq_true hb.1.1.2) (Nat.eq_of_beq_eq_true hb.1.2) hr, hb.2⟩
        · cases h
      · rw [Bool.eq_false_iff.2 hb] at h; cases h
theorem callable76 : callable 76 = true := by kernel_rfl
theorem semN_ok : ∀ d, SemOk (semN d)
  | 0 => fun _ _ _ _ h => by cases h
  | d + 1 => fun f args own r h => by
    simp only [semN] at h
    by_cases hf : Nat.beq f 76 = true
    · rw [hf, cond_true] at h
      obtain rfl := Nat.eq_of_beq_eq_true hf
      split at h
      · rename_i l
        by_cases hl : Nat.ble l.length 4294967296 = true
        · rw [hl, cond_true] at h
          cases h
          exact ⟨clone_calls l (Nat.le_of_ble_eq_true hl), callable76⟩
        · rw [Bool.eq_false_iff.2 hl] at h; cases h
      · cases h
    · rw [Bool.eq_false_iff.2 hf, cond_false] at h
      exact runC_ok (semN_ok d) h
theorem callable17 : callable 17 = true := by kernel_rfl
/-- the example is as it should be -/
theorem known17 : semN 8 17 [] = some (true, true, .bool true) := by kernel_rfl
theorem known17_calls : CallsC 17 [] true (.bool true) := (semN_ok 8 17 [] true _ known17).1
end Go.Proofs.Ytnfgfdeidkhdkaa.Eng
/- Ge: What is known of functions that were walked by hand, or run: slices.Clone, the example; and how a call that tells 'true' is said. -/
namespace Go.Proofs.Ytnfgfdeidkhdkaa.Eng
set_option linter.unusedVariables false
noncomputable def ent76 : Ent := fun args => match args with
  | [.sl .int l] => some (true, Nat.ble l.length 4294967296, .fn 999 [.sl .int l])
  | _ => none
theorem entok76 : EntOk 76 ent76 := fun args own r h => by
  unfold ent76 at h
  split at h
  · rename_i l
    simp only [Option.some.injEq, Prod.mk.injEq] at h
    obtain ⟨rfl, h, rfl⟩ := h
    exact ⟨cloneW_calls l (Nat.le_of_ble_eq_true h), callable76⟩
  · cases h
noncomputable def ent17 : Ent := fun args => match args with
  | [] => some (true, true, .bool true)
  | _ => none
theorem entok17 : EntOk 17 ent17 := fun args own r h => by
  unfold ent17 at h
  split at h
  · simp only [Option.some.injEq, Prod.mk.injEq] at h
    obtain ⟨rfl, h, rfl⟩ := h
    exact ⟨known17_calls, callable17⟩
  · cases h
/-- a truth that is told -/
theorem truth_told {base : Nat} {w : World} {R : Nat → Prop} {b : Bool} {v : Value} (h : Res true base w R (.bool b) v) : v = .bool b := by
  obtain ⟨ls, -, h, -⟩ := h 0
  exact h
theorem calls_tells {f : Nat} {args : List CV} (h : CallsC f args true (.bool true)) (w : World) (R : Nat → Prop) (vs : Array Value) (hR : ∀ b, R b → b < w.heap.size) (ha : All2 (valR (byV w R)) args vs.toList) :
    Calls P f vs w fun e w' => e = .returned (.bool true) ∧ Go.RowKit.Below w.heap.size w w' :=
  (h w R vs hR ha).mono fun e w' ⟨v, he, hb, _, _, _, _, hr⟩ => ⟨by rw [he, truth_told hr], hb⟩
/-- a slice of whole numbers that came in, as data -/
theorem ints_val {w : World} {A : Option Addr} {len cap : Nat} {zs : List Int} (h : (A = none ∧ len = 0 ∧ cap = 0 ∧ zs = []) ∨
    ∃ x, A = some x ∧ len ≤ cap ∧ cap ≤ maxLen ∧ zs.length = cap ∧ (∀ i, i < zs.length → w.cell? (x.add i) = some (.int .i64 (zs.getD i 0))) ∧ ∀ n ∈ zs, (Lit.int .i64 n).wf = true) :
    ∃ l : List Int, valR (byV w fun b => b < w.heap.size) (.sl .int l) (.slice A len cap) := by
  rcases h with ⟨rfl, rfl, rfl, rfl⟩ | ⟨x, rfl, h1, h2, h3, h4, -⟩
  · exact ⟨[], none, 0, rfl, Nat.le_refl 0, fun i u hu => by simp at hu⟩
  · refine ⟨zs.take len, some x, cap, by rw [List.length_take, h3, Nat.min_eq_left h1], by rw [List.length_take, h3]; omega, fun i u hu => ?_⟩
    have hf : (List.take len zs).flatMap SK.int.cells = (List.take len zs).map fun n => CV.int .i64 n := by
      rw [List.map_eq_flatMap]; rfl
    rw [hf, List.getElem?_map] at hu
    have hi : i < len := by
      by_cases hi : i < len
      · exact hi
      · rw [List.getElem?_eq_none (by rw [List.length_take]; omega)] at hu; simp at hu
    have hz : i < zs.length := by omega
    rw [List.getElem?_take_of_lt hi, List.getElem?_eq_getElem hz] at hu
    simp only [Option.map_some, Option.some.injEq] at hu
    subst hu
    have hc := h4 i hz
    refine ⟨x, _, rfl, ?_, hc, ?_⟩
    · show x.block < w.heap.size
      unfold World.cell? at hc
      split at hc
      · rename_i hh
        have := (Array.getElem?_eq_some_iff.1 hh).1
        rwa [addr_block] at this
      · cases hc
    · show Value.int .i64 (zs.getD i 0) = Value.int .i64 zs[i]
      rw [List.getD_eq_getElem?_getD, List.getElem?_eq_getElem hz]; rfl
end Go.Proofs.Ytnfgfdeidkhdkaa.Eng
/- Fc: slices.Clone of parts, by hand: an empty slice may be nil or not. -/
namespace Go.Proofs.Ytnfgfdeidkhdkaa.Eng
open Go.RowKit (Below)
set_option linter.unusedVariables false
set_option linter.unusedSimpArgs false

noncomputable def parts83 : Array Oper × Array Oper × Code × Code :=
  match Try.f83.body with
  | some (.seq (.region 0 o0 false) (.seq (.seq (.region 1 o1 false) c) t)) => (o0, o1, c, t)
  | _ => (#[], #[], .skip, .skip)
theorem body83 : Try.f83.body = some (.seq (.region 0 parts83.1 false) (.seq (.seq (.region 1 parts83.2.1 false) parts83.2.2.1) parts83.2.2.2)) := by kernel_rfl
def E83 : Env := ⟨8, 0, fun _ _ => none, [], fun _ _ _ => none, [], [], 0⟩
/-- the test -/
theorem test83 : ∃ o p, parts83.2.1 = #[o, p] ∧ p.op = .binOp .eql 53 (.tmp 3) (.const (.slice none 0 0)) 53 ∧ p.dst = some 4 ∧ p.guard = none ∧ p.type = 4 ∧ ∀ l, opS E83 parts83.2.1 [] o ⟨[(2, .nil .part), (0, .sl .part l)], []⟩ some = some ⟨[(3, .sl .part l)], []⟩ := ⟨_, _, rfl, rfl, rfl, rfl, rfl, fun _ => rfl⟩
theorem equalIn_nilP (d : Nat) (A : Option Addr) (n c : Nat) (w : World) : (Op.equalIn (d + 1) 53 (.slice A n c) (.slice none 0 0)).run P w = .ok A.isNone w := by
  have hu : P.underlying 53 = some (.slice 57) := SK.under .part
  cases A <;> simp [Op.equalIn, run_underlying hu]
theorem equal_nilP (A : Option Addr) (n c : Nat) (w : World) : (Op.equal 53 (.slice A n c) (.slice none 0 0)).run P w = .ok A.isNone w := equalIn_nilP 9999 A n c w
theorem nilTestP (A : Option Addr) (n c : Nat) (w : World) : (binOp .eql 53 (.slice A n c) (.slice none 0 0)).run P w = .ok (.bool A.isNone) w := by
  have h := equal_nilP A n c w
  simp only [binOp, Sem.run_bind, h, Result.andThen_ok, Sem.run_pure]

theorem cloneP_calls (l : List SK.part.T) (hl : l.length ≤ 4294967296) : CallsC 83 [.sl .part l] false (.sl .part l) := by
  intro w R vs hR ha
  have hf : P.funcs[83]? = some Try.f83 := by kernel_rfl
  have hE : Ok ⟨w, R, fun _ => False, none⟩ E83 := ⟨fun _ _ _ _ h => (by cases h), fun _ _ _ _ h => (by cases h), .inl fun _ h => h, .inl rfl, .inl fun _ h => h⟩
  have hsz : vs.size ≤ 8 := by
    have := ha.length
    have e : vs.toList.length = vs.size := Array.length_toList ..
    simp at this
    omega
  have hb := begin_sound (w := w) hR ha (by rfl) 8 hsz
  refine calls_of_wp hf body83 ?_
  have fin : ∀ st' a' w', endK false Try.f83.results.toList st' = some (.sl .part l) → Sim ⟨w, R, fun _ => False, none⟩ E83.nt st' a' w' → a'.defers = [] ∧ ∃ v, (results Try.f83 a'.tmps).run P w' = .ok v w' ∧ (∃ v', Ending.returned v = .returned v' ∧ Below w.heap.size w w' ∧
      ∃ R' : Nat → Prop, (∀ b, R b → R' b) ∧ (∀ b, R' b → R b ∨ w.heap.size ≤ b) ∧ (∀ b, R' b → b < w'.heap.size) ∧ Res false w.heap.size w' R' (.sl .part l) v') := by
    intro st' a' w' he hs'
    obtain ⟨h1, v, h2, h3⟩ := endK_sound hs' he
    exact ⟨h1, v, h2, v, rfl, h3⟩
  have hk : regK E83 parts83.1 false ⟨parT 0 [.sl .part l], []⟩ some = some ⟨[(2, .nil .part), (0, .sl .part l)], []⟩ := by kernel_rfl
  refine wp_seq (regK_sound hE (K := some) (r := ⟨[(2, .nil .part), (0, .sl .part l)], []⟩) (st := ⟨parT 0 [.sl .part l], []⟩) ?_ ⟨R, _, _, hb⟩ hk 0)
  rintro st1 a1 w1 hst1 h1
  cases hst1
  obtain ⟨o, p, ho, hop, hdst, hg, hty, hk0'⟩ := test83
  refine wp_seq (wp_seq (wp_region ?_))
  have hk0 := hk0' l
  have hi0 : parts83.2.1[0]? = some o := by rw [ho]; rfl
  have hi1 : parts83.2.1[1]? = some p := by rw [ho]; rfl
  have hsz2 : parts83.2.1.size = 2 := by rw [ho]; rfl
  rw [hsz2]
  show wpOps P parts83.2.1 _ [0, 1] a1 w1
  rw [wpOps_cons]
  obtain ⟨u, hu, hwp⟩ := opS_sound hE h1 hi0 hk0
  cases hu
  refine hwp _ _ fun a2 w2 h2 => ?_
  rw [wpOps_cons]
  obtain ⟨R2, lv2, loc2, h2⟩ := h2
  obtain ⟨v, hv, hr⟩ := h2.tm 3 (.sl .part l) rfl
  obtain ⟨A, c, rfl, hnc, hcells⟩ := hr
  have hev : a2.eval (.tmp 3) = .slice A l.length c := by simp [Act.eval, Array.getD_eq_getD_getElem?, hv]
  have hrun : (execOp a2.eval p).run P w2 = .ok (.value (.bool A.isNone)) w2 := by
    unfold execOp
    have hev2 : a2.eval (.const (.slice none 0 0)) = .slice none 0 0 := rfl
    simp only [hop, hev, hev2]
    refine run_v _ _ ?_
    rw [eqGuard_at_slice]
    simpa using nilTestP A l.length c w2
  unfold wpOp
  simp only [hi1, Region.wanted, hg, if_true]
  refine .inl (wp_value hrun ?_)
  rw [hdst]
  have h3 := h2.put (c := .bool A.isNone) (v := .bool A.isNone) (d := 4) rfl (by simp [n2, n1, n0]) (by decide) (.inl rfl)
  have hA : A.isNone = true → l = [] := by
    intro hA
    cases l with
    | nil => rfl
    | cons e l =>
      obtain ⟨ad, x, hA', -⟩ := hcells 0 (.bool e.1) (by simp [SK.cells])
      rw [hA'] at hA; cases hA
  have key : ∀ b : Bool, (b = true → l = []) → exK E83 parts83.2.2.1 (fun st => exK E83 parts83.2.2.2 (endK false Try.f83.results.toList) (fun _ _ => none) (endK false Try.f83.results.toList) st) (fun _ _ => none) (endK false Try.f83.results.toList)
      ⟨[(4, .bool b), (3, .sl .part l), (2, .nil .part), (0, .sl .part l)], []⟩ = some (.sl .part l) := by
    intro b hb
    cases b with
    | true =>
      obtain rfl := hb rfl
      kernel_rfl
    | false =>
      have e : exK E83 parts83.2.2.1 (fun st => exK E83 parts83.2.2.2 (endK false Try.f83.results.toList) (fun _ _ => none) (endK false Try.f83.results.toList) st) (fun _ _ => none) (endK false Try.f83.results.toList)
          ⟨[(4, .bool false), (3, .sl .part l), (2, .nil .part), (0, .sl .part l)], []⟩ = bif Nat.ble l.length 4294967296 then some (.sl .part l) else none := by kernel_rfl
      rw [e, Nat.ble_eq_true_of_le hl]
      rfl
  refine exK_sound hE parts83.2.2.1 (r := CV.sl .part l) (fun st' a' w' he hs' => ?_) (fun i st' a' w' he hs' => by cases he) (fun st' a' w' he hs' => fin st' a' w' he hs') ⟨R2, lv2, loc2, h3⟩ (key _ hA)
  exact exK_sound hE parts83.2.2.2 (Q := bodyPost P Try.f83 _) (r := CV.sl .part l) (fun st' a' w' he hs' => fin st' a' w' he hs') (fun i st' a' w' he hs' => by cases he) (fun st' a' w' he hs' => fin st' a' w' he hs') hs' he
end Go.Proofs.Ytnfgfdeidkhdkaa.Eng
/- Fd: Closed runs of the examples of other chapters: functions that call functions, some of which write into the row that they are handed. -/
namespace Go.Proofs.Ytnfgfdeidkhdkaa.Eng
set_option linter.unusedVariables false
def cfg2 : Nat → Option Cf
  | 37 => some ⟨63, true, [], [], 100⟩
  | 41 => some ⟨57, false, [83], [(100006, ⟨[(10, none, .part)], [(9, none), (9, some 0), (9, some 1), (9, some 2), (9, some 3), (9, some 4), (9, some 5), (9, some 6), (10, none), (34, none), (35, none)], [9, 10, 34, 35]⟩)], 100⟩
  | 43 => some ⟨23, true, [], [(100003, ⟨[], [(5, none), (12, none), (13, none), (14, none)], [5, 12, 13, 14]⟩)], 100⟩
  | 81 => some ⟨137, true, [], [(100011, ⟨[(7, none, .int), (8, none, .int)], [(0, none), (2, none), (2, some 0), (2, some 1), (2, some 2), (5, none), (6, none), (7, none), (8, none), (9, none)], [0, 2, 5, 6, 7, 8, 9]⟩), (100023, ⟨[], [(0, none), (2, none), (2, some 0), (2, some 1), (2, some 2), (5, none), (11, none), (11, some 0), (11, some 1), (11, some 2), (98, none), (99, none), (100, none)], [0, 2, 5, 11, 98, 99, 100]⟩)], 100⟩
  | 82 => some ⟨52, true, [], [(100002, ⟨[], [(0, none), (2, none), (4, none), (4, some 0), (4, some 1), (4, some 2), (9, none), (10, none), (11, none)], [0, 2, 4, 9, 10, 11]⟩)], 100⟩
  | 96 => some ⟨35, true, [], [(100003, ⟨[], [(1, none), (2, none), (7, none), (11, none), (12, none), (13, none)], [1, 2, 7, 11, 12, 13]⟩)], 100⟩
  | 109 => some ⟨19, true, [], [(100002, ⟨[], [(0, none), (1, none), (7, none), (8, none)], [0, 1, 7, 8]⟩)], 100⟩
  | 110 => some ⟨5, true, [], [], 100⟩
  | 111 => some ⟨33, true, [], [(100002, ⟨[], [(0, none), (1, none), (10, none), (11, none), (12, none)], [0, 1, 10, 11, 12]⟩)], 100⟩
  | 112 => some ⟨19, true, [], [(100002, ⟨[], [(0, none), (1, none), (7, none), (8, none)], [0, 1, 7, 8]⟩)], 100⟩
  | 20 => some ⟨54, true, [], [(100007, ⟨[], [(1, none), (1, some 0), (1, some 1), (1, some 2), (1, some 3), (19, none), (20, none), (21, none)], [1, 19, 20, 21]⟩)], 100⟩
  | 22 => some ⟨15, true, [], [], 100⟩
  | 23 => some ⟨23, true, [], [], 100⟩
  | 25 => some ⟨67, true, [], [(100006, ⟨[], [(1, none), (1, some 0), (1, some 1), (1, some 2), (1, some 3), (4, none), (5, none), (19, none), (20, none)], [1, 4, 5, 19, 20]⟩), (100011, ⟨[], [(1, none), (1, some 0), (1, some 1), (1, some 2), (1, some 3), (4, none), (5, none), (7, none), (19, none), (20, none)], [1, 4, 5, 7, 19, 20]⟩), (100014, ⟨[], [(1, none), (1, some 0), (1, some 1), (1, some 2), (1, some 3), (4, none), (5, none), (7, none), (19, none), (20, none), (34, none), (35, none), (36, none)], [1, 4, 5, 7, 19, 20, 34, 35, 36]⟩)], 100⟩
  | 29 => some ⟨42, true, [], [(100003, ⟨[], [(2, none), (2, some 0), (2, some 1), (2, some 2), (2, some 3), (3, none), (3, some 0), (3, some 1), (3, some 2), (3, some 3), (19, none), (20, none), (21, none)], [2, 3, 19, 20, 21]⟩)], 100⟩
  | 31 => some ⟨21, true, [], [], 100⟩
  | 33 => some ⟨9, true, [], [], 100⟩
  | 35 => some ⟨10, true, [], [], 100⟩
  | 69 => some ⟨71, true, [], [(100007, ⟨[], [(1, none), (1, some 0), (1, some 1), (1, some 2), (1, some 3), (3, none), (38, none), (39, none), (40, none)], [1, 3, 38, 39, 40]⟩), (100015, ⟨[], [(1, none), (1, some 0), (1, some 1), (1, some 2), (1, some 3), (56, none), (57, none), (58, none)], [1, 56, 57, 58]⟩)], 100⟩
  | 70 => some ⟨69, true, [], [(100006, ⟨[], [(1, none), (1, some 0), (1, some 1), (1, some 2), (1, some 3), (3, none), (6, none), (25, none), (26, none), (27, none)], [1, 3, 6, 25, 26, 27]⟩)], 100⟩
  | 72 => some ⟨19, true, [], [], 100⟩
  | 73 => some ⟨44, true, [], [(100004, ⟨[], [(1, none), (7, none), (8, none), (14, none), (15, none)], [1, 7, 8, 14, 15]⟩), (100008, ⟨[], [(1, none), (7, none), (8, none), (9, none), (10, none), (14, none), (15, none)], [1, 7, 8, 9, 10, 14, 15]⟩)], 100⟩
  | 74 => some ⟨4, false, [], [], 100⟩
  | 75 => some ⟨48, true, [], [(100008, ⟨[], [(7, none), (8, none)], [7, 8]⟩)], 100⟩
  | 77 => some ⟨5, true, [], [], 100⟩
  | 78 => some ⟨51, true, [], [(100005, ⟨[(7, none, .int)], [(1, none), (2, none), (3, none), (3, some 0), (3, some 1), (3, some 2), (3, some 3), (7, none), (8, none)], [1, 2, 3, 7, 8]⟩)], 100⟩
  | 79 => some ⟨9, true, [], [], 100⟩
  | 105 => some ⟨9, true, [], [], 100⟩
  | 106 => some ⟨10, true, [], [], 100⟩
  | 107 => some ⟨30, true, [], [], 100⟩
  | 123 => some ⟨51, true, [], [], 100⟩
  | _ => none
def wrs2 : Nat → List Nat
  | 41 => [82]
  | 43 => [82]
  | _ => []
abbrev Mems := Nat → List Int → List CV → Option (Bool × List Int)
/-- where literals of whole numbers are told by value -/
def lits (f : Nat) (sem : Sems) : Sems := fun g args => bif Nat.beq g 300000 then (bif Nat.beq f 37 || Nat.beq f 47 then some (true, false, .unk) else none) else sem g args
theorem lits_ok {f : Nat} {sem : Sems} (h : SemOk sem) : SemOk (lits f sem) := fun g args own r e => by
  unfold lits at e
  by_cases hg : Nat.beq g 300000 = true
  · rw [hg, cond_true] at e
    by_cases hf : (Nat.beq f 37 || Nat.beq f 47) = true
    · rw [hf, cond_true] at e; cases e
    · rw [Bool.eq_false_iff.2 hf] at e; cases e
  · rw [Bool.eq_false_iff.2 hg, cond_false] at e
    exact h g args own r e
noncomputable def runC2 (sem : Sems) (mem : Mems) (f : Nat) (args : List CV) : Option (Bool × Bool × CV) :=
  match cfg2 f with
  | none => none
  | some c => match P.funcs[f]? with
    | none => none
    | some fn => bif noNames args && Nat.ble args.length fn.ntmps && Nat.beq c.nt fn.ntmps && callable f then
        (match runF ⟨c.nt, 0, lits f sem, c.kill, mem, wrs2 f, c.pts, c.fuel⟩ c.own fn args with
        | some r => some (c.own, true, r)
        | none => none) else none
noncomputable def runM2 (sem : Sems) (mem : Mems) (f : Nat) (l : List Int) (args : List CV) : Option (Bool × List Int) :=
  match cfg2 f with
  | none => none
  | some c => match P.funcs[f]? with
    | none => none
    | some fn => bif noNames args && Nat.ble (args.length + 1) fn.ntmps && Nat.beq c.nt fn.ntmps && callable f && Nat.beq fn.results.size 0 then
        (match runM ⟨c.nt, 1, sem, [], mem, [], c.pts, c.fuel⟩ fn l args with
        | some r => some (true, r)
        | none => none) else none
theorem runC2_ok {sem : Sems} {mem : Mems} (hs : SemOk sem) (hm : MemOk mem) {f : Nat} {args : List CV} {own : Bool} {r : CV} (h : runC2 sem mem f args = some (own, true, r)) : CallsC f args own r ∧ callable f = true := by
  unfold runC2 at h
  split at h
  · cases h
  · rename_i c hc
    split at h
    · cases h
    · rename_i fn hf
      by_cases hb : (noNames args && Nat.ble args.length fn.ntmps && Nat.beq c.nt fn.ntmps && callable f) = true
      · rw [hb, cond_true] at h
        simp only [Bool.and_eq_true] at hb
        split at h
        · rename_i r' hr
          cases h
          exact ⟨runF_calls (E := ⟨c.nt, 0, lits f sem, c.kill, mem, wrs2 f, c.pts, c.fuel⟩) (lits_ok hs) hm hf hb.1.1.1 (Nat.le_of_ble_eq_true hb.1.1.2) (Nat.eq_of_beq_eq_true hb.1.2) hr, hb.2⟩
        · cases h
      · rw [Bool.eq_false_iff.2 hb] at h; cases h
theorem runM2_ok {sem : Sems} {mem : Mems} (hs : SemOk sem) (hm : MemOk mem) {f : Nat} {l : List Int} {args : List CV} {l' : List Int} (h : runM2 sem mem f l args = some (true, l')) : CallsM f l args l' ∧ callable f = true := by
  unfold runM2 at h
  split at h
  · cases h
  · rename_i c hc
    split at h
    · cases h
    · rename_i fn hf
      by_cases hb : (noNames args && Nat.ble (args.length + 1) fn.ntmps && Nat.beq c.nt fn.ntmps && callable f && Nat.beq fn.results.size 0) = true
      · rw [hb, cond_true] at h
        simp only [Bool.and_eq_true] at hb
        split at h
        · rename_i r' hr
          cases h
          exact ⟨runM_calls (E := ⟨c.nt, 1, sem, [], mem, [], c.pts, c.fuel⟩) hs hm rfl Nat.one_pos hf (Array.eq_empty_of_size_eq_zero (Nat.eq_of_beq_eq_true hb.2)) hb.1.1.1.1 (Nat.le_of_ble_eq_true hb.1.1.1.2) (Nat.eq_of_beq_eq_true hb.1.1.2) hr, hb.1.2⟩
        · cases h
      · rw [Bool.eq_false_iff.2 hb] at h; cases h
theorem callable83 : callable 83 = true := by kernel_rfl
/-- what callees tell, so deep -/
noncomputable def both : Nat → Sems × Mems
  | 0 => (fun _ _ => none, fun _ _ _ => none)
  | d + 1 => (fun f args =>
      bif Nat.beq f 76 then (match args with | [.sl .int l] => bif Nat.ble l.length 4294967296 then some (true, true, .fn 999 [.sl .int l]) else none | _ => none)
      else bif Nat.beq f 83 then (match args with | [.sl .part l] => bif Nat.ble l.length 4294967296 then some (false, true, .sl .part l) else none | _ => none)
      else runC2 (both d).1 (both d).2 f args, fun f l args => runM2 (both d).1 (both d).2 f l args)
theorem both_ok : ∀ d, SemOk (both d).1 ∧ MemOk (both d).2
  | 0 => ⟨fun _ _ _ _ h => (by cases h), fun _ _ _ _ h => (by cases h)⟩
  | d + 1 => by
    obtain ⟨h1, h2⟩ := both_ok d
    refine ⟨fun f args own r h => ?_, fun f l args l' h => runM2_ok h1 h2 h⟩
    simp only [both] at h
    by_cases hf : Nat.beq f 76 = true
    · rw [hf, cond_true] at h
      obtain rfl := Nat.eq_of_beq_eq_true hf
      split at h
      · rename_i l
        by_cases hl : Nat.ble l.length 4294967296 = true
        · rw [hl, cond_true] at h
          cases h
          exact ⟨cloneW_calls l (Nat.le_of_ble_eq_true hl), callable76⟩
        · rw [Bool.eq_false_iff.2 hl] at h; cases h
      · cases h
    · rw [Bool.eq_false_iff.2 hf, cond_false] at h
      by_cases hf2 : Nat.beq f 83 = true
      · rw [hf2, cond_true] at h
        obtain rfl := Nat.eq_of_beq_eq_true hf2
        split at h
        · rename_i l
          by_cases hl : Nat.ble l.length 4294967296 = true
          · rw [hl, cond_true] at h
            cases h
            exact ⟨cloneP_calls l (Nat.le_of_ble_eq_true hl), callable83⟩
          · rw [Bool.eq_false_iff.2 hl] at h; cases h
        · cases h
      · rw [Bool.eq_false_iff.2 hf2, cond_false] at h
        exact runC2_ok h1 h2 h
theorem callable37 : callable 37 = true := by kernel_rfl
/-- the chapter's example is as it should be -/
theorem known37 : (both 10).1 37 [] = some (true, true, .bool true) := by kernel_rfl
theorem known37_calls : CallsC 37 [] true (.bool true) := ((both_ok 10).1 37 [] true _ known37).1
noncomputable def ent37 : Ent := fun args => match args with
  | [] => some (true, true, .bool true)
  | _ => none
theorem entok37 : EntOk 37 ent37 := fun args own r h => by
  unfold ent37 at h
  split at h
  · simp only [Option.some.injEq, Prod.mk.injEq] at h
    obtain ⟨rfl, h, rfl⟩ := h
    exact ⟨known37_calls, callable37⟩
  · cases h
noncomputable def ent83 : Ent := fun args => match args with
  | [.sl .part l] => some (false, Nat.ble l.length 4294967296, .sl .part l)
  | _ => none
theorem entok83 : EntOk 83 ent83 := fun args own r h => by
  unfold ent83 at h
  split at h
  · rename_i l
    simp only [Option.some.injEq, Prod.mk.injEq] at h
    obtain ⟨rfl, h, rfl⟩ := h
    exact ⟨cloneP_calls l (Nat.le_of_ble_eq_true h), callable83⟩
  · cases h
end Go.Proofs.Ytnfgfdeidkhdkaa.Eng
