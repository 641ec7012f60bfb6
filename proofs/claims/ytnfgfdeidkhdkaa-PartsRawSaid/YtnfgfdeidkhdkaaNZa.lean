/- Plain tools: rows asked at whole numbers, steps along a printed tree · watershed/watershedlaw2.within: its run from loop to loop, as Lean printed it (a program of this session's wrote these rows). No condition · watershed/watershedlaw1.within: its run from loop to loop, as Lean printed it (a program of this session's wrote these rows). No condition · watershed/watershedlaw11.within: its run from loop to loop, as Lean printed it (a program of this session's wrote these rows). No condition · watershed/watershedlaw1.Cap: its run from loop to loop, as Lean printed it (a program of this session's wrote these rows). No condition · watershed/watershedref1.has: its run from loop to loop, as Lean printed it (a program of this session's wrote these rows). No condition · watershed/rot.other: its run from loop to loop, as Lean printed it (a program of this session's wrote these rows). No condition · watershed/rot.Head: its run from loop to loop, as Lean printed it (a program of this session's wrote these rows). No condition · watershed/watershedref2.Head: its run from loop to loop, as Lean printed it (a program of this session's wrote these rows). No condition · What small functions come to: within, Cap, other, has, Head; the row of so many · math/bits.Mul64: its run from loop to loop, as Lean printed it (a program of this session's wrote these rows). No condition · math/bits.Mul: its run from loop to loop, as Lean printed it (a program of this session's wrote these rows). No condition · slices.Repeat(()int,int): its run from loop to loop, as Lean printed it (a program of this session's wrote these rows). No condition · watershed/rot.shape: its run from loop to loop, as Lean printed it (a program of this session's wrote these rows). No condition · watershed/rot.fine: its run from l -/
import Derived.IntWalk
import Derived.Test.YtnfgfdeidkhdkaaMc
/- La: Plain tools: rows asked at whole numbers, steps along a printed tree. -/
namespace Go.Proofs.Ytnfgfdeidkhdkaa.Eng
set_option linter.unusedVariables false
/-- a row at a number -/
def gi (l : List Int) (x : Int) : Int := l.getD x.toNat 0
def gb (l : List Bool) (x : Int) : Bool := l.getD x.toNat false
def le (l : List Int) : Int := (l.length : Int)
theorem gi_some {l : List Int} {x : Int} (h0 : 0 ≤ x) (h1 : x < (l.length : Int)) : l[x.toNat]? = some (gi l x) := by
  have h : x.toNat < l.length := by omega
  rw [List.getElem?_eq_getElem h, gi, List.getD_eq_getElem?_getD, List.getElem?_eq_getElem h]; rfl
theorem gb_some {l : List Bool} {x : Int} (h0 : 0 ≤ x) (h1 : x < (l.length : Int)) : l[x.toNat]? = some (gb l x) := by
  have h : x.toNat < l.length := by omega
  rw [List.getElem?_eq_getElem h, gb, List.getD_eq_getElem?_getD, List.getElem?_eq_getElem h]; rfl
theorem gi_get {l : List Int} {i : Nat} (h : i < l.length) : gi l (i : Int) = l[i] := by
  rw [gi, List.getD_eq_getElem?_getD, Int.toNat_natCast, List.getElem?_eq_getElem h]; rfl
theorem gi_set {l : List Int} {x y v : Int} (hx : 0 ≤ x) (hx1 : x < (l.length : Int)) (hy : 0 ≤ y) : gi (l.set x.toNat v) y = if y = x then v else gi l y := by
  simp only [gi, List.getD_eq_getElem?_getD]
  by_cases h : y = x
  · subst h
    rw [if_pos rfl, List.getElem?_set_self (by omega)]; rfl
  · rw [if_neg h, List.getElem?_set_ne (by omega)]
theorem gb_set {l : List Bool} {x y : Int} {v : Bool} (hx : 0 ≤ x) (hx1 : x < (l.length : Int)) (hy : 0 ≤ y) : gb (l.set x.toNat v) y = if y = x then v else gb l y := by
  simp only [gb, List.getD_eq_getElem?_getD]
  by_cases h : y = x
  · subst h
    rw [if_pos rfl, List.getElem?_set_self (by omega)]; rfl
  · rw [if_neg h, List.getElem?_set_ne (by omega)]
theorem gi_append_left {l m : List Int} {x : Int} (h1 : x < (l.length : Int)) (h0 : 0 ≤ x) : gi (l ++ m) x = gi l x := by
  simp only [gi, List.getD_eq_getElem?_getD]
  rw [List.getElem?_append_left (by omega)]
theorem gi_append_right {l m : List Int} {x : Int} (h1 : (l.length : Int) ≤ x) : gi (l ++ m) x = gi m (x - l.length) := by
  simp only [gi, List.getD_eq_getElem?_getD]
  rw [List.getElem?_append_right (by omega)]
  congr 2; omega
theorem gi_replicate {n : Nat} {v x : Int} (h0 : 0 ≤ x) (h1 : x < (n : Int)) : gi (List.replicate n v) x = v := by
  simp only [gi, List.getD_eq_getElem?_getD]
  rw [List.getElem?_replicate, if_pos (by omega)]; rfl
theorem gi_ext {l m : List Int} (hl : l.length = m.length) (h : ∀ x : Int, 0 ≤ x → x < (l.length : Int) → gi l x = gi m x) : l = m := by
  refine List.ext_getElem hl fun i h1 h2 => ?_
  have := h (i : Int) (by omega) (by omega)
  rwa [gi_get h1, gi_get h2] at this
theorem gi_mem {l : List Int} {x : Int} (h0 : 0 ≤ x) (h1 : x < (l.length : Int)) : gi l x ∈ l := by
  have h : x.toNat < l.length := by omega
  rw [gi, List.getD_eq_getElem?_getD, List.getElem?_eq_getElem h]
  exact List.getElem_mem h
theorem gi_of_mem {l : List Int} {v : Int} (h : v ∈ l) : ∃ x : Int, 0 ≤ x ∧ x < (l.length : Int) ∧ gi l x = v := by
  obtain ⟨i, hi, rfl⟩ := List.getElem_of_mem h
  exact ⟨i, by omega, by omega, gi_get hi⟩
theorem wrap_in {n : Int} (h0 : -9223372036854775808 ≤ n) (h1 : n ≤ 9223372036854775807) : IntKind.wrap IntKind.i64 n = n := IntWalk.i64_in n ⟨h0, h1⟩
section
variable {E : Nat → Env} {kr : St → Option CV} {r : CV}
theorem good_pos {p : Prop} [Decidable p] {t u : Option Leaf} (h : p) (h' : Good E kr t r) : Good E kr (bif decide p then t else u) r := by simpa [h] using h'
theorem good_neg {p : Prop} [Decidable p] {t u : Option Leaf} (h : ¬ p) (h' : Good E kr u r) : Good E kr (bif decide p then t else u) r := by simpa [h] using h'
theorem good_npos {p : Prop} [Decidable p] {t u : Option Leaf} (h : ¬ p) (h' : Good E kr t r) : Good E kr (bif !decide p then t else u) r := by simpa [h] using h'
theorem good_nneg {p : Prop} [Decidable p] {t u : Option Leaf} (h : p) (h' : Good E kr u r) : Good E kr (bif !decide p then t else u) r := by simpa [h] using h'
theorem good_true {b : Bool} {t u : Option Leaf} (h : b = true) (h' : Good E kr t r) : Good E kr (bif b then t else u) r := by simpa [h] using h'
theorem good_false {b : Bool} {t u : Option Leaf} (h : b = false) (h' : Good E kr u r) : Good E kr (bif b then t else u) r := by simpa [h] using h'
theorem good_ntrue {b : Bool} {t u : Option Leaf} (h : b = false) (h' : Good E kr t r) : Good E kr (bif !b then t else u) r := by simpa [h] using h'
theorem good_nfalse {b : Bool} {t u : Option Leaf} (h : b = true) (h' : Good E kr u r) : Good E kr (bif !b then t else u) r := by simpa [h] using h'
theorem good_ble {m n : Nat} {t u : Option Leaf} (h : m ≤ n) (h' : Good E kr t r) : Good E kr (bif Nat.ble m n then t else u) r := good_true (Nat.ble_eq_true_of_le h) h'
theorem good_gi {l : List Int} {x : Int} {f : Int → Option Leaf} (h0 : 0 ≤ x) (h1 : x < (l.length : Int)) (h' : Good E kr (f (gi l x)) r) : Good E kr (ob (l[x.toNat]?) f) r := by
  rw [gi_some h0 h1]; exact h'
theorem good_gb {l : List Bool} {x : Int} {f : Bool → Option Leaf} (h0 : 0 ≤ x) (h1 : x < (l.length : Int)) (h' : Good E kr (f (gb l x)) r) : Good E kr (ob (l[x.toNat]?) f) r := by
  rw [gb_some h0 h1]; exact h'
theorem good_at {l : Leaf} (h : Lead E kr r l) : Good E kr (some l) r := good_some.2 h
theorem good_end {v : CV} (h : v = r) : Good E kr (some (.ret v)) r := good_ret.2 h
end
/-- where a callee is known -/
theorem okv {α : Type} {ok : Bool} {v : α} {p : α → Prop} (h : ∃ r, (ok = true ∧ v = r) ∧ p r) : ok = true ∧ p v := by
  obtain ⟨r, ⟨h1, rfl⟩, h2⟩ := h
  exact ⟨h1, h2⟩
end Go.Proofs.Ytnfgfdeidkhdkaa.Eng
/- P22: watershed/watershedlaw2.within: its run from loop to loop, as Lean printed it (a program of this session's wrote these rows). No condition. -/
namespace Go.Proofs.Ytnfgfdeidkhdkaa.Eng
set_option linter.unusedVariables false
set_option maxRecDepth 100000
noncomputable def ents22 : List (Nat × Ent) := []
noncomputable def mems22 : List (Nat × EntM) := []
noncomputable def E22 (fu : Nat) : Env := ⟨15, 0, semOf ents22, [], memOf mems22, [], [], fu⟩
theorem fuel22 : Fuel E22 := fun _ => rfl
noncomputable def kr22 : St → Option CV := endK true Try.f22.results.toList
noncomputable def t22 (a : Int) (n : Int) : Option Leaf :=
  bif Decidable.decide (n = 0) then
   none
  else
   bif Decidable.decide (Int.tmod a n < 0) then
    some (.ret (CV.int IntKind.i64 (IntKind.wrap IntKind.i64 (Int.tmod a n + n))))
   else
    some (.ret (CV.int IntKind.i64 (Int.tmod a n)))
theorem c22 (fu : Nat) (a : Int) (n : Int) : cutB (E22 fu) kr22 Try.f22 (⟨parT 0 [.int .i64 a, .int .i64 n], []⟩) = t22 a n := by kernel_rfl
def R22 (a : Int) (n : Int) (r : Int) : Prop := RunF E22 true Try.f22 [.int .i64 a, .int .i64 n] (.int .i64 r)
theorem run22 (a : Int) (n : Int) (r : Int) (h : Good E22 kr22 (t22 a n) (.int .i64 r)) : R22 a n r := RunF.of fuel22 (fun fu => c22 fu a n) h
noncomputable def ok22 (a : Int) (n : Int) : Bool := okP (R22 a n)
noncomputable def v22 (a : Int) (n : Int) : Int := valP (R22 a n)
theorem sp22 (a : Int) (n : Int) (r : Int) (h : R22 a n r) : ok22 a n = true ∧ v22 a n = r := okP_of h fun b hb => by
  have := RunF.uniq hb h
  simp_all
theorem at22 : P.funcs[22]? = some Try.f22 := by kernel_rfl
theorem callable22 : callable 22 = true := by kernel_rfl
theorem semok22 : SemOk (semOf ents22) := EntsOk.sem (.nil)
theorem memok22 : MemOk (memOf mems22) := EntsMOk.mem (.nil)
noncomputable def ent22 : Ent := fun args => match args with
  | [.int .i64 a, .int .i64 n] => some (true, ok22 a n, .int .i64 (v22 a n))
  | _ => none
theorem entok22 : EntOk 22 ent22 := fun args own r h => by
  unfold ent22 at h
  split at h
  · simp only [Option.some.injEq, Prod.mk.injEq] at h
    obtain ⟨rfl, h, rfl⟩ := h
    exact ⟨RunF.calls (fun _ => semok22) (fun _ => memok22) at22 rfl (Nat.le_of_ble_eq_true rfl) (fun _ => rfl) (okP_val h), callable22⟩
  · cases h
end Go.Proofs.Ytnfgfdeidkhdkaa.Eng
/- P66: watershed/watershedlaw1.within: its run from loop to loop, as Lean printed it (a program of this session's wrote these rows). No condition. -/
namespace Go.Proofs.Ytnfgfdeidkhdkaa.Eng
set_option linter.unusedVariables false
set_option maxRecDepth 100000
noncomputable def ents66 : List (Nat × Ent) := []
noncomputable def mems66 : List (Nat × EntM) := []
noncomputable def E66 (fu : Nat) : Env := ⟨15, 0, semOf ents66, [], memOf mems66, [], [], fu⟩
theorem fuel66 : Fuel E66 := fun _ => rfl
noncomputable def kr66 : St → Option CV := endK true Try.f66.results.toList
noncomputable def t66 (a : Int) (n : Int) : Option Leaf :=
  bif Decidable.decide (n = 0) then
   none
  else
   bif Decidable.decide (Int.tmod a n < 0) then
    some (.ret (CV.int IntKind.i64 (IntKind.wrap IntKind.i64 (Int.tmod a n + n))))
   else
    some (.ret (CV.int IntKind.i64 (Int.tmod a n)))
theorem c66 (fu : Nat) (a : Int) (n : Int) : cutB (E66 fu) kr66 Try.f66 (⟨parT 0 [.int .i64 a, .int .i64 n], []⟩) = t66 a n := by kernel_rfl
def R66 (a : Int) (n : Int) (r : Int) : Prop := RunF E66 true Try.f66 [.int .i64 a, .int .i64 n] (.int .i64 r)
theorem run66 (a : Int) (n : Int) (r : Int) (h : Good E66 kr66 (t66 a n) (.int .i64 r)) : R66 a n r := RunF.of fuel66 (fun fu => c66 fu a n) h
noncomputable def ok66 (a : Int) (n : Int) : Bool := okP (R66 a n)
noncomputable def v66 (a : Int) (n : Int) : Int := valP (R66 a n)
theorem sp66 (a : Int) (n : Int) (r : Int) (h : R66 a n r) : ok66 a n = true ∧ v66 a n = r := okP_of h fun b hb => by
  have := RunF.uniq hb h
  simp_all
theorem at66 : P.funcs[66]? = some Try.f66 := by kernel_rfl
theorem callable66 : callable 66 = true := by kernel_rfl
theorem semok66 : SemOk (semOf ents66) := EntsOk.sem (.nil)
theorem memok66 : MemOk (memOf mems66) := EntsMOk.mem (.nil)
noncomputable def ent66 : Ent := fun args => match args with
  | [.int .i64 a, .int .i64 n] => some (true, ok66 a n, .int .i64 (v66 a n))
  | _ => none
theorem entok66 : EntOk 66 ent66 := fun args own r h => by
  unfold ent66 at h
  split at h
  · simp only [Option.some.injEq, Prod.mk.injEq] at h
    obtain ⟨rfl, h, rfl⟩ := h
    exact ⟨RunF.calls (fun _ => semok66) (fun _ => memok66) at66 rfl (Nat.le_of_ble_eq_true rfl) (fun _ => rfl) (okP_val h), callable66⟩
  · cases h
end Go.Proofs.Ytnfgfdeidkhdkaa.Eng
/- P45: watershed/watershedlaw11.within: its run from loop to loop, as Lean printed it (a program of this session's wrote these rows). No condition. -/
namespace Go.Proofs.Ytnfgfdeidkhdkaa.Eng
set_option linter.unusedVariables false
set_option maxRecDepth 100000
noncomputable def ents45 : List (Nat × Ent) := []
noncomputable def mems45 : List (Nat × EntM) := []
noncomputable def E45 (fu : Nat) : Env := ⟨15, 0, semOf ents45, [], memOf mems45, [], [], fu⟩
theorem fuel45 : Fuel E45 := fun _ => rfl
noncomputable def kr45 : St → Option CV := endK true Try.f45.results.toList
noncomputable def t45 (a : Int) (n : Int) : Option Leaf :=
  bif Decidable.decide (n = (0 : Int)) then
   none
  else
   bif Decidable.decide (Int.tmod a n < (0 : Int)) then
    some (.ret (CV.int IntKind.i64 (IntKind.wrap IntKind.i64 (Int.tmod a n + n))))
   else
    some (.ret (CV.int IntKind.i64 (Int.tmod a n)))
theorem c45 (fu : Nat) (a : Int) (n : Int) : cutB (E45 fu) kr45 Try.f45 (⟨parT 0 [.int .i64 a, .int .i64 n], []⟩) = t45 a n := by kernel_rfl
def R45 (a : Int) (n : Int) (r : Int) : Prop := RunF E45 true Try.f45 [.int .i64 a, .int .i64 n] (.int .i64 r)
theorem run45 (a : Int) (n : Int) (r : Int) (h : Good E45 kr45 (t45 a n) (.int .i64 r)) : R45 a n r := RunF.of fuel45 (fun fu => c45 fu a n) h
noncomputable def ok45 (a : Int) (n : Int) : Bool := okP (R45 a n)
noncomputable def v45 (a : Int) (n : Int) : Int := valP (R45 a n)
theorem sp45 (a : Int) (n : Int) (r : Int) (h : R45 a n r) : ok45 a n = true ∧ v45 a n = r := okP_of h fun b hb => by
  have := RunF.uniq hb h
  simp_all
theorem at45 : P.funcs[45]? = some Try.f45 := by kernel_rfl
theorem callable45 : callable 45 = true := by kernel_rfl
theorem semok45 : SemOk (semOf ents45) := EntsOk.sem (.nil)
theorem memok45 : MemOk (memOf mems45) := EntsMOk.mem (.nil)
noncomputable def ent45 : Ent := fun args => match args with
  | [.int .i64 a, .int .i64 n] => some (true, ok45 a n, .int .i64 (v45 a n))
  | _ => none
theorem entok45 : EntOk 45 ent45 := fun args own r h => by
  unfold ent45 at h
  split at h
  · simp only [Option.some.injEq, Prod.mk.injEq] at h
    obtain ⟨rfl, h, rfl⟩ := h
    exact ⟨RunF.calls (fun _ => semok45) (fun _ => memok45) at45 rfl (Nat.le_of_ble_eq_true rfl) (fun _ => rfl) (okP_val h), callable45⟩
  · cases h
end Go.Proofs.Ytnfgfdeidkhdkaa.Eng
/- P64: watershed/watershedlaw1.Cap: its run from loop to loop, as Lean printed it (a program of this session's wrote these rows). No condition. -/
namespace Go.Proofs.Ytnfgfdeidkhdkaa.Eng
set_option linter.unusedVariables false
set_option maxRecDepth 100000
noncomputable def ents64 : List (Nat × Ent) := [(66, ent66)]
noncomputable def mems64 : List (Nat × EntM) := []
noncomputable def E64 (fu : Nat) : Env := ⟨24, 0, semOf ents64, [], memOf mems64, [], [], fu⟩
theorem fuel64 : Fuel E64 := fun _ => rfl
noncomputable def kr64 : St → Option CV := endK true Try.f64.results.toList
noncomputable def t64 (n : Int) : Option Leaf :=
  bif ok66 n 1099511627776 then
   bif Decidable.decide (Int.tmod (v66 n 1099511627776) 7 = 0) then
    some (.ret (CV.int IntKind.i64 0))
   else
    bif Decidable.decide (Int.tmod (v66 n 1099511627776) 7 = 1) then
     some (.ret (CV.int IntKind.i64 (IntKind.wrap IntKind.i64 (2147483648 - Int.tmod (IntKind.wrap IntKind.i64 (Int.tdiv (v66 n 1099511627776) 7)) 3))))
    else
     bif Decidable.decide (Int.tmod (v66 n 1099511627776) 7 = 2) then
      some (.ret (CV.int IntKind.i64 (Int.tmod (IntKind.wrap IntKind.i64 (Int.tdiv (v66 n 1099511627776) 7)) 1000000)))
     else
      some (.ret (CV.int IntKind.i64 (Int.tmod (IntKind.wrap IntKind.i64 (Int.tdiv (v66 n 1099511627776) 7)) 9)))
  else
   none
theorem c64 (fu : Nat) (n : Int) : cutB (E64 fu) kr64 Try.f64 (⟨parT 0 [.int .i64 n], []⟩) = t64 n := by kernel_rfl
def R64 (n : Int) (r : Int) : Prop := RunF E64 true Try.f64 [.int .i64 n] (.int .i64 r)
theorem run64 (n : Int) (r : Int) (h : Good E64 kr64 (t64 n) (.int .i64 r)) : R64 n r := RunF.of fuel64 (fun fu => c64 fu n) h
noncomputable def ok64 (n : Int) : Bool := okP (R64 n)
noncomputable def v64 (n : Int) : Int := valP (R64 n)
theorem sp64 (n : Int) (r : Int) (h : R64 n r) : ok64 n = true ∧ v64 n = r := okP_of h fun b hb => by
  have := RunF.uniq hb h
  simp_all
theorem at64 : P.funcs[64]? = some Try.f64 := by kernel_rfl
theorem callable64 : callable 64 = true := by kernel_rfl
theorem semok64 : SemOk (semOf ents64) := EntsOk.sem (.cons entok66 (.nil))
theorem memok64 : MemOk (memOf mems64) := EntsMOk.mem (.nil)
noncomputable def ent64 : Ent := fun args => match args with
  | [.int .i64 n] => some (true, ok64 n, .int .i64 (v64 n))
  | _ => none
theorem entok64 : EntOk 64 ent64 := fun args own r h => by
  unfold ent64 at h
  split at h
  · simp only [Option.some.injEq, Prod.mk.injEq] at h
    obtain ⟨rfl, h, rfl⟩ := h
    exact ⟨RunF.calls (fun _ => semok64) (fun _ => memok64) at64 rfl (Nat.le_of_ble_eq_true rfl) (fun _ => rfl) (okP_val h), callable64⟩
  · cases h
end Go.Proofs.Ytnfgfdeidkhdkaa.Eng
/- P104: watershed/watershedref1.has: its run from loop to loop, as Lean printed it (a program of this session's wrote these rows). No condition. -/
namespace Go.Proofs.Ytnfgfdeidkhdkaa.Eng
set_option linter.unusedVariables false
set_option maxRecDepth 100000
noncomputable def ents104 : List (Nat × Ent) := []
noncomputable def mems104 : List (Nat × EntM) := []
noncomputable def E104 (fu : Nat) : Env := ⟨18, 0, semOf ents104, [], memOf mems104, [], [(100002, ⟨[], [(0, none), (1, none), (5, none)], [0, 1, 5]⟩)], fu⟩
theorem fuel104 : Fuel E104 := fun _ => rfl
noncomputable def kr104 : St → Option CV := endK true Try.f104.results.toList
noncomputable def K104_2 : List Fr := theK Try.f104 100002
noncomputable def C104_2 : Code := theC Try.f104 100002
def s104_2 (l0 : List Int) (i1 : Int) (i5 : Int) : St := ⟨[(0, .sl .int l0), (1, .int .i64 i1), (5, .int .i64 i5)], []⟩
noncomputable def a104_2 (l0 : List Int) (i1 : Int) (i5 : Int) : Leaf := .at K104_2 C104_2 (s104_2 l0 i1 i5)
noncomputable def t104_2 (l0 : List Int) (i1 : Int) (i5 : Int) : Option Leaf :=
  bif Decidable.decide (i5 < ↑(List.length l0)) then
   bif Decidable.decide (0 ≤ i5) then
    ob (l0[Int.toNat i5]?) fun x1 =>
     bif Decidable.decide (x1 = i1) then
      some (.ret (CV.bool Bool.true))
     else
      some (a104_2 l0 i1 (IntKind.wrap IntKind.i64 (i5 + 1)))
   else
    none
  else
   some (.ret (CV.bool Bool.false))
theorem c104_2 (fu : Nat) (l0 : List Int) (i1 : Int) (i5 : Int) : cutL (E104 fu) kr104 K104_2 C104_2 (s104_2 l0 i1 i5) = t104_2 l0 i1 i5 := by kernel_rfl
theorem h104_2 (l0 : List Int) (i1 : Int) (i5 : Int) (r : CV) (h : Good E104 kr104 (t104_2 l0 i1 i5) r) : Lead E104 kr104 r (a104_2 l0 i1 i5) := Lead.at fuel104 (fun fu => c104_2 fu l0 i1 i5) h
noncomputable def t104 (l : List Int) (d : Int) : Option Leaf :=
  some (a104_2 l d 0)
theorem c104 (fu : Nat) (l : List Int) (d : Int) : cutB (E104 fu) kr104 Try.f104 (⟨parT 0 [.sl .int l, .int .i64 d], []⟩) = t104 l d := by kernel_rfl
def R104 (l : List Int) (d : Int) (r : Bool) : Prop := RunF E104 true Try.f104 [.sl .int l, .int .i64 d] (.bool r)
theorem run104 (l : List Int) (d : Int) (r : Bool) (h : Good E104 kr104 (t104 l d) (.bool r)) : R104 l d r := RunF.of fuel104 (fun fu => c104 fu l d) h
noncomputable def ok104 (l : List Int) (d : Int) : Bool := okP (R104 l d)
noncomputable def v104 (l : List Int) (d : Int) : Bool := valP (R104 l d)
theorem sp104 (l : List Int) (d : Int) (r : Bool) (h : R104 l d r) : ok104 l d = true ∧ v104 l d = r := okP_of h fun b hb => by
  have := RunF.uniq hb h
  simp_all
theorem at104 : P.funcs[104]? = some Try.f104 := by kernel_rfl
theorem callable104 : callable 104 = true := by kernel_rfl
theorem semok104 : SemOk (semOf ents104) := EntsOk.sem (.nil)
theorem memok104 : MemOk (memOf mems104) := EntsMOk.mem (.nil)
noncomputable def ent104 : Ent := fun args => match args with
  | [.sl .int l, .int .i64 d] => some (true, ok104 l d, .bool (v104 l d))
  | _ => none
theorem entok104 : EntOk 104 ent104 := fun args own r h => by
  unfold ent104 at h
  split at h
  · simp only [Option.some.injEq, Prod.mk.injEq] at h
    obtain ⟨rfl, h, rfl⟩ := h
    exact ⟨RunF.calls (fun _ => semok104) (fun _ => memok104) at104 rfl (Nat.le_of_ble_eq_true rfl) (fun _ => rfl) (okP_val h), callable104⟩
  · cases h
end Go.Proofs.Ytnfgfdeidkhdkaa.Eng
/- P77: watershed/rot.other: its run from loop to loop, as Lean printed it (a program of this session's wrote these rows). No condition. -/
namespace Go.Proofs.Ytnfgfdeidkhdkaa.Eng
set_option linter.unusedVariables false
set_option maxRecDepth 100000
noncomputable def ents77 : List (Nat × Ent) := []
noncomputable def mems77 : List (Nat × EntM) := []
noncomputable def E77 (fu : Nat) : Env := ⟨5, 0, semOf ents77, [], memOf mems77, [], [], fu⟩
theorem fuel77 : Fuel E77 := fun _ => rfl
noncomputable def kr77 : St → Option CV := endK true Try.f77.results.toList
noncomputable def t77 (d : Int) : Option Leaf :=
  some (.ret (CV.int IntKind.i64 (bitsI BinOp.xor IntKind.i64 d (1 : Int))))
theorem c77 (fu : Nat) (d : Int) : cutB (E77 fu) kr77 Try.f77 (⟨parT 0 [.int .i64 d], []⟩) = t77 d := by kernel_rfl
def R77 (d : Int) (r : Int) : Prop := RunF E77 true Try.f77 [.int .i64 d] (.int .i64 r)
theorem run77 (d : Int) (r : Int) (h : Good E77 kr77 (t77 d) (.int .i64 r)) : R77 d r := RunF.of fuel77 (fun fu => c77 fu d) h
noncomputable def ok77 (d : Int) : Bool := okP (R77 d)
noncomputable def v77 (d : Int) : Int := valP (R77 d)
theorem sp77 (d : Int) (r : Int) (h : R77 d r) : ok77 d = true ∧ v77 d = r := okP_of h fun b hb => by
  have := RunF.uniq hb h
  simp_all
theorem at77 : P.funcs[77]? = some Try.f77 := by kernel_rfl
theorem callable77 : callable 77 = true := by kernel_rfl
theorem semok77 : SemOk (semOf ents77) := EntsOk.sem (.nil)
theorem memok77 : MemOk (memOf mems77) := EntsMOk.mem (.nil)
noncomputable def ent77 : Ent := fun args => match args with
  | [.int .i64 d] => some (true, ok77 d, .int .i64 (v77 d))
  | _ => none
theorem entok77 : EntOk 77 ent77 := fun args own r h => by
  unfold ent77 at h
  split at h
  · simp only [Option.some.injEq, Prod.mk.injEq] at h
    obtain ⟨rfl, h, rfl⟩ := h
    exact ⟨RunF.calls (fun _ => semok77) (fun _ => memok77) at77 rfl (Nat.le_of_ble_eq_true rfl) (fun _ => rfl) (okP_val h), callable77⟩
  · cases h
end Go.Proofs.Ytnfgfdeidkhdkaa.Eng
/- P31: watershed/rot.Head: its run from loop to loop, as Lean printed it (a program of this session's wrote these rows). No condition. -/
namespace Go.Proofs.Ytnfgfdeidkhdkaa.Eng
set_option linter.unusedVariables false
set_option maxRecDepth 100000
noncomputable def ents31 : List (Nat × Ent) := [(77, ent77)]
noncomputable def mems31 : List (Nat × EntM) := []
noncomputable def E31 (fu : Nat) : Env := ⟨21, 0, semOf ents31, [], memOf mems31, [], [], fu⟩
theorem fuel31 : Fuel E31 := fun _ => rfl
noncomputable def kr31 : St → Option CV := endK true Try.f31.results.toList
noncomputable def t31 (gN : Int) (gT : List Int) (gX : List Int) (gC : List Int) (d : Int) : Option Leaf :=
  bif Decidable.decide (d < (0 : Int)) then
   some (.ret (CV.int IntKind.i64 (0 : Int)))
  else
   bif ok77 d then
    bif Decidable.decide ((↑(List.length gT) : Int) ≤ v77 d) then
     some (.ret (CV.int IntKind.i64 (0 : Int)))
    else
     bif ok77 d then
      bif Decidable.decide ((0 : Int) ≤ v77 d) then
       ob (gT[Int.toNat (v77 d)]?) fun x1 =>
        some (.ret (CV.int IntKind.i64 x1))
      else
       none
     else
      none
   else
    none
theorem c31 (fu : Nat) (gN : Int) (gT : List Int) (gX : List Int) (gC : List Int) (d : Int) : cutB (E31 fu) kr31 Try.f31 (⟨parT 0 [.agg [.int .i64 gN, .sl .int gT, .sl .int gX, .sl .int gC], .int .i64 d], []⟩) = t31 gN gT gX gC d := by kernel_rfl
def R31 (gN : Int) (gT : List Int) (gX : List Int) (gC : List Int) (d : Int) (r : Int) : Prop := RunF E31 true Try.f31 [.agg [.int .i64 gN, .sl .int gT, .sl .int gX, .sl .int gC], .int .i64 d] (.int .i64 r)
theorem run31 (gN : Int) (gT : List Int) (gX : List Int) (gC : List Int) (d : Int) (r : Int) (h : Good E31 kr31 (t31 gN gT gX gC d) (.int .i64 r)) : R31 gN gT gX gC d r := RunF.of fuel31 (fun fu => c31 fu gN gT gX gC d) h
noncomputable def ok31 (gN : Int) (gT : List Int) (gX : List Int) (gC : List Int) (d : Int) : Bool := okP (R31 gN gT gX gC d)
noncomputable def v31 (gN : Int) (gT : List Int) (gX : List Int) (gC : List Int) (d : Int) : Int := valP (R31 gN gT gX gC d)
theorem sp31 (gN : Int) (gT : List Int) (gX : List Int) (gC : List Int) (d : Int) (r : Int) (h : R31 gN gT gX gC d r) : ok31 gN gT gX gC d = true ∧ v31 gN gT gX gC d = r := okP_of h fun b hb => by
  have := RunF.uniq hb h
  simp_all
theorem at31 : P.funcs[31]? = some Try.f31 := by kernel_rfl
theorem callable31 : callable 31 = true := by kernel_rfl
theorem semok31 : SemOk (semOf ents31) := EntsOk.sem (.cons entok77 (.nil))
theorem memok31 : MemOk (memOf mems31) := EntsMOk.mem (.nil)
noncomputable def ent31 : Ent := fun args => match args with
  | [.agg [.int .i64 gN, .sl .int gT, .sl .int gX, .sl .int gC], .int .i64 d] => some (true, ok31 gN gT gX gC d, .int .i64 (v31 gN gT gX gC d))
  | _ => none
theorem entok31 : EntOk 31 ent31 := fun args own r h => by
  unfold ent31 at h
  split at h
  · simp only [Option.some.injEq, Prod.mk.injEq] at h
    obtain ⟨rfl, h, rfl⟩ := h
    exact ⟨RunF.calls (fun _ => semok31) (fun _ => memok31) at31 rfl (Nat.le_of_ble_eq_true rfl) (fun _ => rfl) (okP_val h), callable31⟩
  · cases h
end Go.Proofs.Ytnfgfdeidkhdkaa.Eng
/- P32: watershed/watershedref2.Head: its run from loop to loop, as Lean printed it (a program of this session's wrote these rows). No condition. -/
namespace Go.Proofs.Ytnfgfdeidkhdkaa.Eng
set_option linter.unusedVariables false
set_option maxRecDepth 100000
noncomputable def ents32 : List (Nat × Ent) := []
noncomputable def mems32 : List (Nat × EntM) := []
noncomputable def E32 (fu : Nat) : Env := ⟨11, 0, semOf ents32, [], memOf mems32, [], [], fu⟩
theorem fuel32 : Fuel E32 := fun _ => rfl
noncomputable def kr32 : St → Option CV := endK true Try.f32.results.toList
noncomputable def t32 (gN : Int) (gT : List Int) (gX : List Int) (gC : List Int) (d : Int) : Option Leaf :=
  bif Decidable.decide ((0 : Int) ≤ bitsI BinOp.xor IntKind.i64 d (1 : Int)) then
   ob (gT[Int.toNat (bitsI BinOp.xor IntKind.i64 d (1 : Int))]?) fun x1 =>
    some (.ret (CV.int IntKind.i64 x1))
  else
   none
theorem c32 (fu : Nat) (gN : Int) (gT : List Int) (gX : List Int) (gC : List Int) (d : Int) : cutB (E32 fu) kr32 Try.f32 (⟨parT 0 [.agg [.int .i64 gN, .sl .int gT, .sl .int gX, .sl .int gC], .int .i64 d], []⟩) = t32 gN gT gX gC d := by kernel_rfl
def R32 (gN : Int) (gT : List Int) (gX : List Int) (gC : List Int) (d : Int) (r : Int) : Prop := RunF E32 true Try.f32 [.agg [.int .i64 gN, .sl .int gT, .sl .int gX, .sl .int gC], .int .i64 d] (.int .i64 r)
theorem run32 (gN : Int) (gT : List Int) (gX : List Int) (gC : List Int) (d : Int) (r : Int) (h : Good E32 kr32 (t32 gN gT gX gC d) (.int .i64 r)) : R32 gN gT gX gC d r := RunF.of fuel32 (fun fu => c32 fu gN gT gX gC d) h
noncomputable def ok32 (gN : Int) (gT : List Int) (gX : List Int) (gC : List Int) (d : Int) : Bool := okP (R32 gN gT gX gC d)
noncomputable def v32 (gN : Int) (gT : List Int) (gX : List Int) (gC : List Int) (d : Int) : Int := valP (R32 gN gT gX gC d)
theorem sp32 (gN : Int) (gT : List Int) (gX : List Int) (gC : List Int) (d : Int) (r : Int) (h : R32 gN gT gX gC d r) : ok32 gN gT gX gC d = true ∧ v32 gN gT gX gC d = r := okP_of h fun b hb => by
  have := RunF.uniq hb h
  simp_all
theorem at32 : P.funcs[32]? = some Try.f32 := by kernel_rfl
theorem callable32 : callable 32 = true := by kernel_rfl
theorem semok32 : SemOk (semOf ents32) := EntsOk.sem (.nil)
theorem memok32 : MemOk (memOf mems32) := EntsMOk.mem (.nil)
noncomputable def ent32 : Ent := fun args => match args with
  | [.agg [.int .i64 gN, .sl .int gT, .sl .int gX, .sl .int gC], .int .i64 d] => some (true, ok32 gN gT gX gC d, .int .i64 (v32 gN gT gX gC d))
  | _ => none
theorem entok32 : EntOk 32 ent32 := fun args own r h => by
  unfold ent32 at h
  split at h
  · simp only [Option.some.injEq, Prod.mk.injEq] at h
    obtain ⟨rfl, h, rfl⟩ := h
    exact ⟨RunF.calls (fun _ => semok32) (fun _ => memok32) at32 rfl (Nat.le_of_ble_eq_true rfl) (fun _ => rfl) (okP_val h), callable32⟩
  · cases h
end Go.Proofs.Ytnfgfdeidkhdkaa.Eng
/- Lb: What small functions come to: within, Cap, other, has, Head; the row of so many. -/
namespace Go.Proofs.Ytnfgfdeidkhdkaa.Eng
set_option linter.unusedVariables false
theorem f22 {a n : Int} (h0 : 0 < n) (h1 : n ≤ 4611686018427387904) : ok22 a n = true ∧ 0 ≤ v22 a n ∧ v22 a n < n := by
  have hb : -n < a.tmod n ∧ a.tmod n < n := ⟨Int.lt_tmod_of_pos a h0, Int.tmod_lt_of_pos a h0⟩
  refine okv (p := fun r => 0 ≤ r ∧ r < n) ?_
  by_cases h : a.tmod n < 0
  · refine ⟨a.tmod n + n, sp22 _ _ _ (run22 _ _ _ ?_), by omega, by omega⟩
    unfold t22
    repeat (first | (refine good_pos (by omega) ?_) | (refine good_neg (by omega) ?_) | (refine good_npos (by omega) ?_) | (refine good_nneg (by omega) ?_) | (refine good_gi (by omega) (by omega) ?_) | (refine good_gb (by omega) (by omega) ?_) | (refine good_ble (by omega) ?_))
    simp (disch := omega) only [wrap_in]
    exact good_end rfl
  · refine ⟨a.tmod n, sp22 _ _ _ (run22 _ _ _ ?_), by omega, by omega⟩
    unfold t22
    repeat (first | (refine good_pos (by omega) ?_) | (refine good_neg (by omega) ?_) | (refine good_npos (by omega) ?_) | (refine good_nneg (by omega) ?_) | (refine good_gi (by omega) (by omega) ?_) | (refine good_gb (by omega) (by omega) ?_) | (refine good_ble (by omega) ?_))
    exact good_end rfl
theorem f66 {a n : Int} (h0 : 0 < n) (h1 : n ≤ 4611686018427387904) : ok66 a n = true ∧ 0 ≤ v66 a n ∧ v66 a n < n := by
  have hb : -n < a.tmod n ∧ a.tmod n < n := ⟨Int.lt_tmod_of_pos a h0, Int.tmod_lt_of_pos a h0⟩
  refine okv (p := fun r => 0 ≤ r ∧ r < n) ?_
  by_cases h : a.tmod n < 0
  · refine ⟨a.tmod n + n, sp66 _ _ _ (run66 _ _ _ ?_), by omega, by omega⟩
    unfold t66
    repeat (first | (refine good_pos (by omega) ?_) | (refine good_neg (by omega) ?_) | (refine good_npos (by omega) ?_) | (refine good_nneg (by omega) ?_) | (refine good_gi (by omega) (by omega) ?_) | (refine good_gb (by omega) (by omega) ?_) | (refine good_ble (by omega) ?_))
    simp (disch := omega) only [wrap_in]
    exact good_end rfl
  · refine ⟨a.tmod n, sp66 _ _ _ (run66 _ _ _ ?_), by omega, by omega⟩
    unfold t66
    repeat (first | (refine good_pos (by omega) ?_) | (refine good_neg (by omega) ?_) | (refine good_npos (by omega) ?_) | (refine good_nneg (by omega) ?_) | (refine good_gi (by omega) (by omega) ?_) | (refine good_gb (by omega) (by omega) ?_) | (refine good_ble (by omega) ?_))
    exact good_end rfl
theorem f45 {a n : Int} (h0 : 0 < n) (h1 : n ≤ 4611686018427387904) : ok45 a n = true ∧ 0 ≤ v45 a n ∧ v45 a n < n := by
  have hb : -n < a.tmod n ∧ a.tmod n < n := ⟨Int.lt_tmod_of_pos a h0, Int.tmod_lt_of_pos a h0⟩
  refine okv (p := fun r => 0 ≤ r ∧ r < n) ?_
  by_cases h : a.tmod n < 0
  · refine ⟨a.tmod n + n, sp45 _ _ _ (run45 _ _ _ ?_), by omega, by omega⟩
    unfold t45
    repeat (first | (refine good_pos (by omega) ?_) | (refine good_neg (by omega) ?_) | (refine good_npos (by omega) ?_) | (refine good_nneg (by omega) ?_) | (refine good_gi (by omega) (by omega) ?_) | (refine good_gb (by omega) (by omega) ?_) | (refine good_ble (by omega) ?_))
    simp (disch := omega) only [wrap_in]
    exact good_end rfl
  · refine ⟨a.tmod n, sp45 _ _ _ (run45 _ _ _ ?_), by omega, by omega⟩
    unfold t45
    repeat (first | (refine good_pos (by omega) ?_) | (refine good_neg (by omega) ?_) | (refine good_npos (by omega) ?_) | (refine good_nneg (by omega) ?_) | (refine good_gi (by omega) (by omega) ?_) | (refine good_gb (by omega) (by omega) ?_) | (refine good_ble (by omega) ?_))
    exact good_end rfl
theorem f64 (n : Int) : ok64 n = true ∧ 0 ≤ v64 n ∧ v64 n ≤ 2147483648 := by
  obtain ⟨hk, h0, h1⟩ := f66 (a := n) (n := 1099511627776) (by decide) (by decide)
  refine okv (p := fun r => 0 ≤ r ∧ r ≤ 2147483648) ?_
  generalize hg : v66 n 1099511627776 = k at *
  have e1 : Int.tmod k 7 = k % 7 := Int.tmod_eq_emod_of_nonneg h0
  have e2 : Int.tdiv k 7 = k / 7 := Int.tdiv_eq_ediv_of_nonneg h0
  have h2 : 0 ≤ k / 7 := by omega
  have e3 : Int.tmod (k / 7) 3 = k / 7 % 3 := Int.tmod_eq_emod_of_nonneg h2
  have e4 : Int.tmod (k / 7) 1000000 = k / 7 % 1000000 := Int.tmod_eq_emod_of_nonneg h2
  have e5 : Int.tmod (k / 7) 9 = k / 7 % 9 := Int.tmod_eq_emod_of_nonneg h2
  by_cases c0 : k % 7 = 0
  · refine ⟨0, sp64 _ _ (run64 _ _ ?_), by omega, by omega⟩
    unfold t64
    simp only [hg, e1]
    refine good_true hk ?_
    repeat (first | (refine good_pos (by omega) ?_) | (refine good_neg (by omega) ?_) | (refine good_npos (by omega) ?_) | (refine good_nneg (by omega) ?_) | (refine good_gi (by omega) (by omega) ?_) | (refine good_gb (by omega) (by omega) ?_) | (refine good_ble (by omega) ?_))
    exact good_end rfl
  by_cases c1 : k % 7 = 1
  · refine ⟨2147483648 - k / 7 % 3, sp64 _ _ (run64 _ _ ?_), by omega, by omega⟩
    unfold t64
    simp only [hg, e1]
    refine good_true hk ?_
    simp (disch := omega) only [wrap_in, e2, e3]
    repeat (first | (refine good_pos (by omega) ?_) | (refine good_neg (by omega) ?_) | (refine good_npos (by omega) ?_) | (refine good_nneg (by omega) ?_) | (refine good_gi (by omega) (by omega) ?_) | (refine good_gb (by omega) (by omega) ?_) | (refine good_ble (by omega) ?_))
    exact good_end rfl
  by_cases c2 : k % 7 = 2
  · refine ⟨k / 7 % 1000000, sp64 _ _ (run64 _ _ ?_), by omega, by omega⟩
    unfold t64
    simp only [hg, e1]
    refine good_true hk ?_
    simp (disch := omega) only [wrap_in, e2, e4]
    repeat (first | (refine good_pos (by omega) ?_) | (refine good_neg (by omega) ?_) | (refine good_npos (by omega) ?_) | (refine good_nneg (by omega) ?_) | (refine good_gi (by omega) (by omega) ?_) | (refine good_gb (by omega) (by omega) ?_) | (refine good_ble (by omega) ?_))
    exact good_end rfl
  · refine ⟨k / 7 % 9, sp64 _ _ (run64 _ _ ?_), by omega, by omega⟩
    unfold t64
    simp only [hg, e1]
    refine good_true hk ?_
    simp (disch := omega) only [wrap_in, e2, e5]
    repeat (first | (refine good_pos (by omega) ?_) | (refine good_neg (by omega) ?_) | (refine good_npos (by omega) ?_) | (refine good_nneg (by omega) ?_) | (refine good_gi (by omega) (by omega) ?_) | (refine good_gb (by omega) (by omega) ?_) | (refine good_ble (by omega) ?_))
    exact good_end rfl
/-- has -/
theorem l104 {l : List Int} {d : Int} (hl : l.length ≤ 4294967296) : ∀ (n i : Nat), l.length ≤ i + n → i ≤ l.length → Lead E104 kr104 (.bool (decide (d ∈ l.drop i))) (a104_2 l d (i : Int)) := by
  intro n
  induction n with
  | zero =>
    intro i h1 h2
    refine h104_2 _ _ _ _ ?_
    unfold t104_2
    repeat (first | (refine good_pos (by omega) ?_) | (refine good_neg (by omega) ?_) | (refine good_npos (by omega) ?_) | (refine good_nneg (by omega) ?_) | (refine good_gi (by omega) (by omega) ?_) | (refine good_gb (by omega) (by omega) ?_) | (refine good_ble (by omega) ?_))
    rw [List.drop_eq_nil_of_le (by omega)]
    exact good_end (by simp)
  | succ n ih =>
    intro i h1 h2
    refine h104_2 _ _ _ _ ?_
    unfold t104_2
    by_cases hi : i < l.length
    · rw [List.drop_eq_getElem_cons hi, ← gi_get hi]
      by_cases he : gi l i = d
      · repeat (first | (refine good_pos (by omega) ?_) | (refine good_neg (by omega) ?_) | (refine good_npos (by omega) ?_) | (refine good_nneg (by omega) ?_) | (refine good_gi (by omega) (by omega) ?_) | (refine good_gb (by omega) (by omega) ?_) | (refine good_ble (by omega) ?_))
        exact good_end (by simp [he])
      · repeat (first | (refine good_pos (by omega) ?_) | (refine good_neg (by omega) ?_) | (refine good_npos (by omega) ?_) | (refine good_nneg (by omega) ?_) | (refine good_gi (by omega) (by omega) ?_) | (refine good_gb (by omega) (by omega) ?_) | (refine good_ble (by omega) ?_))
        simp (disch := omega) only [wrap_in]
        have := ih (i + 1) (by omega) (by omega)
        simp only [List.mem_cons, Ne.symm he, false_or]
        exact good_at this
    · repeat (first | (refine good_pos (by omega) ?_) | (refine good_neg (by omega) ?_) | (refine good_npos (by omega) ?_) | (refine good_nneg (by omega) ?_) | (refine good_gi (by omega) (by omega) ?_) | (refine good_gb (by omega) (by omega) ?_) | (refine good_ble (by omega) ?_))
      rw [List.drop_eq_nil_of_le (by omega)]
      exact good_end (by simp)
theorem f104 {l : List Int} (hl : l.length ≤ 4294967296) (d : Int) : ok104 l d = true ∧ v104 l d = decide (d ∈ l) :=
  sp104 _ _ _ (run104 _ _ _ (by
    unfold t104
    have := l104 (d := d) hl l.length 0 (by omega) (by omega)
    exact good_at this))
/-- a dart's other one -/
def oth (d : Int) : Int := if d % 2 = 0 then d + 1 else d - 1
theorem xor_one {d : Int} (h0 : 0 ≤ d) (h1 : d ≤ 4611686018427387904) : bitsI .xor .i64 d 1 = oth d := by
  obtain ⟨n, rfl⟩ : ∃ n : Nat, d = n := ⟨d.toNat, by omega⟩
  have e : (BitVec.ofInt 64 (n : Int) ^^^ BitVec.ofInt 64 1).toNat = n ^^^ 1 := by
    rw [BitVec.toNat_xor]
    have a : (BitVec.ofInt 64 (n : Int)).toNat = n := by
      rw [BitVec.toNat_ofInt]; omega
    have b : (BitVec.ofInt 64 (1 : Int)).toNat = 1 := by decide
    rw [a, b]
  have hx : (n ^^^ 1 : Nat) = if n % 2 = 0 then n + 1 else n - 1 := by
    have h1 : (n ^^^ 1) / 2 = n / 2 := by
      rw [Nat.xor_div_two]; simp
    have h2 : (n ^^^ 1) % 2 = (n + 1) % 2 := by
      have := @Nat.xor_mod_two_eq_one n 1
      omega
    split <;> omega
  unfold bitsI
  simp only
  show IntKind.wrap IntKind.i64 ((BitVec.ofInt 64 (n : Int) ^^^ BitVec.ofInt 64 1).toNat : Int) = _
  rw [e, hx]
  unfold oth
  split
  · rw [if_pos (by omega), wrap_in (by omega) (by omega)]; omega
  · rw [if_neg (by omega), wrap_in (by omega) (by omega)]; omega
theorem f77 {d : Int} (h0 : 0 ≤ d) (h1 : d ≤ 4611686018427387904) : ok77 d = true ∧ v77 d = oth d :=
  sp77 _ _ (run77 _ _ (by
    unfold t77
    rw [xor_one h0 h1]
    exact good_end rfl))
end Go.Proofs.Ytnfgfdeidkhdkaa.Eng
/- P123: math/bits.Mul64: its run from loop to loop, as Lean printed it (a program of this session's wrote these rows). No condition. -/
namespace Go.Proofs.Ytnfgfdeidkhdkaa.Eng
set_option linter.unusedVariables false
set_option maxRecDepth 100000
noncomputable def ents123 : List (Nat × Ent) := []
noncomputable def mems123 : List (Nat × EntM) := []
noncomputable def E123 (fu : Nat) : Env := ⟨51, 0, semOf ents123, [], memOf mems123, [], [], fu⟩
theorem fuel123 : Fuel E123 := fun _ => rfl
noncomputable def kr123 : St → Option CV := endK true Try.f123.results.toList
noncomputable def t123 (a : Int) (b : Int) : Option Leaf :=
  some (.ret (CV.tup [CV.int IntKind.u64 (IntKind.wrap IntKind.u64 (IntKind.wrap IntKind.u64 (IntKind.wrap IntKind.u64 (Int.fdiv a ((2 : Int) ^ Min.min (Int.toNat (32 : Int)) (IntKind.bits IntKind.u64)) * Int.fdiv b ((2 : Int) ^ Min.min (Int.toNat (32 : Int)) (IntKind.bits IntKind.u64))) + Int.fdiv (IntKind.wrap IntKind.u64 (IntKind.wrap IntKind.u64 (Int.fdiv a ((2 : Int) ^ Min.min (Int.toNat (32 : Int)) (IntKind.bits IntKind.u64)) * bitsI BinOp.and IntKind.u64 b (4294967295 : Int)) + Int.fdiv (IntKind.wrap IntKind.u64 (bitsI BinOp.and IntKind.u64 a (4294967295 : Int) * bitsI BinOp.and IntKind.u64 b (4294967295 : Int))) ((2 : Int) ^ Min.min (Int.toNat (32 : Int)) (IntKind.bits IntKind.u64)))) ((2 : Int) ^ Min.min (Int.toNat (32 : Int)) (IntKind.bits IntKind.u64))) + Int.fdiv (IntKind.wrap IntKind.u64 (bitsI BinOp.and IntKind.u64 (IntKind.wrap IntKind.u64 (IntKind.wrap IntKind.u64 (Int.fdiv a ((2 : Int) ^ Min.min (Int.toNat (32 : Int)) (IntKind.bits IntKind.u64)) * bitsI BinOp.and IntKind.u64 b (4294967295 : Int)) + Int.fdiv (IntKind.wrap IntKind.u64 (bitsI BinOp.and IntKind.u64 a (4294967295 : Int) * bitsI BinOp.and IntKind.u64 b (4294967295 : Int))) ((2 : Int) ^ Min.min (Int.toNat (32 : Int)) (IntKind.bits IntKind.u64)))) (4294967295 : Int) + IntKind.wrap IntKind.u64 (bitsI BinOp.and IntKind.u64 a (4294967295 : Int) * Int.fdiv b ((2 : Int) ^ Min.min (Int.toNat (32 : Int)) (IntKind.bits IntKind.u64))))) ((2 : Int) ^ Min.min (Int.toNat (32 : Int)) (IntKind.bits IntKind.u64)))), CV.int IntKind.u64 (IntKind.wrap IntKind.u64 (a * b))]))
theorem c123 (fu : Nat) (a : Int) (b : Int) : cutB (E123 fu) kr123 Try.f123 (⟨parT 0 [.int .u64 a, .int .u64 b], []⟩) = t123 a b := by kernel_rfl
def R123 (a : Int) (b : Int) (r : Int × Int) : Prop := RunF E123 true Try.f123 [.int .u64 a, .int .u64 b] (.tup [.int .u64 r.1, .int .u64 r.2])
theorem run123 (a : Int) (b : Int) (r : Int × Int) (h : Good E123 kr123 (t123 a b) (.tup [.int .u64 r.1, .int .u64 r.2])) : R123 a b r := RunF.of fuel123 (fun fu => c123 fu a b) h
noncomputable def ok123 (a : Int) (b : Int) : Bool := okP (R123 a b)
noncomputable def v123 (a : Int) (b : Int) : Int × Int := valP (R123 a b)
theorem sp123 (a : Int) (b : Int) (r : Int × Int) (h : R123 a b r) : ok123 a b = true ∧ v123 a b = r := okP_of h fun b hb => by
  have := RunF.uniq hb h
  rcases b with ⟨_, _⟩; rcases r with ⟨_, _⟩; simp_all
theorem at123 : P.funcs[123]? = some Try.f123 := by kernel_rfl
theorem callable123 : callable 123 = true := by kernel_rfl
theorem semok123 : SemOk (semOf ents123) := EntsOk.sem (.nil)
theorem memok123 : MemOk (memOf mems123) := EntsMOk.mem (.nil)
noncomputable def ent123 : Ent := fun args => match args with
  | [.int .u64 a, .int .u64 b] => some (true, ok123 a b, .tup [.int .u64 (v123 a b).1, .int .u64 (v123 a b).2])
  | _ => none
theorem entok123 : EntOk 123 ent123 := fun args own r h => by
  unfold ent123 at h
  split at h
  · simp only [Option.some.injEq, Prod.mk.injEq] at h
    obtain ⟨rfl, h, rfl⟩ := h
    exact ⟨RunF.calls (fun _ => semok123) (fun _ => memok123) at123 rfl (Nat.le_of_ble_eq_true rfl) (fun _ => rfl) (okP_val h), callable123⟩
  · cases h
end Go.Proofs.Ytnfgfdeidkhdkaa.Eng
/- P107: math/bits.Mul: its run from loop to loop, as Lean printed it (a program of this session's wrote these rows). No condition. -/
namespace Go.Proofs.Ytnfgfdeidkhdkaa.Eng
set_option linter.unusedVariables false
set_option maxRecDepth 100000
noncomputable def ents107 : List (Nat × Ent) := [(123, ent123)]
noncomputable def mems107 : List (Nat × EntM) := []
noncomputable def E107 (fu : Nat) : Env := ⟨30, 0, semOf ents107, [], memOf mems107, [], [], fu⟩
theorem fuel107 : Fuel E107 := fun _ => rfl
noncomputable def kr107 : St → Option CV := endK true Try.f107.results.toList
noncomputable def t107 (a : Int) (b : Int) : Option Leaf :=
  bif ok123 a b then
   some (.ret (CV.tup [CV.int IntKind.u64 (Prod.fst (v123 a b)), CV.int IntKind.u64 (Prod.snd (v123 a b))]))
  else
   none
theorem c107 (fu : Nat) (a : Int) (b : Int) : cutB (E107 fu) kr107 Try.f107 (⟨parT 0 [.int .u64 a, .int .u64 b], []⟩) = t107 a b := by kernel_rfl
def R107 (a : Int) (b : Int) (r : Int × Int) : Prop := RunF E107 true Try.f107 [.int .u64 a, .int .u64 b] (.tup [.int .u64 r.1, .int .u64 r.2])
theorem run107 (a : Int) (b : Int) (r : Int × Int) (h : Good E107 kr107 (t107 a b) (.tup [.int .u64 r.1, .int .u64 r.2])) : R107 a b r := RunF.of fuel107 (fun fu => c107 fu a b) h
noncomputable def ok107 (a : Int) (b : Int) : Bool := okP (R107 a b)
noncomputable def v107 (a : Int) (b : Int) : Int × Int := valP (R107 a b)
theorem sp107 (a : Int) (b : Int) (r : Int × Int) (h : R107 a b r) : ok107 a b = true ∧ v107 a b = r := okP_of h fun b hb => by
  have := RunF.uniq hb h
  rcases b with ⟨_, _⟩; rcases r with ⟨_, _⟩; simp_all
theorem at107 : P.funcs[107]? = some Try.f107 := by kernel_rfl
theorem callable107 : callable 107 = true := by kernel_rfl
theorem semok107 : SemOk (semOf ents107) := EntsOk.sem (.cons entok123 (.nil))
theorem memok107 : MemOk (memOf mems107) := EntsMOk.mem (.nil)
noncomputable def ent107 : Ent := fun args => match args with
  | [.int .u64 a, .int .u64 b] => some (true, ok107 a b, .tup [.int .u64 (v107 a b).1, .int .u64 (v107 a b).2])
  | _ => none
theorem entok107 : EntOk 107 ent107 := fun args own r h => by
  unfold ent107 at h
  split at h
  · simp only [Option.some.injEq, Prod.mk.injEq] at h
    obtain ⟨rfl, h, rfl⟩ := h
    exact ⟨RunF.calls (fun _ => semok107) (fun _ => memok107) at107 rfl (Nat.le_of_ble_eq_true rfl) (fun _ => rfl) (okP_val h), callable107⟩
  · cases h
end Go.Proofs.Ytnfgfdeidkhdkaa.Eng
/- P75: slices.Repeat(()int,int): its run from loop to loop, as Lean printed it (a program of this session's wrote these rows). No condition. -/
namespace Go.Proofs.Ytnfgfdeidkhdkaa.Eng
set_option linter.unusedVariables false
set_option maxRecDepth 100000
noncomputable def ents75 : List (Nat × Ent) := [(107, ent107)]
noncomputable def mems75 : List (Nat × EntM) := []
noncomputable def E75 (fu : Nat) : Env := ⟨48, 0, semOf ents75, [], memOf mems75, [], [(100008, ⟨[], [(7, none), (8, none)], [7, 8]⟩)], fu⟩
theorem fuel75 : Fuel E75 := fun _ => rfl
noncomputable def kr75 : St → Option CV := endK true Try.f75.results.toList
noncomputable def K75_8 : List Fr := theK Try.f75 100008
noncomputable def C75_8 : Code := theC Try.f75 100008
def s75_8 (i8 : Int) (mM0 : List Int) : St := ⟨[(7, .ref 8000), (8, .int .i64 i8)], [(8000, some (.arr true .int mM0))]⟩
noncomputable def a75_8 (i8 : Int) (mM0 : List Int) : Leaf := .at K75_8 C75_8 (s75_8 i8 mM0)
noncomputable def t75_8 (i8 : Int) (mM0 : List Int) : Option Leaf :=
  bif Decidable.decide (i8 < (↑(List.length mM0) : Int)) then
   bif Decidable.decide ((0 : Int) ≤ i8) then
    bif Decidable.decide (i8 ≤ (↑(List.length mM0) : Int)) then
     bif Decidable.decide ((↑(List.length mM0) : Int) ≤ (↑(List.length mM0) : Int)) then
      bif Decidable.decide ((↑(List.length mM0) : Int) ≤ (↑(List.length mM0) : Int)) then
       bif Decidable.decide ((0 : Int) ≤ i8) then
        bif Decidable.decide (i8 ≤ i8) then
         bif Decidable.decide (i8 ≤ (↑(List.length mM0) : Int)) then
          bif Decidable.decide (Int.toNat i8 + (Int.toNat (↑(List.length mM0) : Int) - Int.toNat i8) ≤ List.length mM0) then
           some (a75_8 (IntKind.wrap IntKind.i64 (i8 + (↑(Min.min (Int.toNat (↑(List.length mM0) : Int) - Int.toNat i8) (List.length (List.take (Int.toNat i8 - Int.toNat (0 : Int)) (List.drop (Int.toNat (0 : Int)) mM0)))) : Int))) (List.take (Int.toNat i8) mM0 ++ List.take (Min.min (Int.toNat (↑(List.length mM0) : Int) - Int.toNat i8) (List.length (List.take (Int.toNat i8 - Int.toNat (0 : Int)) (List.drop (Int.toNat (0 : Int)) mM0)))) (List.take (Int.toNat i8 - Int.toNat (0 : Int)) (List.drop (Int.toNat (0 : Int)) mM0)) ++ List.drop (Int.toNat i8 + Min.min (Int.toNat (↑(List.length mM0) : Int) - Int.toNat i8) (List.length (List.take (Int.toNat i8 - Int.toNat (0 : Int)) (List.drop (Int.toNat (0 : Int)) mM0)))) mM0))
          else
           none
         else
          none
        else
         none
       else
        none
      else
       none
     else
      none
    else
     none
   else
    none
  else
   some (.ret (CV.sl SK.int mM0))
theorem c75_8 (fu : Nat) (i8 : Int) (mM0 : List Int) : cutL (E75 fu) kr75 K75_8 C75_8 (s75_8 i8 mM0) = t75_8 i8 mM0 := by kernel_rfl
theorem h75_8 (i8 : Int) (mM0 : List Int) (r : CV) (h : Good E75 kr75 (t75_8 i8 mM0) r) : Lead E75 kr75 r (a75_8 i8 mM0) := Lead.at fuel75 (fun fu => c75_8 fu i8 mM0) h
noncomputable def t75 (l : List Int) (n : Int) : Option Leaf :=
  bif Decidable.decide (n < (0 : Int)) then
   none
  else
   bif ok107 (IntKind.wrap IntKind.u64 (↑(List.length l) : Int)) (IntKind.wrap IntKind.u64 n) then
    bif Decidable.decide ((0 : Int) < Prod.fst (v107 (IntKind.wrap IntKind.u64 (↑(List.length l) : Int)) (IntKind.wrap IntKind.u64 n))) then
     none
    else
     bif Decidable.decide ((9223372036854775807 : Int) < Prod.snd (v107 (IntKind.wrap IntKind.u64 (↑(List.length l) : Int)) (IntKind.wrap IntKind.u64 n))) then
      none
     else
      bif Decidable.decide (IntKind.wrap IntKind.i64 (Prod.snd (v107 (IntKind.wrap IntKind.u64 (↑(List.length l) : Int)) (IntKind.wrap IntKind.u64 n))) = IntKind.wrap IntKind.i64 (Prod.snd (v107 (IntKind.wrap IntKind.u64 (↑(List.length l) : Int)) (IntKind.wrap IntKind.u64 n)))) then
       bif Decidable.decide ((0 : Int) ≤ IntKind.wrap IntKind.i64 (Prod.snd (v107 (IntKind.wrap IntKind.u64 (↑(List.length l) : Int)) (IntKind.wrap IntKind.u64 n)))) then
        bif Decidable.decide (IntKind.wrap IntKind.i64 (Prod.snd (v107 (IntKind.wrap IntKind.u64 (↑(List.length l) : Int)) (IntKind.wrap IntKind.u64 n))) ≤ (4294967296 : Int)) then
         some (a75_8 ((↑(Min.min (List.length (List.replicate (Int.toNat (IntKind.wrap IntKind.i64 (Prod.snd (v107 (IntKind.wrap IntKind.u64 (↑(List.length l) : Int)) (IntKind.wrap IntKind.u64 n))))) (0 : SK.T SK.int))) (List.length l)) : Int)) (List.take (Min.min (List.length (List.replicate (Int.toNat (IntKind.wrap IntKind.i64 (Prod.snd (v107 (IntKind.wrap IntKind.u64 (↑(List.length l) : Int)) (IntKind.wrap IntKind.u64 n))))) (0 : SK.T SK.int))) (List.length l)) l ++ List.drop (Min.min (List.length (List.replicate (Int.toNat (IntKind.wrap IntKind.i64 (Prod.snd (v107 (IntKind.wrap IntKind.u64 (↑(List.length l) : Int)) (IntKind.wrap IntKind.u64 n))))) (0 : SK.T SK.int))) (List.length l)) (List.replicate (Int.toNat (IntKind.wrap IntKind.i64 (Prod.snd (v107 (IntKind.wrap IntKind.u64 (↑(List.length l) : Int)) (IntKind.wrap IntKind.u64 n))))) (0 : SK.T SK.int))))
        else
         none
       else
        none
      else
       none
   else
    none
theorem c75 (fu : Nat) (l : List Int) (n : Int) : cutB (E75 fu) kr75 Try.f75 (⟨parT 0 [.sl .int l, .int .i64 n], []⟩) = t75 l n := by kernel_rfl
def R75 (l : List Int) (n : Int) (r : List Int) : Prop := RunF E75 true Try.f75 [.sl .int l, .int .i64 n] (.sl .int r)
theorem run75 (l : List Int) (n : Int) (r : List Int) (h : Good E75 kr75 (t75 l n) (.sl .int r)) : R75 l n r := RunF.of fuel75 (fun fu => c75 fu l n) h
noncomputable def ok75 (l : List Int) (n : Int) : Bool := okP (R75 l n)
noncomputable def v75 (l : List Int) (n : Int) : List Int := valP (R75 l n)
theorem sp75 (l : List Int) (n : Int) (r : List Int) (h : R75 l n r) : ok75 l n = true ∧ v75 l n = r := okP_of h fun b hb => by
  have := RunF.uniq hb h
  simp_all
theorem at75 : P.funcs[75]? = some Try.f75 := by kernel_rfl
theorem callable75 : callable 75 = true := by kernel_rfl
theorem semok75 : SemOk (semOf ents75) := EntsOk.sem (.cons entok107 (.nil))
theorem memok75 : MemOk (memOf mems75) := EntsMOk.mem (.nil)
noncomputable def ent75 : Ent := fun args => match args with
  | [.sl .int l, .int .i64 n] => some (true, ok75 l n, .sl .int (v75 l n))
  | _ => none
theorem entok75 : EntOk 75 ent75 := fun args own r h => by
  unfold ent75 at h
  split at h
  · simp only [Option.some.injEq, Prod.mk.injEq] at h
    obtain ⟨rfl, h, rfl⟩ := h
    exact ⟨RunF.calls (fun _ => semok75) (fun _ => memok75) at75 rfl (Nat.le_of_ble_eq_true rfl) (fun _ => rfl) (okP_val h), callable75⟩
  · cases h
end Go.Proofs.Ytnfgfdeidkhdkaa.Eng
/- P69: watershed/rot.shape: its run from loop to loop, as Lean printed it (a program of this session's wrote these rows). No condition. -/
namespace Go.Proofs.Ytnfgfdeidkhdkaa.Eng
set_option linter.unusedVariables false
set_option maxRecDepth 100000
noncomputable def ents69 : List (Nat × Ent) := []
noncomputable def mems69 : List (Nat × EntM) := []
noncomputable def E69 (fu : Nat) : Env := ⟨71, 0, semOf ents69, [], memOf mems69, [], [(100007, ⟨[], [(1, none), (1, some 0), (1, some 1), (1, some 2), (1, some 3), (3, none), (38, none), (39, none), (40, none)], [1, 3, 38, 39, 40]⟩), (100015, ⟨[], [(1, none), (1, some 0), (1, some 1), (1, some 2), (1, some 3), (56, none), (57, none), (58, none)], [1, 56, 57, 58]⟩)], fu⟩
theorem fuel69 : Fuel E69 := fun _ => rfl
noncomputable def kr69 : St → Option CV := endK true Try.f69.results.toList
noncomputable def K69_7 : List Fr := theK Try.f69 100007
noncomputable def C69_7 : Code := theC Try.f69 100007
def s69_7 (i3 : Int) (l38 : List Int) (i39 : Int) (i40 : Int) (iM0_0 : Int) (lM0_1 : List Int) (lM0_2 : List Int) (lM0_3 : List Int) : St := ⟨[(1, .ptr 8000 0), (3, .int .i64 i3), (38, .sl .int l38), (39, .int .i64 i39), (40, .int .i64 i40)], [(8000, some (.cells 25 [.int .i64 iM0_0, .sl .int lM0_1, .sl .int lM0_2, .sl .int lM0_3]))]⟩
noncomputable def a69_7 (i3 : Int) (l38 : List Int) (i39 : Int) (i40 : Int) (iM0_0 : Int) (lM0_1 : List Int) (lM0_2 : List Int) (lM0_3 : List Int) : Leaf := .at K69_7 C69_7 (s69_7 i3 l38 i39 i40 iM0_0 lM0_1 lM0_2 lM0_3)
noncomputable def K69_15 : List Fr := theK Try.f69 100015
noncomputable def C69_15 : Code := theC Try.f69 100015
def s69_15 (l56 : List Int) (i57 : Int) (i58 : Int) (iM0_0 : Int) (lM0_1 : List Int) (lM0_2 : List Int) (lM0_3 : List Int) : St := ⟨[(1, .ptr 8000 0), (56, .sl .int l56), (57, .int .i64 i57), (58, .int .i64 i58)], [(8000, some (.cells 25 [.int .i64 iM0_0, .sl .int lM0_1, .sl .int lM0_2, .sl .int lM0_3]))]⟩
noncomputable def a69_15 (l56 : List Int) (i57 : Int) (i58 : Int) (iM0_0 : Int) (lM0_1 : List Int) (lM0_2 : List Int) (lM0_3 : List Int) : Leaf := .at K69_15 C69_15 (s69_15 l56 i57 i58 iM0_0 lM0_1 lM0_2 lM0_3)
noncomputable def t69_7 (i3 : Int) (l38 : List Int) (i39 : Int) (i40 : Int) (iM0_0 : Int) (lM0_1 : List Int) (lM0_2 : List Int) (lM0_3 : List Int) : Option Leaf :=
  bif Decidable.decide (i40 < i39) then
   bif Decidable.decide ((0 : Int) ≤ i40) then
    ob (l38[Int.toNat i40]?) fun x1 =>
     bif Decidable.decide (x1 < (0 : Int)) then
      some (.ret (CV.int IntKind.i64 (5 : Int)))
     else
      bif Decidable.decide (i3 ≤ x1) then
       some (.ret (CV.int IntKind.i64 (5 : Int)))
      else
       some (a69_7 i3 l38 i39 (IntKind.wrap IntKind.i64 (i40 + (1 : Int))) iM0_0 lM0_1 lM0_2 lM0_3)
   else
    none
  else
   bif Decidable.decide (iM0_0 < (1 : Int)) then
    some (.ret (CV.int IntKind.i64 (3 : Int)))
   else
    some (a69_15 lM0_1 ((↑(List.length lM0_1) : Int)) ((0 : Int)) iM0_0 lM0_1 lM0_2 lM0_3)
theorem c69_7 (fu : Nat) (i3 : Int) (l38 : List Int) (i39 : Int) (i40 : Int) (iM0_0 : Int) (lM0_1 : List Int) (lM0_2 : List Int) (lM0_3 : List Int) : cutL (E69 fu) kr69 K69_7 C69_7 (s69_7 i3 l38 i39 i40 iM0_0 lM0_1 lM0_2 lM0_3) = t69_7 i3 l38 i39 i40 iM0_0 lM0_1 lM0_2 lM0_3 := by kernel_rfl
theorem h69_7 (i3 : Int) (l38 : List Int) (i39 : Int) (i40 : Int) (iM0_0 : Int) (lM0_1 : List Int) (lM0_2 : List Int) (lM0_3 : List Int) (r : CV) (h : Good E69 kr69 (t69_7 i3 l38 i39 i40 iM0_0 lM0_1 lM0_2 lM0_3) r) : Lead E69 kr69 r (a69_7 i3 l38 i39 i40 iM0_0 lM0_1 lM0_2 lM0_3) := Lead.at fuel69 (fun fu => c69_7 fu i3 l38 i39 i40 iM0_0 lM0_1 lM0_2 lM0_3) h
noncomputable def t69_15 (l56 : List Int) (i57 : Int) (i58 : Int) (iM0_0 : Int) (lM0_1 : List Int) (lM0_2 : List Int) (lM0_3 : List Int) : Option Leaf :=
  bif Decidable.decide (i58 < i57) then
   bif Decidable.decide ((0 : Int) ≤ i58) then
    ob (l56[Int.toNat i58]?) fun x2 =>
     bif Decidable.decide (x2 < (0 : Int)) then
      some (.ret (CV.int IntKind.i64 (3 : Int)))
     else
      bif Decidable.decide (iM0_0 ≤ x2) then
       some (.ret (CV.int IntKind.i64 (3 : Int)))
      else
       some (a69_15 l56 i57 (IntKind.wrap IntKind.i64 (i58 + (1 : Int))) iM0_0 lM0_1 lM0_2 lM0_3)
   else
    none
  else
   some (.ret (CV.int IntKind.i64 (0 : Int)))
theorem c69_15 (fu : Nat) (l56 : List Int) (i57 : Int) (i58 : Int) (iM0_0 : Int) (lM0_1 : List Int) (lM0_2 : List Int) (lM0_3 : List Int) : cutL (E69 fu) kr69 K69_15 C69_15 (s69_15 l56 i57 i58 iM0_0 lM0_1 lM0_2 lM0_3) = t69_15 l56 i57 i58 iM0_0 lM0_1 lM0_2 lM0_3 := by kernel_rfl
theorem h69_15 (l56 : List Int) (i57 : Int) (i58 : Int) (iM0_0 : Int) (lM0_1 : List Int) (lM0_2 : List Int) (lM0_3 : List Int) (r : CV) (h : Good E69 kr69 (t69_15 l56 i57 i58 iM0_0 lM0_1 lM0_2 lM0_3) r) : Lead E69 kr69 r (a69_15 l56 i57 i58 iM0_0 lM0_1 lM0_2 lM0_3) := Lead.at fuel69 (fun fu => c69_15 fu l56 i57 i58 iM0_0 lM0_1 lM0_2 lM0_3) h
noncomputable def t69 (gN : Int) (gT : List Int) (gX : List Int) (gC : List Int) : Option Leaf :=
  bif Decidable.decide ((60 : Int) < gN) then
   some (.ret (CV.int IntKind.i64 (2 : Int)))
  else
   bif Decidable.decide ((240 : Int) < (↑(List.length gT) : Int)) then
    some (.ret (CV.int IntKind.i64 (2 : Int)))
   else
    bif !Decidable.decide ((↑(List.length gX) : Int) = (↑(List.length gT) : Int)) then
     some (.ret (CV.int IntKind.i64 (5 : Int)))
    else
     bif !Decidable.decide ((↑(List.length gC) : Int) = (↑(List.length gT) : Int)) then
      some (.ret (CV.int IntKind.i64 (5 : Int)))
     else
      bif !Decidable.decide (Int.tmod (↑(List.length gT) : Int) (2 : Int) = (0 : Int)) then
       some (.ret (CV.int IntKind.i64 (5 : Int)))
      else
       some (a69_7 ((↑(List.length gT) : Int)) gX ((↑(List.length gX) : Int)) ((0 : Int)) gN gT gX gC)
theorem c69 (fu : Nat) (gN : Int) (gT : List Int) (gX : List Int) (gC : List Int) : cutB (E69 fu) kr69 Try.f69 (⟨parT 0 [.agg [.int .i64 gN, .sl .int gT, .sl .int gX, .sl .int gC]], []⟩) = t69 gN gT gX gC := by kernel_rfl
def R69 (gN : Int) (gT : List Int) (gX : List Int) (gC : List Int) (r : Int) : Prop := RunF E69 true Try.f69 [.agg [.int .i64 gN, .sl .int gT, .sl .int gX, .sl .int gC]] (.int .i64 r)
theorem run69 (gN : Int) (gT : List Int) (gX : List Int) (gC : List Int) (r : Int) (h : Good E69 kr69 (t69 gN gT gX gC) (.int .i64 r)) : R69 gN gT gX gC r := RunF.of fuel69 (fun fu => c69 fu gN gT gX gC) h
noncomputable def ok69 (gN : Int) (gT : List Int) (gX : List Int) (gC : List Int) : Bool := okP (R69 gN gT gX gC)
noncomputable def v69 (gN : Int) (gT : List Int) (gX : List Int) (gC : List Int) : Int := valP (R69 gN gT gX gC)
theorem sp69 (gN : Int) (gT : List Int) (gX : List Int) (gC : List Int) (r : Int) (h : R69 gN gT gX gC r) : ok69 gN gT gX gC = true ∧ v69 gN gT gX gC = r := okP_of h fun b hb => by
  have := RunF.uniq hb h
  simp_all
theorem at69 : P.funcs[69]? = some Try.f69 := by kernel_rfl
theorem callable69 : callable 69 = true := by kernel_rfl
theorem semok69 : SemOk (semOf ents69) := EntsOk.sem (.nil)
theorem memok69 : MemOk (memOf mems69) := EntsMOk.mem (.nil)
noncomputable def ent69 : Ent := fun args => match args with
  | [.agg [.int .i64 gN, .sl .int gT, .sl .int gX, .sl .int gC]] => some (true, ok69 gN gT gX gC, .int .i64 (v69 gN gT gX gC))
  | _ => none
theorem entok69 : EntOk 69 ent69 := fun args own r h => by
  unfold ent69 at h
  split at h
  · simp only [Option.some.injEq, Prod.mk.injEq] at h
    obtain ⟨rfl, h, rfl⟩ := h
    exact ⟨RunF.calls (fun _ => semok69) (fun _ => memok69) at69 rfl (Nat.le_of_ble_eq_true rfl) (fun _ => rfl) (okP_val h), callable69⟩
  · cases h
end Go.Proofs.Ytnfgfdeidkhdkaa.Eng
/- P72: watershed/rot.fine: its run from loop to loop, as Lean printed it (a program of this session's wrote these rows). No condition. -/
namespace Go.Proofs.Ytnfgfdeidkhdkaa.Eng
set_option linter.unusedVariables false
set_option maxRecDepth 100000
noncomputable def ents72 : List (Nat × Ent) := [(69, ent69)]
noncomputable def mems72 : List (Nat × EntM) := []
noncomputable def E72 (fu : Nat) : Env := ⟨19, 0, semOf ents72, [], memOf mems72, [], [], fu⟩
theorem fuel72 : Fuel E72 := fun _ => rfl
noncomputable def kr72 : St → Option CV := endK true Try.f72.results.toList
noncomputable def t72 (gN : Int) (gT : List Int) (gX : List Int) (gC : List Int) : Option Leaf :=
  bif ok69 gN gT gX gC then
   bif Decidable.decide (v69 gN gT gX gC = (0 : Int)) then
    some (.ret (CV.bool Bool.true))
   else
    bif Decidable.decide (gN = (0 : Int)) then
     some (.ret (CV.bool (Decidable.decide ((↑(List.length gT) : Int) = (0 : Int)))))
    else
     some (.ret (CV.bool Bool.false))
  else
   none
theorem c72 (fu : Nat) (gN : Int) (gT : List Int) (gX : List Int) (gC : List Int) : cutB (E72 fu) kr72 Try.f72 (⟨parT 0 [.agg [.int .i64 gN, .sl .int gT, .sl .int gX, .sl .int gC]], []⟩) = t72 gN gT gX gC := by kernel_rfl
def R72 (gN : Int) (gT : List Int) (gX : List Int) (gC : List Int) (r : Bool) : Prop := RunF E72 true Try.f72 [.agg [.int .i64 gN, .sl .int gT, .sl .int gX, .sl .int gC]] (.bool r)
theorem run72 (gN : Int) (gT : List Int) (gX : List Int) (gC : List Int) (r : Bool) (h : Good E72 kr72 (t72 gN gT gX gC) (.bool r)) : R72 gN gT gX gC r := RunF.of fuel72 (fun fu => c72 fu gN gT gX gC) h
noncomputable def ok72 (gN : Int) (gT : List Int) (gX : List Int) (gC : List Int) : Bool := okP (R72 gN gT gX gC)
noncomputable def v72 (gN : Int) (gT : List Int) (gX : List Int) (gC : List Int) : Bool := valP (R72 gN gT gX gC)
theorem sp72 (gN : Int) (gT : List Int) (gX : List Int) (gC : List Int) (r : Bool) (h : R72 gN gT gX gC r) : ok72 gN gT gX gC = true ∧ v72 gN gT gX gC = r := okP_of h fun b hb => by
  have := RunF.uniq hb h
  simp_all
theorem at72 : P.funcs[72]? = some Try.f72 := by kernel_rfl
theorem callable72 : callable 72 = true := by kernel_rfl
theorem semok72 : SemOk (semOf ents72) := EntsOk.sem (.cons entok69 (.nil))
theorem memok72 : MemOk (memOf mems72) := EntsMOk.mem (.nil)
noncomputable def ent72 : Ent := fun args => match args with
  | [.agg [.int .i64 gN, .sl .int gT, .sl .int gX, .sl .int gC]] => some (true, ok72 gN gT gX gC, .bool (v72 gN gT gX gC))
  | _ => none
theorem entok72 : EntOk 72 ent72 := fun args own r h => by
  unfold ent72 at h
  split at h
  · simp only [Option.some.injEq, Prod.mk.injEq] at h
    obtain ⟨rfl, h, rfl⟩ := h
    exact ⟨RunF.calls (fun _ => semok72) (fun _ => memok72) at72 rfl (Nat.le_of_ble_eq_true rfl) (fun _ => rfl) (okP_val h), callable72⟩
  · cases h
end Go.Proofs.Ytnfgfdeidkhdkaa.Eng
/- Lc: slices.Repeat of a row of one number; shape, fine. -/
namespace Go.Proofs.Ytnfgfdeidkhdkaa.Eng
set_option linter.unusedVariables false
set_option linter.unusedSimpArgs false
theorem u64_in' {n : Int} (h0 : 0 ≤ n) (h1 : n ≤ 18446744073709551615) : IntKind.wrap IntKind.u64 n = n := IntWalk.u64_in n ⟨h0, h1⟩
theorem and_low {n : Int} (h0 : 0 ≤ n) (h1 : n ≤ 4294967295) : bitsI .and .u64 n 4294967295 = n := by
  obtain ⟨m, rfl⟩ : ∃ m : Nat, n = m := ⟨n.toNat, by omega⟩
  have e : (BitVec.ofInt 64 (m : Int) &&& BitVec.ofInt 64 4294967295).toNat = m := by
    rw [BitVec.toNat_and]
    have a : (BitVec.ofInt 64 (m : Int)).toNat = m := by
      rw [BitVec.toNat_ofInt]; omega
    have b : (BitVec.ofInt 64 (4294967295 : Int)).toNat = 2 ^ 32 - 1 := by decide
    rw [a, b, Nat.and_two_pow_sub_one_eq_mod]
    omega
  unfold bitsI
  simp only
  show IntKind.wrap IntKind.u64 ((BitVec.ofInt 64 (m : Int) &&& BitVec.ofInt 64 4294967295).toNat : Int) = _
  rw [e, u64_in' (by omega) (by omega)]
theorem fdiv_low {n : Int} (h0 : 0 ≤ n) (h1 : n ≤ 4294967295) : Int.fdiv n ((2 : Int) ^ Min.min (Int.toNat 32) (IntKind.bits IntKind.u64)) = 0 := by
  have e : ((2 : Int) ^ Min.min (Int.toNat 32) (IntKind.bits IntKind.u64)) = 4294967296 := by decide
  rw [e, Int.fdiv_eq_ediv_of_nonneg _ (by decide)]
  omega
theorem f123 {n : Int} (h0 : 0 ≤ n) (h1 : n ≤ 4294967295) : ok123 1 n = true ∧ v123 1 n = (0, n) :=
  sp123 _ _ _ (run123 _ _ _ (by
    unfold t123
    have a1 : bitsI .and .u64 1 4294967295 = 1 := and_low (by decide) (by decide)
    have a2 : bitsI .and .u64 0 4294967295 = 0 := and_low (by decide) (by decide)
    have b1 := fdiv_low (n := 1) (by decide) (by decide)
    have b0 := fdiv_low (n := 0) (by decide) (by decide)
    have bn := fdiv_low h0 h1
    have w0 : IntKind.wrap IntKind.u64 0 = 0 := u64_in' (by decide) (by decide)
    have wn : IntKind.wrap IntKind.u64 n = n := u64_in' h0 (by omega)
    refine good_end ?_
    simp only [a1, a2, b1, b0, bn, and_low h0 h1, Int.zero_mul, Int.mul_zero, Int.one_mul, w0, wn, Int.zero_add, Int.add_zero]))
theorem f107 {n : Int} (h0 : 0 ≤ n) (h1 : n ≤ 4294967295) : ok107 1 n = true ∧ v107 1 n = (0, n) :=
  sp107 _ _ _ (run107 _ _ _ (by
    obtain ⟨a, b⟩ := f123 h0 h1
    unfold t107
    simp only [b]
    exact good_true a (good_end rfl)))
theorem tn0 : Int.toNat 0 = 0 := rfl
theorem rep_half {v : Int} {i m : Nat} (hi : 0 < i) (him : i < m) : List.take i (List.replicate i v ++ List.replicate (m - i) 0) ++ List.take (min (m - i) i) (List.take i (List.replicate i v ++ List.replicate (m - i) 0)) ++ List.drop (i + min (m - i) i) (List.replicate i v ++ List.replicate (m - i) (0 : Int)) = List.replicate (min (i + i) m) v ++ List.replicate (m - min (i + i) m) 0 := by
  rw [List.take_append_of_le_length (by simp), List.take_replicate, Nat.min_self, List.take_replicate, List.drop_append, List.drop_replicate, List.drop_replicate, List.length_replicate,
    List.replicate_append_replicate]
  have e1 : i + min (min (m - i) i) i = min (i + i) m := by omega
  have e2 : i - (i + min (m - i) i) = 0 := by omega
  have e3 : m - i - (i + min (m - i) i - i) = m - min (i + i) m := by omega
  rw [e1, e2, e3]; simp
theorem l75 {v : Int} {m : Nat} (hm : m ≤ 4294967296) : ∀ (k i : Nat), 0 < i → i ≤ m → m < i * 2 ^ k + 1 → Lead E75 kr75 (.sl .int (List.replicate m v)) (a75_8 (i : Int) (List.replicate i v ++ List.replicate (m - i) 0)) := by
  intro k
  induction k with
  | zero =>
    intro i h0 h1 h2
    obtain rfl : i = m := by omega
    refine h75_8 _ _ _ ?_
    unfold t75_8
    simp only [List.length_append, List.length_replicate, Nat.sub_self, List.replicate_zero, List.append_nil, Nat.add_zero]
    refine good_neg (by omega) ?_
    exact good_end rfl
  | succ k ih =>
    intro i h0 h1 h2
    by_cases hi : i = m
    · subst hi
      refine h75_8 _ _ _ ?_
      unfold t75_8
      simp only [List.length_append, List.length_replicate, Nat.sub_self, List.replicate_zero, List.append_nil, Nat.add_zero]
      refine good_neg (by omega) ?_
      exact good_end rfl
    · refine h75_8 _ _ _ ?_
      unfold t75_8
      have e0 : i + (m - i) = m := by omega
      have e2 : List.take i (List.replicate i v ++ List.replicate (m - i) (0 : Int)) = List.replicate i v := by
        rw [List.take_append_of_le_length (by simp), List.take_replicate, Nat.min_self]
      simp only [tn0, Nat.sub_zero, List.drop_zero, Int.toNat_natCast]
      have e5 : (List.replicate i v ++ List.replicate (m - i) (0 : Int)).length = m := by simp; omega
      simp only [e5]
      have e4 : (List.take i (List.replicate i v ++ List.replicate (m - i) (0 : Int))).length = i := by rw [e2, List.length_replicate]
      simp only [e4]
      repeat (first | (refine good_pos (by omega) ?_) | (refine good_pos trivial ?_) | (refine good_neg (by omega) ?_) | (refine good_npos (by omega) ?_) | (refine good_nneg (by omega) ?_) | (refine good_gi (by omega) (by omega) ?_) | (refine good_gb (by omega) (by omega) ?_) | (refine good_ble (by omega) ?_))
      have := ih (min (i + i) m) (by omega) (by omega) (by
        rw [Nat.pow_succ] at h2
        by_cases h : i + i ≤ m
        · rw [Nat.min_eq_left h]
          have : (i + i) * 2 ^ k = i * (2 ^ k * 2) := by rw [Nat.add_mul, Nat.mul_comm (2 ^ k), ← Nat.mul_assoc, Nat.mul_comm i 2, Nat.mul_assoc]; omega
          omega
        · rw [Nat.min_eq_right (by omega)]
          have : 0 < 2 ^ k := Nat.two_pow_pos k
          have : m * 1 ≤ m * 2 ^ k := Nat.mul_le_mul_left m this
          omega)
      rw [rep_half h0 (by omega)]
      have e3 : IntKind.wrap IntKind.i64 ((i : Int) + ((min (m - i) i : Nat) : Int)) = ((min (i + i) m : Nat) : Int) := by
        rw [wrap_in (by omega) (by omega)]; omega
      rw [e3]
      exact good_at this
theorem f75 {v n : Int} (h0 : 0 ≤ n) (h1 : n ≤ 4294967295) : ok75 [v] n = true ∧ v75 [v] n = List.replicate n.toNat v :=
  sp75 _ _ _ (run75 _ _ _ (by
    obtain ⟨a, b⟩ := f107 h0 h1
    unfold t75
    have e1 : IntKind.wrap IntKind.u64 (([v].length : Nat) : Int) = 1 := by rw [u64_in'] <;> simp
    have e2 : IntKind.wrap IntKind.u64 n = n := u64_in' h0 (by omega)
    have e3 : IntKind.wrap IntKind.i64 n = n := wrap_in (by omega) (by omega)
    simp only [e1, e2, b, e3]
    refine good_neg (by omega) (good_true a ?_)
    repeat (first | (refine good_pos (by omega) ?_) | (refine good_pos trivial ?_) | (refine good_neg (by omega) ?_) | (refine good_npos (by omega) ?_) | (refine good_nneg (by omega) ?_) | (refine good_gi (by omega) (by omega) ?_) | (refine good_gb (by omega) (by omega) ?_) | (refine good_ble (by omega) ?_))
    simp only [List.length_replicate, List.length_singleton]
    by_cases hn : n = 0
    · subst hn
      refine good_at (h75_8 _ _ _ ?_)
      unfold t75_8
      refine good_neg (by simp) ?_
      exact good_end (by simp)
    · have hm : min n.toNat 1 = 1 := by omega
      rw [hm]
      have := l75 (v := v) (m := n.toNat) (by omega) 33 1 (by omega) (by omega) (by omega)
      simpa [good_some] using this))
end Go.Proofs.Ytnfgfdeidkhdkaa.Eng
/- Ld: shape and fine: the error of a net's rows. -/
namespace Go.Proofs.Ytnfgfdeidkhdkaa.Eng
set_option linter.unusedVariables false
set_option linter.unusedSimpArgs false
/-- all of a row are from 0 to m - 1 -/
def InR (l : List Int) (m : Int) : Prop := ∀ d : Int, 0 ≤ d → d < (l.length : Int) → 0 ≤ gi l d ∧ gi l d < m
noncomputable section
open Classical
def shapeE (N : Int) (T X C : List Int) : Int :=
  if 60 < N ∨ 240 < (T.length : Int) then 2 else if ¬ ((X.length : Int) = T.length ∧ (C.length : Int) = T.length ∧ (T.length : Int) % 2 = 0) then 5
  else if InR X T.length then (if N < 1 then 3 else if InR T N then 0 else 3) else 5
end
/-- a net whose rows may be gone along -/
structure Shape (N : Int) (T X C : List Int) : Prop where
  n0 : 1 ≤ N
  n1 : N ≤ 60
  k : (T.length : Int) ≤ 240
  x : (X.length : Int) = T.length
  c : (C.length : Int) = T.length
  e : (T.length : Int) % 2 = 0
  xr : InR X T.length
  tr : InR T N
theorem shape_iff {N : Int} {T X C : List Int} : shapeE N T X C = 0 ↔ Shape N T X C := by
  unfold shapeE
  constructor
  · intro h
    split at h
    · cases h
    · split at h
      · cases h
      · split at h
        · split at h
          · cases h
          · split at h
            · rename_i h1 h2 h3 h4 h5
              exact ⟨by omega, by omega, by omega, by omega, by omega, by omega, h3, h5⟩
            · cases h
        · cases h
  · intro h
    have h1 := h.n0
    have h2 := h.n1
    have h3 := h.k
    rw [if_neg (by omega), if_neg (fun c => c ⟨h.x, h.c, h.e⟩), if_pos h.xr, if_neg (by omega), if_pos h.tr]
theorem inR_step {l : List Int} {m i : Int} (h : ∀ d : Int, 0 ≤ d → d < i → 0 ≤ gi l d ∧ gi l d < m) (hi : 0 ≤ gi l i ∧ gi l i < m) : ∀ d : Int, 0 ≤ d → d < i + 1 → 0 ≤ gi l d ∧ gi l d < m := by
  intro d h0 h1
  by_cases e : d = i
  · subst e; exact hi
  · exact h d h0 (by omega)
open Classical in
theorem l69_15 {T X C : List Int} {N : Int} (hT : (T.length : Int) ≤ 240) : ∀ (n : Nat) (i : Int), 0 ≤ i → i ≤ T.length → (T.length : Int) - i = n → (∀ d : Int, 0 ≤ d → d < i → 0 ≤ gi T d ∧ gi T d < N) →
    Lead E69 kr69 (.int .i64 (if InR T N then 0 else 3)) (a69_15 T (T.length : Int) i N T X C) := by
  intro n
  induction n with
  | zero =>
    intro i h0 h1 h2 h
    refine h69_15 _ _ _ _ _ _ _ _ ?_
    unfold t69_15
    repeat (first | (refine good_pos (by omega) ?_) | (refine good_pos trivial ?_) | (refine good_neg (by omega) ?_) | (refine good_npos (by omega) ?_) | (refine good_nneg (by omega) ?_) | (refine good_gi (by omega) (by omega) ?_) | (refine good_gb (by omega) (by omega) ?_) | (refine good_ble (by omega) ?_))
    rw [if_pos (show InR T N from fun d hd hd' => h d hd (by omega))]
    exact good_end rfl
  | succ n ih =>
    intro i h0 h1 h2 h
    refine h69_15 _ _ _ _ _ _ _ _ ?_
    unfold t69_15
    by_cases c1 : gi T i < 0
    · repeat (first | (refine good_pos (by omega) ?_) | (refine good_pos trivial ?_) | (refine good_neg (by omega) ?_) | (refine good_npos (by omega) ?_) | (refine good_nneg (by omega) ?_) | (refine good_gi (by omega) (by omega) ?_) | (refine good_gb (by omega) (by omega) ?_) | (refine good_ble (by omega) ?_))
      rw [if_neg (fun hh => by have := hh i h0 (by omega); omega)]
      exact good_end rfl
    by_cases c2 : N ≤ gi T i
    · repeat (first | (refine good_pos (by omega) ?_) | (refine good_pos trivial ?_) | (refine good_neg (by omega) ?_) | (refine good_npos (by omega) ?_) | (refine good_nneg (by omega) ?_) | (refine good_gi (by omega) (by omega) ?_) | (refine good_gb (by omega) (by omega) ?_) | (refine good_ble (by omega) ?_))
      rw [if_neg (fun hh => by have := hh i h0 (by omega); omega)]
      exact good_end rfl
    · repeat (first | (refine good_pos (by omega) ?_) | (refine good_pos trivial ?_) | (refine good_neg (by omega) ?_) | (refine good_npos (by omega) ?_) | (refine good_nneg (by omega) ?_) | (refine good_gi (by omega) (by omega) ?_) | (refine good_gb (by omega) (by omega) ?_) | (refine good_ble (by omega) ?_))
      simp (disch := omega) only [wrap_in]
      exact good_at (ih (i + 1) (by omega) (by omega) (by omega) (inR_step h (by omega)))
open Classical in
theorem l69_7 {T X C : List Int} {N : Int} (hT : (T.length : Int) ≤ 240) (hX : (X.length : Int) = T.length) : ∀ (n : Nat) (i : Int), 0 ≤ i → i ≤ X.length → (X.length : Int) - i = n → (∀ d : Int, 0 ≤ d → d < i → 0 ≤ gi X d ∧ gi X d < (T.length : Int)) →
    Lead E69 kr69 (.int .i64 (if InR X T.length then (if N < 1 then 3 else if InR T N then 0 else 3) else 5)) (a69_7 (T.length : Int) X (X.length : Int) i N T X C) := by
  intro n
  induction n with
  | zero =>
    intro i h0 h1 h2 h
    refine h69_7 _ _ _ _ _ _ _ _ _ ?_
    unfold t69_7
    rw [if_pos (show InR X T.length from fun d hd hd' => h d hd (by omega))]
    by_cases c : N < 1
    · repeat (first | (refine good_pos (by omega) ?_) | (refine good_pos trivial ?_) | (refine good_neg (by omega) ?_) | (refine good_npos (by omega) ?_) | (refine good_nneg (by omega) ?_) | (refine good_gi (by omega) (by omega) ?_) | (refine good_gb (by omega) (by omega) ?_) | (refine good_ble (by omega) ?_))
      rw [if_pos c]
      exact good_end rfl
    · repeat (first | (refine good_pos (by omega) ?_) | (refine good_pos trivial ?_) | (refine good_neg (by omega) ?_) | (refine good_npos (by omega) ?_) | (refine good_nneg (by omega) ?_) | (refine good_gi (by omega) (by omega) ?_) | (refine good_gb (by omega) (by omega) ?_) | (refine good_ble (by omega) ?_))
      rw [if_neg c]
      exact good_at (l69_15 hT T.length 0 (by omega) (by omega) (by omega) (fun d _ _ => by omega))
  | succ n ih =>
    intro i h0 h1 h2 h
    refine h69_7 _ _ _ _ _ _ _ _ _ ?_
    unfold t69_7
    by_cases c1 : gi X i < 0
    · repeat (first | (refine good_pos (by omega) ?_) | (refine good_pos trivial ?_) | (refine good_neg (by omega) ?_) | (refine good_npos (by omega) ?_) | (refine good_nneg (by omega) ?_) | (refine good_gi (by omega) (by omega) ?_) | (refine good_gb (by omega) (by omega) ?_) | (refine good_ble (by omega) ?_))
      rw [if_neg (fun hh => by have := hh i h0 (by omega); omega)]
      exact good_end rfl
    by_cases c2 : (T.length : Int) ≤ gi X i
    · repeat (first | (refine good_pos (by omega) ?_) | (refine good_pos trivial ?_) | (refine good_neg (by omega) ?_) | (refine good_npos (by omega) ?_) | (refine good_nneg (by omega) ?_) | (refine good_gi (by omega) (by omega) ?_) | (refine good_gb (by omega) (by omega) ?_) | (refine good_ble (by omega) ?_))
      rw [if_neg (fun hh => by have := hh i h0 (by omega); omega)]
      exact good_end rfl
    · repeat (first | (refine good_pos (by omega) ?_) | (refine good_pos trivial ?_) | (refine good_neg (by omega) ?_) | (refine good_npos (by omega) ?_) | (refine good_nneg (by omega) ?_) | (refine good_gi (by omega) (by omega) ?_) | (refine good_gb (by omega) (by omega) ?_) | (refine good_ble (by omega) ?_))
      simp (disch := omega) only [wrap_in]
      exact good_at (ih (i + 1) (by omega) (by omega) (by omega) (inR_step h (by omega)))
theorem f69 (N : Int) (T X C : List Int) : ok69 N T X C = true ∧ v69 N T X C = shapeE N T X C :=
  sp69 _ _ _ _ _ (run69 _ _ _ _ _ (by
    have et : Int.tmod (T.length : Int) 2 = (T.length : Int) % 2 := Int.tmod_eq_emod_of_nonneg (by omega)
    unfold t69 shapeE
    rw [et]
    by_cases c1 : 60 < N
    · repeat (first | (refine good_pos (by omega) ?_) | (refine good_pos trivial ?_) | (refine good_neg (by omega) ?_) | (refine good_npos (by omega) ?_) | (refine good_nneg (by omega) ?_) | (refine good_gi (by omega) (by omega) ?_) | (refine good_gb (by omega) (by omega) ?_) | (refine good_ble (by omega) ?_))
      rw [if_pos (.inl c1)]; exact good_end rfl
    by_cases c2 : 240 < (T.length : Int)
    · repeat (first | (refine good_pos (by omega) ?_) | (refine good_pos trivial ?_) | (refine good_neg (by omega) ?_) | (refine good_npos (by omega) ?_) | (refine good_nneg (by omega) ?_) | (refine good_gi (by omega) (by omega) ?_) | (refine good_gb (by omega) (by omega) ?_) | (refine good_ble (by omega) ?_))
      rw [if_pos (.inr c2)]; exact good_end rfl
    rw [if_neg (by omega)]
    by_cases c3 : (X.length : Int) = T.length
    · by_cases c4 : (C.length : Int) = T.length
      · by_cases c5 : (T.length : Int) % 2 = 0
        · repeat (first | (refine good_pos (by omega) ?_) | (refine good_pos trivial ?_) | (refine good_neg (by omega) ?_) | (refine good_npos (by omega) ?_) | (refine good_nneg (by omega) ?_) | (refine good_gi (by omega) (by omega) ?_) | (refine good_gb (by omega) (by omega) ?_) | (refine good_ble (by omega) ?_))
          rw [if_neg (by omega)]
          exact good_at (l69_7 (by omega) c3 X.length 0 (by omega) (by omega) (by omega) (fun d _ _ => by omega))
        · repeat (first | (refine good_pos (by omega) ?_) | (refine good_pos trivial ?_) | (refine good_neg (by omega) ?_) | (refine good_npos (by omega) ?_) | (refine good_nneg (by omega) ?_) | (refine good_gi (by omega) (by omega) ?_) | (refine good_gb (by omega) (by omega) ?_) | (refine good_ble (by omega) ?_))
          rw [if_pos (by omega)]; exact good_end rfl
      · repeat (first | (refine good_pos (by omega) ?_) | (refine good_pos trivial ?_) | (refine good_neg (by omega) ?_) | (refine good_npos (by omega) ?_) | (refine good_nneg (by omega) ?_) | (refine good_gi (by omega) (by omega) ?_) | (refine good_gb (by omega) (by omega) ?_) | (refine good_ble (by omega) ?_))
        rw [if_pos (by omega)]; exact good_end rfl
    · repeat (first | (refine good_pos (by omega) ?_) | (refine good_pos trivial ?_) | (refine good_neg (by omega) ?_) | (refine good_npos (by omega) ?_) | (refine good_nneg (by omega) ?_) | (refine good_gi (by omega) (by omega) ?_) | (refine good_gb (by omega) (by omega) ?_) | (refine good_ble (by omega) ?_))
      rw [if_pos (by omega)]; exact good_end rfl))
/-- the rows may be gone along, or there are none -/
def FineN (N : Int) (T X C : List Int) : Prop := Shape N T X C ∨ (N = 0 ∧ (T.length : Int) = 0)
theorem f72 (N : Int) (T X C : List Int) : ok72 N T X C = true ∧ (v72 N T X C = true ↔ FineN N T X C) := by
  obtain ⟨a, b⟩ := f69 N T X C
  refine okv (p := fun r => r = true ↔ FineN N T X C) ?_
  by_cases c : shapeE N T X C = 0
  · refine ⟨true, sp72 _ _ _ _ _ (run72 _ _ _ _ _ ?_), by simp [FineN, shape_iff.1 c]⟩
    unfold t72
    rw [b]
    refine good_true a (good_pos c ?_)
    exact good_end rfl
  · have hs : ¬ Shape N T X C := fun h => c (shape_iff.2 h)
    refine ⟨decide (N = 0 ∧ (T.length : Int) = 0), sp72 _ _ _ _ _ (run72 _ _ _ _ _ ?_), by simp [FineN, hs]⟩
    unfold t72
    rw [b]
    refine good_true a (good_neg c ?_)
    by_cases c0 : N = 0
    · repeat (first | (refine good_pos (by omega) ?_) | (refine good_pos trivial ?_) | (refine good_neg (by omega) ?_) | (refine good_npos (by omega) ?_) | (refine good_nneg (by omega) ?_) | (refine good_gi (by omega) (by omega) ?_) | (refine good_gb (by omega) (by omega) ?_) | (refine good_ble (by omega) ?_))
      exact good_end (by simp [c0])
    · repeat (first | (refine good_pos (by omega) ?_) | (refine good_pos trivial ?_) | (refine good_neg (by omega) ?_) | (refine good_npos (by omega) ?_) | (refine good_nneg (by omega) ?_) | (refine good_gi (by omega) (by omega) ?_) | (refine good_gb (by omega) (by omega) ?_) | (refine good_ble (by omega) ?_))
      exact good_end (by simp [c0])
end Go.Proofs.Ytnfgfdeidkhdkaa.Eng
/- Le: Plain: pieces of a net: which vertices hang together; pieces numbered by their least vertices. -/
namespace Go.Proofs.Ytnfgfdeidkhdkaa.Eng
set_option linter.unusedVariables false
set_option linter.unusedSimpArgs false
theorem oth_oth (d : Int) : oth (oth d) = d := by unfold oth; split <;> split <;> omega
theorem oth_in {d m : Int} (h0 : 0 ≤ d) (h1 : d < m) (he : m % 2 = 0) : 0 ≤ oth d ∧ oth d < m := by unfold oth; split <;> omega
theorem oth_ne (d : Int) : oth d ≠ d := by unfold oth; split <;> omega
/-- darts lead from the one vertex to the other -/
inductive Conn (T : List Int) (u : Int) : Int → Prop
  | refl : Conn T u u
  | step {v d : Int} : Conn T u v → 0 ≤ d → d < (T.length : Int) → gi T d = v → Conn T u (gi T (oth d))
theorem Conn.trans {T : List Int} {u v w : Int} (h : Conn T u v) (h' : Conn T v w) : Conn T u w := by
  induction h' with
  | refl => exact h
  | step _ h0 h1 h2 ih => exact .step ih h0 h1 h2
theorem Conn.symm {T : List Int} (he : (T.length : Int) % 2 = 0) {u v : Int} (h : Conn T u v) : Conn T v u := by
  induction h with
  | refl => exact .refl
  | @step v d _ h0 h1 h2 ih =>
    have ho := oth_in h0 h1 he
    have : Conn T (gi T (oth d)) (gi T (oth (oth d))) := .step .refl ho.1 ho.2 rfl
    rw [oth_oth, h2] at this
    exact this.trans ih
theorem Conn.range {T : List Int} {N : Int} (he : (T.length : Int) % 2 = 0) (ht : InR T N) {u v : Int} (h : Conn T u v) (hu : 0 ≤ u ∧ u < N) : 0 ≤ v ∧ v < N := by
  cases h with
  | refl => exact hu
  | step _ h0 h1 h2 => exact ht _ (oth_in h0 h1 he).1 (oth_in h0 h1 he).2
/-- the least of its piece -/
def Root (T : List Int) (v : Int) : Prop := ∀ u : Int, 0 ≤ u → u < v → ¬ Conn T u v
noncomputable section
open Classical
/-- so many pieces begin ahead of it -/
def rkN (T : List Int) : Nat → Int
  | 0 => 0
  | n + 1 => rkN T n + if Root T (n : Int) then 1 else 0
def rk (T : List Int) (v : Int) : Int := rkN T v.toNat
theorem rk_succ {T : List Int} {v : Int} (h : 0 ≤ v) : rk T (v + 1) = rk T v + if Root T v then 1 else 0 := by
  obtain ⟨n, rfl⟩ : ∃ n : Nat, v = n := ⟨v.toNat, by omega⟩
  unfold rk
  have e : ((n : Int) + 1).toNat = n + 1 := by omega
  rw [e, Int.toNat_natCast]; rfl
theorem rk_root {T : List Int} {v : Int} (h : 0 ≤ v) (hr : Root T v) : rk T (v + 1) = rk T v + 1 := by rw [rk_succ h, if_pos hr]
theorem rk_not {T : List Int} {v : Int} (h : 0 ≤ v) (hr : ¬ Root T v) : rk T (v + 1) = rk T v := by rw [rk_succ h, if_neg hr]; omega
end
theorem rk_zero (T : List Int) : rk T 0 = 0 := rfl
theorem rk_mono {T : List Int} {v : Int} (h : 0 ≤ v) : ∀ n : Nat, rk T v ≤ rk T (v + n)
  | 0 => by simp
  | n + 1 => by
    have := rk_mono (T := T) h n
    have e := rk_succ (T := T) (v := v + n) (by omega)
    have e2 : v + ((n + 1 : Nat) : Int) = v + n + 1 := by omega
    rw [e2, e]
    split <;> omega
theorem rk_le {T : List Int} {v w : Int} (h : 0 ≤ v) (hw : v ≤ w) : rk T v ≤ rk T w := by
  have := rk_mono (T := T) h (w - v).toNat
  have e : v + ((w - v).toNat : Int) = w := by omega
  rwa [e] at this
theorem rk_lt {T : List Int} {v w : Int} (h : 0 ≤ v) (hr : Root T v) (hw : v < w) : rk T v < rk T w := by
  have := rk_le (T := T) (v := v + 1) (w := w) (by omega) (by omega)
  rw [rk_root h hr] at this
  omega
theorem rk_inj {T : List Int} {v w : Int} (h : 0 ≤ v) (hr : Root T v) (h' : 0 ≤ w) (hr' : Root T w) (e : rk T v = rk T w) : v = w := by
  by_cases h1 : v < w
  · have := rk_lt h hr h1; omega
  by_cases h2 : w < v
  · have := rk_lt h' hr' h2; omega
  omega
theorem rk_nonneg (T : List Int) {v : Int} (h : 0 ≤ v) : 0 ≤ rk T v := by have := rk_le (T := T) (Int.le_refl 0) h; rwa [rk_zero] at this
theorem rk_max {T : List Int} : ∀ n : Nat, rk T (n : Int) ≤ n
  | 0 => by rw [show ((0 : Nat) : Int) = 0 from rfl, rk_zero]; omega
  | n + 1 => by
    have := rk_max (T := T) n
    have e := rk_succ (T := T) (v := (n : Int)) (by omega)
    have e2 : ((n + 1 : Nat) : Int) = (n : Int) + 1 := by omega
    rw [e2, e]
    split <;> omega
theorem rk_self {T : List Int} {v : Int} (h : 0 ≤ v) : rk T v ≤ v := by
  have := rk_max (T := T) v.toNat
  have e : (v.toNat : Int) = v := by omega
  rwa [e] at this
/-- each vertex has a least one of its piece -/
theorem has_root {T : List Int} (he : (T.length : Int) % 2 = 0) : ∀ (n : Nat) (v : Int), 0 ≤ v → v ≤ n → ∃ w, 0 ≤ w ∧ w ≤ v ∧ Root T w ∧ Conn T w v := by
  intro n
  induction n with
  | zero =>
    intro v h0 h1
    exact ⟨v, h0, Int.le_refl v, fun u hu hu' => by omega, .refl⟩
  | succ n ih =>
    intro v h0 h1
    by_cases hr : Root T v
    · exact ⟨v, h0, Int.le_refl v, hr, .refl⟩
    · unfold Root at hr
      simp only [Classical.not_forall, Classical.not_not] at hr
      obtain ⟨u, hu, hu', hc⟩ := hr
      obtain ⟨w, w0, w1, w2, w3⟩ := ih u hu (by omega)
      exact ⟨w, w0, by omega, w2, w3.trans hc⟩
theorem root_uniq {T : List Int} (he : (T.length : Int) % 2 = 0) {v w : Int} (h : 0 ≤ v) (hr : Root T v) (h' : 0 ≤ w) (hr' : Root T w) (hc : Conn T v w) : v = w := by
  by_cases h1 : v < w
  · exact absurd hc (hr' v h h1)
  by_cases h2 : w < v
  · exact absurd (hc.symm he) (hr w h' h2)
  omega
/-- the pieces are numbered as they are to be -/
structure Parted (N : Int) (T p : List Int) (k : Int) : Prop where
  len : (p.length : Int) = N
  num : ∀ u : Int, 0 ≤ u → u < N → ∃ w, 0 ≤ w ∧ w ≤ u ∧ Root T w ∧ Conn T w u ∧ gi p u = rk T w
  k : k = rk T N
theorem Parted.uniq {N : Int} {T p q : List Int} {k j : Int} (he : (T.length : Int) % 2 = 0) (h : Parted N T p k) (h' : Parted N T q j) : p = q ∧ k = j := by
  refine ⟨gi_ext (by have := h.len; have := h'.len; omega) fun x h0 h1 => ?_, by rw [h.k, h'.k]⟩
  have hl := h.len
  obtain ⟨w, a1, a2, a3, a4, a5⟩ := h.num x h0 (by omega)
  obtain ⟨z, b1, b2, b3, b4, b5⟩ := h'.num x h0 (by omega)
  rw [a5, b5, root_uniq he a1 a3 b1 b3 (a4.trans (b4.symm he))]
theorem Parted.eq_iff {N : Int} {T p : List Int} {k : Int} (he : (T.length : Int) % 2 = 0) (h : Parted N T p k) {x y : Int} (hx : 0 ≤ x ∧ x < N) (hy : 0 ≤ y ∧ y < N) : gi p x = gi p y ↔ Conn T x y := by
  obtain ⟨w, a1, a2, a3, a4, a5⟩ := h.num x hx.1 hx.2
  obtain ⟨z, b1, b2, b3, b4, b5⟩ := h.num y hy.1 hy.2
  rw [a5, b5]
  constructor
  · intro e
    obtain rfl := rk_inj a1 a3 b1 b3 e
    exact (a4.symm he).trans b4
  · intro hc
    rw [root_uniq he a1 a3 b1 b3 ((a4.trans hc).trans (b4.symm he))]
theorem parted_ex {N : Int} {T : List Int} (he : (T.length : Int) % 2 = 0) (hN : 0 ≤ N) : ∃ q, Parted N T q (rk T N) := by
  have h : ∀ i : Nat, ∃ w, 0 ≤ w ∧ w ≤ (i : Int) ∧ Root T w ∧ Conn T w (i : Int) := fun i => has_root he i (i : Int) (by omega) (by omega)
  obtain ⟨f, hf⟩ := Classical.axiomOfChoice h
  refine ⟨(List.range N.toNat).map fun i => rk T (f i), by simp; omega, fun u u0 u1 => ?_, rfl⟩
  obtain ⟨i, rfl⟩ : ∃ i : Nat, u = i := ⟨u.toNat, by omega⟩
  obtain ⟨h1, h2, h3, h4⟩ := hf i
  refine ⟨f i, h1, h2, h3, h4, ?_⟩
  rw [gi_get (by simp; omega)]
  simp
/-- so many below nought -/
def negs (l : List Int) : Nat := l.countP fun x => decide (x < 0)
theorem negs_set {l : List Int} {x v : Int} (h0 : 0 ≤ x) (h1 : x < (l.length : Int)) (hn : gi l x < 0) (hv : 0 ≤ v) : negs (l.set x.toNat v) < negs l := by
  unfold negs
  have hi : x.toNat < l.length := by omega
  have hg : l[x.toNat] = gi l x := by rw [← gi_get hi]; congr 1; omega
  have hpos : 0 < l.countP fun x => decide (x < 0) := List.countP_pos_iff.2 ⟨l[x.toNat], List.getElem_mem hi, by rw [hg]; simpa using hn⟩
  rw [List.countP_set hi, hg]
  simp only [hn, decide_true, if_true, show ¬ v < 0 by omega, decide_false, Bool.false_eq_true, if_false]
  omega
end Go.Proofs.Ytnfgfdeidkhdkaa.Eng
/- Lj: Plain: what is gone round by a step; classes numbered by their least; counting. -/
namespace Go.Proofs.Ytnfgfdeidkhdkaa.Eng
set_option linter.unusedVariables false
set_option linter.unusedSimpArgs false
/-! ### counting -/
noncomputable section
open Classical
def cntN (p : Int → Prop) : Nat → Int
  | 0 => 0
  | n + 1 => cntN p n + if p (n : Int) then 1 else 0
def cnt (p : Int → Prop) (v : Int) : Int := cntN p v.toNat
theorem cnt_zero (p : Int → Prop) : cnt p 0 = 0 := rfl
theorem cnt_succ {p : Int → Prop} {v : Int} (h : 0 ≤ v) : cnt p (v + 1) = cnt p v + if p v then 1 else 0 := by
  obtain ⟨n, rfl⟩ : ∃ n : Nat, v = n := ⟨v.toNat, by omega⟩
  unfold cnt
  have e : ((n : Int) + 1).toNat = n + 1 := by omega
  rw [e, Int.toNat_natCast]; rfl
theorem cnt_yes {p : Int → Prop} {v : Int} (h : 0 ≤ v) (hp : p v) : cnt p (v + 1) = cnt p v + 1 := by rw [cnt_succ h, if_pos hp]
theorem cnt_no {p : Int → Prop} {v : Int} (h : 0 ≤ v) (hp : ¬ p v) : cnt p (v + 1) = cnt p v := by rw [cnt_succ h, if_neg hp]; omega
theorem cnt_mono {p : Int → Prop} {v : Int} (h : 0 ≤ v) : ∀ n : Nat, cnt p v ≤ cnt p (v + n)
  | 0 => by simp
  | n + 1 => by
    have := cnt_mono (p := p) h n
    have e := cnt_succ (p := p) (v := v + n) (by omega)
    have e2 : v + ((n + 1 : Nat) : Int) = v + n + 1 := by omega
    rw [e2, e]
    split <;> omega
end
theorem cnt_le {p : Int → Prop} {v w : Int} (h : 0 ≤ v) (hw : v ≤ w) : cnt p v ≤ cnt p w := by
  have := cnt_mono (p := p) h (w - v).toNat
  have e : v + ((w - v).toNat : Int) = w := by omega
  rwa [e] at this
theorem cnt_lt {p : Int → Prop} {v w : Int} (h : 0 ≤ v) (hr : p v) (hw : v < w) : cnt p v < cnt p w := by
  have := cnt_le (p := p) (v := v + 1) (w := w) (by omega) (by omega)
  rw [cnt_yes h hr] at this
  omega
theorem cnt_inj {p : Int → Prop} {v w : Int} (h : 0 ≤ v) (hr : p v) (h' : 0 ≤ w) (hr' : p w) (e : cnt p v = cnt p w) : v = w := by
  by_cases h1 : v < w
  · have := cnt_lt h hr h1; omega
  by_cases h2 : w < v
  · have := cnt_lt h' hr' h2; omega
  omega
theorem cnt_nonneg (p : Int → Prop) {v : Int} (h : 0 ≤ v) : 0 ≤ cnt p v := by have := cnt_le (p := p) (Int.le_refl 0) h; rwa [cnt_zero] at this
theorem cnt_self {p : Int → Prop} {v : Int} (h : 0 ≤ v) : cnt p v ≤ v := by
  obtain ⟨n, rfl⟩ : ∃ n : Nat, v = n := ⟨v.toNat, by omega⟩
  induction n with
  | zero => rw [show ((0 : Nat) : Int) = 0 from rfl, cnt_zero]; omega
  | succ n ih =>
    have := ih (by omega)
    have e2 : ((n + 1 : Nat) : Int) = (n : Int) + 1 := by omega
    rw [e2, cnt_succ (by omega)]
    split <;> omega
theorem cnt_congr {p q : Int → Prop} {v : Int} (h : ∀ x : Int, 0 ≤ x → x < v → (p x ↔ q x)) (hv : 0 ≤ v) : cnt p v = cnt q v := by
  obtain ⟨n, rfl⟩ : ∃ n : Nat, v = n := ⟨v.toNat, by omega⟩
  induction n with
  | zero => rfl
  | succ n ih =>
    have := ih (fun x h0 h1 => h x h0 (by omega)) (by omega)
    have e2 : ((n + 1 : Nat) : Int) = (n : Int) + 1 := by omega
    rw [e2, cnt_succ (by omega), cnt_succ (by omega), this]
    by_cases c : p (n : Int)
    · rw [if_pos c, if_pos ((h n (by omega) (by omega)).1 c)]
    · rw [if_neg c, if_neg (fun c' => c ((h n (by omega) (by omega)).2 c'))]
theorem len_le : ∀ {l m : List Int}, l.Nodup → (∀ x, x ∈ l → x ∈ m) → l.length ≤ m.length
  | [], m, _, _ => Nat.zero_le _
  | a :: l, m, h, hs => by
    rw [List.nodup_cons] at h
    have ha : a ∈ m := hs a (List.mem_cons_self ..)
    have := len_le (l := l) (m := m.erase a) h.2 (fun x hx => (List.mem_erase_of_ne (fun e : x = a => by subst e; exact h.1 hx)).2 (hs x (List.mem_cons_of_mem _ hx)))
    rw [List.length_erase_of_mem ha] at this
    have : 0 < m.length := List.length_pos_of_mem ha
    simp only [List.length_cons]
    omega
/-- those below that have it, in a row -/
theorem cnt_list (p : Int → Prop) (n : Nat) : ∃ l : List Int, l.Nodup ∧ (l.length : Int) = cnt p (n : Int) ∧ ∀ x : Int, x ∈ l ↔ 0 ≤ x ∧ x < (n : Int) ∧ p x := by
  induction n with
  | zero => exact ⟨[], List.nodup_nil, rfl, fun x => by simp; omega⟩
  | succ n ih =>
    obtain ⟨l, h1, h2, h3⟩ := ih
    have e2 : ((n + 1 : Nat) : Int) = (n : Int) + 1 := by omega
    by_cases c : p (n : Int)
    · refine ⟨(n : Int) :: l, ?_, ?_, fun x => ?_⟩
      · rw [List.nodup_cons]
        exact ⟨fun h => by have := (h3 _).1 h; omega, h1⟩
      · rw [e2, cnt_yes (by omega) c, List.length_cons]; omega
      · rw [List.mem_cons, h3]
        constructor
        · rintro (rfl | ⟨a, b, c⟩)
          · exact ⟨by omega, by omega, c⟩
          · exact ⟨a, by omega, c⟩
        · rintro ⟨a, b, c⟩
          by_cases e : x = n
          · exact .inl e
          · exact .inr ⟨a, by omega, c⟩
    · refine ⟨l, h1, by rw [e2, cnt_no (by omega) c]; exact h2, fun x => ?_⟩
      rw [h3]
      constructor
      · rintro ⟨a, b, c⟩; exact ⟨a, by omega, c⟩
      · rintro ⟨a, b, d⟩
        refine ⟨a, ?_, d⟩
        by_cases e : x = n
        · subst e; exact absurd d c
        · omega
theorem cnt_of_list {p : Int → Prop} {v : Int} (hv : 0 ≤ v) {l : List Int} (h : l.Nodup) (hm : ∀ x : Int, x ∈ l ↔ 0 ≤ x ∧ x < v ∧ p x) : cnt p v = l.length := by
  obtain ⟨n, rfl⟩ : ∃ n : Nat, v = n := ⟨v.toNat, by omega⟩
  obtain ⟨m, h1, h2, h3⟩ := cnt_list p n
  have a := len_le h (m := m) fun x hx => (h3 x).2 ((hm x).1 hx)
  have b := len_le h1 (m := l) fun x hx => (hm x).2 ((h3 x).1 hx)
  omega
/-- fewer places than things: two are in one place -/
theorem pigeon {m : Nat} (g : Nat → Int) (n : Nat) (hg : ∀ i, i < n → 0 ≤ g i ∧ g i < (m : Int)) (hn : m < n) : ∃ i j, i < j ∧ j < n ∧ g i = g j := by
  apply Classical.byContradiction
  intro hno
  have hd : ((List.range n).map g).Nodup := by
    rw [List.nodup_iff_pairwise_ne, List.pairwise_map]
    have := List.pairwise_lt_range (n := n)
    refine List.Pairwise.imp_of_mem ?_ this
    intro a b ha hb hab he
    exact hno ⟨a, b, hab, List.mem_range.1 hb, he⟩
  obtain ⟨l, h1, h2, h3⟩ := cnt_list (fun _ => True) m
  have := len_le hd (m := l) fun x hx => by
    obtain ⟨i, hi, rfl⟩ := List.mem_map.1 hx
    have := hg i (List.mem_range.1 hi)
    exact (h3 _).2 ⟨this.1, this.2, trivial⟩
  rw [List.length_map, List.length_range] at this
  have : cnt (fun _ => True) (m : Int) ≤ m := cnt_self (by omega)
  omega

/-! ### going round -/
def it (f : Int → Int) : Nat → Int → Int
  | 0, d => d
  | n + 1, d => f (it f n d)
theorem it_add (f : Int → Int) (b : Nat) (d : Int) : ∀ a : Nat, it f (a + b) d = it f a (it f b d)
  | 0 => by rw [Nat.zero_add]; rfl
  | a + 1 => by
    rw [show a + 1 + b = (a + b) + 1 by omega]
    show f (it f (a + b) d) = f (it f a (it f b d))
    rw [it_add f b d a]
theorem it_mul {f : Int → Int} {k : Nat} {d : Int} (h : it f k d = d) : ∀ n : Nat, it f (n * k) d = d
  | 0 => by rw [Nat.zero_mul]; rfl
  | n + 1 => by rw [Nat.succ_mul, it_add, h, it_mul h n]
theorem it_comm {f : Int → Int} {k j : Nat} {d : Int} (h : it f k d = d) : it f k (it f j d) = it f j d := by
  rw [← it_add, Nat.add_comm, it_add, h]
def Orb (f : Int → Int) (d e : Int) : Prop := ∃ n, it f n d = e
theorem Orb.refl (f : Int → Int) (d : Int) : Orb f d d := ⟨0, rfl⟩
theorem Orb.step (f : Int → Int) (d : Int) : Orb f d (f d) := ⟨1, rfl⟩
theorem Orb.trans {f : Int → Int} {a b c : Int} (h : Orb f a b) (h' : Orb f b c) : Orb f a c := by
  obtain ⟨n, rfl⟩ := h
  obtain ⟨m, rfl⟩ := h'
  exact ⟨m + n, it_add f n a m⟩
structure PermOn (f : Int → Int) (m : Int) : Prop where
  rng : ∀ d : Int, 0 ≤ d → d < m → 0 ≤ f d ∧ f d < m
  inj : ∀ d e : Int, 0 ≤ d → d < m → 0 ≤ e → e < m → f d = f e → d = e
section
variable {f : Int → Int} {m : Int}
theorem it_rng (h : ∀ d : Int, 0 ≤ d → d < m → 0 ≤ f d ∧ f d < m) {d : Int} (h0 : 0 ≤ d) (h1 : d < m) : ∀ n : Nat, 0 ≤ it f n d ∧ it f n d < m
  | 0 => ⟨h0, h1⟩
  | n + 1 => h _ (it_rng h h0 h1 n).1 (it_rng h h0 h1 n).2
theorem PermOn.it_inj (h : PermOn f m) {d e : Int} (d0 : 0 ≤ d) (d1 : d < m) (e0 : 0 ≤ e) (e1 : e < m) : ∀ n : Nat, it f n d = it f n e → d = e
  | 0, x => x
  | n + 1, x => h.it_inj d0 d1 e0 e1 n (h.inj _ _ (it_rng h.rng d0 d1 n).1 (it_rng h.rng d0 d1 n).2 (it_rng h.rng e0 e1 n).1 (it_rng h.rng e0 e1 n).2 x)
theorem PermOn.period (h : PermOn f m) {d : Int} (d0 : 0 ≤ d) (d1 : d < m) : ∃ k : Nat, 0 < k ∧ (k : Int) ≤ m ∧ it f k d = d := by
  obtain ⟨i, j, hij, hj, e⟩ := pigeon (m := m.toNat) (fun i => it f i d) (m.toNat + 1) (fun i _ => by have := it_rng h.rng d0 d1 i; omega) (by omega)
  refine ⟨j - i, by omega, by omega, ?_⟩
  have e2 : it f j d = it f i (it f (j - i) d) := by rw [← it_add]; congr 1; omega
  rw [e2] at e
  have r := it_rng h.rng d0 d1 (j - i)
  exact (h.it_inj d0 d1 r.1 r.2 i e).symm
theorem PermOn.symm (h : PermOn f m) {d e : Int} (d0 : 0 ≤ d) (d1 : d < m) (ho : Orb f d e) : Orb f e d := by
  obtain ⟨n, rfl⟩ := ho
  obtain ⟨k, k0, -, hk⟩ := h.period d0 d1
  refine ⟨n * k - n, ?_⟩
  rw [← it_add]
  have : n ≤ n * k := Nat.le_mul_of_pos_right n k0
  rw [show n * k - n + n = n * k by omega]
  exact it_mul hk n
theorem Orb.rng (h : ∀ d : Int, 0 ≤ d → d < m → 0 ≤ f d ∧ f d < m) {d e : Int} (d0 : 0 ≤ d) (d1 : d < m) (ho : Orb f d e) : 0 ≤ e ∧ e < m := by
  obtain ⟨n, rfl⟩ := ho
  exact it_rng h d0 d1 n
end
/-! ### classes, numbered by their least -/
structure EqvOn (S : Int → Int → Prop) (m : Int) : Prop where
  refl : ∀ u : Int, 0 ≤ u → u < m → S u u
  symm : ∀ u v : Int, 0 ≤ u → u < m → S u v → S v u
  trans : ∀ u v w : Int, S u v → S v w → S u w
  rng : ∀ u v : Int, 0 ≤ u → u < m → S u v → 0 ≤ v ∧ v < m
theorem PermOn.eqv {f : Int → Int} {m : Int} (h : PermOn f m) : EqvOn (Orb f) m :=
  ⟨fun u _ _ => .refl f u, fun u v u0 u1 s => h.symm u0 u1 s, fun u v w s s' => s.trans s', fun u v u0 u1 s => s.rng h.rng u0 u1⟩
def RootS (S : Int → Int → Prop) (v : Int) : Prop := ∀ u : Int, 0 ≤ u → u < v → ¬ S u v
noncomputable abbrev rkS (S : Int → Int → Prop) (v : Int) : Int := cnt (RootS S) v
structure PartedS (m : Int) (S : Int → Int → Prop) (p : List Int) (k : Int) : Prop where
  len : (p.length : Int) = m
  num : ∀ u : Int, 0 ≤ u → u < m → ∃ w, 0 ≤ w ∧ w ≤ u ∧ RootS S w ∧ S w u ∧ gi p u = rkS S w
  k : k = rkS S m
section
variable {S : Int → Int → Prop} {m : Int}
theorem EqvOn.has_root (h : EqvOn S m) : ∀ (n : Nat) (v : Int), 0 ≤ v → v ≤ n → v < m → ∃ w, 0 ≤ w ∧ w ≤ v ∧ RootS S w ∧ S w v := by
  intro n
  induction n with
  | zero =>
    intro v h0 h1 h2
    exact ⟨v, h0, Int.le_refl v, fun u hu hu' => by omega, h.refl v h0 h2⟩
  | succ n ih =>
    intro v h0 h1 h2
    by_cases hr : RootS S v
    · exact ⟨v, h0, Int.le_refl v, hr, h.refl v h0 h2⟩
    · unfold RootS at hr
      simp only [Classical.not_forall, Classical.not_not] at hr
      obtain ⟨u, hu, hu', hc⟩ := hr
      obtain ⟨w, w0, w1, w2, w3⟩ := ih u hu (by omega) (by omega)
      exact ⟨w, w0, by omega, w2, h.trans _ _ _ w3 hc⟩
theorem EqvOn.root_uniq (h : EqvOn S m) {v w : Int} (v0 : 0 ≤ v) (v1 : v < m) (hr : RootS S v) (w0 : 0 ≤ w) (hr' : RootS S w) (hc : S v w) : v = w := by
  by_cases h1 : v < w
  · exact absurd hc (hr' v v0 h1)
  by_cases h2 : w < v
  · exact absurd (h.symm _ _ v0 v1 hc) (hr w w0 h2)
  omega
theorem PartedS.uniq (h : EqvOn S m) {p q : List Int} {k j : Int} (hp : PartedS m S p k) (hq : PartedS m S q j) : p = q ∧ k = j := by
  refine ⟨gi_ext (by have := hp.len; have := hq.len; omega) fun x h0 h1 => ?_, by rw [hp.k, hq.k]⟩
  have hl := hp.len
  obtain ⟨w, a1, a2, a3, a4, a5⟩ := hp.num x h0 (by omega)
  obtain ⟨z, b1, b2, b3, b4, b5⟩ := hq.num x h0 (by omega)
  rw [a5, b5, h.root_uniq a1 (by omega) a3 b1 b3 (h.trans _ _ _ a4 (h.symm _ _ b1 (by omega) b4))]
theorem PartedS.eq_iff (h : EqvOn S m) {p : List Int} {k : Int} (hp : PartedS m S p k) {x y : Int} (hx : 0 ≤ x ∧ x < m) (hy : 0 ≤ y ∧ y < m) : gi p x = gi p y ↔ S x y := by
  obtain ⟨w, a1, a2, a3, a4, a5⟩ := hp.num x hx.1 hx.2
  obtain ⟨z, b1, b2, b3, b4, b5⟩ := hp.num y hy.1 hy.2
  rw [a5, b5]
  constructor
  · intro e
    obtain rfl := cnt_inj a1 a3 b1 b3 e
    exact h.trans _ _ _ (h.symm _ _ a1 (by omega) a4) b4
  · intro hc
    rw [h.root_uniq a1 (by omega) a3 b1 b3 (h.trans _ _ _ (h.trans _ _ _ a4 hc) (h.symm _ _ b1 (by omega) b4))]
theorem partedS_ex (h : EqvOn S m) (hm : 0 ≤ m) : ∃ q, PartedS m S q (rkS S m) := by
  have hx : ∀ i : Nat, ∃ w, (i : Int) < m → 0 ≤ w ∧ w ≤ (i : Int) ∧ RootS S w ∧ S w (i : Int) := fun i => by
    by_cases c : (i : Int) < m
    · obtain ⟨w, hw⟩ := h.has_root i (i : Int) (by omega) (by omega) c
      exact ⟨w, fun _ => hw⟩
    · exact ⟨0, fun c' => absurd c' c⟩
  obtain ⟨f, hf⟩ := Classical.axiomOfChoice hx
  refine ⟨(List.range m.toNat).map fun i => rkS S (f i), by simp; omega, fun u u0 u1 => ?_, rfl⟩
  obtain ⟨i, rfl⟩ : ∃ i : Nat, u = i := ⟨u.toNat, by omega⟩
  obtain ⟨h1, h2, h3, h4⟩ := hf i u1
  refine ⟨f i, h1, h2, h3, h4, ?_⟩
  rw [gi_get (by simp; omega)]
  simp
/-- on the way at v -/
structure NumTo (m : Int) (S : Int → Int → Prop) (v : Int) (p : List Int) : Prop where
  len : (p.length : Int) = m
  num : ∀ u : Int, 0 ≤ u → u < m → (gi p u = -1 ∧ ∀ w, 0 ≤ w → w < v → ¬ S w u) ∨ (∃ w, 0 ≤ w ∧ w < v ∧ w ≤ u ∧ RootS S w ∧ S w u ∧ gi p u = rkS S w)
theorem NumTo.done (h : EqvOn S m) {p : List Int} (hp : NumTo m S m p) : PartedS m S p (rkS S m) :=
  ⟨hp.len, fun u u0 u1 => by
    rcases hp.num u u0 u1 with ⟨a, b⟩ | ⟨w, w0, w1, w2, w3, w4, w5⟩
    · exact absurd (h.refl u u0 u1) (b u u0 u1)
    · exact ⟨w, w0, w2, w3, w4, w5⟩, rfl⟩
theorem NumTo.skip (h : EqvOn S m) {p : List Int} {v : Int} (hp : NumTo m S v p) (v0 : 0 ≤ v) (v1 : v < m) (hn : 0 ≤ gi p v) : NumTo m S (v + 1) p ∧ rkS S (v + 1) = rkS S v := by
  rcases hp.num v v0 v1 with ⟨a, b⟩ | ⟨w, w0, w1, w2, w3, w4, w5⟩
  · omega
  · have hr : ¬ RootS S v := fun hr => hr w w0 w1 w4
    refine ⟨⟨hp.len, fun u u0 u1 => ?_⟩, cnt_no v0 hr⟩
    rcases hp.num u u0 u1 with ⟨a, b⟩ | ⟨z, z0, z1, z2, z3, z4, z5⟩
    · refine .inl ⟨a, fun z z0 z1 hc => ?_⟩
      by_cases e : z = v
      · subst e; exact b w w0 w1 (h.trans _ _ _ w4 hc)
      · exact b z z0 (by omega) hc
    · exact .inr ⟨z, z0, by omega, z2, z3, z4, z5⟩
/-- a class laid whole -/
theorem NumTo.add (h : EqvOn S m) {p q : List Int} {v : Int} (hp : NumTo m S v p) (v0 : 0 ≤ v) (v1 : v < m) (hn : gi p v < 0) (hl : q.length = p.length)
    (hin : ∀ u : Int, 0 ≤ u → u < m → S v u → gi q u = rkS S v) (hout : ∀ u : Int, 0 ≤ u → u < m → ¬ S v u → gi q u = gi p u) : NumTo m S (v + 1) q ∧ rkS S (v + 1) = rkS S v + 1 := by
  have hr : RootS S v := by
    rcases hp.num v v0 v1 with ⟨a, b⟩ | ⟨w, w0, w1, w2, w3, w4, w5⟩
    · exact b
    · have : 0 ≤ rkS S w := cnt_nonneg (RootS S) w0
      omega
  refine ⟨⟨by rw [hl]; exact hp.len, fun u u0 u1 => ?_⟩, cnt_yes v0 hr⟩
  by_cases c : S v u
  · refine .inr ⟨v, v0, by omega, ?_, hr, c, hin u u0 u1 c⟩
    by_cases hlt : u < v
    · exact absurd (h.symm _ _ v0 v1 c) (hr u u0 hlt)
    · omega
  · rw [hout u u0 u1 c]
    rcases hp.num u u0 u1 with ⟨a, b⟩ | ⟨z, z0, z1, z2, z3, z4, z5⟩
    · refine .inl ⟨a, fun z z0 z1 hc => ?_⟩
      by_cases e : z = v
      · subst e; exact c hc
      · exact b z z0 (by omega) hc
    · exact .inr ⟨z, z0, by omega, z2, z3, z4, z5⟩
end
end Go.Proofs.Ytnfgfdeidkhdkaa.Eng
/- P105: watershed/rot.turns$1: its run from loop to loop, as Lean printed it (a program of this session's wrote these rows). No condition. -/
namespace Go.Proofs.Ytnfgfdeidkhdkaa.Eng
set_option linter.unusedVariables false
set_option maxRecDepth 100000
noncomputable def ents105 : List (Nat × Ent) := []
noncomputable def mems105 : List (Nat × EntM) := []
noncomputable def E105 (fu : Nat) : Env := ⟨9, 0, semOf ents105, [], memOf mems105, [], [], fu⟩
theorem fuel105 : Fuel E105 := fun _ => rfl
noncomputable def kr105 : St → Option CV := endK true Try.f105.results.toList
noncomputable def t105 (d : Int) (gN : Int) (gT : List Int) (gX : List Int) (gC : List Int) : Option Leaf :=
  bif Decidable.decide ((0 : Int) ≤ d) then
   ob (gX[Int.toNat d]?) fun x1 =>
    some (.ret (CV.int IntKind.i64 x1))
  else
   none
theorem c105 (fu : Nat) (d : Int) (gN : Int) (gT : List Int) (gX : List Int) (gC : List Int) : cutB (E105 fu) kr105 Try.f105 (⟨parT 0 [.int .i64 d, .vp [.int .i64 gN, .sl .int gT, .sl .int gX, .sl .int gC] 0], []⟩) = t105 d gN gT gX gC := by kernel_rfl
def R105 (d : Int) (gN : Int) (gT : List Int) (gX : List Int) (gC : List Int) (r : Int) : Prop := RunF E105 true Try.f105 [.int .i64 d, .vp [.int .i64 gN, .sl .int gT, .sl .int gX, .sl .int gC] 0] (.int .i64 r)
theorem run105 (d : Int) (gN : Int) (gT : List Int) (gX : List Int) (gC : List Int) (r : Int) (h : Good E105 kr105 (t105 d gN gT gX gC) (.int .i64 r)) : R105 d gN gT gX gC r := RunF.of fuel105 (fun fu => c105 fu d gN gT gX gC) h
noncomputable def ok105 (d : Int) (gN : Int) (gT : List Int) (gX : List Int) (gC : List Int) : Bool := okP (R105 d gN gT gX gC)
noncomputable def v105 (d : Int) (gN : Int) (gT : List Int) (gX : List Int) (gC : List Int) : Int := valP (R105 d gN gT gX gC)
theorem sp105 (d : Int) (gN : Int) (gT : List Int) (gX : List Int) (gC : List Int) (r : Int) (h : R105 d gN gT gX gC r) : ok105 d gN gT gX gC = true ∧ v105 d gN gT gX gC = r := okP_of h fun b hb => by
  have := RunF.uniq hb h
  simp_all
theorem at105 : P.funcs[105]? = some Try.f105 := by kernel_rfl
theorem callable105 : callable 105 = true := by kernel_rfl
theorem semok105 : SemOk (semOf ents105) := EntsOk.sem (.nil)
theorem memok105 : MemOk (memOf mems105) := EntsMOk.mem (.nil)
noncomputable def ent105 : Ent := fun args => match args with
  | [.int .i64 d, .vp [.int .i64 gN, .sl .int gT, .sl .int gX, .sl .int gC] 0] => some (true, ok105 d gN gT gX gC, .int .i64 (v105 d gN gT gX gC))
  | _ => none
theorem entok105 : EntOk 105 ent105 := fun args own r h => by
  unfold ent105 at h
  split at h
  · simp only [Option.some.injEq, Prod.mk.injEq] at h
    obtain ⟨rfl, h, rfl⟩ := h
    exact ⟨RunF.calls (fun _ => semok105) (fun _ => memok105) at105 rfl (Nat.le_of_ble_eq_true rfl) (fun _ => rfl) (okP_val h), callable105⟩
  · cases h
end Go.Proofs.Ytnfgfdeidkhdkaa.Eng
/- P73a: watershed/rot.orbits: its run from loop to loop, as Lean printed it (a program of this session's wrote these rows). No condition. -/
namespace Go.Proofs.Ytnfgfdeidkhdkaa.Eng
set_option linter.unusedVariables false
set_option maxRecDepth 100000
noncomputable def ents73a : List (Nat × Ent) := [(75, ent75), (105, ent105)]
noncomputable def mems73a : List (Nat × EntM) := []
noncomputable def E73a (fu : Nat) : Env := ⟨44, 0, semOf ents73a, [], memOf mems73a, [], [(100004, ⟨[], [(1, none), (7, none), (8, none), (14, none), (15, none)], [1, 7, 8, 14, 15]⟩), (100008, ⟨[], [(1, none), (7, none), (8, none), (9, none), (10, none), (14, none), (15, none)], [1, 7, 8, 9, 10, 14, 15]⟩)], fu⟩
theorem fuel73a : Fuel E73a := fun _ => rfl
noncomputable def kr73a : St → Option CV := endK true Try.f73.results.toList
noncomputable def K73a_4 : List Fr := theK Try.f73 100004
noncomputable def C73a_4 : Code := theC Try.f73 100004
def s73a_4 (i1_0_0 : Int) (l1_0_1 : List Int) (l1_0_2 : List Int) (l1_0_3 : List Int) (i8 : Int) (i14 : Int) (i15 : Int) (mM0 : List Int) : St := ⟨[(1, .fn 105 [.vp [.int .i64 i1_0_0, .sl .int l1_0_1, .sl .int l1_0_2, .sl .int l1_0_3] 0]), (7, .ref 8000), (8, .int .i64 i8), (14, .int .i64 i14), (15, .int .i64 i15)], [(8000, some (.arr false .int mM0))]⟩
noncomputable def a73a_4 (i1_0_0 : Int) (l1_0_1 : List Int) (l1_0_2 : List Int) (l1_0_3 : List Int) (i8 : Int) (i14 : Int) (i15 : Int) (mM0 : List Int) : Leaf := .at K73a_4 C73a_4 (s73a_4 i1_0_0 l1_0_1 l1_0_2 l1_0_3 i8 i14 i15 mM0)
noncomputable def K73a_8 : List Fr := theK Try.f73 100008
noncomputable def C73a_8 : Code := theC Try.f73 100008
def s73a_8 (i1_0_0 : Int) (l1_0_1 : List Int) (l1_0_2 : List Int) (l1_0_3 : List Int) (i8 : Int) (i9 : Int) (i10 : Int) (i14 : Int) (i15 : Int) (mM0 : List Int) : St := ⟨[(1, .fn 105 [.vp [.int .i64 i1_0_0, .sl .int l1_0_1, .sl .int l1_0_2, .sl .int l1_0_3] 0]), (7, .ref 8000), (8, .int .i64 i8), (9, .int .i64 i9), (10, .int .i64 i10), (14, .int .i64 i14), (15, .int .i64 i15)], [(8000, some (.arr false .int mM0))]⟩
noncomputable def a73a_8 (i1_0_0 : Int) (l1_0_1 : List Int) (l1_0_2 : List Int) (l1_0_3 : List Int) (i8 : Int) (i9 : Int) (i10 : Int) (i14 : Int) (i15 : Int) (mM0 : List Int) : Leaf := .at K73a_8 C73a_8 (s73a_8 i1_0_0 l1_0_1 l1_0_2 l1_0_3 i8 i9 i10 i14 i15 mM0)
noncomputable def t73a_4 (i1_0_0 : Int) (l1_0_1 : List Int) (l1_0_2 : List Int) (l1_0_3 : List Int) (i8 : Int) (i14 : Int) (i15 : Int) (mM0 : List Int) : Option Leaf :=
  bif Decidable.decide (i15 < i14) then
   bif Decidable.decide ((0 : Int) ≤ i15) then
    bif Decidable.decide (i15 < (↑(List.length mM0) : Int)) then
     ob (mM0[Int.toNat i15]?) fun x1 =>
      bif Decidable.decide ((0 : Int) ≤ x1) then
       some (a73a_4 i1_0_0 l1_0_1 l1_0_2 l1_0_3 i8 i14 (IntKind.wrap IntKind.i64 (i15 + (1 : Int))) mM0)
      else
       some (a73a_8 i1_0_0 l1_0_1 l1_0_2 l1_0_3 i8 i15 i15 i14 i15 mM0)
    else
     none
   else
    none
  else
   some (.ret (CV.tup [CV.sl SK.int mM0, CV.int IntKind.i64 i8, CV.bool Bool.true]))
theorem c73a_4 (fu : Nat) (i1_0_0 : Int) (l1_0_1 : List Int) (l1_0_2 : List Int) (l1_0_3 : List Int) (i8 : Int) (i14 : Int) (i15 : Int) (mM0 : List Int) : cutL (E73a fu) kr73a K73a_4 C73a_4 (s73a_4 i1_0_0 l1_0_1 l1_0_2 l1_0_3 i8 i14 i15 mM0) = t73a_4 i1_0_0 l1_0_1 l1_0_2 l1_0_3 i8 i14 i15 mM0 := by kernel_rfl
theorem h73a_4 (i1_0_0 : Int) (l1_0_1 : List Int) (l1_0_2 : List Int) (l1_0_3 : List Int) (i8 : Int) (i14 : Int) (i15 : Int) (mM0 : List Int) (r : CV) (h : Good E73a kr73a (t73a_4 i1_0_0 l1_0_1 l1_0_2 l1_0_3 i8 i14 i15 mM0) r) : Lead E73a kr73a r (a73a_4 i1_0_0 l1_0_1 l1_0_2 l1_0_3 i8 i14 i15 mM0) := Lead.at fuel73a (fun fu => c73a_4 fu i1_0_0 l1_0_1 l1_0_2 l1_0_3 i8 i14 i15 mM0) h
noncomputable def t73a_8 (i1_0_0 : Int) (l1_0_1 : List Int) (l1_0_2 : List Int) (l1_0_3 : List Int) (i8 : Int) (i9 : Int) (i10 : Int) (i14 : Int) (i15 : Int) (mM0 : List Int) : Option Leaf :=
  bif Decidable.decide ((0 : Int) ≤ i10) then
   bif Decidable.decide (i10 < (↑(List.length mM0) : Int)) then
    ob (mM0[Int.toNat i10]?) fun x2 =>
     bif Decidable.decide (x2 < (0 : Int)) then
      bif Decidable.decide ((0 : Int) ≤ i10) then
       bif Decidable.decide (i10 < (↑(List.length mM0) : Int)) then
        ob (mM0[Int.toNat i10]?) fun x3 =>
         bif ok105 i10 i1_0_0 l1_0_1 l1_0_2 l1_0_3 then
          some (a73a_8 i1_0_0 l1_0_1 l1_0_2 l1_0_3 i8 i9 (v105 i10 i1_0_0 l1_0_1 l1_0_2 l1_0_3) i14 i15 (List.set mM0 (Int.toNat i10) i8))
         else
          none
       else
        none
      else
       none
     else
      bif !Decidable.decide (i10 = i9) then
       some (.ret (CV.tup [CV.sl SK.int [], CV.int IntKind.i64 (0 : Int), CV.bool Bool.false]))
      else
       some (a73a_4 i1_0_0 l1_0_1 l1_0_2 l1_0_3 (IntKind.wrap IntKind.i64 (i8 + (1 : Int))) i14 (IntKind.wrap IntKind.i64 (i15 + (1 : Int))) mM0)
   else
    none
  else
   none
theorem c73a_8 (fu : Nat) (i1_0_0 : Int) (l1_0_1 : List Int) (l1_0_2 : List Int) (l1_0_3 : List Int) (i8 : Int) (i9 : Int) (i10 : Int) (i14 : Int) (i15 : Int) (mM0 : List Int) : cutL (E73a fu) kr73a K73a_8 C73a_8 (s73a_8 i1_0_0 l1_0_1 l1_0_2 l1_0_3 i8 i9 i10 i14 i15 mM0) = t73a_8 i1_0_0 l1_0_1 l1_0_2 l1_0_3 i8 i9 i10 i14 i15 mM0 := by kernel_rfl
theorem h73a_8 (i1_0_0 : Int) (l1_0_1 : List Int) (l1_0_2 : List Int) (l1_0_3 : List Int) (i8 : Int) (i9 : Int) (i10 : Int) (i14 : Int) (i15 : Int) (mM0 : List Int) (r : CV) (h : Good E73a kr73a (t73a_8 i1_0_0 l1_0_1 l1_0_2 l1_0_3 i8 i9 i10 i14 i15 mM0) r) : Lead E73a kr73a r (a73a_8 i1_0_0 l1_0_1 l1_0_2 l1_0_3 i8 i9 i10 i14 i15 mM0) := Lead.at fuel73a (fun fu => c73a_8 fu i1_0_0 l1_0_1 l1_0_2 l1_0_3 i8 i9 i10 i14 i15 mM0) h
noncomputable def t73a (n : Int) (gN : Int) (gT : List Int) (gX : List Int) (gC : List Int) : Option Leaf :=
  bif ok75 [(-1 : Int)] n then
   some (a73a_4 gN gT gX gC ((0 : Int)) n ((0 : Int)) (v75 [(-1 : Int)] n))
  else
   none
theorem c73a (fu : Nat) (n : Int) (gN : Int) (gT : List Int) (gX : List Int) (gC : List Int) : cutB (E73a fu) kr73a Try.f73 (⟨parT 0 [.int .i64 n, .fn 105 [.vp [.int .i64 gN, .sl .int gT, .sl .int gX, .sl .int gC] 0]], []⟩) = t73a n gN gT gX gC := by kernel_rfl
def R73a (n : Int) (gN : Int) (gT : List Int) (gX : List Int) (gC : List Int) (r : List Int × Int × Bool) : Prop := RunF E73a true Try.f73 [.int .i64 n, .fn 105 [.vp [.int .i64 gN, .sl .int gT, .sl .int gX, .sl .int gC] 0]] (.tup [.sl .int r.1, .int .i64 r.2.1, .bool r.2.2])
theorem run73a (n : Int) (gN : Int) (gT : List Int) (gX : List Int) (gC : List Int) (r : List Int × Int × Bool) (h : Good E73a kr73a (t73a n gN gT gX gC) (.tup [.sl .int r.1, .int .i64 r.2.1, .bool r.2.2])) : R73a n gN gT gX gC r := RunF.of fuel73a (fun fu => c73a fu n gN gT gX gC) h
noncomputable def ok73a (n : Int) (gN : Int) (gT : List Int) (gX : List Int) (gC : List Int) : Bool := okP (R73a n gN gT gX gC)
noncomputable def v73a (n : Int) (gN : Int) (gT : List Int) (gX : List Int) (gC : List Int) : List Int × Int × Bool := valP (R73a n gN gT gX gC)
theorem sp73a (n : Int) (gN : Int) (gT : List Int) (gX : List Int) (gC : List Int) (r : List Int × Int × Bool) (h : R73a n gN gT gX gC r) : ok73a n gN gT gX gC = true ∧ v73a n gN gT gX gC = r := okP_of h fun b hb => by
  have := RunF.uniq hb h
  rcases b with ⟨_, _, _⟩; rcases r with ⟨_, _, _⟩; simp_all
theorem at73a : P.funcs[73]? = some Try.f73 := by kernel_rfl
theorem callable73a : callable 73 = true := by kernel_rfl
theorem semok73a : SemOk (semOf ents73a) := EntsOk.sem (.cons entok75 (.cons entok105 (.nil)))
theorem memok73a : MemOk (memOf mems73a) := EntsMOk.mem (.nil)
noncomputable def ent73a : Ent := fun args => match args with
  | [.int .i64 n, .fn 105 [.vp [.int .i64 gN, .sl .int gT, .sl .int gX, .sl .int gC] 0]] => some (true, ok73a n gN gT gX gC, .tup [.sl .int (v73a n gN gT gX gC).1, .int .i64 (v73a n gN gT gX gC).2.1, .bool (v73a n gN gT gX gC).2.2])
  | _ => none
theorem entok73a : EntOk 73 ent73a := fun args own r h => by
  unfold ent73a at h
  split at h
  · simp only [Option.some.injEq, Prod.mk.injEq] at h
    obtain ⟨rfl, h, rfl⟩ := h
    exact ⟨RunF.calls (fun _ => semok73a) (fun _ => memok73a) at73a rfl (Nat.le_of_ble_eq_true rfl) (fun _ => rfl) (okP_val h), callable73a⟩
  · cases h
end Go.Proofs.Ytnfgfdeidkhdkaa.Eng
/- P106: watershed/rot.behind$1: its run from loop to loop, as Lean printed it (a program of this session's wrote these rows). No condition. -/
namespace Go.Proofs.Ytnfgfdeidkhdkaa.Eng
set_option linter.unusedVariables false
set_option maxRecDepth 100000
noncomputable def ents106 : List (Nat × Ent) := [(77, ent77)]
noncomputable def mems106 : List (Nat × EntM) := []
noncomputable def E106 (fu : Nat) : Env := ⟨10, 0, semOf ents106, [], memOf mems106, [], [], fu⟩
theorem fuel106 : Fuel E106 := fun _ => rfl
noncomputable def kr106 : St → Option CV := endK true Try.f106.results.toList
noncomputable def t106 (d : Int) (gN : Int) (gT : List Int) (gX : List Int) (gC : List Int) : Option Leaf :=
  bif ok77 d then
   bif Decidable.decide ((0 : Int) ≤ v77 d) then
    ob (gX[Int.toNat (v77 d)]?) fun x1 =>
     some (.ret (CV.int IntKind.i64 x1))
   else
    none
  else
   none
theorem c106 (fu : Nat) (d : Int) (gN : Int) (gT : List Int) (gX : List Int) (gC : List Int) : cutB (E106 fu) kr106 Try.f106 (⟨parT 0 [.int .i64 d, .vp [.int .i64 gN, .sl .int gT, .sl .int gX, .sl .int gC] 0], []⟩) = t106 d gN gT gX gC := by kernel_rfl
def R106 (d : Int) (gN : Int) (gT : List Int) (gX : List Int) (gC : List Int) (r : Int) : Prop := RunF E106 true Try.f106 [.int .i64 d, .vp [.int .i64 gN, .sl .int gT, .sl .int gX, .sl .int gC] 0] (.int .i64 r)
theorem run106 (d : Int) (gN : Int) (gT : List Int) (gX : List Int) (gC : List Int) (r : Int) (h : Good E106 kr106 (t106 d gN gT gX gC) (.int .i64 r)) : R106 d gN gT gX gC r := RunF.of fuel106 (fun fu => c106 fu d gN gT gX gC) h
noncomputable def ok106 (d : Int) (gN : Int) (gT : List Int) (gX : List Int) (gC : List Int) : Bool := okP (R106 d gN gT gX gC)
noncomputable def v106 (d : Int) (gN : Int) (gT : List Int) (gX : List Int) (gC : List Int) : Int := valP (R106 d gN gT gX gC)
theorem sp106 (d : Int) (gN : Int) (gT : List Int) (gX : List Int) (gC : List Int) (r : Int) (h : R106 d gN gT gX gC r) : ok106 d gN gT gX gC = true ∧ v106 d gN gT gX gC = r := okP_of h fun b hb => by
  have := RunF.uniq hb h
  simp_all
theorem at106 : P.funcs[106]? = some Try.f106 := by kernel_rfl
theorem callable106 : callable 106 = true := by kernel_rfl
theorem semok106 : SemOk (semOf ents106) := EntsOk.sem (.cons entok77 (.nil))
theorem memok106 : MemOk (memOf mems106) := EntsMOk.mem (.nil)
noncomputable def ent106 : Ent := fun args => match args with
  | [.int .i64 d, .vp [.int .i64 gN, .sl .int gT, .sl .int gX, .sl .int gC] 0] => some (true, ok106 d gN gT gX gC, .int .i64 (v106 d gN gT gX gC))
  | _ => none
theorem entok106 : EntOk 106 ent106 := fun args own r h => by
  unfold ent106 at h
  split at h
  · simp only [Option.some.injEq, Prod.mk.injEq] at h
    obtain ⟨rfl, h, rfl⟩ := h
    exact ⟨RunF.calls (fun _ => semok106) (fun _ => memok106) at106 rfl (Nat.le_of_ble_eq_true rfl) (fun _ => rfl) (okP_val h), callable106⟩
  · cases h
end Go.Proofs.Ytnfgfdeidkhdkaa.Eng
/- P73b: watershed/rot.orbits: its run from loop to loop, as Lean printed it (a program of this session's wrote these rows). No condition. -/
namespace Go.Proofs.Ytnfgfdeidkhdkaa.Eng
set_option linter.unusedVariables false
set_option maxRecDepth 100000
noncomputable def ents73b : List (Nat × Ent) := [(75, ent75), (106, ent106)]
noncomputable def mems73b : List (Nat × EntM) := []
noncomputable def E73b (fu : Nat) : Env := ⟨44, 0, semOf ents73b, [], memOf mems73b, [], [(100004, ⟨[], [(1, none), (7, none), (8, none), (14, none), (15, none)], [1, 7, 8, 14, 15]⟩), (100008, ⟨[], [(1, none), (7, none), (8, none), (9, none), (10, none), (14, none), (15, none)], [1, 7, 8, 9, 10, 14, 15]⟩)], fu⟩
theorem fuel73b : Fuel E73b := fun _ => rfl
noncomputable def kr73b : St → Option CV := endK true Try.f73.results.toList
noncomputable def K73b_4 : List Fr := theK Try.f73 100004
noncomputable def C73b_4 : Code := theC Try.f73 100004
def s73b_4 (i1_0_0 : Int) (l1_0_1 : List Int) (l1_0_2 : List Int) (l1_0_3 : List Int) (i8 : Int) (i14 : Int) (i15 : Int) (mM0 : List Int) : St := ⟨[(1, .fn 106 [.vp [.int .i64 i1_0_0, .sl .int l1_0_1, .sl .int l1_0_2, .sl .int l1_0_3] 0]), (7, .ref 8000), (8, .int .i64 i8), (14, .int .i64 i14), (15, .int .i64 i15)], [(8000, some (.arr false .int mM0))]⟩
noncomputable def a73b_4 (i1_0_0 : Int) (l1_0_1 : List Int) (l1_0_2 : List Int) (l1_0_3 : List Int) (i8 : Int) (i14 : Int) (i15 : Int) (mM0 : List Int) : Leaf := .at K73b_4 C73b_4 (s73b_4 i1_0_0 l1_0_1 l1_0_2 l1_0_3 i8 i14 i15 mM0)
noncomputable def K73b_8 : List Fr := theK Try.f73 100008
noncomputable def C73b_8 : Code := theC Try.f73 100008
def s73b_8 (i1_0_0 : Int) (l1_0_1 : List Int) (l1_0_2 : List Int) (l1_0_3 : List Int) (i8 : Int) (i9 : Int) (i10 : Int) (i14 : Int) (i15 : Int) (mM0 : List Int) : St := ⟨[(1, .fn 106 [.vp [.int .i64 i1_0_0, .sl .int l1_0_1, .sl .int l1_0_2, .sl .int l1_0_3] 0]), (7, .ref 8000), (8, .int .i64 i8), (9, .int .i64 i9), (10, .int .i64 i10), (14, .int .i64 i14), (15, .int .i64 i15)], [(8000, some (.arr false .int mM0))]⟩
noncomputable def a73b_8 (i1_0_0 : Int) (l1_0_1 : List Int) (l1_0_2 : List Int) (l1_0_3 : List Int) (i8 : Int) (i9 : Int) (i10 : Int) (i14 : Int) (i15 : Int) (mM0 : List Int) : Leaf := .at K73b_8 C73b_8 (s73b_8 i1_0_0 l1_0_1 l1_0_2 l1_0_3 i8 i9 i10 i14 i15 mM0)
noncomputable def t73b_4 (i1_0_0 : Int) (l1_0_1 : List Int) (l1_0_2 : List Int) (l1_0_3 : List Int) (i8 : Int) (i14 : Int) (i15 : Int) (mM0 : List Int) : Option Leaf :=
  bif Decidable.decide (i15 < i14) then
   bif Decidable.decide ((0 : Int) ≤ i15) then
    bif Decidable.decide (i15 < (↑(List.length mM0) : Int)) then
     ob (mM0[Int.toNat i15]?) fun x1 =>
      bif Decidable.decide ((0 : Int) ≤ x1) then
       some (a73b_4 i1_0_0 l1_0_1 l1_0_2 l1_0_3 i8 i14 (IntKind.wrap IntKind.i64 (i15 + (1 : Int))) mM0)
      else
       some (a73b_8 i1_0_0 l1_0_1 l1_0_2 l1_0_3 i8 i15 i15 i14 i15 mM0)
    else
     none
   else
    none
  else
   some (.ret (CV.tup [CV.sl SK.int mM0, CV.int IntKind.i64 i8, CV.bool Bool.true]))
theorem c73b_4 (fu : Nat) (i1_0_0 : Int) (l1_0_1 : List Int) (l1_0_2 : List Int) (l1_0_3 : List Int) (i8 : Int) (i14 : Int) (i15 : Int) (mM0 : List Int) : cutL (E73b fu) kr73b K73b_4 C73b_4 (s73b_4 i1_0_0 l1_0_1 l1_0_2 l1_0_3 i8 i14 i15 mM0) = t73b_4 i1_0_0 l1_0_1 l1_0_2 l1_0_3 i8 i14 i15 mM0 := by kernel_rfl
theorem h73b_4 (i1_0_0 : Int) (l1_0_1 : List Int) (l1_0_2 : List Int) (l1_0_3 : List Int) (i8 : Int) (i14 : Int) (i15 : Int) (mM0 : List Int) (r : CV) (h : Good E73b kr73b (t73b_4 i1_0_0 l1_0_1 l1_0_2 l1_0_3 i8 i14 i15 mM0) r) : Lead E73b kr73b r (a73b_4 i1_0_0 l1_0_1 l1_0_2 l1_0_3 i8 i14 i15 mM0) := Lead.at fuel73b (fun fu => c73b_4 fu i1_0_0 l1_0_1 l1_0_2 l1_0_3 i8 i14 i15 mM0) h
noncomputable def t73b_8 (i1_0_0 : Int) (l1_0_1 : List Int) (l1_0_2 : List Int) (l1_0_3 : List Int) (i8 : Int) (i9 : Int) (i10 : Int) (i14 : Int) (i15 : Int) (mM0 : List Int) : Option Leaf :=
  bif Decidable.decide ((0 : Int) ≤ i10) then
   bif Decidable.decide (i10 < (↑(List.length mM0) : Int)) then
    ob (mM0[Int.toNat i10]?) fun x2 =>
     bif Decidable.decide (x2 < (0 : Int)) then
      bif Decidable.decide ((0 : Int) ≤ i10) then
       bif Decidable.decide (i10 < (↑(List.length mM0) : Int)) then
        ob (mM0[Int.toNat i10]?) fun x3 =>
         bif ok106 i10 i1_0_0 l1_0_1 l1_0_2 l1_0_3 then
          some (a73b_8 i1_0_0 l1_0_1 l1_0_2 l1_0_3 i8 i9 (v106 i10 i1_0_0 l1_0_1 l1_0_2 l1_0_3) i14 i15 (List.set mM0 (Int.toNat i10) i8))
         else
          none
       else
        none
      else
       none
     else
      bif !Decidable.decide (i10 = i9) then
       some (.ret (CV.tup [CV.sl SK.int [], CV.int IntKind.i64 (0 : Int), CV.bool Bool.false]))
      else
       some (a73b_4 i1_0_0 l1_0_1 l1_0_2 l1_0_3 (IntKind.wrap IntKind.i64 (i8 + (1 : Int))) i14 (IntKind.wrap IntKind.i64 (i15 + (1 : Int))) mM0)
   else
    none
  else
   none
theorem c73b_8 (fu : Nat) (i1_0_0 : Int) (l1_0_1 : List Int) (l1_0_2 : List Int) (l1_0_3 : List Int) (i8 : Int) (i9 : Int) (i10 : Int) (i14 : Int) (i15 : Int) (mM0 : List Int) : cutL (E73b fu) kr73b K73b_8 C73b_8 (s73b_8 i1_0_0 l1_0_1 l1_0_2 l1_0_3 i8 i9 i10 i14 i15 mM0) = t73b_8 i1_0_0 l1_0_1 l1_0_2 l1_0_3 i8 i9 i10 i14 i15 mM0 := by kernel_rfl
theorem h73b_8 (i1_0_0 : Int) (l1_0_1 : List Int) (l1_0_2 : List Int) (l1_0_3 : List Int) (i8 : Int) (i9 : Int) (i10 : Int) (i14 : Int) (i15 : Int) (mM0 : List Int) (r : CV) (h : Good E73b kr73b (t73b_8 i1_0_0 l1_0_1 l1_0_2 l1_0_3 i8 i9 i10 i14 i15 mM0) r) : Lead E73b kr73b r (a73b_8 i1_0_0 l1_0_1 l1_0_2 l1_0_3 i8 i9 i10 i14 i15 mM0) := Lead.at fuel73b (fun fu => c73b_8 fu i1_0_0 l1_0_1 l1_0_2 l1_0_3 i8 i9 i10 i14 i15 mM0) h
noncomputable def t73b (n : Int) (gN : Int) (gT : List Int) (gX : List Int) (gC : List Int) : Option Leaf :=
  bif ok75 [(-1 : Int)] n then
   some (a73b_4 gN gT gX gC ((0 : Int)) n ((0 : Int)) (v75 [(-1 : Int)] n))
  else
   none
theorem c73b (fu : Nat) (n : Int) (gN : Int) (gT : List Int) (gX : List Int) (gC : List Int) : cutB (E73b fu) kr73b Try.f73 (⟨parT 0 [.int .i64 n, .fn 106 [.vp [.int .i64 gN, .sl .int gT, .sl .int gX, .sl .int gC] 0]], []⟩) = t73b n gN gT gX gC := by kernel_rfl
def R73b (n : Int) (gN : Int) (gT : List Int) (gX : List Int) (gC : List Int) (r : List Int × Int × Bool) : Prop := RunF E73b true Try.f73 [.int .i64 n, .fn 106 [.vp [.int .i64 gN, .sl .int gT, .sl .int gX, .sl .int gC] 0]] (.tup [.sl .int r.1, .int .i64 r.2.1, .bool r.2.2])
theorem run73b (n : Int) (gN : Int) (gT : List Int) (gX : List Int) (gC : List Int) (r : List Int × Int × Bool) (h : Good E73b kr73b (t73b n gN gT gX gC) (.tup [.sl .int r.1, .int .i64 r.2.1, .bool r.2.2])) : R73b n gN gT gX gC r := RunF.of fuel73b (fun fu => c73b fu n gN gT gX gC) h
noncomputable def ok73b (n : Int) (gN : Int) (gT : List Int) (gX : List Int) (gC : List Int) : Bool := okP (R73b n gN gT gX gC)
noncomputable def v73b (n : Int) (gN : Int) (gT : List Int) (gX : List Int) (gC : List Int) : List Int × Int × Bool := valP (R73b n gN gT gX gC)
theorem sp73b (n : Int) (gN : Int) (gT : List Int) (gX : List Int) (gC : List Int) (r : List Int × Int × Bool) (h : R73b n gN gT gX gC r) : ok73b n gN gT gX gC = true ∧ v73b n gN gT gX gC = r := okP_of h fun b hb => by
  have := RunF.uniq hb h
  rcases b with ⟨_, _, _⟩; rcases r with ⟨_, _, _⟩; simp_all
theorem at73b : P.funcs[73]? = some Try.f73 := by kernel_rfl
theorem callable73b : callable 73 = true := by kernel_rfl
theorem semok73b : SemOk (semOf ents73b) := EntsOk.sem (.cons entok75 (.cons entok106 (.nil)))
theorem memok73b : MemOk (memOf mems73b) := EntsMOk.mem (.nil)
noncomputable def ent73b : Ent := fun args => match args with
  | [.int .i64 n, .fn 106 [.vp [.int .i64 gN, .sl .int gT, .sl .int gX, .sl .int gC] 0]] => some (true, ok73b n gN gT gX gC, .tup [.sl .int (v73b n gN gT gX gC).1, .int .i64 (v73b n gN gT gX gC).2.1, .bool (v73b n gN gT gX gC).2.2])
  | _ => none
theorem entok73b : EntOk 73 ent73b := fun args own r h => by
  unfold ent73b at h
  split at h
  · simp only [Option.some.injEq, Prod.mk.injEq] at h
    obtain ⟨rfl, h, rfl⟩ := h
    exact ⟨RunF.calls (fun _ => semok73b) (fun _ => memok73b) at73b rfl (Nat.le_of_ble_eq_true rfl) (fun _ => rfl) (okP_val h), callable73b⟩
  · cases h
end Go.Proofs.Ytnfgfdeidkhdkaa.Eng
/- Lk: rot's orbits: what is gone round by a step, numbered by the least; false where the step is no exchange. -/
namespace Go.Proofs.Ytnfgfdeidkhdkaa.Eng
set_option linter.unusedVariables false
set_option linter.unusedSimpArgs false
def sta (X : List Int) (d : Int) : Int := gi X d
def stb (X : List Int) (d : Int) : Int := gi X (oth d)
/-- on the way at v: what was met -/
structure RJ (f : Int → Int) (m v c : Int) (p : List Int) : Prop where
  len : (p.length : Int) = m
  neg : ∀ u : Int, 0 ≤ u → u < m → gi p u = -1 ∨ 0 ≤ gi p u
  per : ∀ u : Int, 0 ≤ u → u < m → 0 ≤ gi p u → ∃ k : Nat, 0 < k ∧ it f k u = u
  clo : ∀ u : Int, 0 ≤ u → u < m → 0 ≤ gi p u → 0 ≤ gi p (f u)
  num : PermOn f m → NumTo m (Orb f) v p ∧ c = rkS (Orb f) v
  all : ∀ w : Int, 0 ≤ w → w < v → 0 ≤ gi p w
  c0 : 0 ≤ c ∧ c ≤ v
/-- on the way from d, j steps done -/
structure RK (f : Int → Int) (m d c : Int) (p0 : List Int) (j : Nat) (p : List Int) : Prop where
  len : (p.length : Int) = m
  on : ∀ i : Nat, i < j → gi p (it f i d) = c
  off : ∀ u : Int, 0 ≤ u → u < m → (∀ i : Nat, i < j → it f i d ≠ u) → gi p u = gi p0 u
  new : ∀ i : Nat, i < j → gi p0 (it f i d) < 0
  dis : ∀ i i' : Nat, i < i' → i' < j → it f i d ≠ it f i' d
section
variable {f : Int → Int} {m d c : Int} {p0 p : List Int} {j : Nat}
theorem RK.close (hr : ∀ d : Int, 0 ≤ d → d < m → 0 ≤ f d ∧ f d < m) (hJ : RJ f m d c p0) (hd : 0 ≤ d ∧ d < m) (hK : RK f m d c p0 j p) (hj : 0 < j) (he : it f j d = d) : RJ f m (d + 1) (c + 1) p := by
  have hrd := fun i => it_rng hr hd.1 hd.2 i
  have hc0 := hJ.c0
  -- what lies on the way
  have ch : ∀ n : Nat, ∃ i, i < j ∧ it f n d = it f i d := by
    intro n
    refine ⟨n % j, Nat.mod_lt _ hj, ?_⟩
    have e : it f n d = it f (n % j + n / j * j) d := by rw [Nat.mul_comm, Nat.mod_add_div]
    rw [e, it_add, it_mul he]
  have on : ∀ u, Orb f d u → gi p u = c := by
    rintro u ⟨n, rfl⟩
    obtain ⟨i, hi, e⟩ := ch n
    rw [e]; exact hK.on i hi
  have off : ∀ u : Int, 0 ≤ u → u < m → ¬ Orb f d u → gi p u = gi p0 u := fun u u0 u1 h => hK.off u u0 u1 fun i _ e => h ⟨i, e⟩
  have cs : ∀ u : Int, 0 ≤ u → u < m → (Orb f d u ∧ gi p u = c) ∨ (¬ Orb f d u ∧ gi p u = gi p0 u) := fun u u0 u1 => by
    by_cases h : Orb f d u
    · exact .inl ⟨h, on u h⟩
    · exact .inr ⟨h, off u u0 u1 h⟩
  refine ⟨hK.len, fun u u0 u1 => ?_, fun u u0 u1 hu => ?_, fun u u0 u1 hu => ?_, fun hp => ?_, fun w w0 w1 => ?_, by omega⟩
  · rcases cs u u0 u1 with ⟨a, b⟩ | ⟨a, b⟩
    · exact .inr (by omega)
    · rw [b]; exact hJ.neg u u0 u1
  · rcases cs u u0 u1 with ⟨⟨n, rfl⟩, b⟩ | ⟨a, b⟩
    · exact ⟨j, hj, it_comm he⟩
    · rw [b] at hu; exact hJ.per u u0 u1 hu
  · have hfu := hr u u0 u1
    rcases cs u u0 u1 with ⟨a, b⟩ | ⟨a, b⟩
    · rw [on (f u) (a.trans (.step f u))]; omega
    · rw [b] at hu
      rcases cs (f u) hfu.1 hfu.2 with ⟨a', b'⟩ | ⟨a', b'⟩
      · omega
      · rw [b']; exact hJ.clo u u0 u1 hu
  · obtain ⟨h1, h2⟩ := hJ.num hp
    have hn : gi p0 d < 0 := hK.new 0 hj
    have := NumTo.add hp.eqv h1 hd.1 hd.2 hn (q := p) (by have := hK.len; have := hJ.len; omega) (fun u u0 u1 hu => by rw [on u hu, h2]) (fun u u0 u1 hu => off u u0 u1 hu)
    exact ⟨this.1, by rw [this.2, h2]⟩
  · by_cases e : w = d
    · subst e; rw [on w (.refl f w)]; omega
    · have := hJ.all w w0 (by omega)
      rcases cs w w0 (by omega) with ⟨a, b⟩ | ⟨a, b⟩ <;> omega
theorem RK.broken (hr : ∀ d : Int, 0 ≤ d → d < m → 0 ≤ f d ∧ f d < m) (hJ : RJ f m d c p0) (hd : 0 ≤ d ∧ d < m) (hK : RK f m d c p0 j p) (hj : 0 < j) (hv : 0 ≤ gi p (it f j d)) (he : it f j d ≠ d) : ¬ PermOn f m := by
  intro hp
  have hrd := fun i => it_rng hr hd.1 hd.2 i
  obtain ⟨i, rfl⟩ : ∃ i, j = i + 1 := ⟨j - 1, by omega⟩
  have hl := hrd i
  by_cases h : ∃ n, n < i + 1 ∧ it f n d = it f (i + 1) d
  · obtain ⟨n, hn, e⟩ := h
    cases n with
    | zero => exact he e.symm
    | succ n =>
      have := hp.inj _ _ (hrd n).1 (hrd n).2 hl.1 hl.2 e
      exact hK.dis n i (by omega) (by omega) this
  · have e := hK.off _ (hrd (i + 1)).1 (hrd (i + 1)).2 (fun n hn e => h ⟨n, hn, e⟩)
    rw [e] at hv
    obtain ⟨k, k0, hk⟩ := hJ.per _ (hrd (i + 1)).1 (hrd (i + 1)).2 hv
    -- all that is met from there on was met
    have hall : ∀ n, 0 ≤ gi p0 (it f n (it f (i + 1) d)) := by
      intro n
      induction n with
      | zero => exact hv
      | succ n ih =>
        have := it_rng hr (hrd (i + 1)).1 (hrd (i + 1)).2 n
        exact hJ.clo _ this.1 this.2 ih
    obtain ⟨q, rfl⟩ : ∃ q, k = q + 1 := ⟨k - 1, by omega⟩
    have r2 := it_rng hr (hrd (i + 1)).1 (hrd (i + 1)).2 q
    have := hp.inj _ _ r2.1 r2.2 hl.1 hl.2 hk
    have h2 := hall q
    rw [this] at h2
    have := hK.new i (by omega)
    omega
theorem RK.go (hr : ∀ d : Int, 0 ≤ d → d < m → 0 ≤ f d ∧ f d < m) (hd : 0 ≤ d ∧ d < m) (hc : 0 ≤ c) (hK : RK f m d c p0 j p) (hv : gi p (it f j d) < 0) : RK f m d c p0 (j + 1) (p.set (it f j d).toNat c) := by
  have hrd := fun i => it_rng hr hd.1 hd.2 i
  have hl := hK.len
  have hne : ∀ i, i < j → it f i d ≠ it f j d := fun i hi e => by
    have := hK.on i hi
    rw [e] at this
    omega
  refine ⟨by rw [List.length_set]; exact hl, fun i hi => ?_, fun u u0 u1 hu => ?_, fun i hi => ?_, fun i i' h h' => ?_⟩
  · rw [gi_set (hrd j).1 (by have := hrd j; omega) (hrd i).1]
    by_cases e : i = j
    · subst e; rw [if_pos rfl]
    · rw [if_neg (hne i (by omega))]; exact hK.on i (by omega)
  · rw [gi_set (hrd j).1 (by have := hrd j; omega) u0, if_neg (fun e => hu j (by omega) e.symm)]
    exact hK.off u u0 u1 fun i hi => hu i (by omega)
  · by_cases e : i = j
    · subst e
      have := hK.off _ (hrd i).1 (hrd i).2 fun n hn => hne n hn
      omega
    · exact hK.new i (by omega)
  · by_cases e : i' = j
    · subst e; exact hne i h
    · exact hK.dis i i' h (by omega)
theorem RJ.skip (hJ : RJ f m d c p) (hd : 0 ≤ d ∧ d < m) (hv : 0 ≤ gi p d) : RJ f m (d + 1) c p := by
  refine ⟨hJ.len, hJ.neg, hJ.per, hJ.clo, fun hp => ?_, fun w w0 w1 => ?_, by have := hJ.c0; omega⟩
  · obtain ⟨h1, h2⟩ := hJ.num hp
    have := NumTo.skip hp.eqv h1 hd.1 hd.2 hv
    exact ⟨this.1, by rw [this.2, h2]⟩
  · by_cases e : w = d
    · subst e; exact hv
    · exact hJ.all w w0 (by omega)
/-- where all was met the step is an exchange -/
theorem RJ.perm (hr : ∀ d : Int, 0 ≤ d → d < m → 0 ≤ f d ∧ f d < m) (hJ : RJ f m m c p) : PermOn f m := by
  have hper : ∀ u : Int, 0 ≤ u → u < m → ∃ k : Nat, 0 < k ∧ it f k u = u := fun u u0 u1 => hJ.per u u0 u1 (hJ.all u u0 u1)
  refine ⟨hr, fun x y x0 x1 y0 y1 e => ?_⟩
  obtain ⟨k, k0, hk⟩ := hper x x0 x1
  obtain ⟨n, n0, hn⟩ := hper y y0 y1
  -- k * n steps bring both home
  have e1 : it f (n * k) x = x := it_mul hk n
  have e2 : it f (k * n) y = y := it_mul hn k
  rw [Nat.mul_comm] at e2
  obtain ⟨q, hq⟩ : ∃ q, n * k = q + 1 := ⟨n * k - 1, by have := Nat.mul_pos n0 k0; omega⟩
  rw [hq] at e1 e2
  rw [it_add f 1 x q] at e1
  rw [it_add f 1 y q] at e2
  have e3 : it f 1 x = it f 1 y := e
  rw [← e1, ← e2, e3]
end
structure OrbR (f : Int → Int) (m : Int) (q : List Int) (k : Int) (b : Bool) : Prop where
  yes : PermOn f m → PartedS m (Orb f) q k ∧ b = true
  no : ¬ PermOn f m → q = [] ∧ k = 0 ∧ b = false
theorem orbR_ex (f : Int → Int) {m : Int} (hm : 0 ≤ m) : ∃ q k b, OrbR f m q k b := by
  by_cases h : PermOn f m
  · obtain ⟨q, hq⟩ := partedS_ex h.eqv hm
    exact ⟨q, _, true, fun _ => ⟨hq, rfl⟩, fun c => absurd h c⟩
  · exact ⟨[], 0, false, fun c => absurd c h, fun _ => ⟨rfl, rfl, rfl⟩⟩
section
variable {N : Int} {T X C : List Int} {m : Int} {q : List Int} {k : Int} {b : Bool}
theorem l73a_8 (hm : m ≤ 240) (hst : ∀ d : Int, 0 ≤ d → d < m → ok105 d N T X C = true ∧ v105 d N T X C = sta X d) (hr : ∀ d : Int, 0 ≤ d → d < m → 0 ≤ sta X d ∧ sta X d < m) (hR : OrbR (sta X) m q k b)
    {d c : Int} {p0 : List Int} (hd : 0 ≤ d ∧ d < m) (hJ : RJ (sta X) m d c p0) (hk : ∀ p, RJ (sta X) m (d + 1) (c + 1) p → Lead E73a kr73a (.tup [.sl .int q, .int .i64 k, .bool b]) (a73a_4 N T X C (c + 1) m (d + 1) p)) :
    ∀ (n j : Nat) (p : List Int), negs p ≤ n → RK (sta X) m d c p0 j p → (j = 0 → gi p d < 0) → Lead E73a kr73a (.tup [.sl .int q, .int .i64 k, .bool b]) (a73a_8 N T X C c d (it (sta X) j d) m d p) := by
  have hc0 := hJ.c0
  intro n
  induction n with
  | zero =>
    intro j p hn hK h0
    have r := it_rng hr hd.1 hd.2 j
    have hl := hK.len
    have hv : 0 ≤ gi p (it (sta X) j d) := by
      by_cases h : gi p (it (sta X) j d) < 0
      · have := negs_set r.1 (by omega) h (v := 0) (by omega); omega
      · omega
    have hj : 0 < j := by
      cases j with
      | zero => have := h0 rfl; exact absurd hv (by show ¬ 0 ≤ gi p d; omega)
      | succ j => omega
    refine h73a_8 _ _ _ _ _ _ _ _ _ _ _ ?_
    unfold t73a_8
    by_cases he : it (sta X) j d = d
    · have := hk p (hK.close hr hJ hd hj he)
      simp (disch := omega) only [wrap_in]
      repeat (first | (refine good_pos (by omega) ?_) | (refine good_pos trivial ?_) | (refine good_neg (by omega) ?_) | (refine good_npos (by omega) ?_) | (refine good_nneg (by omega) ?_) | (refine good_gi (by omega) (by omega) ?_) | (refine good_gb (by omega) (by omega) ?_) | (refine good_ble (by omega) ?_))
      exact good_at this
    · obtain ⟨rfl, rfl, rfl⟩ := hR.no (hK.broken hr hJ hd hj hv he)
      repeat (first | (refine good_pos (by omega) ?_) | (refine good_pos trivial ?_) | (refine good_neg (by omega) ?_) | (refine good_npos (by omega) ?_) | (refine good_nneg (by omega) ?_) | (refine good_gi (by omega) (by omega) ?_) | (refine good_gb (by omega) (by omega) ?_) | (refine good_ble (by omega) ?_))
      exact good_end rfl
  | succ n ih =>
    intro j p hn hK h0
    have r := it_rng hr hd.1 hd.2 j
    have hl := hK.len
    refine h73a_8 _ _ _ _ _ _ _ _ _ _ _ ?_
    unfold t73a_8
    by_cases hv : gi p (it (sta X) j d) < 0
    · obtain ⟨s1, s2⟩ := hst _ r.1 r.2
      have hneg := negs_set r.1 (by omega) hv hc0.1
      have := ih (j + 1) _ (by omega) (hK.go hr hd hc0.1 hv) (fun e => by cases e)
      rw [s2]
      repeat (first | (refine good_pos (by omega) ?_) | (refine good_pos trivial ?_) | (refine good_neg (by omega) ?_) | (refine good_npos (by omega) ?_) | (refine good_nneg (by omega) ?_) | (refine good_gi (by omega) (by omega) ?_) | (refine good_gb (by omega) (by omega) ?_) | (refine good_ble (by omega) ?_))
      exact good_true s1 (good_at this)
    · have hj : 0 < j := by
        cases j with
        | zero => have := h0 rfl; exact absurd this hv
        | succ j => omega
      by_cases he : it (sta X) j d = d
      · have := hk p (hK.close hr hJ hd hj he)
        simp (disch := omega) only [wrap_in]
        repeat (first | (refine good_pos (by omega) ?_) | (refine good_pos trivial ?_) | (refine good_neg (by omega) ?_) | (refine good_npos (by omega) ?_) | (refine good_nneg (by omega) ?_) | (refine good_gi (by omega) (by omega) ?_) | (refine good_gb (by omega) (by omega) ?_) | (refine good_ble (by omega) ?_))
        exact good_at this
      · obtain ⟨rfl, rfl, rfl⟩ := hR.no (hK.broken hr hJ hd hj (by omega) he)
        repeat (first | (refine good_pos (by omega) ?_) | (refine good_pos trivial ?_) | (refine good_neg (by omega) ?_) | (refine good_npos (by omega) ?_) | (refine good_nneg (by omega) ?_) | (refine good_gi (by omega) (by omega) ?_) | (refine good_gb (by omega) (by omega) ?_) | (refine good_ble (by omega) ?_))
        exact good_end rfl
theorem l73a_4 (hm : m ≤ 240) (hst : ∀ d : Int, 0 ≤ d → d < m → ok105 d N T X C = true ∧ v105 d N T X C = sta X d) (hr : ∀ d : Int, 0 ≤ d → d < m → 0 ≤ sta X d ∧ sta X d < m) (hR : OrbR (sta X) m q k b) :
    ∀ (n : Nat) (v c : Int) (p : List Int), 0 ≤ v → v ≤ m → m - v = n → RJ (sta X) m v c p → Lead E73a kr73a (.tup [.sl .int q, .int .i64 k, .bool b]) (a73a_4 N T X C c m v p) := by
  intro n
  induction n with
  | zero =>
    intro v c p v0 v1 v2 hJ
    obtain rfl : v = m := by omega
    have hp := hJ.perm hr
    obtain ⟨h1, rfl⟩ := hR.yes hp
    obtain ⟨h3, h4⟩ := hJ.num hp
    obtain ⟨rfl, rfl⟩ := (h3.done hp.eqv).uniq hp.eqv h1
    refine h73a_4 _ _ _ _ _ _ _ _ _ ?_
    unfold t73a_4
    repeat (first | (refine good_pos (by omega) ?_) | (refine good_pos trivial ?_) | (refine good_neg (by omega) ?_) | (refine good_npos (by omega) ?_) | (refine good_nneg (by omega) ?_) | (refine good_gi (by omega) (by omega) ?_) | (refine good_gb (by omega) (by omega) ?_) | (refine good_ble (by omega) ?_))
    rw [h4]
    exact good_end rfl
  | succ n ih =>
    intro v c p v0 v1 v2 hJ
    have hl := hJ.len
    have hc0 := hJ.c0
    refine h73a_4 _ _ _ _ _ _ _ _ _ ?_
    unfold t73a_4
    by_cases hv : 0 ≤ gi p v
    · have := ih (v + 1) c p (by omega) (by omega) (by omega) (hJ.skip ⟨v0, by omega⟩ hv)
      simp (disch := omega) only [wrap_in]
      repeat (first | (refine good_pos (by omega) ?_) | (refine good_pos trivial ?_) | (refine good_neg (by omega) ?_) | (refine good_npos (by omega) ?_) | (refine good_nneg (by omega) ?_) | (refine good_gi (by omega) (by omega) ?_) | (refine good_gb (by omega) (by omega) ?_) | (refine good_ble (by omega) ?_))
      exact good_at this
    · repeat (first | (refine good_pos (by omega) ?_) | (refine good_pos trivial ?_) | (refine good_neg (by omega) ?_) | (refine good_npos (by omega) ?_) | (refine good_nneg (by omega) ?_) | (refine good_gi (by omega) (by omega) ?_) | (refine good_gb (by omega) (by omega) ?_) | (refine good_ble (by omega) ?_))
      have hK : RK (sta X) m v c p 0 p := ⟨hl, fun i hi => by omega, fun u _ _ _ => rfl, fun i hi => by omega, fun i i' _ h => by omega⟩
      exact good_at (l73a_8 hm hst hr hR ⟨v0, by omega⟩ hJ (fun p' hp' => ih (v + 1) (c + 1) p' (by omega) (by omega) (by omega) hp') (negs p) 0 p (Nat.le_refl _) hK (fun _ => by omega))
theorem f73a' (h0 : 0 ≤ m) (hm : m ≤ 240) (hst : ∀ d : Int, 0 ≤ d → d < m → ok105 d N T X C = true ∧ v105 d N T X C = sta X d) (hr : ∀ d : Int, 0 ≤ d → d < m → 0 ≤ sta X d ∧ sta X d < m) :
    ok73a m N T X C = true ∧ OrbR (sta X) m (v73a m N T X C).1 (v73a m N T X C).2.1 (v73a m N T X C).2.2 := by
  obtain ⟨q, k, b, hR⟩ := orbR_ex (sta X) h0
  obtain ⟨a1, a2⟩ := f75 (v := -1) (n := m) h0 (by omega)
  have hj : RJ (sta X) m 0 0 (List.replicate m.toNat (-1)) := by
    have hg : ∀ u : Int, 0 ≤ u → u < m → gi (List.replicate m.toNat (-1)) u = -1 := fun u u0 u1 => gi_replicate u0 (by omega)
    refine ⟨by simp; omega, fun u u0 u1 => .inl (hg u u0 u1), fun u u0 u1 hu => ?_, fun u u0 u1 hu => ?_, fun hp => ⟨⟨by simp; omega, fun u u0 u1 => .inl ⟨hg u u0 u1, fun w w0 w1 => by omega⟩⟩, rfl⟩, fun w w0 w1 => by omega, by omega⟩
    · rw [hg u u0 u1] at hu; omega
    · rw [hg u u0 u1] at hu; omega
  have := sp73a m N T X C (q, k, b) (run73a _ _ _ _ _ _ (by
    unfold t73a
    rw [a2]
    exact good_true a1 (good_at (l73a_4 hm hst hr hR m.toNat 0 0 _ (by omega) h0 (by omega) hj))))
  exact ⟨this.1, by rw [this.2]; exact hR⟩
end
section
variable {N : Int} {T X C : List Int} {m : Int} {q : List Int} {k : Int} {b : Bool}
theorem l73b_8 (hm : m ≤ 240) (hst : ∀ d : Int, 0 ≤ d → d < m → ok106 d N T X C = true ∧ v106 d N T X C = stb X d) (hr : ∀ d : Int, 0 ≤ d → d < m → 0 ≤ stb X d ∧ stb X d < m) (hR : OrbR (stb X) m q k b)
    {d c : Int} {p0 : List Int} (hd : 0 ≤ d ∧ d < m) (hJ : RJ (stb X) m d c p0) (hk : ∀ p, RJ (stb X) m (d + 1) (c + 1) p → Lead E73b kr73b (.tup [.sl .int q, .int .i64 k, .bool b]) (a73b_4 N T X C (c + 1) m (d + 1) p)) :
    ∀ (n j : Nat) (p : List Int), negs p ≤ n → RK (stb X) m d c p0 j p → (j = 0 → gi p d < 0) → Lead E73b kr73b (.tup [.sl .int q, .int .i64 k, .bool b]) (a73b_8 N T X C c d (it (stb X) j d) m d p) := by
  have hc0 := hJ.c0
  intro n
  induction n with
  | zero =>
    intro j p hn hK h0
    have r := it_rng hr hd.1 hd.2 j
    have hl := hK.len
    have hv : 0 ≤ gi p (it (stb X) j d) := by
      by_cases h : gi p (it (stb X) j d) < 0
      · have := negs_set r.1 (by omega) h (v := 0) (by omega); omega
      · omega
    have hj : 0 < j := by
      cases j with
      | zero => have := h0 rfl; exact absurd hv (by show ¬ 0 ≤ gi p d; omega)
      | succ j => omega
    refine h73b_8 _ _ _ _ _ _ _ _ _ _ _ ?_
    unfold t73b_8
    by_cases he : it (stb X) j d = d
    · have := hk p (hK.close hr hJ hd hj he)
      simp (disch := omega) only [wrap_in]
      repeat (first | (refine good_pos (by omega) ?_) | (refine good_pos trivial ?_) | (refine good_neg (by omega) ?_) | (refine good_npos (by omega) ?_) | (refine good_nneg (by omega) ?_) | (refine good_gi (by omega) (by omega) ?_) | (refine good_gb (by omega) (by omega) ?_) | (refine good_ble (by omega) ?_))
      exact good_at this
    · obtain ⟨rfl, rfl, rfl⟩ := hR.no (hK.broken hr hJ hd hj hv he)
      repeat (first | (refine good_pos (by omega) ?_) | (refine good_pos trivial ?_) | (refine good_neg (by omega) ?_) | (refine good_npos (by omega) ?_) | (refine good_nneg (by omega) ?_) | (refine good_gi (by omega) (by omega) ?_) | (refine good_gb (by omega) (by omega) ?_) | (refine good_ble (by omega) ?_))
      exact good_end rfl
  | succ n ih =>
    intro j p hn hK h0
    have r := it_rng hr hd.1 hd.2 j
    have hl := hK.len
    refine h73b_8 _ _ _ _ _ _ _ _ _ _ _ ?_
    unfold t73b_8
    by_cases hv : gi p (it (stb X) j d) < 0
    · obtain ⟨s1, s2⟩ := hst _ r.1 r.2
      have hneg := negs_set r.1 (by omega) hv hc0.1
      have := ih (j + 1) _ (by omega) (hK.go hr hd hc0.1 hv) (fun e => by cases e)
      rw [s2]
      repeat (first | (refine good_pos (by omega) ?_) | (refine good_pos trivial ?_) | (refine good_neg (by omega) ?_) | (refine good_npos (by omega) ?_) | (refine good_nneg (by omega) ?_) | (refine good_gi (by omega) (by omega) ?_) | (refine good_gb (by omega) (by omega) ?_) | (refine good_ble (by omega) ?_))
      exact good_true s1 (good_at this)
    · have hj : 0 < j := by
        cases j with
        | zero => have := h0 rfl; exact absurd this hv
        | succ j => omega
      by_cases he : it (stb X) j d = d
      · have := hk p (hK.close hr hJ hd hj he)
        simp (disch := omega) only [wrap_in]
        repeat (first | (refine good_pos (by omega) ?_) | (refine good_pos trivial ?_) | (refine good_neg (by omega) ?_) | (refine good_npos (by omega) ?_) | (refine good_nneg (by omega) ?_) | (refine good_gi (by omega) (by omega) ?_) | (refine good_gb (by omega) (by omega) ?_) | (refine good_ble (by omega) ?_))
        exact good_at this
      · obtain ⟨rfl, rfl, rfl⟩ := hR.no (hK.broken hr hJ hd hj (by omega) he)
        repeat (first | (refine good_pos (by omega) ?_) | (refine good_pos trivial ?_) | (refine good_neg (by omega) ?_) | (refine good_npos (by omega) ?_) | (refine good_nneg (by omega) ?_) | (refine good_gi (by omega) (by omega) ?_) | (refine good_gb (by omega) (by omega) ?_) | (refine good_ble (by omega) ?_))
        exact good_end rfl
theorem l73b_4 (hm : m ≤ 240) (hst : ∀ d : Int, 0 ≤ d → d < m → ok106 d N T X C = true ∧ v106 d N T X C = stb X d) (hr : ∀ d : Int, 0 ≤ d → d < m → 0 ≤ stb X d ∧ stb X d < m) (hR : OrbR (stb X) m q k b) :
    ∀ (n : Nat) (v c : Int) (p : List Int), 0 ≤ v → v ≤ m → m - v = n → RJ (stb X) m v c p → Lead E73b kr73b (.tup [.sl .int q, .int .i64 k, .bool b]) (a73b_4 N T X C c m v p) := by
  intro n
  induction n with
  | zero =>
    intro v c p v0 v1 v2 hJ
    obtain rfl : v = m := by omega
    have hp := hJ.perm hr
    obtain ⟨h1, rfl⟩ := hR.yes hp
    obtain ⟨h3, h4⟩ := hJ.num hp
    obtain ⟨rfl, rfl⟩ := (h3.done hp.eqv).uniq hp.eqv h1
    refine h73b_4 _ _ _ _ _ _ _ _ _ ?_
    unfold t73b_4
    repeat (first | (refine good_pos (by omega) ?_) | (refine good_pos trivial ?_) | (refine good_neg (by omega) ?_) | (refine good_npos (by omega) ?_) | (refine good_nneg (by omega) ?_) | (refine good_gi (by omega) (by omega) ?_) | (refine good_gb (by omega) (by omega) ?_) | (refine good_ble (by omega) ?_))
    rw [h4]
    exact good_end rfl
  | succ n ih =>
    intro v c p v0 v1 v2 hJ
    have hl := hJ.len
    have hc0 := hJ.c0
    refine h73b_4 _ _ _ _ _ _ _ _ _ ?_
    unfold t73b_4
    by_cases hv : 0 ≤ gi p v
    · have := ih (v + 1) c p (by omega) (by omega) (by omega) (hJ.skip ⟨v0, by omega⟩ hv)
      simp (disch := omega) only [wrap_in]
      repeat (first | (refine good_pos (by omega) ?_) | (refine good_pos trivial ?_) | (refine good_neg (by omega) ?_) | (refine good_npos (by omega) ?_) | (refine good_nneg (by omega) ?_) | (refine good_gi (by omega) (by omega) ?_) | (refine good_gb (by omega) (by omega) ?_) | (refine good_ble (by omega) ?_))
      exact good_at this
    · repeat (first | (refine good_pos (by omega) ?_) | (refine good_pos trivial ?_) | (refine good_neg (by omega) ?_) | (refine good_npos (by omega) ?_) | (refine good_nneg (by omega) ?_) | (refine good_gi (by omega) (by omega) ?_) | (refine good_gb (by omega) (by omega) ?_) | (refine good_ble (by omega) ?_))
      have hK : RK (stb X) m v c p 0 p := ⟨hl, fun i hi => by omega, fun u _ _ _ => rfl, fun i hi => by omega, fun i i' _ h => by omega⟩
      exact good_at (l73b_8 hm hst hr hR ⟨v0, by omega⟩ hJ (fun p' hp' => ih (v + 1) (c + 1) p' (by omega) (by omega) (by omega) hp') (negs p) 0 p (Nat.le_refl _) hK (fun _ => by omega))
theorem f73b' (h0 : 0 ≤ m) (hm : m ≤ 240) (hst : ∀ d : Int, 0 ≤ d → d < m → ok106 d N T X C = true ∧ v106 d N T X C = stb X d) (hr : ∀ d : Int, 0 ≤ d → d < m → 0 ≤ stb X d ∧ stb X d < m) :
    ok73b m N T X C = true ∧ OrbR (stb X) m (v73b m N T X C).1 (v73b m N T X C).2.1 (v73b m N T X C).2.2 := by
  obtain ⟨q, k, b, hR⟩ := orbR_ex (stb X) h0
  obtain ⟨a1, a2⟩ := f75 (v := -1) (n := m) h0 (by omega)
  have hj : RJ (stb X) m 0 0 (List.replicate m.toNat (-1)) := by
    have hg : ∀ u : Int, 0 ≤ u → u < m → gi (List.replicate m.toNat (-1)) u = -1 := fun u u0 u1 => gi_replicate u0 (by omega)
    refine ⟨by simp; omega, fun u u0 u1 => .inl (hg u u0 u1), fun u u0 u1 hu => ?_, fun u u0 u1 hu => ?_, fun hp => ⟨⟨by simp; omega, fun u u0 u1 => .inl ⟨hg u u0 u1, fun w w0 w1 => by omega⟩⟩, rfl⟩, fun w w0 w1 => by omega, by omega⟩
    · rw [hg u u0 u1] at hu; omega
    · rw [hg u u0 u1] at hu; omega
  have := sp73b m N T X C (q, k, b) (run73b _ _ _ _ _ _ (by
    unfold t73b
    rw [a2]
    exact good_true a1 (good_at (l73b_4 hm hst hr hR m.toNat 0 0 _ (by omega) h0 (by omega) hj))))
  exact ⟨this.1, by rw [this.2]; exact hR⟩
end
theorem f105 {N : Int} {T X C : List Int} {d : Int} (h0 : 0 ≤ d) (h1 : d < (X.length : Int)) : ok105 d N T X C = true ∧ v105 d N T X C = sta X d :=
  sp105 _ _ _ _ _ _ (run105 _ _ _ _ _ _ (by
    unfold t105
    repeat (first | (refine good_pos (by omega) ?_) | (refine good_pos trivial ?_) | (refine good_neg (by omega) ?_) | (refine good_npos (by omega) ?_) | (refine good_nneg (by omega) ?_) | (refine good_gi (by omega) (by omega) ?_) | (refine good_gb (by omega) (by omega) ?_) | (refine good_ble (by omega) ?_))
    exact good_end rfl))
theorem f106 {N : Int} {T X C : List Int} {d : Int} (h0 : 0 ≤ d) (h1 : d < (X.length : Int)) (he : (X.length : Int) % 2 = 0) (hk : (X.length : Int) ≤ 240) : ok106 d N T X C = true ∧ v106 d N T X C = stb X d :=
  sp106 _ _ _ _ _ _ (run106 _ _ _ _ _ _ (by
    obtain ⟨a, b⟩ := f77 h0 (by omega)
    obtain ⟨o0, o1⟩ := oth_in h0 h1 he
    unfold t106
    rw [b]
    refine good_true a ?_
    repeat (first | (refine good_pos (by omega) ?_) | (refine good_pos trivial ?_) | (refine good_neg (by omega) ?_) | (refine good_npos (by omega) ?_) | (refine good_nneg (by omega) ?_) | (refine good_gi (by omega) (by omega) ?_) | (refine good_gb (by omega) (by omega) ?_) | (refine good_ble (by omega) ?_))
    exact good_end rfl))
theorem f73a {N : Int} {T X C : List Int} (hm : (X.length : Int) ≤ 240) (hr : InR X X.length) : ok73a (X.length : Int) N T X C = true ∧ OrbR (sta X) X.length (v73a (X.length : Int) N T X C).1 (v73a (X.length : Int) N T X C).2.1 (v73a (X.length : Int) N T X C).2.2 :=
  f73a' (by omega) hm (fun d h0 h1 => f105 h0 h1) (fun d h0 h1 => hr d h0 h1)
theorem f73b {N : Int} {T X C : List Int} (hm : (X.length : Int) ≤ 240) (he : (X.length : Int) % 2 = 0) (hr : InR X X.length) : ok73b (X.length : Int) N T X C = true ∧ OrbR (stb X) X.length (v73b (X.length : Int) N T X C).1 (v73b (X.length : Int) N T X C).2.1 (v73b (X.length : Int) N T X C).2.2 :=
  f73b' (by omega) hm (fun d h0 h1 => f106 h0 h1 he hm) (fun d h0 h1 => hr _ (oth_in h0 h1 he).1 (oth_in h0 h1 he).2)
/-- the step about a face is an exchange where the step about a vertex is -/
theorem perm_ab {X : List Int} (he : (X.length : Int) % 2 = 0) (h : PermOn (sta X) X.length) : PermOn (stb X) X.length :=
  ⟨fun d h0 h1 => h.rng _ (oth_in h0 h1 he).1 (oth_in h0 h1 he).2, fun d e d0 d1 e0 e1 x => by
    have := h.inj _ _ (oth_in d0 d1 he).1 (oth_in d0 d1 he).2 (oth_in e0 e1 he).1 (oth_in e0 e1 he).2 x
    rw [← oth_oth d, this, oth_oth]⟩
end Go.Proofs.Ytnfgfdeidkhdkaa.Eng
/- P79: watershed/rot.About$1: its run from loop to loop, as Lean printed it (a program of this session's wrote these rows). No condition. -/
namespace Go.Proofs.Ytnfgfdeidkhdkaa.Eng
set_option linter.unusedVariables false
set_option maxRecDepth 100000
noncomputable def ents79 : List (Nat × Ent) := []
noncomputable def mems79 : List (Nat × EntM) := []
noncomputable def E79 (fu : Nat) : Env := ⟨9, 0, semOf ents79, [], memOf mems79, [], [], fu⟩
theorem fuel79 : Fuel E79 := fun _ => rfl
noncomputable def kr79 : St → Option CV := endK true Try.f79.results.toList
noncomputable def t79 (d : Int) (gN : Int) (gT : List Int) (gX : List Int) (gC : List Int) : Option Leaf :=
  bif Decidable.decide ((0 : Int) ≤ d) then
   ob (gX[Int.toNat d]?) fun x1 =>
    some (.ret (CV.int IntKind.i64 x1))
  else
   none
theorem c79 (fu : Nat) (d : Int) (gN : Int) (gT : List Int) (gX : List Int) (gC : List Int) : cutB (E79 fu) kr79 Try.f79 (⟨parT 0 [.int .i64 d, .vp [.int .i64 gN, .sl .int gT, .sl .int gX, .sl .int gC] 0], []⟩) = t79 d gN gT gX gC := by kernel_rfl
def R79 (d : Int) (gN : Int) (gT : List Int) (gX : List Int) (gC : List Int) (r : Int) : Prop := RunF E79 true Try.f79 [.int .i64 d, .vp [.int .i64 gN, .sl .int gT, .sl .int gX, .sl .int gC] 0] (.int .i64 r)
theorem run79 (d : Int) (gN : Int) (gT : List Int) (gX : List Int) (gC : List Int) (r : Int) (h : Good E79 kr79 (t79 d gN gT gX gC) (.int .i64 r)) : R79 d gN gT gX gC r := RunF.of fuel79 (fun fu => c79 fu d gN gT gX gC) h
noncomputable def ok79 (d : Int) (gN : Int) (gT : List Int) (gX : List Int) (gC : List Int) : Bool := okP (R79 d gN gT gX gC)
noncomputable def v79 (d : Int) (gN : Int) (gT : List Int) (gX : List Int) (gC : List Int) : Int := valP (R79 d gN gT gX gC)
theorem sp79 (d : Int) (gN : Int) (gT : List Int) (gX : List Int) (gC : List Int) (r : Int) (h : R79 d gN gT gX gC r) : ok79 d gN gT gX gC = true ∧ v79 d gN gT gX gC = r := okP_of h fun b hb => by
  have := RunF.uniq hb h
  simp_all
theorem at79 : P.funcs[79]? = some Try.f79 := by kernel_rfl
theorem callable79 : callable 79 = true := by kernel_rfl
theorem semok79 : SemOk (semOf ents79) := EntsOk.sem (.nil)
theorem memok79 : MemOk (memOf mems79) := EntsMOk.mem (.nil)
noncomputable def ent79 : Ent := fun args => match args with
  | [.int .i64 d, .vp [.int .i64 gN, .sl .int gT, .sl .int gX, .sl .int gC] 0] => some (true, ok79 d gN gT gX gC, .int .i64 (v79 d gN gT gX gC))
  | _ => none
theorem entok79 : EntOk 79 ent79 := fun args own r h => by
  unfold ent79 at h
  split at h
  · simp only [Option.some.injEq, Prod.mk.injEq] at h
    obtain ⟨rfl, h, rfl⟩ := h
    exact ⟨RunF.calls (fun _ => semok79) (fun _ => memok79) at79 rfl (Nat.le_of_ble_eq_true rfl) (fun _ => rfl) (okP_val h), callable79⟩
  · cases h
end Go.Proofs.Ytnfgfdeidkhdkaa.Eng
/- P78a: watershed/rot.round: its run from loop to loop, as Lean printed it (a program of this session's wrote these rows). No condition. -/
namespace Go.Proofs.Ytnfgfdeidkhdkaa.Eng
set_option linter.unusedVariables false
set_option maxRecDepth 100000
noncomputable def ents78a : List (Nat × Ent) := [(72, ent72), (79, ent79)]
noncomputable def mems78a : List (Nat × EntM) := []
noncomputable def E78a (fu : Nat) : Env := ⟨51, 0, semOf ents78a, [], memOf mems78a, [], [(100005, ⟨[(7, none, .int)], [(1, none), (2, none), (3, none), (3, some 0), (3, some 1), (3, some 2), (3, some 3), (7, none), (8, none)], [1, 2, 3, 7, 8]⟩)], fu⟩
theorem fuel78a : Fuel E78a := fun _ => rfl
noncomputable def kr78a : St → Option CV := endK true Try.f78.results.toList
noncomputable def K78a_5 : List Fr := theK Try.f78 100005
noncomputable def C78a_5 : Code := theC Try.f78 100005
def s78a_5 (i1 : Int) (i2_0_0 : Int) (l2_0_1 : List Int) (l2_0_2 : List Int) (l2_0_3 : List Int) (i8 : Int) (iM0_0 : Int) (lM0_1 : List Int) (lM0_2 : List Int) (lM0_3 : List Int) (mM1 : List Int) : St := ⟨[(1, .int .i64 i1), (2, .fn 79 [.vp [.int .i64 i2_0_0, .sl .int l2_0_1, .sl .int l2_0_2, .sl .int l2_0_3] 0]), (3, .ptr 8000 0), (7, .ref 8001), (8, .int .i64 i8)], [(8000, some (.cells 25 [.int .i64 iM0_0, .sl .int lM0_1, .sl .int lM0_2, .sl .int lM0_3])), (8001, some (.arr true .int mM1))]⟩
noncomputable def a78a_5 (i1 : Int) (i2_0_0 : Int) (l2_0_1 : List Int) (l2_0_2 : List Int) (l2_0_3 : List Int) (i8 : Int) (iM0_0 : Int) (lM0_1 : List Int) (lM0_2 : List Int) (lM0_3 : List Int) (mM1 : List Int) : Leaf := .at K78a_5 C78a_5 (s78a_5 i1 i2_0_0 l2_0_1 l2_0_2 l2_0_3 i8 iM0_0 lM0_1 lM0_2 lM0_3 mM1)
noncomputable def t78a_5 (i1 : Int) (i2_0_0 : Int) (l2_0_1 : List Int) (l2_0_2 : List Int) (l2_0_3 : List Int) (i8 : Int) (iM0_0 : Int) (lM0_1 : List Int) (lM0_2 : List Int) (lM0_3 : List Int) (mM1 : List Int) : Option Leaf :=
  bif Decidable.decide ((↑(List.length mM1) : Int) < (↑(List.length lM0_1) : Int)) then
   bif Decidable.decide ((0 : Int) < (↑(List.length mM1) : Int)) then
    bif Decidable.decide (i8 = i1) then
     bif Nat.beq (SK.ty SK.int) (22 : Nat) && Decidable.decide ((↑(List.length mM1) : Int) = (↑(List.length mM1) : Int)) && Decidable.decide ((↑(List.length mM1) : Int) = (↑(List.length mM1) : Int)) then
      some (.ret (CV.sl SK.int mM1))
     else
      none
    else
     bif Nat.ble (List.length mM1 + List.length [i8]) (4294967296 : Nat) then
      bif ok79 i8 i2_0_0 l2_0_1 l2_0_2 l2_0_3 then
       some (a78a_5 i1 i2_0_0 l2_0_1 l2_0_2 l2_0_3 (v79 i8 i2_0_0 l2_0_1 l2_0_2 l2_0_3) iM0_0 lM0_1 lM0_2 lM0_3 (mM1 ++ [i8]))
      else
       none
     else
      none
   else
    bif Nat.ble (List.length mM1 + List.length [i8]) (4294967296 : Nat) then
     bif ok79 i8 i2_0_0 l2_0_1 l2_0_2 l2_0_3 then
      some (a78a_5 i1 i2_0_0 l2_0_1 l2_0_2 l2_0_3 (v79 i8 i2_0_0 l2_0_1 l2_0_2 l2_0_3) iM0_0 lM0_1 lM0_2 lM0_3 (mM1 ++ [i8]))
     else
      none
    else
     none
  else
   bif Nat.beq (SK.ty SK.int) (22 : Nat) && Decidable.decide ((↑(List.length mM1) : Int) = (↑(List.length mM1) : Int)) && Decidable.decide ((↑(List.length mM1) : Int) = (↑(List.length mM1) : Int)) then
    some (.ret (CV.sl SK.int mM1))
   else
    none
theorem c78a_5 (fu : Nat) (i1 : Int) (i2_0_0 : Int) (l2_0_1 : List Int) (l2_0_2 : List Int) (l2_0_3 : List Int) (i8 : Int) (iM0_0 : Int) (lM0_1 : List Int) (lM0_2 : List Int) (lM0_3 : List Int) (mM1 : List Int) : cutL (E78a fu) kr78a K78a_5 C78a_5 (s78a_5 i1 i2_0_0 l2_0_1 l2_0_2 l2_0_3 i8 iM0_0 lM0_1 lM0_2 lM0_3 mM1) = t78a_5 i1 i2_0_0 l2_0_1 l2_0_2 l2_0_3 i8 iM0_0 lM0_1 lM0_2 lM0_3 mM1 := by kernel_rfl
theorem h78a_5 (i1 : Int) (i2_0_0 : Int) (l2_0_1 : List Int) (l2_0_2 : List Int) (l2_0_3 : List Int) (i8 : Int) (iM0_0 : Int) (lM0_1 : List Int) (lM0_2 : List Int) (lM0_3 : List Int) (mM1 : List Int) (r : CV) (h : Good E78a kr78a (t78a_5 i1 i2_0_0 l2_0_1 l2_0_2 l2_0_3 i8 iM0_0 lM0_1 lM0_2 lM0_3 mM1) r) : Lead E78a kr78a r (a78a_5 i1 i2_0_0 l2_0_1 l2_0_2 l2_0_3 i8 iM0_0 lM0_1 lM0_2 lM0_3 mM1) := Lead.at fuel78a (fun fu => c78a_5 fu i1 i2_0_0 l2_0_1 l2_0_2 l2_0_3 i8 iM0_0 lM0_1 lM0_2 lM0_3 mM1) h
noncomputable def t78a (gN : Int) (gT : List Int) (gX : List Int) (gC : List Int) (d : Int) (hN : Int) (hT : List Int) (hX : List Int) (hC : List Int) : Option Leaf :=
  bif ok72 gN gT gX gC then
   bif !v72 gN gT gX gC then
    some (.ret (CV.sl SK.int []))
   else
    bif Decidable.decide (d < (0 : Int)) then
     some (.ret (CV.sl SK.int []))
    else
     bif Decidable.decide ((↑(List.length gT) : Int) ≤ d) then
      some (.ret (CV.sl SK.int []))
     else
      some (a78a_5 d hN hT hX hC d gN gT gX gC [])
  else
   none
theorem c78a (fu : Nat) (gN : Int) (gT : List Int) (gX : List Int) (gC : List Int) (d : Int) (hN : Int) (hT : List Int) (hX : List Int) (hC : List Int) : cutB (E78a fu) kr78a Try.f78 (⟨parT 0 [.agg [.int .i64 gN, .sl .int gT, .sl .int gX, .sl .int gC], .int .i64 d, .fn 79 [.vp [.int .i64 hN, .sl .int hT, .sl .int hX, .sl .int hC] 0]], []⟩) = t78a gN gT gX gC d hN hT hX hC := by kernel_rfl
def R78a (gN : Int) (gT : List Int) (gX : List Int) (gC : List Int) (d : Int) (hN : Int) (hT : List Int) (hX : List Int) (hC : List Int) (r : List Int) : Prop := RunF E78a true Try.f78 [.agg [.int .i64 gN, .sl .int gT, .sl .int gX, .sl .int gC], .int .i64 d, .fn 79 [.vp [.int .i64 hN, .sl .int hT, .sl .int hX, .sl .int hC] 0]] (.sl .int r)
theorem run78a (gN : Int) (gT : List Int) (gX : List Int) (gC : List Int) (d : Int) (hN : Int) (hT : List Int) (hX : List Int) (hC : List Int) (r : List Int) (h : Good E78a kr78a (t78a gN gT gX gC d hN hT hX hC) (.sl .int r)) : R78a gN gT gX gC d hN hT hX hC r := RunF.of fuel78a (fun fu => c78a fu gN gT gX gC d hN hT hX hC) h
noncomputable def ok78a (gN : Int) (gT : List Int) (gX : List Int) (gC : List Int) (d : Int) (hN : Int) (hT : List Int) (hX : List Int) (hC : List Int) : Bool := okP (R78a gN gT gX gC d hN hT hX hC)
noncomputable def v78a (gN : Int) (gT : List Int) (gX : List Int) (gC : List Int) (d : Int) (hN : Int) (hT : List Int) (hX : List Int) (hC : List Int) : List Int := valP (R78a gN gT gX gC d hN hT hX hC)
theorem sp78a (gN : Int) (gT : List Int) (gX : List Int) (gC : List Int) (d : Int) (hN : Int) (hT : List Int) (hX : List Int) (hC : List Int) (r : List Int) (h : R78a gN gT gX gC d hN hT hX hC r) : ok78a gN gT gX gC d hN hT hX hC = true ∧ v78a gN gT gX gC d hN hT hX hC = r := okP_of h fun b hb => by
  have := RunF.uniq hb h
  simp_all
theorem at78a : P.funcs[78]? = some Try.f78 := by kernel_rfl
theorem callable78a : callable 78 = true := by kernel_rfl
theorem semok78a : SemOk (semOf ents78a) := EntsOk.sem (.cons entok72 (.cons entok79 (.nil)))
theorem memok78a : MemOk (memOf mems78a) := EntsMOk.mem (.nil)
noncomputable def ent78a : Ent := fun args => match args with
  | [.agg [.int .i64 gN, .sl .int gT, .sl .int gX, .sl .int gC], .int .i64 d, .fn 79 [.vp [.int .i64 hN, .sl .int hT, .sl .int hX, .sl .int hC] 0]] => some (true, ok78a gN gT gX gC d hN hT hX hC, .sl .int (v78a gN gT gX gC d hN hT hX hC))
  | _ => none
theorem entok78a : EntOk 78 ent78a := fun args own r h => by
  unfold ent78a at h
  split at h
  · simp only [Option.some.injEq, Prod.mk.injEq] at h
    obtain ⟨rfl, h, rfl⟩ := h
    exact ⟨RunF.calls (fun _ => semok78a) (fun _ => memok78a) at78a rfl (Nat.le_of_ble_eq_true rfl) (fun _ => rfl) (okP_val h), callable78a⟩
  · cases h
end Go.Proofs.Ytnfgfdeidkhdkaa.Eng
/- P33: watershed/rot.About: its run from loop to loop, as Lean printed it (a program of this session's wrote these rows). No condition. -/
namespace Go.Proofs.Ytnfgfdeidkhdkaa.Eng
set_option linter.unusedVariables false
set_option maxRecDepth 100000
noncomputable def ents33 : List (Nat × Ent) := [(78, ent78a)]
noncomputable def mems33 : List (Nat × EntM) := []
noncomputable def E33 (fu : Nat) : Env := ⟨9, 0, semOf ents33, [], memOf mems33, [], [], fu⟩
theorem fuel33 : Fuel E33 := fun _ => rfl
noncomputable def kr33 : St → Option CV := endK true Try.f33.results.toList
noncomputable def t33 (gN : Int) (gT : List Int) (gX : List Int) (gC : List Int) (d : Int) : Option Leaf :=
  bif ok78a gN gT gX gC d gN gT gX gC then
   some (.ret (CV.sl SK.int (v78a gN gT gX gC d gN gT gX gC)))
  else
   none
theorem c33 (fu : Nat) (gN : Int) (gT : List Int) (gX : List Int) (gC : List Int) (d : Int) : cutB (E33 fu) kr33 Try.f33 (⟨parT 0 [.agg [.int .i64 gN, .sl .int gT, .sl .int gX, .sl .int gC], .int .i64 d], []⟩) = t33 gN gT gX gC d := by kernel_rfl
def R33 (gN : Int) (gT : List Int) (gX : List Int) (gC : List Int) (d : Int) (r : List Int) : Prop := RunF E33 true Try.f33 [.agg [.int .i64 gN, .sl .int gT, .sl .int gX, .sl .int gC], .int .i64 d] (.sl .int r)
theorem run33 (gN : Int) (gT : List Int) (gX : List Int) (gC : List Int) (d : Int) (r : List Int) (h : Good E33 kr33 (t33 gN gT gX gC d) (.sl .int r)) : R33 gN gT gX gC d r := RunF.of fuel33 (fun fu => c33 fu gN gT gX gC d) h
noncomputable def ok33 (gN : Int) (gT : List Int) (gX : List Int) (gC : List Int) (d : Int) : Bool := okP (R33 gN gT gX gC d)
noncomputable def v33 (gN : Int) (gT : List Int) (gX : List Int) (gC : List Int) (d : Int) : List Int := valP (R33 gN gT gX gC d)
theorem sp33 (gN : Int) (gT : List Int) (gX : List Int) (gC : List Int) (d : Int) (r : List Int) (h : R33 gN gT gX gC d r) : ok33 gN gT gX gC d = true ∧ v33 gN gT gX gC d = r := okP_of h fun b hb => by
  have := RunF.uniq hb h
  simp_all
theorem at33 : P.funcs[33]? = some Try.f33 := by kernel_rfl
theorem callable33 : callable 33 = true := by kernel_rfl
theorem semok33 : SemOk (semOf ents33) := EntsOk.sem (.cons entok78a (.nil))
theorem memok33 : MemOk (memOf mems33) := EntsMOk.mem (.nil)
noncomputable def ent33 : Ent := fun args => match args with
  | [.agg [.int .i64 gN, .sl .int gT, .sl .int gX, .sl .int gC], .int .i64 d] => some (true, ok33 gN gT gX gC d, .sl .int (v33 gN gT gX gC d))
  | _ => none
theorem entok33 : EntOk 33 ent33 := fun args own r h => by
  unfold ent33 at h
  split at h
  · simp only [Option.some.injEq, Prod.mk.injEq] at h
    obtain ⟨rfl, h, rfl⟩ := h
    exact ⟨RunF.calls (fun _ => semok33) (fun _ => memok33) at33 rfl (Nat.le_of_ble_eq_true rfl) (fun _ => rfl) (okP_val h), callable33⟩
  · cases h
end Go.Proofs.Ytnfgfdeidkhdkaa.Eng
/- P34: watershed/watershedref2.About: its run from loop to loop, as Lean printed it (a program of this session's wrote these rows). No condition. -/
namespace Go.Proofs.Ytnfgfdeidkhdkaa.Eng
set_option linter.unusedVariables false
set_option maxRecDepth 100000
noncomputable def ents34 : List (Nat × Ent) := []
noncomputable def mems34 : List (Nat × EntM) := []
noncomputable def E34 (fu : Nat) : Env := ⟨27, 0, semOf ents34, [], memOf mems34, [], [(100003, ⟨[(5, none, .int)], [(1, none), (2, none), (2, some 0), (2, some 1), (2, some 2), (2, some 3), (5, none), (6, none)], [1, 2, 5, 6]⟩)], fu⟩
theorem fuel34 : Fuel E34 := fun _ => rfl
noncomputable def kr34 : St → Option CV := endK true Try.f34.results.toList
noncomputable def K34_3 : List Fr := theK Try.f34 100003
noncomputable def C34_3 : Code := theC Try.f34 100003
def s34_3 (i1 : Int) (i6 : Int) (iM0_0 : Int) (lM0_1 : List Int) (lM0_2 : List Int) (lM0_3 : List Int) (mM1 : List Int) : St := ⟨[(1, .int .i64 i1), (2, .ptr 8000 0), (5, .ref 8001), (6, .int .i64 i6)], [(8000, some (.cells 25 [.int .i64 iM0_0, .sl .int lM0_1, .sl .int lM0_2, .sl .int lM0_3])), (8001, some (.arr true .int mM1))]⟩
noncomputable def a34_3 (i1 : Int) (i6 : Int) (iM0_0 : Int) (lM0_1 : List Int) (lM0_2 : List Int) (lM0_3 : List Int) (mM1 : List Int) : Leaf := .at K34_3 C34_3 (s34_3 i1 i6 iM0_0 lM0_1 lM0_2 lM0_3 mM1)
noncomputable def t34_3 (i1 : Int) (i6 : Int) (iM0_0 : Int) (lM0_1 : List Int) (lM0_2 : List Int) (lM0_3 : List Int) (mM1 : List Int) : Option Leaf :=
  bif !Decidable.decide (i6 = i1) then
   bif Nat.ble (List.length mM1 + List.length [i6]) (4294967296 : Nat) then
    bif Decidable.decide ((0 : Int) ≤ i6) then
     ob (lM0_2[Int.toNat i6]?) fun x2 =>
      some (a34_3 i1 x2 iM0_0 lM0_1 lM0_2 lM0_3 (mM1 ++ [i6]))
    else
     none
   else
    none
  else
   some (.ret (CV.sl SK.int mM1))
theorem c34_3 (fu : Nat) (i1 : Int) (i6 : Int) (iM0_0 : Int) (lM0_1 : List Int) (lM0_2 : List Int) (lM0_3 : List Int) (mM1 : List Int) : cutL (E34 fu) kr34 K34_3 C34_3 (s34_3 i1 i6 iM0_0 lM0_1 lM0_2 lM0_3 mM1) = t34_3 i1 i6 iM0_0 lM0_1 lM0_2 lM0_3 mM1 := by kernel_rfl
theorem h34_3 (i1 : Int) (i6 : Int) (iM0_0 : Int) (lM0_1 : List Int) (lM0_2 : List Int) (lM0_3 : List Int) (mM1 : List Int) (r : CV) (h : Good E34 kr34 (t34_3 i1 i6 iM0_0 lM0_1 lM0_2 lM0_3 mM1) r) : Lead E34 kr34 r (a34_3 i1 i6 iM0_0 lM0_1 lM0_2 lM0_3 mM1) := Lead.at fuel34 (fun fu => c34_3 fu i1 i6 iM0_0 lM0_1 lM0_2 lM0_3 mM1) h
noncomputable def t34 (gN : Int) (gT : List Int) (gX : List Int) (gC : List Int) (d : Int) : Option Leaf :=
  bif Decidable.decide ((0 : Int) ≤ d) then
   ob (gX[Int.toNat d]?) fun x1 =>
    some (a34_3 d x1 gN gT gX gC [d])
  else
   none
theorem c34 (fu : Nat) (gN : Int) (gT : List Int) (gX : List Int) (gC : List Int) (d : Int) : cutB (E34 fu) kr34 Try.f34 (⟨parT 0 [.agg [.int .i64 gN, .sl .int gT, .sl .int gX, .sl .int gC], .int .i64 d], []⟩) = t34 gN gT gX gC d := by kernel_rfl
def R34 (gN : Int) (gT : List Int) (gX : List Int) (gC : List Int) (d : Int) (r : List Int) : Prop := RunF E34 true Try.f34 [.agg [.int .i64 gN, .sl .int gT, .sl .int gX, .sl .int gC], .int .i64 d] (.sl .int r)
theorem run34 (gN : Int) (gT : List Int) (gX : List Int) (gC : List Int) (d : Int) (r : List Int) (h : Good E34 kr34 (t34 gN gT gX gC d) (.sl .int r)) : R34 gN gT gX gC d r := RunF.of fuel34 (fun fu => c34 fu gN gT gX gC d) h
noncomputable def ok34 (gN : Int) (gT : List Int) (gX : List Int) (gC : List Int) (d : Int) : Bool := okP (R34 gN gT gX gC d)
noncomputable def v34 (gN : Int) (gT : List Int) (gX : List Int) (gC : List Int) (d : Int) : List Int := valP (R34 gN gT gX gC d)
theorem sp34 (gN : Int) (gT : List Int) (gX : List Int) (gC : List Int) (d : Int) (r : List Int) (h : R34 gN gT gX gC d r) : ok34 gN gT gX gC d = true ∧ v34 gN gT gX gC d = r := okP_of h fun b hb => by
  have := RunF.uniq hb h
  simp_all
theorem at34 : P.funcs[34]? = some Try.f34 := by kernel_rfl
theorem callable34 : callable 34 = true := by kernel_rfl
theorem semok34 : SemOk (semOf ents34) := EntsOk.sem (.nil)
theorem memok34 : MemOk (memOf mems34) := EntsMOk.mem (.nil)
noncomputable def ent34 : Ent := fun args => match args with
  | [.agg [.int .i64 gN, .sl .int gT, .sl .int gX, .sl .int gC], .int .i64 d] => some (true, ok34 gN gT gX gC d, .sl .int (v34 gN gT gX gC d))
  | _ => none
theorem entok34 : EntOk 34 ent34 := fun args own r h => by
  unfold ent34 at h
  split at h
  · simp only [Option.some.injEq, Prod.mk.injEq] at h
    obtain ⟨rfl, h, rfl⟩ := h
    exact ⟨RunF.calls (fun _ => semok34) (fun _ => memok34) at34 rfl (Nat.le_of_ble_eq_true rfl) (fun _ => rfl) (okP_val h), callable34⟩
  · cases h
end Go.Proofs.Ytnfgfdeidkhdkaa.Eng
/- P74: watershed/rot.behind: its run from loop to loop, as Lean printed it (a program of this session's wrote these rows). No condition. -/
namespace Go.Proofs.Ytnfgfdeidkhdkaa.Eng
set_option linter.unusedVariables false
set_option maxRecDepth 100000
noncomputable def ents74 : List (Nat × Ent) := []
noncomputable def mems74 : List (Nat × EntM) := []
noncomputable def E74 (fu : Nat) : Env := ⟨4, 0, semOf ents74, [], memOf mems74, [], [], fu⟩
theorem fuel74 : Fuel E74 := fun _ => rfl
noncomputable def kr74 : St → Option CV := endK false Try.f74.results.toList
noncomputable def t74 (gN : Int) (gT : List Int) (gX : List Int) (gC : List Int) : Option Leaf :=
  some (.ret (CV.fn (106 : Nat) [CV.vp [CV.int IntKind.i64 gN, CV.sl SK.int gT, CV.sl SK.int gX, CV.sl SK.int gC] (0 : Nat)]))
theorem c74 (fu : Nat) (gN : Int) (gT : List Int) (gX : List Int) (gC : List Int) : cutB (E74 fu) kr74 Try.f74 (⟨parT 0 [.agg [.int .i64 gN, .sl .int gT, .sl .int gX, .sl .int gC]], []⟩) = t74 gN gT gX gC := by kernel_rfl
def R74 (gN : Int) (gT : List Int) (gX : List Int) (gC : List Int) (r : NetV) : Prop := RunF E74 false Try.f74 [.agg [.int .i64 gN, .sl .int gT, .sl .int gX, .sl .int gC]] (.fn 106 [.vp [.int .i64 r.N, .sl .int r.T, .sl .int r.X, .sl .int r.C] 0])
theorem run74 (gN : Int) (gT : List Int) (gX : List Int) (gC : List Int) (r : NetV) (h : Good E74 kr74 (t74 gN gT gX gC) (.fn 106 [.vp [.int .i64 r.N, .sl .int r.T, .sl .int r.X, .sl .int r.C] 0])) : R74 gN gT gX gC r := RunF.of fuel74 (fun fu => c74 fu gN gT gX gC) h
noncomputable def ok74 (gN : Int) (gT : List Int) (gX : List Int) (gC : List Int) : Bool := okP (R74 gN gT gX gC)
noncomputable def v74 (gN : Int) (gT : List Int) (gX : List Int) (gC : List Int) : NetV := valP (R74 gN gT gX gC)
theorem sp74 (gN : Int) (gT : List Int) (gX : List Int) (gC : List Int) (r : NetV) (h : R74 gN gT gX gC r) : ok74 gN gT gX gC = true ∧ v74 gN gT gX gC = r := okP_of h fun b hb => by
  have := RunF.uniq hb h
  cases b; cases r; simp_all
theorem at74 : P.funcs[74]? = some Try.f74 := by kernel_rfl
theorem callable74 : callable 74 = true := by kernel_rfl
theorem semok74 : SemOk (semOf ents74) := EntsOk.sem (.nil)
theorem memok74 : MemOk (memOf mems74) := EntsMOk.mem (.nil)
noncomputable def ent74 : Ent := fun args => match args with
  | [.agg [.int .i64 gN, .sl .int gT, .sl .int gX, .sl .int gC]] => some (false, ok74 gN gT gX gC, .fn 106 [.vp [.int .i64 (v74 gN gT gX gC).N, .sl .int (v74 gN gT gX gC).T, .sl .int (v74 gN gT gX gC).X, .sl .int (v74 gN gT gX gC).C] 0])
  | _ => none
theorem entok74 : EntOk 74 ent74 := fun args own r h => by
  unfold ent74 at h
  split at h
  · simp only [Option.some.injEq, Prod.mk.injEq] at h
    obtain ⟨rfl, h, rfl⟩ := h
    exact ⟨RunF.calls (fun _ => semok74) (fun _ => memok74) at74 rfl (Nat.le_of_ble_eq_true rfl) (fun _ => rfl) (okP_val h), callable74⟩
  · cases h
end Go.Proofs.Ytnfgfdeidkhdkaa.Eng
/- P78b: watershed/rot.round: its run from loop to loop, as Lean printed it (a program of this session's wrote these rows). No condition. -/
namespace Go.Proofs.Ytnfgfdeidkhdkaa.Eng
set_option linter.unusedVariables false
set_option maxRecDepth 100000
noncomputable def ents78b : List (Nat × Ent) := [(72, ent72), (106, ent106)]
noncomputable def mems78b : List (Nat × EntM) := []
noncomputable def E78b (fu : Nat) : Env := ⟨51, 0, semOf ents78b, [], memOf mems78b, [], [(100005, ⟨[(7, none, .int)], [(1, none), (2, none), (3, none), (3, some 0), (3, some 1), (3, some 2), (3, some 3), (7, none), (8, none)], [1, 2, 3, 7, 8]⟩)], fu⟩
theorem fuel78b : Fuel E78b := fun _ => rfl
noncomputable def kr78b : St → Option CV := endK true Try.f78.results.toList
noncomputable def K78b_5 : List Fr := theK Try.f78 100005
noncomputable def C78b_5 : Code := theC Try.f78 100005
def s78b_5 (i1 : Int) (i2_0_0 : Int) (l2_0_1 : List Int) (l2_0_2 : List Int) (l2_0_3 : List Int) (i8 : Int) (iM0_0 : Int) (lM0_1 : List Int) (lM0_2 : List Int) (lM0_3 : List Int) (mM1 : List Int) : St := ⟨[(1, .int .i64 i1), (2, .fn 106 [.vp [.int .i64 i2_0_0, .sl .int l2_0_1, .sl .int l2_0_2, .sl .int l2_0_3] 0]), (3, .ptr 8000 0), (7, .ref 8001), (8, .int .i64 i8)], [(8000, some (.cells 25 [.int .i64 iM0_0, .sl .int lM0_1, .sl .int lM0_2, .sl .int lM0_3])), (8001, some (.arr true .int mM1))]⟩
noncomputable def a78b_5 (i1 : Int) (i2_0_0 : Int) (l2_0_1 : List Int) (l2_0_2 : List Int) (l2_0_3 : List Int) (i8 : Int) (iM0_0 : Int) (lM0_1 : List Int) (lM0_2 : List Int) (lM0_3 : List Int) (mM1 : List Int) : Leaf := .at K78b_5 C78b_5 (s78b_5 i1 i2_0_0 l2_0_1 l2_0_2 l2_0_3 i8 iM0_0 lM0_1 lM0_2 lM0_3 mM1)
noncomputable def t78b_5 (i1 : Int) (i2_0_0 : Int) (l2_0_1 : List Int) (l2_0_2 : List Int) (l2_0_3 : List Int) (i8 : Int) (iM0_0 : Int) (lM0_1 : List Int) (lM0_2 : List Int) (lM0_3 : List Int) (mM1 : List Int) : Option Leaf :=
  bif Decidable.decide ((↑(List.length mM1) : Int) < (↑(List.length lM0_1) : Int)) then
   bif Decidable.decide ((0 : Int) < (↑(List.length mM1) : Int)) then
    bif Decidable.decide (i8 = i1) then
     bif Nat.beq (SK.ty SK.int) (22 : Nat) && Decidable.decide ((↑(List.length mM1) : Int) = (↑(List.length mM1) : Int)) && Decidable.decide ((↑(List.length mM1) : Int) = (↑(List.length mM1) : Int)) then
      some (.ret (CV.sl SK.int mM1))
     else
      none
    else
     bif Nat.ble (List.length mM1 + List.length [i8]) (4294967296 : Nat) then
      bif ok106 i8 i2_0_0 l2_0_1 l2_0_2 l2_0_3 then
       some (a78b_5 i1 i2_0_0 l2_0_1 l2_0_2 l2_0_3 (v106 i8 i2_0_0 l2_0_1 l2_0_2 l2_0_3) iM0_0 lM0_1 lM0_2 lM0_3 (mM1 ++ [i8]))
      else
       none
     else
      none
   else
    bif Nat.ble (List.length mM1 + List.length [i8]) (4294967296 : Nat) then
     bif ok106 i8 i2_0_0 l2_0_1 l2_0_2 l2_0_3 then
      some (a78b_5 i1 i2_0_0 l2_0_1 l2_0_2 l2_0_3 (v106 i8 i2_0_0 l2_0_1 l2_0_2 l2_0_3) iM0_0 lM0_1 lM0_2 lM0_3 (mM1 ++ [i8]))
     else
      none
    else
     none
  else
   bif Nat.beq (SK.ty SK.int) (22 : Nat) && Decidable.decide ((↑(List.length mM1) : Int) = (↑(List.length mM1) : Int)) && Decidable.decide ((↑(List.length mM1) : Int) = (↑(List.length mM1) : Int)) then
    some (.ret (CV.sl SK.int mM1))
   else
    none
theorem c78b_5 (fu : Nat) (i1 : Int) (i2_0_0 : Int) (l2_0_1 : List Int) (l2_0_2 : List Int) (l2_0_3 : List Int) (i8 : Int) (iM0_0 : Int) (lM0_1 : List Int) (lM0_2 : List Int) (lM0_3 : List Int) (mM1 : List Int) : cutL (E78b fu) kr78b K78b_5 C78b_5 (s78b_5 i1 i2_0_0 l2_0_1 l2_0_2 l2_0_3 i8 iM0_0 lM0_1 lM0_2 lM0_3 mM1) = t78b_5 i1 i2_0_0 l2_0_1 l2_0_2 l2_0_3 i8 iM0_0 lM0_1 lM0_2 lM0_3 mM1 := by kernel_rfl
theorem h78b_5 (i1 : Int) (i2_0_0 : Int) (l2_0_1 : List Int) (l2_0_2 : List Int) (l2_0_3 : List Int) (i8 : Int) (iM0_0 : Int) (lM0_1 : List Int) (lM0_2 : List Int) (lM0_3 : List Int) (mM1 : List Int) (r : CV) (h : Good E78b kr78b (t78b_5 i1 i2_0_0 l2_0_1 l2_0_2 l2_0_3 i8 iM0_0 lM0_1 lM0_2 lM0_3 mM1) r) : Lead E78b kr78b r (a78b_5 i1 i2_0_0 l2_0_1 l2_0_2 l2_0_3 i8 iM0_0 lM0_1 lM0_2 lM0_3 mM1) := Lead.at fuel78b (fun fu => c78b_5 fu i1 i2_0_0 l2_0_1 l2_0_2 l2_0_3 i8 iM0_0 lM0_1 lM0_2 lM0_3 mM1) h
noncomputable def t78b (gN : Int) (gT : List Int) (gX : List Int) (gC : List Int) (d : Int) (hN : Int) (hT : List Int) (hX : List Int) (hC : List Int) : Option Leaf :=
  bif ok72 gN gT gX gC then
   bif !v72 gN gT gX gC then
    some (.ret (CV.sl SK.int []))
   else
    bif Decidable.decide (d < (0 : Int)) then
     some (.ret (CV.sl SK.int []))
    else
     bif Decidable.decide ((↑(List.length gT) : Int) ≤ d) then
      some (.ret (CV.sl SK.int []))
     else
      some (a78b_5 d hN hT hX hC d gN gT gX gC [])
  else
   none
theorem c78b (fu : Nat) (gN : Int) (gT : List Int) (gX : List Int) (gC : List Int) (d : Int) (hN : Int) (hT : List Int) (hX : List Int) (hC : List Int) : cutB (E78b fu) kr78b Try.f78 (⟨parT 0 [.agg [.int .i64 gN, .sl .int gT, .sl .int gX, .sl .int gC], .int .i64 d, .fn 106 [.vp [.int .i64 hN, .sl .int hT, .sl .int hX, .sl .int hC] 0]], []⟩) = t78b gN gT gX gC d hN hT hX hC := by kernel_rfl
def R78b (gN : Int) (gT : List Int) (gX : List Int) (gC : List Int) (d : Int) (hN : Int) (hT : List Int) (hX : List Int) (hC : List Int) (r : List Int) : Prop := RunF E78b true Try.f78 [.agg [.int .i64 gN, .sl .int gT, .sl .int gX, .sl .int gC], .int .i64 d, .fn 106 [.vp [.int .i64 hN, .sl .int hT, .sl .int hX, .sl .int hC] 0]] (.sl .int r)
theorem run78b (gN : Int) (gT : List Int) (gX : List Int) (gC : List Int) (d : Int) (hN : Int) (hT : List Int) (hX : List Int) (hC : List Int) (r : List Int) (h : Good E78b kr78b (t78b gN gT gX gC d hN hT hX hC) (.sl .int r)) : R78b gN gT gX gC d hN hT hX hC r := RunF.of fuel78b (fun fu => c78b fu gN gT gX gC d hN hT hX hC) h
noncomputable def ok78b (gN : Int) (gT : List Int) (gX : List Int) (gC : List Int) (d : Int) (hN : Int) (hT : List Int) (hX : List Int) (hC : List Int) : Bool := okP (R78b gN gT gX gC d hN hT hX hC)
noncomputable def v78b (gN : Int) (gT : List Int) (gX : List Int) (gC : List Int) (d : Int) (hN : Int) (hT : List Int) (hX : List Int) (hC : List Int) : List Int := valP (R78b gN gT gX gC d hN hT hX hC)
theorem sp78b (gN : Int) (gT : List Int) (gX : List Int) (gC : List Int) (d : Int) (hN : Int) (hT : List Int) (hX : List Int) (hC : List Int) (r : List Int) (h : R78b gN gT gX gC d hN hT hX hC r) : ok78b gN gT gX gC d hN hT hX hC = true ∧ v78b gN gT gX gC d hN hT hX hC = r := okP_of h fun b hb => by
  have := RunF.uniq hb h
  simp_all
theorem at78b : P.funcs[78]? = some Try.f78 := by kernel_rfl
theorem callable78b : callable 78 = true := by kernel_rfl
theorem semok78b : SemOk (semOf ents78b) := EntsOk.sem (.cons entok72 (.cons entok106 (.nil)))
theorem memok78b : MemOk (memOf mems78b) := EntsMOk.mem (.nil)
noncomputable def ent78b : Ent := fun args => match args with
  | [.agg [.int .i64 gN, .sl .int gT, .sl .int gX, .sl .int gC], .int .i64 d, .fn 106 [.vp [.int .i64 hN, .sl .int hT, .sl .int hX, .sl .int hC] 0]] => some (true, ok78b gN gT gX gC d hN hT hX hC, .sl .int (v78b gN gT gX gC d hN hT hX hC))
  | _ => none
theorem entok78b : EntOk 78 ent78b := fun args own r h => by
  unfold ent78b at h
  split at h
  · simp only [Option.some.injEq, Prod.mk.injEq] at h
    obtain ⟨rfl, h, rfl⟩ := h
    exact ⟨RunF.calls (fun _ => semok78b) (fun _ => memok78b) at78b rfl (Nat.le_of_ble_eq_true rfl) (fun _ => rfl) (okP_val h), callable78b⟩
  · cases h
end Go.Proofs.Ytnfgfdeidkhdkaa.Eng
/- P35: watershed/rot.Face: its run from loop to loop, as Lean printed it (a program of this session's wrote these rows). No condition. -/
namespace Go.Proofs.Ytnfgfdeidkhdkaa.Eng
set_option linter.unusedVariables false
set_option maxRecDepth 100000
noncomputable def ents35 : List (Nat × Ent) := [(74, ent74), (78, ent78b)]
noncomputable def mems35 : List (Nat × EntM) := []
noncomputable def E35 (fu : Nat) : Env := ⟨10, 0, semOf ents35, [], memOf mems35, [], [], fu⟩
theorem fuel35 : Fuel E35 := fun _ => rfl
noncomputable def kr35 : St → Option CV := endK true Try.f35.results.toList
noncomputable def t35 (gN : Int) (gT : List Int) (gX : List Int) (gC : List Int) (d : Int) : Option Leaf :=
  bif ok74 gN gT gX gC then
   bif ok78b gN gT gX gC d (NetV.N (v74 gN gT gX gC)) (NetV.T (v74 gN gT gX gC)) (NetV.X (v74 gN gT gX gC)) (NetV.C (v74 gN gT gX gC)) then
    some (.ret (CV.sl SK.int (v78b gN gT gX gC d (NetV.N (v74 gN gT gX gC)) (NetV.T (v74 gN gT gX gC)) (NetV.X (v74 gN gT gX gC)) (NetV.C (v74 gN gT gX gC)))))
   else
    none
  else
   none
theorem c35 (fu : Nat) (gN : Int) (gT : List Int) (gX : List Int) (gC : List Int) (d : Int) : cutB (E35 fu) kr35 Try.f35 (⟨parT 0 [.agg [.int .i64 gN, .sl .int gT, .sl .int gX, .sl .int gC], .int .i64 d], []⟩) = t35 gN gT gX gC d := by kernel_rfl
def R35 (gN : Int) (gT : List Int) (gX : List Int) (gC : List Int) (d : Int) (r : List Int) : Prop := RunF E35 true Try.f35 [.agg [.int .i64 gN, .sl .int gT, .sl .int gX, .sl .int gC], .int .i64 d] (.sl .int r)
theorem run35 (gN : Int) (gT : List Int) (gX : List Int) (gC : List Int) (d : Int) (r : List Int) (h : Good E35 kr35 (t35 gN gT gX gC d) (.sl .int r)) : R35 gN gT gX gC d r := RunF.of fuel35 (fun fu => c35 fu gN gT gX gC d) h
noncomputable def ok35 (gN : Int) (gT : List Int) (gX : List Int) (gC : List Int) (d : Int) : Bool := okP (R35 gN gT gX gC d)
noncomputable def v35 (gN : Int) (gT : List Int) (gX : List Int) (gC : List Int) (d : Int) : List Int := valP (R35 gN gT gX gC d)
theorem sp35 (gN : Int) (gT : List Int) (gX : List Int) (gC : List Int) (d : Int) (r : List Int) (h : R35 gN gT gX gC d r) : ok35 gN gT gX gC d = true ∧ v35 gN gT gX gC d = r := okP_of h fun b hb => by
  have := RunF.uniq hb h
  simp_all
theorem at35 : P.funcs[35]? = some Try.f35 := by kernel_rfl
theorem callable35 : callable 35 = true := by kernel_rfl
theorem semok35 : SemOk (semOf ents35) := EntsOk.sem (.cons entok74 (.cons entok78b (.nil)))
theorem memok35 : MemOk (memOf mems35) := EntsMOk.mem (.nil)
noncomputable def ent35 : Ent := fun args => match args with
  | [.agg [.int .i64 gN, .sl .int gT, .sl .int gX, .sl .int gC], .int .i64 d] => some (true, ok35 gN gT gX gC d, .sl .int (v35 gN gT gX gC d))
  | _ => none
theorem entok35 : EntOk 35 ent35 := fun args own r h => by
  unfold ent35 at h
  split at h
  · simp only [Option.some.injEq, Prod.mk.injEq] at h
    obtain ⟨rfl, h, rfl⟩ := h
    exact ⟨RunF.calls (fun _ => semok35) (fun _ => memok35) at35 rfl (Nat.le_of_ble_eq_true rfl) (fun _ => rfl) (okP_val h), callable35⟩
  · cases h
end Go.Proofs.Ytnfgfdeidkhdkaa.Eng
/- P36: watershed/watershedref2.Face: its run from loop to loop, as Lean printed it (a program of this session's wrote these rows). No condition. -/
namespace Go.Proofs.Ytnfgfdeidkhdkaa.Eng
set_option linter.unusedVariables false
set_option maxRecDepth 100000
noncomputable def ents36 : List (Nat × Ent) := []
noncomputable def mems36 : List (Nat × EntM) := []
noncomputable def E36 (fu : Nat) : Env := ⟨29, 0, semOf ents36, [], memOf mems36, [], [(100003, ⟨[(5, none, .int)], [(1, none), (2, none), (2, some 0), (2, some 1), (2, some 2), (2, some 3), (5, none), (6, none)], [1, 2, 5, 6]⟩)], fu⟩
theorem fuel36 : Fuel E36 := fun _ => rfl
noncomputable def kr36 : St → Option CV := endK true Try.f36.results.toList
noncomputable def K36_3 : List Fr := theK Try.f36 100003
noncomputable def C36_3 : Code := theC Try.f36 100003
def s36_3 (i1 : Int) (i6 : Int) (iM0_0 : Int) (lM0_1 : List Int) (lM0_2 : List Int) (lM0_3 : List Int) (mM1 : List Int) : St := ⟨[(1, .int .i64 i1), (2, .ptr 8000 0), (5, .ref 8001), (6, .int .i64 i6)], [(8000, some (.cells 25 [.int .i64 iM0_0, .sl .int lM0_1, .sl .int lM0_2, .sl .int lM0_3])), (8001, some (.arr true .int mM1))]⟩
noncomputable def a36_3 (i1 : Int) (i6 : Int) (iM0_0 : Int) (lM0_1 : List Int) (lM0_2 : List Int) (lM0_3 : List Int) (mM1 : List Int) : Leaf := .at K36_3 C36_3 (s36_3 i1 i6 iM0_0 lM0_1 lM0_2 lM0_3 mM1)
noncomputable def t36_3 (i1 : Int) (i6 : Int) (iM0_0 : Int) (lM0_1 : List Int) (lM0_2 : List Int) (lM0_3 : List Int) (mM1 : List Int) : Option Leaf :=
  bif !Decidable.decide (i6 = i1) then
   bif Nat.ble (List.length mM1 + List.length [i6]) (4294967296 : Nat) then
    bif Decidable.decide ((0 : Int) ≤ bitsI BinOp.xor IntKind.i64 i6 (1 : Int)) then
     ob (lM0_2[Int.toNat (bitsI BinOp.xor IntKind.i64 i6 (1 : Int))]?) fun x2 =>
      some (a36_3 i1 x2 iM0_0 lM0_1 lM0_2 lM0_3 (mM1 ++ [i6]))
    else
     none
   else
    none
  else
   some (.ret (CV.sl SK.int mM1))
theorem c36_3 (fu : Nat) (i1 : Int) (i6 : Int) (iM0_0 : Int) (lM0_1 : List Int) (lM0_2 : List Int) (lM0_3 : List Int) (mM1 : List Int) : cutL (E36 fu) kr36 K36_3 C36_3 (s36_3 i1 i6 iM0_0 lM0_1 lM0_2 lM0_3 mM1) = t36_3 i1 i6 iM0_0 lM0_1 lM0_2 lM0_3 mM1 := by kernel_rfl
theorem h36_3 (i1 : Int) (i6 : Int) (iM0_0 : Int) (lM0_1 : List Int) (lM0_2 : List Int) (lM0_3 : List Int) (mM1 : List Int) (r : CV) (h : Good E36 kr36 (t36_3 i1 i6 iM0_0 lM0_1 lM0_2 lM0_3 mM1) r) : Lead E36 kr36 r (a36_3 i1 i6 iM0_0 lM0_1 lM0_2 lM0_3 mM1) := Lead.at fuel36 (fun fu => c36_3 fu i1 i6 iM0_0 lM0_1 lM0_2 lM0_3 mM1) h
noncomputable def t36 (gN : Int) (gT : List Int) (gX : List Int) (gC : List Int) (d : Int) : Option Leaf :=
  bif Decidable.decide ((0 : Int) ≤ bitsI BinOp.xor IntKind.i64 d (1 : Int)) then
   ob (gX[Int.toNat (bitsI BinOp.xor IntKind.i64 d (1 : Int))]?) fun x1 =>
    some (a36_3 d x1 gN gT gX gC [d])
  else
   none
theorem c36 (fu : Nat) (gN : Int) (gT : List Int) (gX : List Int) (gC : List Int) (d : Int) : cutB (E36 fu) kr36 Try.f36 (⟨parT 0 [.agg [.int .i64 gN, .sl .int gT, .sl .int gX, .sl .int gC], .int .i64 d], []⟩) = t36 gN gT gX gC d := by kernel_rfl
def R36 (gN : Int) (gT : List Int) (gX : List Int) (gC : List Int) (d : Int) (r : List Int) : Prop := RunF E36 true Try.f36 [.agg [.int .i64 gN, .sl .int gT, .sl .int gX, .sl .int gC], .int .i64 d] (.sl .int r)
theorem run36 (gN : Int) (gT : List Int) (gX : List Int) (gC : List Int) (d : Int) (r : List Int) (h : Good E36 kr36 (t36 gN gT gX gC d) (.sl .int r)) : R36 gN gT gX gC d r := RunF.of fuel36 (fun fu => c36 fu gN gT gX gC d) h
noncomputable def ok36 (gN : Int) (gT : List Int) (gX : List Int) (gC : List Int) (d : Int) : Bool := okP (R36 gN gT gX gC d)
noncomputable def v36 (gN : Int) (gT : List Int) (gX : List Int) (gC : List Int) (d : Int) : List Int := valP (R36 gN gT gX gC d)
theorem sp36 (gN : Int) (gT : List Int) (gX : List Int) (gC : List Int) (d : Int) (r : List Int) (h : R36 gN gT gX gC d r) : ok36 gN gT gX gC d = true ∧ v36 gN gT gX gC d = r := okP_of h fun b hb => by
  have := RunF.uniq hb h
  simp_all
theorem at36 : P.funcs[36]? = some Try.f36 := by kernel_rfl
theorem callable36 : callable 36 = true := by kernel_rfl
theorem semok36 : SemOk (semOf ents36) := EntsOk.sem (.nil)
theorem memok36 : MemOk (memOf mems36) := EntsMOk.mem (.nil)
noncomputable def ent36 : Ent := fun args => match args with
  | [.agg [.int .i64 gN, .sl .int gT, .sl .int gX, .sl .int gC], .int .i64 d] => some (true, ok36 gN gT gX gC d, .sl .int (v36 gN gT gX gC d))
  | _ => none
theorem entok36 : EntOk 36 ent36 := fun args own r h => by
  unfold ent36 at h
  split at h
  · simp only [Option.some.injEq, Prod.mk.injEq] at h
    obtain ⟨rfl, h, rfl⟩ := h
    exact ⟨RunF.calls (fun _ => semok36) (fun _ => memok36) at36 rfl (Nat.le_of_ble_eq_true rfl) (fun _ => rfl) (okP_val h), callable36⟩
  · cases h
end Go.Proofs.Ytnfgfdeidkhdkaa.Eng
/- P24: watershed/watershedref2.Faces: its run from loop to loop, as Lean printed it (a program of this session's wrote these rows). No condition. -/
namespace Go.Proofs.Ytnfgfdeidkhdkaa.Eng
set_option linter.unusedVariables false
set_option maxRecDepth 100000
noncomputable def ents24 : List (Nat × Ent) := [(36, ent36)]
noncomputable def mems24 : List (Nat × EntM) := []
noncomputable def E24 (fu : Nat) : Env := ⟨55, 0, semOf ents24, [], memOf mems24, [], [(100003, ⟨[], [(1, none), (1, some 0), (1, some 1), (1, some 2), (1, some 3), (4, none), (5, none)], [1, 4, 5]⟩), (100008, ⟨[], [(1, none), (1, some 0), (1, some 1), (1, some 2), (1, some 3), (4, none), (6, none), (7, none)], [1, 4, 6, 7]⟩), (100013, ⟨[], [(1, none), (1, some 0), (1, some 1), (1, some 2), (1, some 3), (4, none), (6, none), (7, none), (8, none), (9, none)], [1, 4, 6, 7, 8, 9]⟩)], fu⟩
theorem fuel24 : Fuel E24 := fun _ => rfl
noncomputable def kr24 : St → Option CV := endK true Try.f24.results.toList
noncomputable def K24_3 : List Fr := theK Try.f24 100003
noncomputable def C24_3 : Code := theC Try.f24 100003
def s24_3 (i5 : Int) (iM0_0 : Int) (lM0_1 : List Int) (lM0_2 : List Int) (lM0_3 : List Int) (mM1 : List Int) : St := ⟨[(1, .ptr 8000 0), (4, .ref 8001), (5, .int .i64 i5)], [(8000, some (.cells 25 [.int .i64 iM0_0, .sl .int lM0_1, .sl .int lM0_2, .sl .int lM0_3])), (8001, some (.arr true .int mM1))]⟩
noncomputable def a24_3 (i5 : Int) (iM0_0 : Int) (lM0_1 : List Int) (lM0_2 : List Int) (lM0_3 : List Int) (mM1 : List Int) : Leaf := .at K24_3 C24_3 (s24_3 i5 iM0_0 lM0_1 lM0_2 lM0_3 mM1)
noncomputable def K24_8 : List Fr := theK Try.f24 100008
noncomputable def C24_8 : Code := theC Try.f24 100008
def s24_8 (i6 : Int) (i7 : Int) (iM0_0 : Int) (lM0_1 : List Int) (lM0_2 : List Int) (lM0_3 : List Int) (mM1 : List Int) : St := ⟨[(1, .ptr 8000 0), (4, .ref 8001), (6, .int .i64 i6), (7, .int .i64 i7)], [(8000, some (.cells 25 [.int .i64 iM0_0, .sl .int lM0_1, .sl .int lM0_2, .sl .int lM0_3])), (8001, some (.arr true .int mM1))]⟩
noncomputable def a24_8 (i6 : Int) (i7 : Int) (iM0_0 : Int) (lM0_1 : List Int) (lM0_2 : List Int) (lM0_3 : List Int) (mM1 : List Int) : Leaf := .at K24_8 C24_8 (s24_8 i6 i7 iM0_0 lM0_1 lM0_2 lM0_3 mM1)
noncomputable def K24_13 : List Fr := theK Try.f24 100013
noncomputable def C24_13 : Code := theC Try.f24 100013
def s24_13 (i6 : Int) (i7 : Int) (i9 : Int) (iM0_0 : Int) (lM0_1 : List Int) (lM0_2 : List Int) (lM0_3 : List Int) (mM1 : List Int) (mM2 : List Int) : St := ⟨[(1, .ptr 8000 0), (4, .ref 8001), (6, .int .i64 i6), (7, .int .i64 i7), (8, .ref 8002), (9, .int .i64 i9)], [(8000, some (.cells 25 [.int .i64 iM0_0, .sl .int lM0_1, .sl .int lM0_2, .sl .int lM0_3])), (8001, some (.arr true .int mM1)), (8002, some (.arr false .int mM2))]⟩
noncomputable def a24_13 (i6 : Int) (i7 : Int) (i9 : Int) (iM0_0 : Int) (lM0_1 : List Int) (lM0_2 : List Int) (lM0_3 : List Int) (mM1 : List Int) (mM2 : List Int) : Leaf := .at K24_13 C24_13 (s24_13 i6 i7 i9 iM0_0 lM0_1 lM0_2 lM0_3 mM1 mM2)
noncomputable def t24_3 (i5 : Int) (iM0_0 : Int) (lM0_1 : List Int) (lM0_2 : List Int) (lM0_3 : List Int) (mM1 : List Int) : Option Leaf :=
  bif Decidable.decide (i5 < (↑(List.length mM1) : Int)) then
   bif Decidable.decide ((0 : Int) ≤ i5) then
    bif Decidable.decide (i5 < (↑(List.length mM1) : Int)) then
     ob (mM1[Int.toNat i5]?) fun x1 =>
      some (a24_3 (IntKind.wrap IntKind.i64 (i5 + (1 : Int))) iM0_0 lM0_1 lM0_2 lM0_3 (List.set mM1 (Int.toNat i5) (-1 : Int)))
    else
     none
   else
    none
  else
   some (a24_8 ((0 : Int)) ((0 : Int)) iM0_0 lM0_1 lM0_2 lM0_3 mM1)
theorem c24_3 (fu : Nat) (i5 : Int) (iM0_0 : Int) (lM0_1 : List Int) (lM0_2 : List Int) (lM0_3 : List Int) (mM1 : List Int) : cutL (E24 fu) kr24 K24_3 C24_3 (s24_3 i5 iM0_0 lM0_1 lM0_2 lM0_3 mM1) = t24_3 i5 iM0_0 lM0_1 lM0_2 lM0_3 mM1 := by kernel_rfl
theorem h24_3 (i5 : Int) (iM0_0 : Int) (lM0_1 : List Int) (lM0_2 : List Int) (lM0_3 : List Int) (mM1 : List Int) (r : CV) (h : Good E24 kr24 (t24_3 i5 iM0_0 lM0_1 lM0_2 lM0_3 mM1) r) : Lead E24 kr24 r (a24_3 i5 iM0_0 lM0_1 lM0_2 lM0_3 mM1) := Lead.at fuel24 (fun fu => c24_3 fu i5 iM0_0 lM0_1 lM0_2 lM0_3 mM1) h
noncomputable def t24_8 (i6 : Int) (i7 : Int) (iM0_0 : Int) (lM0_1 : List Int) (lM0_2 : List Int) (lM0_3 : List Int) (mM1 : List Int) : Option Leaf :=
  bif Decidable.decide (i7 < (↑(List.length mM1) : Int)) then
   bif Decidable.decide ((0 : Int) ≤ i7) then
    bif Decidable.decide (i7 < (↑(List.length mM1) : Int)) then
     ob (mM1[Int.toNat i7]?) fun x2 =>
      bif Decidable.decide ((0 : Int) ≤ x2) then
       some (a24_8 i6 (IntKind.wrap IntKind.i64 (i7 + (1 : Int))) iM0_0 lM0_1 lM0_2 lM0_3 mM1)
      else
       bif ok36 iM0_0 lM0_1 lM0_2 lM0_3 i7 then
        some (a24_13 i6 i7 ((0 : Int)) iM0_0 lM0_1 lM0_2 lM0_3 mM1 (v36 iM0_0 lM0_1 lM0_2 lM0_3 i7))
       else
        none
    else
     none
   else
    none
  else
   some (.ret (CV.tup [CV.sl SK.int mM1, CV.int IntKind.i64 (maxI i6 (1 : Int))]))
theorem c24_8 (fu : Nat) (i6 : Int) (i7 : Int) (iM0_0 : Int) (lM0_1 : List Int) (lM0_2 : List Int) (lM0_3 : List Int) (mM1 : List Int) : cutL (E24 fu) kr24 K24_8 C24_8 (s24_8 i6 i7 iM0_0 lM0_1 lM0_2 lM0_3 mM1) = t24_8 i6 i7 iM0_0 lM0_1 lM0_2 lM0_3 mM1 := by kernel_rfl
theorem h24_8 (i6 : Int) (i7 : Int) (iM0_0 : Int) (lM0_1 : List Int) (lM0_2 : List Int) (lM0_3 : List Int) (mM1 : List Int) (r : CV) (h : Good E24 kr24 (t24_8 i6 i7 iM0_0 lM0_1 lM0_2 lM0_3 mM1) r) : Lead E24 kr24 r (a24_8 i6 i7 iM0_0 lM0_1 lM0_2 lM0_3 mM1) := Lead.at fuel24 (fun fu => c24_8 fu i6 i7 iM0_0 lM0_1 lM0_2 lM0_3 mM1) h
noncomputable def t24_13 (i6 : Int) (i7 : Int) (i9 : Int) (iM0_0 : Int) (lM0_1 : List Int) (lM0_2 : List Int) (lM0_3 : List Int) (mM1 : List Int) (mM2 : List Int) : Option Leaf :=
  bif Decidable.decide (i9 < (↑(List.length mM2) : Int)) then
   bif Decidable.decide ((0 : Int) ≤ i9) then
    bif Decidable.decide (i9 < (↑(List.length mM2) : Int)) then
     ob (mM2[Int.toNat i9]?) fun x3 =>
      bif Decidable.decide ((0 : Int) ≤ x3) then
       bif Decidable.decide (x3 < (↑(List.length mM1) : Int)) then
        ob (mM1[Int.toNat x3]?) fun x4 =>
         some (a24_13 i6 i7 (IntKind.wrap IntKind.i64 (i9 + (1 : Int))) iM0_0 lM0_1 lM0_2 lM0_3 (List.set mM1 (Int.toNat x3) i6) mM2)
       else
        none
      else
       none
    else
     none
   else
    none
  else
   some (a24_8 (IntKind.wrap IntKind.i64 (i6 + (1 : Int))) (IntKind.wrap IntKind.i64 (i7 + (1 : Int))) iM0_0 lM0_1 lM0_2 lM0_3 mM1)
theorem c24_13 (fu : Nat) (i6 : Int) (i7 : Int) (i9 : Int) (iM0_0 : Int) (lM0_1 : List Int) (lM0_2 : List Int) (lM0_3 : List Int) (mM1 : List Int) (mM2 : List Int) : cutL (E24 fu) kr24 K24_13 C24_13 (s24_13 i6 i7 i9 iM0_0 lM0_1 lM0_2 lM0_3 mM1 mM2) = t24_13 i6 i7 i9 iM0_0 lM0_1 lM0_2 lM0_3 mM1 mM2 := by kernel_rfl
theorem h24_13 (i6 : Int) (i7 : Int) (i9 : Int) (iM0_0 : Int) (lM0_1 : List Int) (lM0_2 : List Int) (lM0_3 : List Int) (mM1 : List Int) (mM2 : List Int) (r : CV) (h : Good E24 kr24 (t24_13 i6 i7 i9 iM0_0 lM0_1 lM0_2 lM0_3 mM1 mM2) r) : Lead E24 kr24 r (a24_13 i6 i7 i9 iM0_0 lM0_1 lM0_2 lM0_3 mM1 mM2) := Lead.at fuel24 (fun fu => c24_13 fu i6 i7 i9 iM0_0 lM0_1 lM0_2 lM0_3 mM1 mM2) h
noncomputable def t24 (gN : Int) (gT : List Int) (gX : List Int) (gC : List Int) : Option Leaf :=
  bif Decidable.decide ((↑(List.length gT) : Int) = (↑(List.length gT) : Int)) then
   bif Decidable.decide ((↑(List.length gT) : Int) ≤ (4294967296 : Int)) then
    some (a24_3 ((0 : Int)) gN gT gX gC (List.replicate (Int.toNat (↑(List.length gT) : Int)) (0 : SK.T SK.int)))
   else
    none
  else
   none
theorem c24 (fu : Nat) (gN : Int) (gT : List Int) (gX : List Int) (gC : List Int) : cutB (E24 fu) kr24 Try.f24 (⟨parT 0 [.agg [.int .i64 gN, .sl .int gT, .sl .int gX, .sl .int gC]], []⟩) = t24 gN gT gX gC := by kernel_rfl
def R24 (gN : Int) (gT : List Int) (gX : List Int) (gC : List Int) (r : List Int × Int) : Prop := RunF E24 true Try.f24 [.agg [.int .i64 gN, .sl .int gT, .sl .int gX, .sl .int gC]] (.tup [.sl .int r.1, .int .i64 r.2])
theorem run24 (gN : Int) (gT : List Int) (gX : List Int) (gC : List Int) (r : List Int × Int) (h : Good E24 kr24 (t24 gN gT gX gC) (.tup [.sl .int r.1, .int .i64 r.2])) : R24 gN gT gX gC r := RunF.of fuel24 (fun fu => c24 fu gN gT gX gC) h
noncomputable def ok24 (gN : Int) (gT : List Int) (gX : List Int) (gC : List Int) : Bool := okP (R24 gN gT gX gC)
noncomputable def v24 (gN : Int) (gT : List Int) (gX : List Int) (gC : List Int) : List Int × Int := valP (R24 gN gT gX gC)
theorem sp24 (gN : Int) (gT : List Int) (gX : List Int) (gC : List Int) (r : List Int × Int) (h : R24 gN gT gX gC r) : ok24 gN gT gX gC = true ∧ v24 gN gT gX gC = r := okP_of h fun b hb => by
  have := RunF.uniq hb h
  rcases b with ⟨_, _⟩; rcases r with ⟨_, _⟩; simp_all
theorem at24 : P.funcs[24]? = some Try.f24 := by kernel_rfl
theorem callable24 : callable 24 = true := by kernel_rfl
theorem semok24 : SemOk (semOf ents24) := EntsOk.sem (.cons entok36 (.nil))
theorem memok24 : MemOk (memOf mems24) := EntsMOk.mem (.nil)
noncomputable def ent24 : Ent := fun args => match args with
  | [.agg [.int .i64 gN, .sl .int gT, .sl .int gX, .sl .int gC]] => some (true, ok24 gN gT gX gC, .tup [.sl .int (v24 gN gT gX gC).1, .int .i64 (v24 gN gT gX gC).2])
  | _ => none
theorem entok24 : EntOk 24 ent24 := fun args own r h => by
  unfold ent24 at h
  split at h
  · simp only [Option.some.injEq, Prod.mk.injEq] at h
    obtain ⟨rfl, h, rfl⟩ := h
    exact ⟨RunF.calls (fun _ => semok24) (fun _ => memok24) at24 rfl (Nat.le_of_ble_eq_true rfl) (fun _ => rfl) (okP_val h), callable24⟩
  · cases h
end Go.Proofs.Ytnfgfdeidkhdkaa.Eng
/- P23: watershed/rot.Faces: its run from loop to loop, as Lean printed it (a program of this session's wrote these rows). No condition. -/
namespace Go.Proofs.Ytnfgfdeidkhdkaa.Eng
set_option linter.unusedVariables false
set_option maxRecDepth 100000
noncomputable def ents23 : List (Nat × Ent) := [(72, ent72), (73, ent73b), (74, ent74)]
noncomputable def mems23 : List (Nat × EntM) := []
noncomputable def E23 (fu : Nat) : Env := ⟨23, 0, semOf ents23, [], memOf mems23, [], [], fu⟩
theorem fuel23 : Fuel E23 := fun _ => rfl
noncomputable def kr23 : St → Option CV := endK true Try.f23.results.toList
noncomputable def t23 (gN : Int) (gT : List Int) (gX : List Int) (gC : List Int) : Option Leaf :=
  bif ok72 gN gT gX gC then
   bif !v72 gN gT gX gC then
    some (.ret (CV.tup [CV.sl SK.int [], CV.int IntKind.i64 (0 : Int)]))
   else
    bif ok74 gN gT gX gC then
     bif ok73b (↑(List.length gT) : Int) (NetV.N (v74 gN gT gX gC)) (NetV.T (v74 gN gT gX gC)) (NetV.X (v74 gN gT gX gC)) (NetV.C (v74 gN gT gX gC)) then
      some (.ret (CV.tup [CV.sl SK.int (Prod.fst (v73b (↑(List.length gT) : Int) (NetV.N (v74 gN gT gX gC)) (NetV.T (v74 gN gT gX gC)) (NetV.X (v74 gN gT gX gC)) (NetV.C (v74 gN gT gX gC)))), CV.int IntKind.i64 (maxI (Prod.fst (Prod.snd (v73b (↑(List.length gT) : Int) (NetV.N (v74 gN gT gX gC)) (NetV.T (v74 gN gT gX gC)) (NetV.X (v74 gN gT gX gC)) (NetV.C (v74 gN gT gX gC))))) (1 : Int))]))
     else
      none
    else
     none
  else
   none
theorem c23 (fu : Nat) (gN : Int) (gT : List Int) (gX : List Int) (gC : List Int) : cutB (E23 fu) kr23 Try.f23 (⟨parT 0 [.agg [.int .i64 gN, .sl .int gT, .sl .int gX, .sl .int gC]], []⟩) = t23 gN gT gX gC := by kernel_rfl
def R23 (gN : Int) (gT : List Int) (gX : List Int) (gC : List Int) (r : List Int × Int) : Prop := RunF E23 true Try.f23 [.agg [.int .i64 gN, .sl .int gT, .sl .int gX, .sl .int gC]] (.tup [.sl .int r.1, .int .i64 r.2])
theorem run23 (gN : Int) (gT : List Int) (gX : List Int) (gC : List Int) (r : List Int × Int) (h : Good E23 kr23 (t23 gN gT gX gC) (.tup [.sl .int r.1, .int .i64 r.2])) : R23 gN gT gX gC r := RunF.of fuel23 (fun fu => c23 fu gN gT gX gC) h
noncomputable def ok23 (gN : Int) (gT : List Int) (gX : List Int) (gC : List Int) : Bool := okP (R23 gN gT gX gC)
noncomputable def v23 (gN : Int) (gT : List Int) (gX : List Int) (gC : List Int) : List Int × Int := valP (R23 gN gT gX gC)
theorem sp23 (gN : Int) (gT : List Int) (gX : List Int) (gC : List Int) (r : List Int × Int) (h : R23 gN gT gX gC r) : ok23 gN gT gX gC = true ∧ v23 gN gT gX gC = r := okP_of h fun b hb => by
  have := RunF.uniq hb h
  rcases b with ⟨_, _⟩; rcases r with ⟨_, _⟩; simp_all
theorem at23 : P.funcs[23]? = some Try.f23 := by kernel_rfl
theorem callable23 : callable 23 = true := by kernel_rfl
theorem semok23 : SemOk (semOf ents23) := EntsOk.sem (.cons entok72 (.cons entok73b (.cons entok74 (.nil))))
theorem memok23 : MemOk (memOf mems23) := EntsMOk.mem (.nil)
noncomputable def ent23 : Ent := fun args => match args with
  | [.agg [.int .i64 gN, .sl .int gT, .sl .int gX, .sl .int gC]] => some (true, ok23 gN gT gX gC, .tup [.sl .int (v23 gN gT gX gC).1, .int .i64 (v23 gN gT gX gC).2])
  | _ => none
theorem entok23 : EntOk 23 ent23 := fun args own r h => by
  unfold ent23 at h
  split at h
  · simp only [Option.some.injEq, Prod.mk.injEq] at h
    obtain ⟨rfl, h, rfl⟩ := h
    exact ⟨RunF.calls (fun _ => semok23) (fun _ => memok23) at23 rfl (Nat.le_of_ble_eq_true rfl) (fun _ => rfl) (okP_val h), callable23⟩
  · cases h
end Go.Proofs.Ytnfgfdeidkhdkaa.Eng
/- Ll: What is gone round by a step, from a dart on; faces: both are the document's. -/
namespace Go.Proofs.Ytnfgfdeidkhdkaa.Eng
set_option linter.unusedVariables false
set_option linter.unusedSimpArgs false
/-- the least number of steps that come home -/
structure Per (f : Int → Int) (d : Int) (k : Nat) : Prop where
  pos : 0 < k
  home : it f k d = d
  least : ∀ i : Nat, 0 < i → i < k → it f i d ≠ d
theorem per_ex {f : Int → Int} {d : Int} : ∀ n : Nat, 0 < n → it f n d = d → ∃ k, k ≤ n ∧ Per f d k := by
  intro n
  induction n using Nat.strongRecOn with
  | _ n ih =>
    intro h0 h1
    by_cases h : ∃ i, 0 < i ∧ i < n ∧ it f i d = d
    · obtain ⟨i, i0, i1, i2⟩ := h
      obtain ⟨k, k1, k2⟩ := ih i i1 i0 i2
      exact ⟨k, by omega, k2⟩
    · exact ⟨n, Nat.le_refl n, h0, h1, fun i i0 i1 e => h ⟨i, i0, i1, e⟩⟩
theorem Per.uniq {f : Int → Int} {d : Int} {k j : Nat} (h : Per f d k) (h' : Per f d j) : k = j := by
  by_cases c : k < j
  · exact absurd h.home (h'.least k h.pos c)
  by_cases c : j < k
  · exact absurd h'.home (h.least j h'.pos c)
  omega
theorem Per.dis {f : Int → Int} {d : Int} {k : Nat} (h : Per f d k) {i j : Nat} (hij : i < j) (hj : j < k) : it f i d ≠ it f j d := by
  intro e
  have e1 : it f (k - j + i) d = it f (k - j + j) d := by rw [it_add, it_add, e]
  rw [show k - j + j = k by omega, h.home] at e1
  exact h.least _ (by omega) (by omega) e1
theorem PermOn.per {f : Int → Int} {m : Int} (h : PermOn f m) {d : Int} (d0 : 0 ≤ d) (d1 : d < m) : ∃ k : Nat, (k : Int) ≤ m ∧ Per f d k := by
  obtain ⟨n, n0, n1, n2⟩ := h.period d0 d1
  obtain ⟨k, k1, k2⟩ := per_ex n n0 n2
  exact ⟨k, by omega, k2⟩
/-- a round, so far -/
def rnd (f : Int → Int) (d : Int) (k : Nat) : List Int := (List.range k).map fun i => it f i d
theorem rnd_len (f : Int → Int) (d : Int) (k : Nat) : (rnd f d k).length = k := by simp [rnd]
theorem rnd_succ (f : Int → Int) (d : Int) (k : Nat) : rnd f d (k + 1) = rnd f d k ++ [it f k d] := by simp [rnd, List.range_succ]
theorem rnd_one (f : Int → Int) (d : Int) : rnd f d 1 = [d] := rfl
theorem rnd_zero (f : Int → Int) (d : Int) : rnd f d 0 = [] := rfl
theorem rnd_gi {f : Int → Int} {d : Int} {k i : Nat} (h : i < k) : gi (rnd f d k) (i : Int) = it f i d := by
  rw [gi_get (by rw [rnd_len]; exact h)]
  simp [rnd]
theorem rnd_mem {f : Int → Int} {d : Int} {k : Nat} (h : Per f d k) {e : Int} : e ∈ rnd f d k ↔ Orb f d e := by
  unfold rnd
  rw [List.mem_map]
  constructor
  · rintro ⟨i, -, rfl⟩; exact ⟨i, rfl⟩
  · rintro ⟨n, rfl⟩
    refine ⟨n % k, List.mem_range.2 (Nat.mod_lt _ h.pos), ?_⟩
    have e : it f n d = it f (n % k + n / k * k) d := by rw [Nat.mul_comm, Nat.mod_add_div]
    rw [e, it_add, it_mul h.home]
theorem rnd_nodup {f : Int → Int} {d : Int} {k : Nat} (h : Per f d k) : (rnd f d k).Nodup := by
  unfold rnd
  rw [List.nodup_iff_pairwise_ne, List.pairwise_map]
  refine List.Pairwise.imp_of_mem ?_ (List.pairwise_lt_range (n := k))
  intro a b ha hb hab he
  exact h.dis hab (List.mem_range.1 hb) he
/-! ### the document's rounds -/
theorem l36 {N : Int} {T X C : List Int} {d : Int} {k : Nat} (hr : ∀ d : Int, 0 ≤ d → d < (X.length : Int) → 0 ≤ stb X d ∧ stb X d < X.length) (he : (X.length : Int) % 2 = 0) (hm : (X.length : Int) ≤ 240) (h0 : 0 ≤ d) (h1 : d < (X.length : Int)) (hp : Per (stb X) d k) (hk : (k : Int) ≤ X.length) :
    ∀ (n j : Nat), 0 < j → j ≤ k → k - j = n → Lead E36 kr36 (.sl .int (rnd (stb X) d k)) (a36_3 d (it (stb X) j d) N T X C (rnd (stb X) d j)) := by
  intro n
  induction n with
  | zero =>
    intro j j0 j1 j2
    obtain rfl : j = k := by omega
    refine h36_3 _ _ _ _ _ _ _ _ ?_
    unfold t36_3
    rw [hp.home]
    repeat (first | (refine good_pos (by omega) ?_) | (refine good_pos trivial ?_) | (refine good_neg (by omega) ?_) | (refine good_npos (by omega) ?_) | (refine good_nneg (by omega) ?_) | (refine good_gi (by omega) (by omega) ?_) | (refine good_gb (by omega) (by omega) ?_) | (refine good_ble (by omega) ?_))
    exact good_end rfl
  | succ n ih =>
    intro j j0 j1 j2
    have r := it_rng hr h0 h1 j
    have o := oth_in r.1 r.2 he
    have := ih (j + 1) (by omega) (by omega) (by omega)
    rw [rnd_succ] at this
    have hne := hp.least j j0 (by omega)
    refine h36_3 _ _ _ _ _ _ _ _ ?_
    unfold t36_3
    rw [xor_one r.1 (by omega)]
    simp only [rnd_len, List.length_singleton]
    repeat (first | (refine good_pos (by omega) ?_) | (refine good_pos trivial ?_) | (refine good_neg (by omega) ?_) | (refine good_npos (by omega) ?_) | (refine good_nneg (by omega) ?_) | (refine good_gi (by omega) (by omega) ?_) | (refine good_gb (by omega) (by omega) ?_) | (refine good_ble (by omega) ?_))
    exact good_at this
theorem f36 {N : Int} {T X C : List Int} {d : Int} {k : Nat} (hr : ∀ d : Int, 0 ≤ d → d < (X.length : Int) → 0 ≤ stb X d ∧ stb X d < X.length) (he : (X.length : Int) % 2 = 0) (hm : (X.length : Int) ≤ 240) (h0 : 0 ≤ d) (h1 : d < (X.length : Int)) (hp : Per (stb X) d k) (hk : (k : Int) ≤ X.length) :
    ok36 N T X C d = true ∧ v36 N T X C d = rnd (stb X) d k :=
  sp36 _ _ _ _ _ _ (run36 _ _ _ _ _ _ (by
    have o := oth_in h0 h1 he
    have := l36 (N := N) (T := T) (C := C) hr he hm h0 h1 hp hk (k - 1) 1 (by omega) hp.pos rfl
    unfold t36
    rw [xor_one h0 (by omega)]
    repeat (first | (refine good_pos (by omega) ?_) | (refine good_pos trivial ?_) | (refine good_neg (by omega) ?_) | (refine good_npos (by omega) ?_) | (refine good_nneg (by omega) ?_) | (refine good_gi (by omega) (by omega) ?_) | (refine good_gb (by omega) (by omega) ?_) | (refine good_ble (by omega) ?_))
    exact good_at this))
theorem l34 {N : Int} {T X C : List Int} {d : Int} {k : Nat} (hr : InR X X.length) (hm : (X.length : Int) ≤ 240) (h0 : 0 ≤ d) (h1 : d < (X.length : Int)) (hp : Per (sta X) d k) (hk : (k : Int) ≤ X.length) :
    ∀ (n j : Nat), 0 < j → j ≤ k → k - j = n → Lead E34 kr34 (.sl .int (rnd (sta X) d k)) (a34_3 d (it (sta X) j d) N T X C (rnd (sta X) d j)) := by
  intro n
  induction n with
  | zero =>
    intro j j0 j1 j2
    obtain rfl : j = k := by omega
    refine h34_3 _ _ _ _ _ _ _ _ ?_
    unfold t34_3
    rw [hp.home]
    repeat (first | (refine good_pos (by omega) ?_) | (refine good_pos trivial ?_) | (refine good_neg (by omega) ?_) | (refine good_npos (by omega) ?_) | (refine good_nneg (by omega) ?_) | (refine good_gi (by omega) (by omega) ?_) | (refine good_gb (by omega) (by omega) ?_) | (refine good_ble (by omega) ?_))
    exact good_end rfl
  | succ n ih =>
    intro j j0 j1 j2
    have r := it_rng (f := sta X) hr h0 h1 j
    have := ih (j + 1) (by omega) (by omega) (by omega)
    rw [rnd_succ] at this
    have hne := hp.least j j0 (by omega)
    refine h34_3 _ _ _ _ _ _ _ _ ?_
    unfold t34_3
    simp only [rnd_len, List.length_singleton]
    repeat (first | (refine good_pos (by omega) ?_) | (refine good_pos trivial ?_) | (refine good_neg (by omega) ?_) | (refine good_npos (by omega) ?_) | (refine good_nneg (by omega) ?_) | (refine good_gi (by omega) (by omega) ?_) | (refine good_gb (by omega) (by omega) ?_) | (refine good_ble (by omega) ?_))
    exact good_at this
theorem f34 {N : Int} {T X C : List Int} {d : Int} {k : Nat} (hr : InR X X.length) (hm : (X.length : Int) ≤ 240) (h0 : 0 ≤ d) (h1 : d < (X.length : Int)) (hp : Per (sta X) d k) (hk : (k : Int) ≤ X.length) :
    ok34 N T X C d = true ∧ v34 N T X C d = rnd (sta X) d k :=
  sp34 _ _ _ _ _ _ (run34 _ _ _ _ _ _ (by
    have := l34 (N := N) (T := T) (C := C) hr hm h0 h1 hp hk (k - 1) 1 (by omega) hp.pos rfl
    unfold t34
    repeat (first | (refine good_pos (by omega) ?_) | (refine good_pos trivial ?_) | (refine good_neg (by omega) ?_) | (refine good_npos (by omega) ?_) | (refine good_nneg (by omega) ?_) | (refine good_gi (by omega) (by omega) ?_) | (refine good_gb (by omega) (by omega) ?_) | (refine good_ble (by omega) ?_))
    exact good_at this))
/-! ### rot's rounds -/
theorem f79 {N : Int} {T X C : List Int} {d : Int} (h0 : 0 ≤ d) (h1 : d < (X.length : Int)) : ok79 d N T X C = true ∧ v79 d N T X C = sta X d :=
  sp79 _ _ _ _ _ _ (run79 _ _ _ _ _ _ (by
    unfold t79
    repeat (first | (refine good_pos (by omega) ?_) | (refine good_pos trivial ?_) | (refine good_neg (by omega) ?_) | (refine good_npos (by omega) ?_) | (refine good_nneg (by omega) ?_) | (refine good_gi (by omega) (by omega) ?_) | (refine good_gb (by omega) (by omega) ?_) | (refine good_ble (by omega) ?_))
    exact good_end rfl))
theorem l78a {N : Int} {T X C : List Int} {d : Int} {k : Nat} (hs : Shape N T X C) (hst : ∀ d : Int, 0 ≤ d → d < (X.length : Int) → ok79 d N T X C = true ∧ v79 d N T X C = sta X d) (hr : ∀ d : Int, 0 ≤ d → d < (X.length : Int) → 0 ≤ sta X d ∧ sta X d < X.length) (h0 : 0 ≤ d) (h1 : d < (X.length : Int)) (hp : Per (sta X) d k) (hk : (k : Int) ≤ X.length) :
    ∀ (n j : Nat), j ≤ k → k - j = n → Lead E78a kr78a (.sl .int (rnd (sta X) d k)) (a78a_5 d N T X C (it (sta X) j d) N T X C (rnd (sta X) d j)) := by
  have hx := hs.x
  have hm := hs.k
  intro n
  induction n with
  | zero =>
    intro j j1 j2
    obtain rfl : j = k := by omega
    have := hp.pos
    refine h78a_5 _ _ _ _ _ _ _ _ _ _ _ _ ?_
    unfold t78a_5
    rw [hp.home]
    simp only [rnd_len, decide_true, Bool.and_true]
    by_cases c : (j : Int) < T.length
    · repeat (first | (refine good_pos (by omega) ?_) | (refine good_pos trivial ?_) | (refine good_neg (by omega) ?_) | (refine good_npos (by omega) ?_) | (refine good_nneg (by omega) ?_) | (refine good_gi (by omega) (by omega) ?_) | (refine good_gb (by omega) (by omega) ?_) | (refine good_ble (by omega) ?_))
      first | exact good_end rfl | exact good_true rfl (good_end rfl)
    · repeat (first | (refine good_pos (by omega) ?_) | (refine good_pos trivial ?_) | (refine good_neg (by omega) ?_) | (refine good_npos (by omega) ?_) | (refine good_nneg (by omega) ?_) | (refine good_gi (by omega) (by omega) ?_) | (refine good_gb (by omega) (by omega) ?_) | (refine good_ble (by omega) ?_))
      first | exact good_end rfl | exact good_true rfl (good_end rfl)
  | succ n ih =>
    intro j j1 j2
    have r := it_rng hr h0 h1 j
    obtain ⟨s1, s2⟩ := hst _ r.1 r.2
    have := ih (j + 1) (by omega) (by omega)
    rw [rnd_succ] at this
    refine h78a_5 _ _ _ _ _ _ _ _ _ _ _ _ ?_
    unfold t78a_5
    rw [s2]
    simp only [rnd_len, List.length_singleton]
    by_cases c : 0 < j
    · have hne := hp.least j c (by omega)
      repeat (first | (refine good_pos (by omega) ?_) | (refine good_pos trivial ?_) | (refine good_neg (by omega) ?_) | (refine good_npos (by omega) ?_) | (refine good_nneg (by omega) ?_) | (refine good_gi (by omega) (by omega) ?_) | (refine good_gb (by omega) (by omega) ?_) | (refine good_ble (by omega) ?_))
      exact good_true s1 (good_at this)
    · repeat (first | (refine good_pos (by omega) ?_) | (refine good_pos trivial ?_) | (refine good_neg (by omega) ?_) | (refine good_npos (by omega) ?_) | (refine good_nneg (by omega) ?_) | (refine good_gi (by omega) (by omega) ?_) | (refine good_gb (by omega) (by omega) ?_) | (refine good_ble (by omega) ?_))
      exact good_true s1 (good_at this)
theorem f78a {N : Int} {T X C : List Int} {d : Int} {k : Nat} (hs : Shape N T X C) (hst : ∀ d : Int, 0 ≤ d → d < (X.length : Int) → ok79 d N T X C = true ∧ v79 d N T X C = sta X d) (hr : ∀ d : Int, 0 ≤ d → d < (X.length : Int) → 0 ≤ sta X d ∧ sta X d < X.length) (h0 : 0 ≤ d) (h1 : d < (X.length : Int)) (hp : Per (sta X) d k) (hk : (k : Int) ≤ X.length) :
    ok78a N T X C d N T X C = true ∧ v78a N T X C d N T X C = rnd (sta X) d k :=
  sp78a _ _ _ _ _ _ _ _ _ _ (run78a _ _ _ _ _ _ _ _ _ _ (by
    have hx := hs.x
    obtain ⟨a1, a2⟩ := f72 N T X C
    have := l78a hs hst hr h0 h1 hp hk k 0 (by omega) (by omega)
    rw [rnd_zero] at this
    unfold t78a
    refine good_true a1 (good_nfalse (a2.2 (.inl hs)) ?_)
    repeat (first | (refine good_pos (by omega) ?_) | (refine good_pos trivial ?_) | (refine good_neg (by omega) ?_) | (refine good_npos (by omega) ?_) | (refine good_nneg (by omega) ?_) | (refine good_gi (by omega) (by omega) ?_) | (refine good_gb (by omega) (by omega) ?_) | (refine good_ble (by omega) ?_))
    exact good_at this))
theorem l78b {N : Int} {T X C : List Int} {d : Int} {k : Nat} (hs : Shape N T X C) (hst : ∀ d : Int, 0 ≤ d → d < (X.length : Int) → ok106 d N T X C = true ∧ v106 d N T X C = stb X d) (hr : ∀ d : Int, 0 ≤ d → d < (X.length : Int) → 0 ≤ stb X d ∧ stb X d < X.length) (h0 : 0 ≤ d) (h1 : d < (X.length : Int)) (hp : Per (stb X) d k) (hk : (k : Int) ≤ X.length) :
    ∀ (n j : Nat), j ≤ k → k - j = n → Lead E78b kr78b (.sl .int (rnd (stb X) d k)) (a78b_5 d N T X C (it (stb X) j d) N T X C (rnd (stb X) d j)) := by
  have hx := hs.x
  have hm := hs.k
  intro n
  induction n with
  | zero =>
    intro j j1 j2
    obtain rfl : j = k := by omega
    have := hp.pos
    refine h78b_5 _ _ _ _ _ _ _ _ _ _ _ _ ?_
    unfold t78b_5
    rw [hp.home]
    simp only [rnd_len, decide_true, Bool.and_true]
    by_cases c : (j : Int) < T.length
    · repeat (first | (refine good_pos (by omega) ?_) | (refine good_pos trivial ?_) | (refine good_neg (by omega) ?_) | (refine good_npos (by omega) ?_) | (refine good_nneg (by omega) ?_) | (refine good_gi (by omega) (by omega) ?_) | (refine good_gb (by omega) (by omega) ?_) | (refine good_ble (by omega) ?_))
      first | exact good_end rfl | exact good_true rfl (good_end rfl)
    · repeat (first | (refine good_pos (by omega) ?_) | (refine good_pos trivial ?_) | (refine good_neg (by omega) ?_) | (refine good_npos (by omega) ?_) | (refine good_nneg (by omega) ?_) | (refine good_gi (by omega) (by omega) ?_) | (refine good_gb (by omega) (by omega) ?_) | (refine good_ble (by omega) ?_))
      first | exact good_end rfl | exact good_true rfl (good_end rfl)
  | succ n ih =>
    intro j j1 j2
    have r := it_rng hr h0 h1 j
    obtain ⟨s1, s2⟩ := hst _ r.1 r.2
    have := ih (j + 1) (by omega) (by omega)
    rw [rnd_succ] at this
    refine h78b_5 _ _ _ _ _ _ _ _ _ _ _ _ ?_
    unfold t78b_5
    rw [s2]
    simp only [rnd_len, List.length_singleton]
    by_cases c : 0 < j
    · have hne := hp.least j c (by omega)
      repeat (first | (refine good_pos (by omega) ?_) | (refine good_pos trivial ?_) | (refine good_neg (by omega) ?_) | (refine good_npos (by omega) ?_) | (refine good_nneg (by omega) ?_) | (refine good_gi (by omega) (by omega) ?_) | (refine good_gb (by omega) (by omega) ?_) | (refine good_ble (by omega) ?_))
      exact good_true s1 (good_at this)
    · repeat (first | (refine good_pos (by omega) ?_) | (refine good_pos trivial ?_) | (refine good_neg (by omega) ?_) | (refine good_npos (by omega) ?_) | (refine good_nneg (by omega) ?_) | (refine good_gi (by omega) (by omega) ?_) | (refine good_gb (by omega) (by omega) ?_) | (refine good_ble (by omega) ?_))
      exact good_true s1 (good_at this)
theorem f78b {N : Int} {T X C : List Int} {d : Int} {k : Nat} (hs : Shape N T X C) (hst : ∀ d : Int, 0 ≤ d → d < (X.length : Int) → ok106 d N T X C = true ∧ v106 d N T X C = stb X d) (hr : ∀ d : Int, 0 ≤ d → d < (X.length : Int) → 0 ≤ stb X d ∧ stb X d < X.length) (h0 : 0 ≤ d) (h1 : d < (X.length : Int)) (hp : Per (stb X) d k) (hk : (k : Int) ≤ X.length) :
    ok78b N T X C d N T X C = true ∧ v78b N T X C d N T X C = rnd (stb X) d k :=
  sp78b _ _ _ _ _ _ _ _ _ _ (run78b _ _ _ _ _ _ _ _ _ _ (by
    have hx := hs.x
    obtain ⟨a1, a2⟩ := f72 N T X C
    have := l78b hs hst hr h0 h1 hp hk k 0 (by omega) (by omega)
    rw [rnd_zero] at this
    unfold t78b
    refine good_true a1 (good_nfalse (a2.2 (.inl hs)) ?_)
    repeat (first | (refine good_pos (by omega) ?_) | (refine good_pos trivial ?_) | (refine good_neg (by omega) ?_) | (refine good_npos (by omega) ?_) | (refine good_nneg (by omega) ?_) | (refine good_gi (by omega) (by omega) ?_) | (refine good_gb (by omega) (by omega) ?_) | (refine good_ble (by omega) ?_))
    exact good_at this))
theorem Shape.xr' {N : Int} {T X C : List Int} (hs : Shape N T X C) : InR X X.length := by have := hs.xr; rw [← hs.x] at this; exact this
theorem Shape.xb {N : Int} {T X C : List Int} (hs : Shape N T X C) : ∀ d : Int, 0 ≤ d → d < (X.length : Int) → 0 ≤ stb X d ∧ stb X d < X.length := fun d h0 h1 => by
  have o := oth_in h0 h1 (by rw [hs.x]; exact hs.e)
  exact hs.xr' _ o.1 o.2
theorem f33 {N : Int} {T X C : List Int} {d : Int} {k : Nat} (hs : Shape N T X C) (h0 : 0 ≤ d) (h1 : d < (X.length : Int)) (hp : Per (sta X) d k) (hk : (k : Int) ≤ X.length) :
    ok33 N T X C d = true ∧ v33 N T X C d = rnd (sta X) d k :=
  sp33 _ _ _ _ _ _ (run33 _ _ _ _ _ _ (by
    obtain ⟨a, b⟩ := f78a hs (fun d h0 h1 => f79 h0 h1) hs.xr' h0 h1 hp hk
    unfold t33
    rw [b]
    exact good_true a (good_end rfl)))
theorem f74 (N : Int) (T X C : List Int) : ok74 N T X C = true ∧ v74 N T X C = ⟨N, T, X, C⟩ :=
  sp74 _ _ _ _ _ (run74 _ _ _ _ _ (by
    unfold t74
    exact good_end rfl))
theorem f35 {N : Int} {T X C : List Int} {d : Int} {k : Nat} (hs : Shape N T X C) (h0 : 0 ≤ d) (h1 : d < (X.length : Int)) (hp : Per (stb X) d k) (hk : (k : Int) ≤ X.length) :
    ok35 N T X C d = true ∧ v35 N T X C d = rnd (stb X) d k :=
  sp35 _ _ _ _ _ _ (run35 _ _ _ _ _ _ (by
    have hx := hs.x
    have hm := hs.k
    have he := hs.e
    obtain ⟨a, b⟩ := f78b hs (fun d h0 h1 => f106 h0 h1 (by omega) (by omega)) hs.xb h0 h1 hp hk
    obtain ⟨c1, c2⟩ := f74 N T X C
    unfold t35
    rw [c2]
    refine good_true c1 ?_
    simp only [b]
    exact good_true a (good_end rfl)))
/-! ### faces -/
/-- faces, and how many there are -/
structure FacesR (m : Int) (X : List Int) (p : List Int) (k : Int) : Prop where
  ex : ∃ j, PartedS m (Orb (stb X)) p j ∧ k = maxI j 1
theorem FacesR.uniq {m : Int} {X p q : List Int} {k j : Int} (h : PermOn (stb X) m) (hp : FacesR m X p k) (hq : FacesR m X q j) : p = q ∧ k = j := by
  obtain ⟨a, a1, rfl⟩ := hp.ex
  obtain ⟨b, b1, rfl⟩ := hq.ex
  obtain ⟨rfl, rfl⟩ := a1.uniq h.eqv b1
  exact ⟨rfl, rfl⟩
theorem f23 {N : Int} {T X C : List Int} (hf : FineN N T X C) (hx : (X.length : Int) = T.length) (hp : PermOn (stb X) T.length) : ok23 N T X C = true ∧ FacesR T.length X (v23 N T X C).1 (v23 N T X C).2 := by
  obtain ⟨a1, a2⟩ := f72 N T X C
  obtain ⟨c1, c2⟩ := f74 N T X C
  have hm : (T.length : Int) ≤ 240 ∧ (T.length : Int) % 2 = 0 := by
    rcases hf with h | h
    · exact ⟨h.k, h.e⟩
    · omega
  obtain ⟨b1, b2⟩ := f73b' (N := N) (T := T) (X := X) (C := C) (m := T.length) (by omega) hm.1 (fun d h0 h1 => f106 h0 (by omega) (by omega) (by omega)) hp.rng
  obtain ⟨d1, d2⟩ := b2.yes hp
  have := sp23 N T X C ((v73b (T.length : Int) N T X C).1, maxI (v73b (T.length : Int) N T X C).2.1 1) (run23 _ _ _ _ _ (by
    unfold t23
    rw [c2]
    refine good_true a1 (good_nfalse (a2.2 hf) (good_true c1 (good_true b1 ?_)))
    exact good_end rfl))
  exact ⟨this.1, by rw [this.2]; exact ⟨_, d1, rfl⟩⟩
section
variable {N : Int} {T X C : List Int}
theorem l24_13 {r : CV} {c v : Int} {k : Nat} {p0 : List Int} (hm : (T.length : Int) ≤ 240) (hpl : (p0.length : Int) = T.length) (hp : PermOn (stb X) T.length) (h0 : 0 ≤ v) (h1 : v < T.length) (hper : Per (stb X) v k) (hkm : (k : Int) ≤ T.length)
    (hk : ∀ q : List Int, q.length = p0.length → (∀ u : Int, 0 ≤ u → u < T.length → Orb (stb X) v u → gi q u = c) → (∀ u : Int, 0 ≤ u → u < T.length → ¬ Orb (stb X) v u → gi q u = gi p0 u) → Lead E24 kr24 r (a24_13 c v (k : Int) N T X C q (rnd (stb X) v k))) :
    ∀ (n j : Nat) (q : List Int), j ≤ k → k - j = n → q.length = p0.length → (∀ i : Nat, i < j → gi q (it (stb X) i v) = c) → (∀ u : Int, 0 ≤ u → u < T.length → ¬ Orb (stb X) v u → gi q u = gi p0 u) → Lead E24 kr24 r (a24_13 c v (j : Int) N T X C q (rnd (stb X) v k)) := by
  intro n
  induction n with
  | zero =>
    intro j q j1 j2 hl hon hoff
    obtain rfl : j = k := by omega
    refine hk q hl (fun u u0 u1 ho => ?_) hoff
    have := (rnd_mem hper).2 ho
    unfold rnd at this
    obtain ⟨i, hi, rfl⟩ := List.mem_map.1 this
    exact hon i (List.mem_range.1 hi)
  | succ n ih =>
    intro j q j1 j2 hl hon hoff
    have r := it_rng hp.rng h0 h1 j
    have := ih (j + 1) (q.set (it (stb X) j v).toNat c) (by omega) (by omega) (by rw [List.length_set]; exact hl) (fun i hi => by
      rw [gi_set r.1 (by omega) (it_rng hp.rng h0 h1 i).1]
      by_cases e : i = j
      · subst e; rw [if_pos rfl]
      · rw [if_neg (hper.dis (show i < j by omega) (by omega))]; exact hon i (by omega)) (fun u u0 u1 hu => by
      rw [gi_set r.1 (by omega) u0, if_neg (fun e => hu ⟨j, e.symm⟩)]
      exact hoff u u0 u1 hu)
    have e1 : ((j + 1 : Nat) : Int) = (j : Int) + 1 := by omega
    rw [e1] at this
    have hg : gi (rnd (stb X) v k) (j : Int) = it (stb X) j v := rnd_gi (by omega)
    have hrl : ((rnd (stb X) v k).length : Int) = k := by rw [rnd_len]
    refine h24_13 _ _ _ _ _ _ _ _ _ _ ?_
    unfold t24_13
    simp (disch := omega) only [wrap_in]
    refine good_pos (by omega) (good_pos (by omega) (good_pos (by omega) (good_gi (by omega) (by omega) ?_)))
    rw [hg]
    repeat (first | (refine good_pos (by omega) ?_) | (refine good_pos trivial ?_) | (refine good_neg (by omega) ?_) | (refine good_npos (by omega) ?_) | (refine good_nneg (by omega) ?_) | (refine good_gi (by omega) (by omega) ?_) | (refine good_gb (by omega) (by omega) ?_) | (refine good_ble (by omega) ?_))
    exact good_at this
theorem l24_8 (hm : (T.length : Int) ≤ 240) (he : (T.length : Int) % 2 = 0) (hx : (X.length : Int) = T.length) (hp : PermOn (stb X) T.length) {q : List Int} {k : Int} (hq : PartedS T.length (Orb (stb X)) q k) :
    ∀ (n : Nat) (v : Int) (p : List Int), 0 ≤ v → v ≤ T.length → (T.length : Int) - v = n → NumTo T.length (Orb (stb X)) v p → Lead E24 kr24 (.tup [.sl .int q, .int .i64 (maxI k 1)]) (a24_8 (rkS (Orb (stb X)) v) v N T X C p) := by
  intro n
  induction n with
  | zero =>
    intro v p v0 v1 v2 hn
    obtain rfl : v = T.length := by omega
    have hl := hn.len
    obtain ⟨rfl, rfl⟩ := (hn.done hp.eqv).uniq hp.eqv hq
    refine h24_8 _ _ _ _ _ _ _ _ ?_
    unfold t24_8
    repeat (first | (refine good_pos (by omega) ?_) | (refine good_pos trivial ?_) | (refine good_neg (by omega) ?_) | (refine good_npos (by omega) ?_) | (refine good_nneg (by omega) ?_) | (refine good_gi (by omega) (by omega) ?_) | (refine good_gb (by omega) (by omega) ?_) | (refine good_ble (by omega) ?_))
    exact good_end rfl
  | succ n ih =>
    intro v p v0 v1 v2 hn
    have hl := hn.len
    have hrk : rkS (Orb (stb X)) v ≤ v := cnt_self v0
    have hrk0 : 0 ≤ rkS (Orb (stb X)) v := cnt_nonneg _ v0
    refine h24_8 _ _ _ _ _ _ _ _ ?_
    unfold t24_8
    by_cases c : 0 ≤ gi p v
    · obtain ⟨h1, h2⟩ := hn.skip hp.eqv v0 (by omega) c
      have := ih (v + 1) p (by omega) (by omega) (by omega) h1
      rw [h2] at this
      simp (disch := omega) only [wrap_in]
      repeat (first | (refine good_pos (by omega) ?_) | (refine good_pos trivial ?_) | (refine good_neg (by omega) ?_) | (refine good_npos (by omega) ?_) | (refine good_nneg (by omega) ?_) | (refine good_gi (by omega) (by omega) ?_) | (refine good_gb (by omega) (by omega) ?_) | (refine good_ble (by omega) ?_))
      exact good_at this
    · obtain ⟨j, j1, hper⟩ := hp.per v0 (show v < T.length by omega)
      obtain ⟨g1, g2⟩ := f36 (N := N) (T := T) (C := C) (by rw [hx]; exact hp.rng) (by rw [hx]; exact he) (by omega) v0 (by omega) hper (by omega)
      rw [g2]
      repeat (first | (refine good_pos (by omega) ?_) | (refine good_pos trivial ?_) | (refine good_neg (by omega) ?_) | (refine good_npos (by omega) ?_) | (refine good_nneg (by omega) ?_) | (refine good_gi (by omega) (by omega) ?_) | (refine good_gb (by omega) (by omega) ?_) | (refine good_ble (by omega) ?_))
      refine good_true g1 (good_at (l24_13 (c := rkS (Orb (stb X)) v) hm hl hp v0 (by omega) hper j1 (fun q' hq1 hq2 hq3 => ?_) j 0 p (by omega) rfl rfl (fun i hi => by omega) (fun _ _ _ _ => rfl)))
      obtain ⟨h1, h2⟩ := hn.add hp.eqv v0 (by omega) (by omega) hq1 hq2 hq3
      have := ih (v + 1) q' (by omega) (by omega) (by omega) h1
      rw [h2] at this
      have hrl : ((rnd (stb X) v j).length : Int) = j := by rw [rnd_len]
      refine h24_13 _ _ _ _ _ _ _ _ _ _ ?_
      unfold t24_13
      simp (disch := omega) only [wrap_in]
      repeat (first | (refine good_pos (by omega) ?_) | (refine good_pos trivial ?_) | (refine good_neg (by omega) ?_) | (refine good_npos (by omega) ?_) | (refine good_nneg (by omega) ?_) | (refine good_gi (by omega) (by omega) ?_) | (refine good_gb (by omega) (by omega) ?_) | (refine good_ble (by omega) ?_))
      exact good_at this
theorem l24_3 (hm : (T.length : Int) ≤ 240) (he : (T.length : Int) % 2 = 0) (hx : (X.length : Int) = T.length) (hp : PermOn (stb X) T.length) {q : List Int} {k : Int} (hq : PartedS T.length (Orb (stb X)) q k) :
    ∀ (n : Nat) (v : Int) (p : List Int), 0 ≤ v → v ≤ T.length → (T.length : Int) - v = n → (p.length : Int) = T.length → (∀ u : Int, 0 ≤ u → u < v → gi p u = -1) → Lead E24 kr24 (.tup [.sl .int q, .int .i64 (maxI k 1)]) (a24_3 v N T X C p) := by
  intro n
  induction n with
  | zero =>
    intro v p v0 v1 v2 hl hn
    have := l24_8 (N := N) (C := C) hm he hx hp hq T.length 0 p (by omega) (by omega) (by omega) ⟨hl, fun u u0 u1 => .inl ⟨hn u u0 (by omega), fun w w0 w1 => by omega⟩⟩
    refine h24_3 _ _ _ _ _ _ _ ?_
    unfold t24_3
    repeat (first | (refine good_pos (by omega) ?_) | (refine good_pos trivial ?_) | (refine good_neg (by omega) ?_) | (refine good_npos (by omega) ?_) | (refine good_nneg (by omega) ?_) | (refine good_gi (by omega) (by omega) ?_) | (refine good_gb (by omega) (by omega) ?_) | (refine good_ble (by omega) ?_))
    exact good_at this
  | succ n ih =>
    intro v p v0 v1 v2 hl hn
    have := ih (v + 1) (p.set v.toNat (-1)) (by omega) (by omega) (by omega) (by rw [List.length_set]; exact hl) (fun u u0 u1 => by
      rw [gi_set v0 (by omega) u0]
      split
      · rfl
      · exact hn u u0 (by omega))
    refine h24_3 _ _ _ _ _ _ _ ?_
    unfold t24_3
    simp (disch := omega) only [wrap_in]
    repeat (first | (refine good_pos (by omega) ?_) | (refine good_pos trivial ?_) | (refine good_neg (by omega) ?_) | (refine good_npos (by omega) ?_) | (refine good_nneg (by omega) ?_) | (refine good_gi (by omega) (by omega) ?_) | (refine good_gb (by omega) (by omega) ?_) | (refine good_ble (by omega) ?_))
    exact good_at this
theorem f24 (hm : (T.length : Int) ≤ 240) (he : (T.length : Int) % 2 = 0) (hx : (X.length : Int) = T.length) (hp : PermOn (stb X) T.length) : ok24 N T X C = true ∧ FacesR T.length X (v24 N T X C).1 (v24 N T X C).2 := by
  obtain ⟨q, hq⟩ := partedS_ex hp.eqv (show 0 ≤ (T.length : Int) by omega)
  have := sp24 N T X C (q, maxI (rkS (Orb (stb X)) T.length) 1) (run24 _ _ _ _ _ (by
    have := l24_3 (N := N) (C := C) hm he hx hp hq T.length 0 (List.replicate (T.length : Int).toNat 0) (by omega) (by omega) (by omega) (by simp) (fun u _ _ => by omega)
    unfold t24
    repeat (first | (refine good_pos (by omega) ?_) | (refine good_pos trivial ?_) | (refine good_neg (by omega) ?_) | (refine good_npos (by omega) ?_) | (refine good_nneg (by omega) ?_) | (refine good_gi (by omega) (by omega) ?_) | (refine good_gb (by omega) (by omega) ?_) | (refine good_ble (by omega) ?_))
    exact good_at this))
  exact ⟨this.1, by rw [this.2]; exact ⟨_, hq, rfl⟩⟩
end
end Go.Proofs.Ytnfgfdeidkhdkaa.Eng
/- P70: watershed/rot.turns: its run from loop to loop, as Lean printed it (a program of this session's wrote these rows). No condition. -/
namespace Go.Proofs.Ytnfgfdeidkhdkaa.Eng
set_option linter.unusedVariables false
set_option maxRecDepth 100000
noncomputable def ents70 : List (Nat × Ent) := [(73, ent73a), (75, ent75)]
noncomputable def mems70 : List (Nat × EntM) := []
noncomputable def E70 (fu : Nat) : Env := ⟨69, 0, semOf ents70, [], memOf mems70, [], [(100006, ⟨[], [(1, none), (1, some 0), (1, some 1), (1, some 2), (1, some 3), (3, none), (6, none), (25, none), (26, none), (27, none)], [1, 3, 6, 25, 26, 27]⟩)], fu⟩
theorem fuel70 : Fuel E70 := fun _ => rfl
noncomputable def kr70 : St → Option CV := endK true Try.f70.results.toList
noncomputable def K70_6 : List Fr := theK Try.f70 100006
noncomputable def C70_6 : Code := theC Try.f70 100006
def s70_6 (l25 : List Int) (i26 : Int) (i27 : Int) (iM0_0 : Int) (lM0_1 : List Int) (lM0_2 : List Int) (lM0_3 : List Int) (mM1 : List Int) (mM2 : List Int) : St := ⟨[(1, .ptr 8000 0), (3, .ref 8001), (6, .ref 8002), (25, .sl .int l25), (26, .int .i64 i26), (27, .int .i64 i27)], [(8000, some (.cells 25 [.int .i64 iM0_0, .sl .int lM0_1, .sl .int lM0_2, .sl .int lM0_3])), (8001, some (.arr false .int mM1)), (8002, some (.arr false .int mM2))]⟩
noncomputable def a70_6 (l25 : List Int) (i26 : Int) (i27 : Int) (iM0_0 : Int) (lM0_1 : List Int) (lM0_2 : List Int) (lM0_3 : List Int) (mM1 : List Int) (mM2 : List Int) : Leaf := .at K70_6 C70_6 (s70_6 l25 i26 i27 iM0_0 lM0_1 lM0_2 lM0_3 mM1 mM2)
noncomputable def t70_6 (l25 : List Int) (i26 : Int) (i27 : Int) (iM0_0 : Int) (lM0_1 : List Int) (lM0_2 : List Int) (lM0_3 : List Int) (mM1 : List Int) (mM2 : List Int) : Option Leaf :=
  bif Decidable.decide (i27 < i26) then
   bif Decidable.decide ((0 : Int) ≤ i27) then
    ob (l25[Int.toNat i27]?) fun x1 =>
     bif Decidable.decide ((0 : Int) ≤ i27) then
      ob (lM0_2[Int.toNat i27]?) fun x2 =>
       bif Decidable.decide ((0 : Int) ≤ x2) then
        ob (lM0_1[Int.toNat x2]?) fun x3 =>
         bif !Decidable.decide (x3 = x1) then
          some (.ret (CV.bool Bool.false))
         else
          bif Decidable.decide ((0 : Int) ≤ x1) then
           bif Decidable.decide (x1 < (↑(List.length mM2) : Int)) then
            ob (mM2[Int.toNat x1]?) fun x4 =>
             bif Decidable.decide ((0 : Int) ≤ x4) then
              bif Decidable.decide ((0 : Int) ≤ x1) then
               bif Decidable.decide (x1 < (↑(List.length mM2) : Int)) then
                ob (mM2[Int.toNat x1]?) fun x5 =>
                 bif Decidable.decide ((0 : Int) ≤ i27) then
                  bif Decidable.decide (i27 < (↑(List.length mM1) : Int)) then
                   ob (mM1[Int.toNat i27]?) fun x6 =>
                    bif !Decidable.decide (x5 = x6) then
                     some (.ret (CV.bool Bool.false))
                    else
                     bif Decidable.decide ((0 : Int) ≤ i27) then
                      bif Decidable.decide (i27 < (↑(List.length mM1) : Int)) then
                       ob (mM1[Int.toNat i27]?) fun x7 =>
                        bif Decidable.decide ((0 : Int) ≤ x1) then
                         bif Decidable.decide (x1 < (↑(List.length mM2) : Int)) then
                          ob (mM2[Int.toNat x1]?) fun x8 =>
                           some (a70_6 l25 i26 (IntKind.wrap IntKind.i64 (i27 + (1 : Int))) iM0_0 lM0_1 lM0_2 lM0_3 mM1 (List.set mM2 (Int.toNat x1) x7))
                         else
                          none
                        else
                         none
                      else
                       none
                     else
                      none
                  else
                   none
                 else
                  none
               else
                none
              else
               none
             else
              bif Decidable.decide ((0 : Int) ≤ i27) then
               bif Decidable.decide (i27 < (↑(List.length mM1) : Int)) then
                ob (mM1[Int.toNat i27]?) fun x9 =>
                 bif Decidable.decide ((0 : Int) ≤ x1) then
                  bif Decidable.decide (x1 < (↑(List.length mM2) : Int)) then
                   ob (mM2[Int.toNat x1]?) fun x10 =>
                    some (a70_6 l25 i26 (IntKind.wrap IntKind.i64 (i27 + (1 : Int))) iM0_0 lM0_1 lM0_2 lM0_3 mM1 (List.set mM2 (Int.toNat x1) x9))
                  else
                   none
                 else
                  none
               else
                none
              else
               none
           else
            none
          else
           none
       else
        none
     else
      none
   else
    none
  else
   some (.ret (CV.bool Bool.true))
theorem c70_6 (fu : Nat) (l25 : List Int) (i26 : Int) (i27 : Int) (iM0_0 : Int) (lM0_1 : List Int) (lM0_2 : List Int) (lM0_3 : List Int) (mM1 : List Int) (mM2 : List Int) : cutL (E70 fu) kr70 K70_6 C70_6 (s70_6 l25 i26 i27 iM0_0 lM0_1 lM0_2 lM0_3 mM1 mM2) = t70_6 l25 i26 i27 iM0_0 lM0_1 lM0_2 lM0_3 mM1 mM2 := by kernel_rfl
theorem h70_6 (l25 : List Int) (i26 : Int) (i27 : Int) (iM0_0 : Int) (lM0_1 : List Int) (lM0_2 : List Int) (lM0_3 : List Int) (mM1 : List Int) (mM2 : List Int) (r : CV) (h : Good E70 kr70 (t70_6 l25 i26 i27 iM0_0 lM0_1 lM0_2 lM0_3 mM1 mM2) r) : Lead E70 kr70 r (a70_6 l25 i26 i27 iM0_0 lM0_1 lM0_2 lM0_3 mM1 mM2) := Lead.at fuel70 (fun fu => c70_6 fu l25 i26 i27 iM0_0 lM0_1 lM0_2 lM0_3 mM1 mM2) h
noncomputable def t70 (gN : Int) (gT : List Int) (gX : List Int) (gC : List Int) : Option Leaf :=
  bif ok73a (↑(List.length gT) : Int) gN gT gX gC then
   bif !Prod.snd (Prod.snd (v73a (↑(List.length gT) : Int) gN gT gX gC)) then
    some (.ret (CV.bool Bool.false))
   else
    bif ok75 [(-1 : Int)] gN then
     some (a70_6 gT ((↑(List.length gT) : Int)) ((0 : Int)) gN gT gX gC (Prod.fst (v73a (↑(List.length gT) : Int) gN gT gX gC)) (v75 [(-1 : Int)] gN))
    else
     none
  else
   none
theorem c70 (fu : Nat) (gN : Int) (gT : List Int) (gX : List Int) (gC : List Int) : cutB (E70 fu) kr70 Try.f70 (⟨parT 0 [.agg [.int .i64 gN, .sl .int gT, .sl .int gX, .sl .int gC]], []⟩) = t70 gN gT gX gC := by kernel_rfl
def R70 (gN : Int) (gT : List Int) (gX : List Int) (gC : List Int) (r : Bool) : Prop := RunF E70 true Try.f70 [.agg [.int .i64 gN, .sl .int gT, .sl .int gX, .sl .int gC]] (.bool r)
theorem run70 (gN : Int) (gT : List Int) (gX : List Int) (gC : List Int) (r : Bool) (h : Good E70 kr70 (t70 gN gT gX gC) (.bool r)) : R70 gN gT gX gC r := RunF.of fuel70 (fun fu => c70 fu gN gT gX gC) h
noncomputable def ok70 (gN : Int) (gT : List Int) (gX : List Int) (gC : List Int) : Bool := okP (R70 gN gT gX gC)
noncomputable def v70 (gN : Int) (gT : List Int) (gX : List Int) (gC : List Int) : Bool := valP (R70 gN gT gX gC)
theorem sp70 (gN : Int) (gT : List Int) (gX : List Int) (gC : List Int) (r : Bool) (h : R70 gN gT gX gC r) : ok70 gN gT gX gC = true ∧ v70 gN gT gX gC = r := okP_of h fun b hb => by
  have := RunF.uniq hb h
  simp_all
theorem at70 : P.funcs[70]? = some Try.f70 := by kernel_rfl
theorem callable70 : callable 70 = true := by kernel_rfl
theorem semok70 : SemOk (semOf ents70) := EntsOk.sem (.cons entok73a (.cons entok75 (.nil)))
theorem memok70 : MemOk (memOf mems70) := EntsMOk.mem (.nil)
noncomputable def ent70 : Ent := fun args => match args with
  | [.agg [.int .i64 gN, .sl .int gT, .sl .int gX, .sl .int gC]] => some (true, ok70 gN gT gX gC, .bool (v70 gN gT gX gC))
  | _ => none
theorem entok70 : EntOk 70 ent70 := fun args own r h => by
  unfold ent70 at h
  split at h
  · simp only [Option.some.injEq, Prod.mk.injEq] at h
    obtain ⟨rfl, h, rfl⟩ := h
    exact ⟨RunF.calls (fun _ => semok70) (fun _ => memok70) at70 rfl (Nat.le_of_ble_eq_true rfl) (fun _ => rfl) (okP_val h), callable70⟩
  · cases h
end Go.Proofs.Ytnfgfdeidkhdkaa.Eng
/- P71: watershed/watershedref2.turns: its run from loop to loop, as Lean printed it (a program of this session's wrote these rows). No condition. -/
namespace Go.Proofs.Ytnfgfdeidkhdkaa.Eng
set_option linter.unusedVariables false
set_option maxRecDepth 100000
noncomputable def ents71 : List (Nat × Ent) := []
noncomputable def mems71 : List (Nat × EntM) := []
noncomputable def E71 (fu : Nat) : Env := ⟨83, 0, semOf ents71, [], memOf mems71, [], [(100002, ⟨[], [(1, none), (1, some 0), (1, some 1), (1, some 2), (1, some 3), (3, none)], [1, 3]⟩), (100007, ⟨[], [(1, none), (1, some 0), (1, some 1), (1, some 2), (1, some 3), (4, none)], [1, 4]⟩), (100010, ⟨[], [(1, none), (1, some 0), (1, some 1), (1, some 2), (1, some 3), (4, none), (5, none), (6, none), (7, none)], [1, 4, 5, 6, 7]⟩), (100014, ⟨[], [(1, none), (1, some 0), (1, some 1), (1, some 2), (1, some 3), (4, none), (6, none), (7, none), (8, none)], [1, 4, 6, 7, 8]⟩)], fu⟩
theorem fuel71 : Fuel E71 := fun _ => rfl
noncomputable def kr71 : St → Option CV := endK true Try.f71.results.toList
noncomputable def K71_2 : List Fr := theK Try.f71 100002
noncomputable def C71_2 : Code := theC Try.f71 100002
def s71_2 (i3 : Int) (iM0_0 : Int) (lM0_1 : List Int) (lM0_2 : List Int) (lM0_3 : List Int) : St := ⟨[(1, .ptr 8000 0), (3, .int .i64 i3)], [(8000, some (.cells 25 [.int .i64 iM0_0, .sl .int lM0_1, .sl .int lM0_2, .sl .int lM0_3]))]⟩
noncomputable def a71_2 (i3 : Int) (iM0_0 : Int) (lM0_1 : List Int) (lM0_2 : List Int) (lM0_3 : List Int) : Leaf := .at K71_2 C71_2 (s71_2 i3 iM0_0 lM0_1 lM0_2 lM0_3)
noncomputable def K71_7 : List Fr := theK Try.f71 100007
noncomputable def C71_7 : Code := theC Try.f71 100007
def s71_7 (i4 : Int) (iM0_0 : Int) (lM0_1 : List Int) (lM0_2 : List Int) (lM0_3 : List Int) : St := ⟨[(1, .ptr 8000 0), (4, .int .i64 i4)], [(8000, some (.cells 25 [.int .i64 iM0_0, .sl .int lM0_1, .sl .int lM0_2, .sl .int lM0_3]))]⟩
noncomputable def a71_7 (i4 : Int) (iM0_0 : Int) (lM0_1 : List Int) (lM0_2 : List Int) (lM0_3 : List Int) : Leaf := .at K71_7 C71_7 (s71_7 i4 iM0_0 lM0_1 lM0_2 lM0_3)
noncomputable def K71_10 : List Fr := theK Try.f71 100010
noncomputable def C71_10 : Code := theC Try.f71 100010
def s71_10 (i4 : Int) (i5 : Int) (i6 : Int) (i7 : Int) (iM0_0 : Int) (lM0_1 : List Int) (lM0_2 : List Int) (lM0_3 : List Int) : St := ⟨[(1, .ptr 8000 0), (4, .int .i64 i4), (5, .int .i64 i5), (6, .int .i64 i6), (7, .int .i64 i7)], [(8000, some (.cells 25 [.int .i64 iM0_0, .sl .int lM0_1, .sl .int lM0_2, .sl .int lM0_3]))]⟩
noncomputable def a71_10 (i4 : Int) (i5 : Int) (i6 : Int) (i7 : Int) (iM0_0 : Int) (lM0_1 : List Int) (lM0_2 : List Int) (lM0_3 : List Int) : Leaf := .at K71_10 C71_10 (s71_10 i4 i5 i6 i7 iM0_0 lM0_1 lM0_2 lM0_3)
noncomputable def K71_14 : List Fr := theK Try.f71 100014
noncomputable def C71_14 : Code := theC Try.f71 100014
def s71_14 (i4 : Int) (i6 : Int) (i7 : Int) (i8 : Int) (iM0_0 : Int) (lM0_1 : List Int) (lM0_2 : List Int) (lM0_3 : List Int) : St := ⟨[(1, .ptr 8000 0), (4, .int .i64 i4), (6, .int .i64 i6), (7, .int .i64 i7), (8, .int .i64 i8)], [(8000, some (.cells 25 [.int .i64 iM0_0, .sl .int lM0_1, .sl .int lM0_2, .sl .int lM0_3]))]⟩
noncomputable def a71_14 (i4 : Int) (i6 : Int) (i7 : Int) (i8 : Int) (iM0_0 : Int) (lM0_1 : List Int) (lM0_2 : List Int) (lM0_3 : List Int) : Leaf := .at K71_14 C71_14 (s71_14 i4 i6 i7 i8 iM0_0 lM0_1 lM0_2 lM0_3)
noncomputable def t71_2 (i3 : Int) (iM0_0 : Int) (lM0_1 : List Int) (lM0_2 : List Int) (lM0_3 : List Int) : Option Leaf :=
  bif Decidable.decide (i3 < (↑(List.length lM0_1) : Int)) then
   bif Decidable.decide ((0 : Int) ≤ i3) then
    ob (lM0_2[Int.toNat i3]?) fun x1 =>
     bif Decidable.decide ((0 : Int) ≤ x1) then
      ob (lM0_1[Int.toNat x1]?) fun x2 =>
       bif Decidable.decide ((0 : Int) ≤ i3) then
        ob (lM0_1[Int.toNat i3]?) fun x3 =>
         bif !Decidable.decide (x2 = x3) then
          some (.ret (CV.bool Bool.false))
         else
          some (a71_2 (IntKind.wrap IntKind.i64 (i3 + (1 : Int))) iM0_0 lM0_1 lM0_2 lM0_3)
       else
        none
     else
      none
   else
    none
  else
   some (a71_7 ((0 : Int)) iM0_0 lM0_1 lM0_2 lM0_3)
theorem c71_2 (fu : Nat) (i3 : Int) (iM0_0 : Int) (lM0_1 : List Int) (lM0_2 : List Int) (lM0_3 : List Int) : cutL (E71 fu) kr71 K71_2 C71_2 (s71_2 i3 iM0_0 lM0_1 lM0_2 lM0_3) = t71_2 i3 iM0_0 lM0_1 lM0_2 lM0_3 := by kernel_rfl
theorem h71_2 (i3 : Int) (iM0_0 : Int) (lM0_1 : List Int) (lM0_2 : List Int) (lM0_3 : List Int) (r : CV) (h : Good E71 kr71 (t71_2 i3 iM0_0 lM0_1 lM0_2 lM0_3) r) : Lead E71 kr71 r (a71_2 i3 iM0_0 lM0_1 lM0_2 lM0_3) := Lead.at fuel71 (fun fu => c71_2 fu i3 iM0_0 lM0_1 lM0_2 lM0_3) h
noncomputable def t71_7 (i4 : Int) (iM0_0 : Int) (lM0_1 : List Int) (lM0_2 : List Int) (lM0_3 : List Int) : Option Leaf :=
  bif Decidable.decide (i4 < (↑(List.length lM0_1) : Int)) then
   some (a71_10 i4 i4 ((0 : Int)) ((0 : Int)) iM0_0 lM0_1 lM0_2 lM0_3)
  else
   some (.ret (CV.bool Bool.true))
theorem c71_7 (fu : Nat) (i4 : Int) (iM0_0 : Int) (lM0_1 : List Int) (lM0_2 : List Int) (lM0_3 : List Int) : cutL (E71 fu) kr71 K71_7 C71_7 (s71_7 i4 iM0_0 lM0_1 lM0_2 lM0_3) = t71_7 i4 iM0_0 lM0_1 lM0_2 lM0_3 := by kernel_rfl
theorem h71_7 (i4 : Int) (iM0_0 : Int) (lM0_1 : List Int) (lM0_2 : List Int) (lM0_3 : List Int) (r : CV) (h : Good E71 kr71 (t71_7 i4 iM0_0 lM0_1 lM0_2 lM0_3) r) : Lead E71 kr71 r (a71_7 i4 iM0_0 lM0_1 lM0_2 lM0_3) := Lead.at fuel71 (fun fu => c71_7 fu i4 iM0_0 lM0_1 lM0_2 lM0_3) h
noncomputable def t71_10 (i4 : Int) (i5 : Int) (i6 : Int) (i7 : Int) (iM0_0 : Int) (lM0_1 : List Int) (lM0_2 : List Int) (lM0_3 : List Int) : Option Leaf :=
  bif Decidable.decide (i6 = (0 : Int)) then
   bif Decidable.decide ((0 : Int) ≤ i5) then
    ob (lM0_2[Int.toNat i5]?) fun x4 =>
     some (a71_10 i4 x4 (IntKind.wrap IntKind.i64 (i6 + (1 : Int))) i7 iM0_0 lM0_1 lM0_2 lM0_3)
   else
    none
  else
   bif !Decidable.decide (i5 = i4) then
    bif Decidable.decide (i6 ≤ (↑(List.length lM0_1) : Int)) then
     bif Decidable.decide ((0 : Int) ≤ i5) then
      ob (lM0_2[Int.toNat i5]?) fun x5 =>
       some (a71_10 i4 x5 (IntKind.wrap IntKind.i64 (i6 + (1 : Int))) i7 iM0_0 lM0_1 lM0_2 lM0_3)
     else
      none
    else
     some (a71_14 i4 i6 i7 ((0 : Int)) iM0_0 lM0_1 lM0_2 lM0_3)
   else
    some (a71_14 i4 i6 i7 ((0 : Int)) iM0_0 lM0_1 lM0_2 lM0_3)
theorem c71_10 (fu : Nat) (i4 : Int) (i5 : Int) (i6 : Int) (i7 : Int) (iM0_0 : Int) (lM0_1 : List Int) (lM0_2 : List Int) (lM0_3 : List Int) : cutL (E71 fu) kr71 K71_10 C71_10 (s71_10 i4 i5 i6 i7 iM0_0 lM0_1 lM0_2 lM0_3) = t71_10 i4 i5 i6 i7 iM0_0 lM0_1 lM0_2 lM0_3 := by kernel_rfl
theorem h71_10 (i4 : Int) (i5 : Int) (i6 : Int) (i7 : Int) (iM0_0 : Int) (lM0_1 : List Int) (lM0_2 : List Int) (lM0_3 : List Int) (r : CV) (h : Good E71 kr71 (t71_10 i4 i5 i6 i7 iM0_0 lM0_1 lM0_2 lM0_3) r) : Lead E71 kr71 r (a71_10 i4 i5 i6 i7 iM0_0 lM0_1 lM0_2 lM0_3) := Lead.at fuel71 (fun fu => c71_10 fu i4 i5 i6 i7 iM0_0 lM0_1 lM0_2 lM0_3) h
noncomputable def t71_14 (i4 : Int) (i6 : Int) (i7 : Int) (i8 : Int) (iM0_0 : Int) (lM0_1 : List Int) (lM0_2 : List Int) (lM0_3 : List Int) : Option Leaf :=
  bif Decidable.decide (i8 < (↑(List.length lM0_1) : Int)) then
   bif Decidable.decide ((0 : Int) ≤ i8) then
    ob (lM0_1[Int.toNat i8]?) fun x6 =>
     bif Decidable.decide ((0 : Int) ≤ i4) then
      ob (lM0_1[Int.toNat i4]?) fun x7 =>
       bif Decidable.decide (x6 = x7) then
        some (a71_14 i4 i6 (IntKind.wrap IntKind.i64 (i7 + (1 : Int))) (IntKind.wrap IntKind.i64 (i8 + (1 : Int))) iM0_0 lM0_1 lM0_2 lM0_3)
       else
        some (a71_14 i4 i6 i7 (IntKind.wrap IntKind.i64 (i8 + (1 : Int))) iM0_0 lM0_1 lM0_2 lM0_3)
     else
      none
   else
    none
  else
   bif !Decidable.decide (i6 = i7) then
    some (.ret (CV.bool Bool.false))
   else
    some (a71_7 (IntKind.wrap IntKind.i64 (i4 + (1 : Int))) iM0_0 lM0_1 lM0_2 lM0_3)
theorem c71_14 (fu : Nat) (i4 : Int) (i6 : Int) (i7 : Int) (i8 : Int) (iM0_0 : Int) (lM0_1 : List Int) (lM0_2 : List Int) (lM0_3 : List Int) : cutL (E71 fu) kr71 K71_14 C71_14 (s71_14 i4 i6 i7 i8 iM0_0 lM0_1 lM0_2 lM0_3) = t71_14 i4 i6 i7 i8 iM0_0 lM0_1 lM0_2 lM0_3 := by kernel_rfl
theorem h71_14 (i4 : Int) (i6 : Int) (i7 : Int) (i8 : Int) (iM0_0 : Int) (lM0_1 : List Int) (lM0_2 : List Int) (lM0_3 : List Int) (r : CV) (h : Good E71 kr71 (t71_14 i4 i6 i7 i8 iM0_0 lM0_1 lM0_2 lM0_3) r) : Lead E71 kr71 r (a71_14 i4 i6 i7 i8 iM0_0 lM0_1 lM0_2 lM0_3) := Lead.at fuel71 (fun fu => c71_14 fu i4 i6 i7 i8 iM0_0 lM0_1 lM0_2 lM0_3) h
noncomputable def t71 (gN : Int) (gT : List Int) (gX : List Int) (gC : List Int) : Option Leaf :=
  some (a71_2 ((0 : Int)) gN gT gX gC)
theorem c71 (fu : Nat) (gN : Int) (gT : List Int) (gX : List Int) (gC : List Int) : cutB (E71 fu) kr71 Try.f71 (⟨parT 0 [.agg [.int .i64 gN, .sl .int gT, .sl .int gX, .sl .int gC]], []⟩) = t71 gN gT gX gC := by kernel_rfl
def R71 (gN : Int) (gT : List Int) (gX : List Int) (gC : List Int) (r : Bool) : Prop := RunF E71 true Try.f71 [.agg [.int .i64 gN, .sl .int gT, .sl .int gX, .sl .int gC]] (.bool r)
theorem run71 (gN : Int) (gT : List Int) (gX : List Int) (gC : List Int) (r : Bool) (h : Good E71 kr71 (t71 gN gT gX gC) (.bool r)) : R71 gN gT gX gC r := RunF.of fuel71 (fun fu => c71 fu gN gT gX gC) h
noncomputable def ok71 (gN : Int) (gT : List Int) (gX : List Int) (gC : List Int) : Bool := okP (R71 gN gT gX gC)
noncomputable def v71 (gN : Int) (gT : List Int) (gX : List Int) (gC : List Int) : Bool := valP (R71 gN gT gX gC)
theorem sp71 (gN : Int) (gT : List Int) (gX : List Int) (gC : List Int) (r : Bool) (h : R71 gN gT gX gC r) : ok71 gN gT gX gC = true ∧ v71 gN gT gX gC = r := okP_of h fun b hb => by
  have := RunF.uniq hb h
  simp_all
theorem at71 : P.funcs[71]? = some Try.f71 := by kernel_rfl
theorem callable71 : callable 71 = true := by kernel_rfl
theorem semok71 : SemOk (semOf ents71) := EntsOk.sem (.nil)
theorem memok71 : MemOk (memOf mems71) := EntsMOk.mem (.nil)
noncomputable def ent71 : Ent := fun args => match args with
  | [.agg [.int .i64 gN, .sl .int gT, .sl .int gX, .sl .int gC]] => some (true, ok71 gN gT gX gC, .bool (v71 gN gT gX gC))
  | _ => none
theorem entok71 : EntOk 71 ent71 := fun args own r h => by
  unfold ent71 at h
  split at h
  · simp only [Option.some.injEq, Prod.mk.injEq] at h
    obtain ⟨rfl, h, rfl⟩ := h
    exact ⟨RunF.calls (fun _ => semok71) (fun _ => memok71) at71 rfl (Nat.le_of_ble_eq_true rfl) (fun _ => rfl) (okP_val h), callable71⟩
  · cases h
end Go.Proofs.Ytnfgfdeidkhdkaa.Eng
