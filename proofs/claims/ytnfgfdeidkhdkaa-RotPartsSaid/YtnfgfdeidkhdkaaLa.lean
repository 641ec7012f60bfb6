/- Plain tools: rows asked at whole numbers, steps along a printed tree. -/
import Derived.Test.YtnfgfdeidkhdkaaGd
import Derived.IntWalk
namespace Go.Proofs.Ytnfgfdeidkhdkaa.Eng
set_option linter.unusedVariables false
/-- a row at a number -/
def gi (l : List Int) (x : Int) : Int := l.getD x.toNat 0
def gb (l : List Bool) (x : Int) : Bool := l.getD x.toNat false
def le (l : List Int) : Int := (l.length : Int)
theorem gi_some {l : List Int} {x : Int} (h0 : 0 ≤ x) (h1 : x < (l.length : Int)) : l[x.toNat]? = some (gi l x) := by
  have h : x.toNat < l.length := by omega
  rw [List.getElem?_eq_getElem h, gi, List.getD_eq_getElem?_getD, List.getElem?_eq_getElem h]; rfl
theorem gb_some {l : List Bool} {x : Int} (h0 : 0 ≤ x) (h1 : x < (l.length : Int)) : l[x.toNat]? = some (gb l x) := by
  have h : x.toNat < l.length := by omega
  rw [List.getElem?_eq_getElem h, gb, List.getD_eq_getElem?_getD, List.getElem?_eq_getElem h]; rfl
theorem gi_get {l : List Int} {i : Nat} (h : i < l.length) : gi l (i : Int) = l[i] := by
  rw [gi, List.getD_eq_getElem?_getD, Int.toNat_natCast, List.getElem?_eq_getElem h]; rfl
theorem gi_set {l : List Int} {x y v : Int} (hx : 0 ≤ x) (hx1 : x < (l.length : Int)) (hy : 0 ≤ y) : gi (l.set x.toNat v) y = if y = x then v else gi l y := by
  simp only [gi, List.getD_eq_getElem?_getD]
  by_cases h : y = x
  · subst h
    rw [if_pos rfl, List.getElem?_set_self (by omega)]; rfl
  · rw [if_neg h, List.getElem?_set_ne (by omega)]
theorem gb_set {l : List Bool} {x y : Int} {v : Bool} (hx : 0 ≤ x) (hx1 : x < (l.length : Int)) (hy : 0 ≤ y) : gb (l.set x.toNat v) y = if y = x then v else gb l y := by
  simp only [gb, List.getD_eq_getElem?_getD]
  by_cases h : y = x
  · subst h
    rw [if_pos rfl, List.getElem?_set_self (by omega)]; rfl
  · rw [if_neg h, List.getElem?_set_ne (by omega)]
theorem gi_append_left {l m : List Int} {x : Int} (h1 : x < (l.length : Int)) (h0 : 0 ≤ x) : gi (l ++ m) x = gi l x := by
  simp only [gi, List.getD_eq_getElem?_getD]
  rw [List.getElem?_append_left (by omega)]
theorem gi_append_right {l m : List Int} {x : Int} (h1 : (l.length : Int) ≤ x) : gi (l ++ m) x = gi m (x - l.length) := by
  simp only [gi, List.getD_eq_getElem?_getD]
  rw [List.getElem?_append_right (by omega)]
  congr 2; omega
theorem gi_replicate {n : Nat} {v x : Int} (h0 : 0 ≤ x) (h1 : x < (n : Int)) : gi (List.replicate n v) x = v := by
  simp only [gi, List.getD_eq_getElem?_getD]
  rw [List.getElem?_replicate, if_pos (by omega)]; rfl
theorem gi_ext {l m : List Int} (hl : l.length = m.length) (h : ∀ x : Int, 0 ≤ x → x < (l.length : Int) → gi l x = gi m x) : l = m := by
  refine List.ext_getElem hl fun i h1 h2 => ?_
  have := h (i : Int) (by omega) (by omega)
  rwa [gi_get h1, gi_get h2] at this
theorem gi_mem {l : List Int} {x : Int} (h0 : 0 ≤ x) (h1 : x < (l.length : Int)) : gi l x ∈ l := by
  have h : x.toNat < l.length := by omega
  rw [gi, List.getD_eq_getElem?_getD, List.getElem?_eq_getElem h]
  exact List.getElem_mem h
theorem gi_of_mem {l : List Int} {v : Int} (h : v ∈ l) : ∃ x : Int, 0 ≤ x ∧ x < (l.length : Int) ∧ gi l x = v := by
  obtain ⟨i, hi, rfl⟩ := List.getElem_of_mem h
  exact ⟨i, by omega, by omega, gi_get hi⟩
theorem wrap_in {n : Int} (h0 : -9223372036854775808 ≤ n) (h1 : n ≤ 9223372036854775807) : IntKind.wrap IntKind.i64 n = n := IntWalk.i64_in n ⟨h0, h1⟩
section
variable {E : Nat → Env} {kr : St → Option CV} {r : CV}
theorem good_pos {p : Prop} [Decidable p] {t u : Option Leaf} (h : p) (h' : Good E kr t r) : Good E kr (bif decide p then t else u) r := by simpa [h] using h'
theorem good_neg {p : Prop} [Decidable p] {t u : Option Leaf} (h : ¬ p) (h' : Good E kr u r) : Good E kr (bif decide p then t else u) r := by simpa [h] using h'
theorem good_npos {p : Prop} [Decidable p] {t u : Option Leaf} (h : ¬ p) (h' : Good E kr t r) : Good E kr (bif !decide p then t else u) r := by simpa [h] using h'
theorem good_nneg {p : Prop} [Decidable p] {t u : Option Leaf} (h : p) (h' : Good E kr u r) : Good E kr (bif !decide p then t else u) r := by simpa [h] using h'
theorem good_true {b : Bool} {t u : Option Leaf} (h : b = true) (h' : Good E kr t r) : Good E kr (bif b then t else u) r := by simpa [h] using h'
theorem good_false {b : Bool} {t u : Option Leaf} (h : b = false) (h' : Good E kr u r) : Good E kr (bif b then t else u) r := by simpa [h] using h'
theorem good_ntrue {b : Bool} {t u : Option Leaf} (h : b = false) (h' : Good E kr t r) : Good E kr (bif !b then t else u) r := by simpa [h] using h'
theorem good_nfalse {b : Bool} {t u : Option Leaf} (h : b = true) (h' : Good E kr u r) : Good E kr (bif !b then t else u) r := by simpa [h] using h'
theorem good_ble {m n : Nat} {t u : Option Leaf} (h : m ≤ n) (h' : Good E kr t r) : Good E kr (bif Nat.ble m n then t else u) r := good_true (Nat.ble_eq_true_of_le h) h'
theorem good_gi {l : List Int} {x : Int} {f : Int → Option Leaf} (h0 : 0 ≤ x) (h1 : x < (l.length : Int)) (h' : Good E kr (f (gi l x)) r) : Good E kr (ob (l[x.toNat]?) f) r := by
  rw [gi_some h0 h1]; exact h'
theorem good_gb {l : List Bool} {x : Int} {f : Bool → Option Leaf} (h0 : 0 ≤ x) (h1 : x < (l.length : Int)) (h' : Good E kr (f (gb l x)) r) : Good E kr (ob (l[x.toNat]?) f) r := by
  rw [gb_some h0 h1]; exact h'
theorem good_at {l : Leaf} (h : Lead E kr r l) : Good E kr (some l) r := good_some.2 h
theorem good_end {v : CV} (h : v = r) : Good E kr (some (.ret v)) r := good_ret.2 h
end
/-- where a callee is known -/
theorem okv {α : Type} {ok : Bool} {v : α} {p : α → Prop} (h : ∃ r, (ok = true ∧ v = r) ∧ p r) : ok = true ∧ p v := by
  obtain ⟨r, ⟨h1, rfl⟩, h2⟩ := h
  exact ⟨h1, h2⟩
end Go.Proofs.Ytnfgfdeidkhdkaa.Eng
