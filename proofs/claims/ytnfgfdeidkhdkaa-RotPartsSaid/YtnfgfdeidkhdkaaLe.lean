/- Plain: pieces of a net: which vertices hang together; pieces numbered by their least vertices. -/
import Derived.Test.YtnfgfdeidkhdkaaLd
namespace Go.Proofs.Ytnfgfdeidkhdkaa.Eng
set_option linter.unusedVariables false
set_option linter.unusedSimpArgs false
theorem oth_oth (d : Int) : oth (oth d) = d := by unfold oth; split <;> split <;> omega
theorem oth_in {d m : Int} (h0 : 0 ≤ d) (h1 : d < m) (he : m % 2 = 0) : 0 ≤ oth d ∧ oth d < m := by unfold oth; split <;> omega
theorem oth_ne (d : Int) : oth d ≠ d := by unfold oth; split <;> omega
/-- darts lead from the one vertex to the other -/
inductive Conn (T : List Int) (u : Int) : Int → Prop
  | refl : Conn T u u
  | step {v d : Int} : Conn T u v → 0 ≤ d → d < (T.length : Int) → gi T d = v → Conn T u (gi T (oth d))
theorem Conn.trans {T : List Int} {u v w : Int} (h : Conn T u v) (h' : Conn T v w) : Conn T u w := by
  induction h' with
  | refl => exact h
  | step _ h0 h1 h2 ih => exact .step ih h0 h1 h2
theorem Conn.symm {T : List Int} (he : (T.length : Int) % 2 = 0) {u v : Int} (h : Conn T u v) : Conn T v u := by
  induction h with
  | refl => exact .refl
  | @step v d _ h0 h1 h2 ih =>
    have ho := oth_in h0 h1 he
    have : Conn T (gi T (oth d)) (gi T (oth (oth d))) := .step .refl ho.1 ho.2 rfl
    rw [oth_oth, h2] at this
    exact this.trans ih
theorem Conn.range {T : List Int} {N : Int} (he : (T.length : Int) % 2 = 0) (ht : InR T N) {u v : Int} (h : Conn T u v) (hu : 0 ≤ u ∧ u < N) : 0 ≤ v ∧ v < N := by
  cases h with
  | refl => exact hu
  | step _ h0 h1 h2 => exact ht _ (oth_in h0 h1 he).1 (oth_in h0 h1 he).2
/-- the least of its piece -/
def Root (T : List Int) (v : Int) : Prop := ∀ u : Int, 0 ≤ u → u < v → ¬ Conn T u v
noncomputable section
open Classical
/-- so many pieces begin ahead of it -/
def rkN (T : List Int) : Nat → Int
  | 0 => 0
  | n + 1 => rkN T n + if Root T (n : Int) then 1 else 0
def rk (T : List Int) (v : Int) : Int := rkN T v.toNat
theorem rk_succ {T : List Int} {v : Int} (h : 0 ≤ v) : rk T (v + 1) = rk T v + if Root T v then 1 else 0 := by
  obtain ⟨n, rfl⟩ : ∃ n : Nat, v = n := ⟨v.toNat, by omega⟩
  unfold rk
  have e : ((n : Int) + 1).toNat = n + 1 := by omega
  rw [e, Int.toNat_natCast]; rfl
theorem rk_root {T : List Int} {v : Int} (h : 0 ≤ v) (hr : Root T v) : rk T (v + 1) = rk T v + 1 := by rw [rk_succ h, if_pos hr]
theorem rk_not {T : List Int} {v : Int} (h : 0 ≤ v) (hr : ¬ Root T v) : rk T (v + 1) = rk T v := by rw [rk_succ h, if_neg hr]; omega
end
theorem rk_zero (T : List Int) : rk T 0 = 0 := rfl
theorem rk_mono {T : List Int} {v : Int} (h : 0 ≤ v) : ∀ n : Nat, rk T v ≤ rk T (v + n)
  | 0 => by simp
  | n + 1 => by
    have := rk_mono (T := T) h n
    have e := rk_succ (T := T) (v := v + n) (by omega)
    have e2 : v + ((n + 1 : Nat) : Int) = v + n + 1 := by omega
    rw [e2, e]
    split <;> omega
theorem rk_le {T : List Int} {v w : Int} (h : 0 ≤ v) (hw : v ≤ w) : rk T v ≤ rk T w := by
  have := rk_mono (T := T) h (w - v).toNat
  have e : v + ((w - v).toNat : Int) = w := by omega
  rwa [e] at this
theorem rk_lt {T : List Int} {v w : Int} (h : 0 ≤ v) (hr : Root T v) (hw : v < w) : rk T v < rk T w := by
  have := rk_le (T := T) (v := v + 1) (w := w) (by omega) (by omega)
  rw [rk_root h hr] at this
  omega
theorem rk_inj {T : List Int} {v w : Int} (h : 0 ≤ v) (hr : Root T v) (h' : 0 ≤ w) (hr' : Root T w) (e : rk T v = rk T w) : v = w := by
  by_cases h1 : v < w
  · have := rk_lt h hr h1; omega
  by_cases h2 : w < v
  · have := rk_lt h' hr' h2; omega
  omega
theorem rk_nonneg (T : List Int) {v : Int} (h : 0 ≤ v) : 0 ≤ rk T v := by have := rk_le (T := T) (Int.le_refl 0) h; rwa [rk_zero] at this
theorem rk_max {T : List Int} : ∀ n : Nat, rk T (n : Int) ≤ n
  | 0 => by rw [show ((0 : Nat) : Int) = 0 from rfl, rk_zero]; omega
  | n + 1 => by
    have := rk_max (T := T) n
    have e := rk_succ (T := T) (v := (n : Int)) (by omega)
    have e2 : ((n + 1 : Nat) : Int) = (n : Int) + 1 := by omega
    rw [e2, e]
    split <;> omega
theorem rk_self {T : List Int} {v : Int} (h : 0 ≤ v) : rk T v ≤ v := by
  have := rk_max (T := T) v.toNat
  have e : (v.toNat : Int) = v := by omega
  rwa [e] at this
/-- each vertex has a least one of its piece -/
theorem has_root {T : List Int} (he : (T.length : Int) % 2 = 0) : ∀ (n : Nat) (v : Int), 0 ≤ v → v ≤ n → ∃ w, 0 ≤ w ∧ w ≤ v ∧ Root T w ∧ Conn T w v := by
  intro n
  induction n with
  | zero =>
    intro v h0 h1
    exact ⟨v, h0, Int.le_refl v, fun u hu hu' => by omega, .refl⟩
  | succ n ih =>
    intro v h0 h1
    by_cases hr : Root T v
    · exact ⟨v, h0, Int.le_refl v, hr, .refl⟩
    · unfold Root at hr
      simp only [Classical.not_forall, Classical.not_not] at hr
      obtain ⟨u, hu, hu', hc⟩ := hr
      obtain ⟨w, w0, w1, w2, w3⟩ := ih u hu (by omega)
      exact ⟨w, w0, by omega, w2, w3.trans hc⟩
theorem root_uniq {T : List Int} (he : (T.length : Int) % 2 = 0) {v w : Int} (h : 0 ≤ v) (hr : Root T v) (h' : 0 ≤ w) (hr' : Root T w) (hc : Conn T v w) : v = w := by
  by_cases h1 : v < w
  · exact absurd hc (hr' v h h1)
  by_cases h2 : w < v
  · exact absurd (hc.symm he) (hr w h' h2)
  omega
/-- the pieces are numbered as they are to be -/
structure Parted (N : Int) (T p : List Int) (k : Int) : Prop where
  len : (p.length : Int) = N
  num : ∀ u : Int, 0 ≤ u → u < N → ∃ w, 0 ≤ w ∧ w ≤ u ∧ Root T w ∧ Conn T w u ∧ gi p u = rk T w
  k : k = rk T N
theorem Parted.uniq {N : Int} {T p q : List Int} {k j : Int} (he : (T.length : Int) % 2 = 0) (h : Parted N T p k) (h' : Parted N T q j) : p = q ∧ k = j := by
  refine ⟨gi_ext (by have := h.len; have := h'.len; omega) fun x h0 h1 => ?_, by rw [h.k, h'.k]⟩
  have hl := h.len
  obtain ⟨w, a1, a2, a3, a4, a5⟩ := h.num x h0 (by omega)
  obtain ⟨z, b1, b2, b3, b4, b5⟩ := h'.num x h0 (by omega)
  rw [a5, b5, root_uniq he a1 a3 b1 b3 (a4.trans (b4.symm he))]
theorem Parted.eq_iff {N : Int} {T p : List Int} {k : Int} (he : (T.length : Int) % 2 = 0) (h : Parted N T p k) {x y : Int} (hx : 0 ≤ x ∧ x < N) (hy : 0 ≤ y ∧ y < N) : gi p x = gi p y ↔ Conn T x y := by
  obtain ⟨w, a1, a2, a3, a4, a5⟩ := h.num x hx.1 hx.2
  obtain ⟨z, b1, b2, b3, b4, b5⟩ := h.num y hy.1 hy.2
  rw [a5, b5]
  constructor
  · intro e
    obtain rfl := rk_inj a1 a3 b1 b3 e
    exact (a4.symm he).trans b4
  · intro hc
    rw [root_uniq he a1 a3 b1 b3 ((a4.trans hc).trans (b4.symm he))]
theorem parted_ex {N : Int} {T : List Int} (he : (T.length : Int) % 2 = 0) (hN : 0 ≤ N) : ∃ q, Parted N T q (rk T N) := by
  have h : ∀ i : Nat, ∃ w, 0 ≤ w ∧ w ≤ (i : Int) ∧ Root T w ∧ Conn T w (i : Int) := fun i => has_root he i (i : Int) (by omega) (by omega)
  obtain ⟨f, hf⟩ := Classical.axiomOfChoice h
  refine ⟨(List.range N.toNat).map fun i => rk T (f i), by simp; omega, fun u u0 u1 => ?_, rfl⟩
  obtain ⟨i, rfl⟩ : ∃ i : Nat, u = i := ⟨u.toNat, by omega⟩
  obtain ⟨h1, h2, h3, h4⟩ := hf i
  refine ⟨f i, h1, h2, h3, h4, ?_⟩
  rw [gi_get (by simp; omega)]
  simp
/-- so many below nought -/
def negs (l : List Int) : Nat := l.countP fun x => decide (x < 0)
theorem negs_set {l : List Int} {x v : Int} (h0 : 0 ≤ x) (h1 : x < (l.length : Int)) (hn : gi l x < 0) (hv : 0 ≤ v) : negs (l.set x.toNat v) < negs l := by
  unfold negs
  have hi : x.toNat < l.length := by omega
  have hg : l[x.toNat] = gi l x := by rw [← gi_get hi]; congr 1; omega
  have hpos : 0 < l.countP fun x => decide (x < 0) := List.countP_pos_iff.2 ⟨l[x.toNat], List.getElem_mem hi, by rw [hg]; simpa using hn⟩
  rw [List.countP_set hi, hg]
  simp only [hn, decide_true, if_true, show ¬ v < 0 by omega, decide_false, Bool.false_eq_true, if_false]
  omega
end Go.Proofs.Ytnfgfdeidkhdkaa.Eng
