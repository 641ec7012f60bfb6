/- shape and fine: the error of a net's rows. -/
import Derived.Test.YtnfgfdeidkhdkaaLc
namespace Go.Proofs.Ytnfgfdeidkhdkaa.Eng
set_option linter.unusedVariables false
set_option linter.unusedSimpArgs false
/-- all of a row are from 0 to m - 1 -/
def InR (l : List Int) (m : Int) : Prop := ∀ d : Int, 0 ≤ d → d < (l.length : Int) → 0 ≤ gi l d ∧ gi l d < m
noncomputable section
open Classical
def shapeE (N : Int) (T X C : List Int) : Int :=
  if 60 < N ∨ 240 < (T.length : Int) then 2 else if ¬ ((X.length : Int) = T.length ∧ (C.length : Int) = T.length ∧ (T.length : Int) % 2 = 0) then 5
  else if InR X T.length then (if N < 1 then 3 else if InR T N then 0 else 3) else 5
end
/-- a net whose rows may be gone along -/
structure Shape (N : Int) (T X C : List Int) : Prop where
  n0 : 1 ≤ N
  n1 : N ≤ 60
  k : (T.length : Int) ≤ 240
  x : (X.length : Int) = T.length
  c : (C.length : Int) = T.length
  e : (T.length : Int) % 2 = 0
  xr : InR X T.length
  tr : InR T N
theorem shape_iff {N : Int} {T X C : List Int} : shapeE N T X C = 0 ↔ Shape N T X C := by
  unfold shapeE
  constructor
  · intro h
    split at h
    · cases h
    · split at h
      · cases h
      · split at h
        · split at h
          · cases h
          · split at h
            · rename_i h1 h2 h3 h4 h5
              exact ⟨by omega, by omega, by omega, by omega, by omega, by omega, h3, h5⟩
            · cases h
        · cases h
  · intro h
    have h1 := h.n0
    have h2 := h.n1
    have h3 := h.k
    rw [if_neg (by omega), if_neg (fun c => c ⟨h.x, h.c, h.e⟩), if_pos h.xr, if_neg (by omega), if_pos h.tr]
theorem inR_step {l : List Int} {m i : Int} (h : ∀ d : Int, 0 ≤ d → d < i → 0 ≤ gi l d ∧ gi l d < m) (hi : 0 ≤ gi l i ∧ gi l i < m) : ∀ d : Int, 0 ≤ d → d < i + 1 → 0 ≤ gi l d ∧ gi l d < m := by
  intro d h0 h1
  by_cases e : d = i
  · subst e; exact hi
  · exact h d h0 (by omega)
open Classical in
theorem l69_15 {T X C : List Int} {N : Int} (hT : (T.length : Int) ≤ 240) : ∀ (n : Nat) (i : Int), 0 ≤ i → i ≤ T.length → (T.length : Int) - i = n → (∀ d : Int, 0 ≤ d → d < i → 0 ≤ gi T d ∧ gi T d < N) →
    Lead E69 kr69 (.int .i64 (if InR T N then 0 else 3)) (a69_15 T (T.length : Int) i N T X C) := by
  intro n
  induction n with
  | zero =>
    intro i h0 h1 h2 h
    refine h69_15 _ _ _ _ _ _ _ _ ?_
    unfold t69_15
    repeat (first | (refine good_pos (by omega) ?_) | (refine good_pos trivial ?_) | (refine good_neg (by omega) ?_) | (refine good_npos (by omega) ?_) | (refine good_nneg (by omega) ?_) | (refine good_gi (by omega) (by omega) ?_) | (refine good_gb (by omega) (by omega) ?_) | (refine good_ble (by omega) ?_))
    rw [if_pos (show InR T N from fun d hd hd' => h d hd (by omega))]
    exact good_end rfl
  | succ n ih =>
    intro i h0 h1 h2 h
    refine h69_15 _ _ _ _ _ _ _ _ ?_
    unfold t69_15
    by_cases c1 : gi T i < 0
    · repeat (first | (refine good_pos (by omega) ?_) | (refine good_pos trivial ?_) | (refine good_neg (by omega) ?_) | (refine good_npos (by omega) ?_) | (refine good_nneg (by omega) ?_) | (refine good_gi (by omega) (by omega) ?_) | (refine good_gb (by omega) (by omega) ?_) | (refine good_ble (by omega) ?_))
      rw [if_neg (fun hh => by have := hh i h0 (by omega); omega)]
      exact good_end rfl
    by_cases c2 : N ≤ gi T i
    · repeat (first | (refine good_pos (by omega) ?_) | (refine good_pos trivial ?_) | (refine good_neg (by omega) ?_) | (refine good_npos (by omega) ?_) | (refine good_nneg (by omega) ?_) | (refine good_gi (by omega) (by omega) ?_) | (refine good_gb (by omega) (by omega) ?_) | (refine good_ble (by omega) ?_))
      rw [if_neg (fun hh => by have := hh i h0 (by omega); omega)]
      exact good_end rfl
    · repeat (first | (refine good_pos (by omega) ?_) | (refine good_pos trivial ?_) | (refine good_neg (by omega) ?_) | (refine good_npos (by omega) ?_) | (refine good_nneg (by omega) ?_) | (refine good_gi (by omega) (by omega) ?_) | (refine good_gb (by omega) (by omega) ?_) | (refine good_ble (by omega) ?_))
      simp (disch := omega) only [wrap_in]
      exact good_at (ih (i + 1) (by omega) (by omega) (by omega) (inR_step h (by omega)))
open Classical in
theorem l69_7 {T X C : List Int} {N : Int} (hT : (T.length : Int) ≤ 240) (hX : (X.length : Int) = T.length) : ∀ (n : Nat) (i : Int), 0 ≤ i → i ≤ X.length → (X.length : Int) - i = n → (∀ d : Int, 0 ≤ d → d < i → 0 ≤ gi X d ∧ gi X d < (T.length : Int)) →
    Lead E69 kr69 (.int .i64 (if InR X T.length then (if N < 1 then 3 else if InR T N then 0 else 3) else 5)) (a69_7 (T.length : Int) X (X.length : Int) i N T X C) := by
  intro n
  induction n with
  | zero =>
    intro i h0 h1 h2 h
    refine h69_7 _ _ _ _ _ _ _ _ _ ?_
    unfold t69_7
    rw [if_pos (show InR X T.length from fun d hd hd' => h d hd (by omega))]
    by_cases c : N < 1
    · repeat (first | (refine good_pos (by omega) ?_) | (refine good_pos trivial ?_) | (refine good_neg (by omega) ?_) | (refine good_npos (by omega) ?_) | (refine good_nneg (by omega) ?_) | (refine good_gi (by omega) (by omega) ?_) | (refine good_gb (by omega) (by omega) ?_) | (refine good_ble (by omega) ?_))
      rw [if_pos c]
      exact good_end rfl
    · repeat (first | (refine good_pos (by omega) ?_) | (refine good_pos trivial ?_) | (refine good_neg (by omega) ?_) | (refine good_npos (by omega) ?_) | (refine good_nneg (by omega) ?_) | (refine good_gi (by omega) (by omega) ?_) | (refine good_gb (by omega) (by omega) ?_) | (refine good_ble (by omega) ?_))
      rw [if_neg c]
      exact good_at (l69_15 hT T.length 0 (by omega) (by omega) (by omega) (fun d _ _ => by omega))
  | succ n ih =>
    intro i h0 h1 h2 h
    refine h69_7 _ _ _ _ _ _ _ _ _ ?_
    unfold t69_7
    by_cases c1 : gi X i < 0
    · repeat (first | (refine good_pos (by omega) ?_) | (refine good_pos trivial ?_) | (refine good_neg (by omega) ?_) | (refine good_npos (by omega) ?_) | (refine good_nneg (by omega) ?_) | (refine good_gi (by omega) (by omega) ?_) | (refine good_gb (by omega) (by omega) ?_) | (refine good_ble (by omega) ?_))
      rw [if_neg (fun hh => by have := hh i h0 (by omega); omega)]
      exact good_end rfl
    by_cases c2 : (T.length : Int) ≤ gi X i
    · repeat (first | (refine good_pos (by omega) ?_) | (refine good_pos trivial ?_) | (refine good_neg (by omega) ?_) | (refine good_npos (by omega) ?_) | (refine good_nneg (by omega) ?_) | (refine good_gi (by omega) (by omega) ?_) | (refine good_gb (by omega) (by omega) ?_) | (refine good_ble (by omega) ?_))
      rw [if_neg (fun hh => by have := hh i h0 (by omega); omega)]
      exact good_end rfl
    · repeat (first | (refine good_pos (by omega) ?_) | (refine good_pos trivial ?_) | (refine good_neg (by omega) ?_) | (refine good_npos (by omega) ?_) | (refine good_nneg (by omega) ?_) | (refine good_gi (by omega) (by omega) ?_) | (refine good_gb (by omega) (by omega) ?_) | (refine good_ble (by omega) ?_))
      simp (disch := omega) only [wrap_in]
      exact good_at (ih (i + 1) (by omega) (by omega) (by omega) (inR_step h (by omega)))
theorem f69 (N : Int) (T X C : List Int) : ok69 N T X C = true ∧ v69 N T X C = shapeE N T X C :=
  sp69 _ _ _ _ _ (run69 _ _ _ _ _ (by
    have et : Int.tmod (T.length : Int) 2 = (T.length : Int) % 2 := Int.tmod_eq_emod_of_nonneg (by omega)
    unfold t69 shapeE
    rw [et]
    by_cases c1 : 60 < N
    · repeat (first | (refine good_pos (by omega) ?_) | (refine good_pos trivial ?_) | (refine good_neg (by omega) ?_) | (refine good_npos (by omega) ?_) | (refine good_nneg (by omega) ?_) | (refine good_gi (by omega) (by omega) ?_) | (refine good_gb (by omega) (by omega) ?_) | (refine good_ble (by omega) ?_))
      rw [if_pos (.inl c1)]; exact good_end rfl
    by_cases c2 : 240 < (T.length : Int)
    · repeat (first | (refine good_pos (by omega) ?_) | (refine good_pos trivial ?_) | (refine good_neg (by omega) ?_) | (refine good_npos (by omega) ?_) | (refine good_nneg (by omega) ?_) | (refine good_gi (by omega) (by omega) ?_) | (refine good_gb (by omega) (by omega) ?_) | (refine good_ble (by omega) ?_))
      rw [if_pos (.inr c2)]; exact good_end rfl
    rw [if_neg (by omega)]
    by_cases c3 : (X.length : Int) = T.length
    · by_cases c4 : (C.length : Int) = T.length
      · by_cases c5 : (T.length : Int) % 2 = 0
        · repeat (first | (refine good_pos (by omega) ?_) | (refine good_pos trivial ?_) | (refine good_neg (by omega) ?_) | (refine good_npos (by omega) ?_) | (refine good_nneg (by omega) ?_) | (refine good_gi (by omega) (by omega) ?_) | (refine good_gb (by omega) (by omega) ?_) | (refine good_ble (by omega) ?_))
          rw [if_neg (by omega)]
          exact good_at (l69_7 (by omega) c3 X.length 0 (by omega) (by omega) (by omega) (fun d _ _ => by omega))
        · repeat (first | (refine good_pos (by omega) ?_) | (refine good_pos trivial ?_) | (refine good_neg (by omega) ?_) | (refine good_npos (by omega) ?_) | (refine good_nneg (by omega) ?_) | (refine good_gi (by omega) (by omega) ?_) | (refine good_gb (by omega) (by omega) ?_) | (refine good_ble (by omega) ?_))
          rw [if_pos (by omega)]; exact good_end rfl
      · repeat (first | (refine good_pos (by omega) ?_) | (refine good_pos trivial ?_) | (refine good_neg (by omega) ?_) | (refine good_npos (by omega) ?_) | (refine good_nneg (by omega) ?_) | (refine good_gi (by omega) (by omega) ?_) | (refine good_gb (by omega) (by omega) ?_) | (refine good_ble (by omega) ?_))
        rw [if_pos (by omega)]; exact good_end rfl
    · repeat (first | (refine good_pos (by omega) ?_) | (refine good_pos trivial ?_) | (refine good_neg (by omega) ?_) | (refine good_npos (by omega) ?_) | (refine good_nneg (by omega) ?_) | (refine good_gi (by omega) (by omega) ?_) | (refine good_gb (by omega) (by omega) ?_) | (refine good_ble (by omega) ?_))
      rw [if_pos (by omega)]; exact good_end rfl))
/-- the rows may be gone along, or there are none -/
def FineN (N : Int) (T X C : List Int) : Prop := Shape N T X C ∨ (N = 0 ∧ (T.length : Int) = 0)
theorem f72 (N : Int) (T X C : List Int) : ok72 N T X C = true ∧ (v72 N T X C = true ↔ FineN N T X C) := by
  obtain ⟨a, b⟩ := f69 N T X C
  refine okv (p := fun r => r = true ↔ FineN N T X C) ?_
  by_cases c : shapeE N T X C = 0
  · refine ⟨true, sp72 _ _ _ _ _ (run72 _ _ _ _ _ ?_), by simp [FineN, shape_iff.1 c]⟩
    unfold t72
    rw [b]
    refine good_true a (good_pos c ?_)
    exact good_end rfl
  · have hs : ¬ Shape N T X C := fun h => c (shape_iff.2 h)
    refine ⟨decide (N = 0 ∧ (T.length : Int) = 0), sp72 _ _ _ _ _ (run72 _ _ _ _ _ ?_), by simp [FineN, hs]⟩
    unfold t72
    rw [b]
    refine good_true a (good_neg c ?_)
    by_cases c0 : N = 0
    · repeat (first | (refine good_pos (by omega) ?_) | (refine good_pos trivial ?_) | (refine good_neg (by omega) ?_) | (refine good_npos (by omega) ?_) | (refine good_nneg (by omega) ?_) | (refine good_gi (by omega) (by omega) ?_) | (refine good_gb (by omega) (by omega) ?_) | (refine good_ble (by omega) ?_))
      exact good_end (by simp [c0])
    · repeat (first | (refine good_pos (by omega) ?_) | (refine good_pos trivial ?_) | (refine good_neg (by omega) ?_) | (refine good_npos (by omega) ?_) | (refine good_nneg (by omega) ?_) | (refine good_gi (by omega) (by omega) ?_) | (refine good_gb (by omega) (by omega) ?_) | (refine good_ble (by omega) ?_))
      exact good_end (by simp [c0])
end Go.Proofs.Ytnfgfdeidkhdkaa.Eng
