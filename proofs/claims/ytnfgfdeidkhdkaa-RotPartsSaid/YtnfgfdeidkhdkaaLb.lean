/- What small functions come to: within, Cap, other, has, Head; the row of so many. -/
import Derived.Test.YtnfgfdeidkhdkaaLa
import Derived.Test.YtnfgfdeidkhdkaaP22
import Derived.Test.YtnfgfdeidkhdkaaP66
import Derived.Test.YtnfgfdeidkhdkaaP45
import Derived.Test.YtnfgfdeidkhdkaaP64
import Derived.Test.YtnfgfdeidkhdkaaP104
import Derived.Test.YtnfgfdeidkhdkaaP77
import Derived.Test.YtnfgfdeidkhdkaaP31
import Derived.Test.YtnfgfdeidkhdkaaP32
namespace Go.Proofs.Ytnfgfdeidkhdkaa.Eng
set_option linter.unusedVariables false
theorem f22 {a n : Int} (h0 : 0 < n) (h1 : n ≤ 4611686018427387904) : ok22 a n = true ∧ 0 ≤ v22 a n ∧ v22 a n < n := by
  have hb : -n < a.tmod n ∧ a.tmod n < n := ⟨Int.lt_tmod_of_pos a h0, Int.tmod_lt_of_pos a h0⟩
  refine okv (p := fun r => 0 ≤ r ∧ r < n) ?_
  by_cases h : a.tmod n < 0
  · refine ⟨a.tmod n + n, sp22 _ _ _ (run22 _ _ _ ?_), by omega, by omega⟩
    unfold t22
    repeat (first | (refine good_pos (by omega) ?_) | (refine good_neg (by omega) ?_) | (refine good_npos (by omega) ?_) | (refine good_nneg (by omega) ?_) | (refine good_gi (by omega) (by omega) ?_) | (refine good_gb (by omega) (by omega) ?_) | (refine good_ble (by omega) ?_))
    simp (disch := omega) only [wrap_in]
    exact good_end rfl
  · refine ⟨a.tmod n, sp22 _ _ _ (run22 _ _ _ ?_), by omega, by omega⟩
    unfold t22
    repeat (first | (refine good_pos (by omega) ?_) | (refine good_neg (by omega) ?_) | (refine good_npos (by omega) ?_) | (refine good_nneg (by omega) ?_) | (refine good_gi (by omega) (by omega) ?_) | (refine good_gb (by omega) (by omega) ?_) | (refine good_ble (by omega) ?_))
    exact good_end rfl
theorem f66 {a n : Int} (h0 : 0 < n) (h1 : n ≤ 4611686018427387904) : ok66 a n = true ∧ 0 ≤ v66 a n ∧ v66 a n < n := by
  have hb : -n < a.tmod n ∧ a.tmod n < n := ⟨Int.lt_tmod_of_pos a h0, Int.tmod_lt_of_pos a h0⟩
  refine okv (p := fun r => 0 ≤ r ∧ r < n) ?_
  by_cases h : a.tmod n < 0
  · refine ⟨a.tmod n + n, sp66 _ _ _ (run66 _ _ _ ?_), by omega, by omega⟩
    unfold t66
    repeat (first | (refine good_pos (by omega) ?_) | (refine good_neg (by omega) ?_) | (refine good_npos (by omega) ?_) | (refine good_nneg (by omega) ?_) | (refine good_gi (by omega) (by omega) ?_) | (refine good_gb (by omega) (by omega) ?_) | (refine good_ble (by omega) ?_))
    simp (disch := omega) only [wrap_in]
    exact good_end rfl
  · refine ⟨a.tmod n, sp66 _ _ _ (run66 _ _ _ ?_), by omega, by omega⟩
    unfold t66
    repeat (first | (refine good_pos (by omega) ?_) | (refine good_neg (by omega) ?_) | (refine good_npos (by omega) ?_) | (refine good_nneg (by omega) ?_) | (refine good_gi (by omega) (by omega) ?_) | (refine good_gb (by omega) (by omega) ?_) | (refine good_ble (by omega) ?_))
    exact good_end rfl
theorem f45 {a n : Int} (h0 : 0 < n) (h1 : n ≤ 4611686018427387904) : ok45 a n = true ∧ 0 ≤ v45 a n ∧ v45 a n < n := by
  have hb : -n < a.tmod n ∧ a.tmod n < n := ⟨Int.lt_tmod_of_pos a h0, Int.tmod_lt_of_pos a h0⟩
  refine okv (p := fun r => 0 ≤ r ∧ r < n) ?_
  by_cases h : a.tmod n < 0
  · refine ⟨a.tmod n + n, sp45 _ _ _ (run45 _ _ _ ?_), by omega, by omega⟩
    unfold t45
    repeat (first | (refine good_pos (by omega) ?_) | (refine good_neg (by omega) ?_) | (refine good_npos (by omega) ?_) | (refine good_nneg (by omega) ?_) | (refine good_gi (by omega) (by omega) ?_) | (refine good_gb (by omega) (by omega) ?_) | (refine good_ble (by omega) ?_))
    simp (disch := omega) only [wrap_in]
    exact good_end rfl
  · refine ⟨a.tmod n, sp45 _ _ _ (run45 _ _ _ ?_), by omega, by omega⟩
    unfold t45
    repeat (first | (refine good_pos (by omega) ?_) | (refine good_neg (by omega) ?_) | (refine good_npos (by omega) ?_) | (refine good_nneg (by omega) ?_) | (refine good_gi (by omega) (by omega) ?_) | (refine good_gb (by omega) (by omega) ?_) | (refine good_ble (by omega) ?_))
    exact good_end rfl
theorem f64 (n : Int) : ok64 n = true ∧ 0 ≤ v64 n ∧ v64 n ≤ 2147483648 := by
  obtain ⟨hk, h0, h1⟩ := f66 (a := n) (n := 1099511627776) (by decide) (by decide)
  refine okv (p := fun r => 0 ≤ r ∧ r ≤ 2147483648) ?_
  generalize hg : v66 n 1099511627776 = k at *
  have e1 : Int.tmod k 7 = k % 7 := Int.tmod_eq_emod_of_nonneg h0
  have e2 : Int.tdiv k 7 = k / 7 := Int.tdiv_eq_ediv_of_nonneg h0
  have h2 : 0 ≤ k / 7 := by omega
  have e3 : Int.tmod (k / 7) 3 = k / 7 % 3 := Int.tmod_eq_emod_of_nonneg h2
  have e4 : Int.tmod (k / 7) 1000000 = k / 7 % 1000000 := Int.tmod_eq_emod_of_nonneg h2
  have e5 : Int.tmod (k / 7) 9 = k / 7 % 9 := Int.tmod_eq_emod_of_nonneg h2
  by_cases c0 : k % 7 = 0
  · refine ⟨0, sp64 _ _ (run64 _ _ ?_), by omega, by omega⟩
    unfold t64
    simp only [hg, e1]
    refine good_true hk ?_
    repeat (first | (refine good_pos (by omega) ?_) | (refine good_neg (by omega) ?_) | (refine good_npos (by omega) ?_) | (refine good_nneg (by omega) ?_) | (refine good_gi (by omega) (by omega) ?_) | (refine good_gb (by omega) (by omega) ?_) | (refine good_ble (by omega) ?_))
    exact good_end rfl
  by_cases c1 : k % 7 = 1
  · refine ⟨2147483648 - k / 7 % 3, sp64 _ _ (run64 _ _ ?_), by omega, by omega⟩
    unfold t64
    simp only [hg, e1]
    refine good_true hk ?_
    simp (disch := omega) only [wrap_in, e2, e3]
    repeat (first | (refine good_pos (by omega) ?_) | (refine good_neg (by omega) ?_) | (refine good_npos (by omega) ?_) | (refine good_nneg (by omega) ?_) | (refine good_gi (by omega) (by omega) ?_) | (refine good_gb (by omega) (by omega) ?_) | (refine good_ble (by omega) ?_))
    exact good_end rfl
  by_cases c2 : k % 7 = 2
  · refine ⟨k / 7 % 1000000, sp64 _ _ (run64 _ _ ?_), by omega, by omega⟩
    unfold t64
    simp only [hg, e1]
    refine good_true hk ?_
    simp (disch := omega) only [wrap_in, e2, e4]
    repeat (first | (refine good_pos (by omega) ?_) | (refine good_neg (by omega) ?_) | (refine good_npos (by omega) ?_) | (refine good_nneg (by omega) ?_) | (refine good_gi (by omega) (by omega) ?_) | (refine good_gb (by omega) (by omega) ?_) | (refine good_ble (by omega) ?_))
    exact good_end rfl
  · refine ⟨k / 7 % 9, sp64 _ _ (run64 _ _ ?_), by omega, by omega⟩
    unfold t64
    simp only [hg, e1]
    refine good_true hk ?_
    simp (disch := omega) only [wrap_in, e2, e5]
    repeat (first | (refine good_pos (by omega) ?_) | (refine good_neg (by omega) ?_) | (refine good_npos (by omega) ?_) | (refine good_nneg (by omega) ?_) | (refine good_gi (by omega) (by omega) ?_) | (refine good_gb (by omega) (by omega) ?_) | (refine good_ble (by omega) ?_))
    exact good_end rfl
/-- has -/
theorem l104 {l : List Int} {d : Int} (hl : l.length ≤ 4294967296) : ∀ (n i : Nat), l.length ≤ i + n → i ≤ l.length → Lead E104 kr104 (.bool (decide (d ∈ l.drop i))) (a104_2 l d (i : Int)) := by
  intro n
  induction n with
  | zero =>
    intro i h1 h2
    refine h104_2 _ _ _ _ ?_
    unfold t104_2
    repeat (first | (refine good_pos (by omega) ?_) | (refine good_neg (by omega) ?_) | (refine good_npos (by omega) ?_) | (refine good_nneg (by omega) ?_) | (refine good_gi (by omega) (by omega) ?_) | (refine good_gb (by omega) (by omega) ?_) | (refine good_ble (by omega) ?_))
    rw [List.drop_eq_nil_of_le (by omega)]
    exact good_end (by simp)
  | succ n ih =>
    intro i h1 h2
    refine h104_2 _ _ _ _ ?_
    unfold t104_2
    by_cases hi : i < l.length
    · rw [List.drop_eq_getElem_cons hi, ← gi_get hi]
      by_cases he : gi l i = d
      · repeat (first | (refine good_pos (by omega) ?_) | (refine good_neg (by omega) ?_) | (refine good_npos (by omega) ?_) | (refine good_nneg (by omega) ?_) | (refine good_gi (by omega) (by omega) ?_) | (refine good_gb (by omega) (by omega) ?_) | (refine good_ble (by omega) ?_))
        exact good_end (by simp [he])
      · repeat (first | (refine good_pos (by omega) ?_) | (refine good_neg (by omega) ?_) | (refine good_npos (by omega) ?_) | (refine good_nneg (by omega) ?_) | (refine good_gi (by omega) (by omega) ?_) | (refine good_gb (by omega) (by omega) ?_) | (refine good_ble (by omega) ?_))
        simp (disch := omega) only [wrap_in]
        have := ih (i + 1) (by omega) (by omega)
        simp only [List.mem_cons, Ne.symm he, false_or]
        exact good_at this
    · repeat (first | (refine good_pos (by omega) ?_) | (refine good_neg (by omega) ?_) | (refine good_npos (by omega) ?_) | (refine good_nneg (by omega) ?_) | (refine good_gi (by omega) (by omega) ?_) | (refine good_gb (by omega) (by omega) ?_) | (refine good_ble (by omega) ?_))
      rw [List.drop_eq_nil_of_le (by omega)]
      exact good_end (by simp)
theorem f104 {l : List Int} (hl : l.length ≤ 4294967296) (d : Int) : ok104 l d = true ∧ v104 l d = decide (d ∈ l) :=
  sp104 _ _ _ (run104 _ _ _ (by
    unfold t104
    have := l104 (d := d) hl l.length 0 (by omega) (by omega)
    exact good_at this))
/-- a dart's other one -/
def oth (d : Int) : Int := if d % 2 = 0 then d + 1 else d - 1
theorem xor_one {d : Int} (h0 : 0 ≤ d) (h1 : d ≤ 4611686018427387904) : bitsI .xor .i64 d 1 = oth d := by
  obtain ⟨n, rfl⟩ : ∃ n : Nat, d = n := ⟨d.toNat, by omega⟩
  have e : (BitVec.ofInt 64 (n : Int) ^^^ BitVec.ofInt 64 1).toNat = n ^^^ 1 := by
    rw [BitVec.toNat_xor]
    have a : (BitVec.ofInt 64 (n : Int)).toNat = n := by
      rw [BitVec.toNat_ofInt]; omega
    have b : (BitVec.ofInt 64 (1 : Int)).toNat = 1 := by decide
    rw [a, b]
  have hx : (n ^^^ 1 : Nat) = if n % 2 = 0 then n + 1 else n - 1 := by
    have h1 : (n ^^^ 1) / 2 = n / 2 := by
      rw [Nat.xor_div_two]; simp
    have h2 : (n ^^^ 1) % 2 = (n + 1) % 2 := by
      have := @Nat.xor_mod_two_eq_one n 1
      omega
    split <;> omega
  unfold bitsI
  simp only
  show IntKind.wrap IntKind.i64 ((BitVec.ofInt 64 (n : Int) ^^^ BitVec.ofInt 64 1).toNat : Int) = _
  rw [e, hx]
  unfold oth
  split
  · rw [if_pos (by omega), wrap_in (by omega) (by omega)]; omega
  · rw [if_neg (by omega), wrap_in (by omega) (by omega)]; omega
theorem f77 {d : Int} (h0 : 0 ≤ d) (h1 : d ≤ 4611686018427387904) : ok77 d = true ∧ v77 d = oth d :=
  sp77 _ _ (run77 _ _ (by
    unfold t77
    rw [xor_one h0 h1]
    exact good_end rfl))
end Go.Proofs.Ytnfgfdeidkhdkaa.Eng
