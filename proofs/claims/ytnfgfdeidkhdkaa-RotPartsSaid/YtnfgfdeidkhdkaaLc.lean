/- slices.Repeat of a row of one number; shape, fine. -/
import Derived.Test.YtnfgfdeidkhdkaaLb
import Derived.Test.YtnfgfdeidkhdkaaP75
import Derived.Test.YtnfgfdeidkhdkaaP69
import Derived.Test.YtnfgfdeidkhdkaaP72
namespace Go.Proofs.Ytnfgfdeidkhdkaa.Eng
set_option linter.unusedVariables false
set_option linter.unusedSimpArgs false
theorem u64_in' {n : Int} (h0 : 0 ≤ n) (h1 : n ≤ 18446744073709551615) : IntKind.wrap IntKind.u64 n = n := IntWalk.u64_in n ⟨h0, h1⟩
theorem and_low {n : Int} (h0 : 0 ≤ n) (h1 : n ≤ 4294967295) : bitsI .and .u64 n 4294967295 = n := by
  obtain ⟨m, rfl⟩ : ∃ m : Nat, n = m := ⟨n.toNat, by omega⟩
  have e : (BitVec.ofInt 64 (m : Int) &&& BitVec.ofInt 64 4294967295).toNat = m := by
    rw [BitVec.toNat_and]
    have a : (BitVec.ofInt 64 (m : Int)).toNat = m := by
      rw [BitVec.toNat_ofInt]; omega
    have b : (BitVec.ofInt 64 (4294967295 : Int)).toNat = 2 ^ 32 - 1 := by decide
    rw [a, b, Nat.and_two_pow_sub_one_eq_mod]
    omega
  unfold bitsI
  simp only
  show IntKind.wrap IntKind.u64 ((BitVec.ofInt 64 (m : Int) &&& BitVec.ofInt 64 4294967295).toNat : Int) = _
  rw [e, u64_in' (by omega) (by omega)]
theorem fdiv_low {n : Int} (h0 : 0 ≤ n) (h1 : n ≤ 4294967295) : Int.fdiv n ((2 : Int) ^ Min.min (Int.toNat 32) (IntKind.bits IntKind.u64)) = 0 := by
  have e : ((2 : Int) ^ Min.min (Int.toNat 32) (IntKind.bits IntKind.u64)) = 4294967296 := by decide
  rw [e, Int.fdiv_eq_ediv_of_nonneg _ (by decide)]
  omega
theorem f123 {n : Int} (h0 : 0 ≤ n) (h1 : n ≤ 4294967295) : ok123 1 n = true ∧ v123 1 n = (0, n) :=
  sp123 _ _ _ (run123 _ _ _ (by
    unfold t123
    have a1 : bitsI .and .u64 1 4294967295 = 1 := and_low (by decide) (by decide)
    have a2 : bitsI .and .u64 0 4294967295 = 0 := and_low (by decide) (by decide)
    have b1 := fdiv_low (n := 1) (by decide) (by decide)
    have b0 := fdiv_low (n := 0) (by decide) (by decide)
    have bn := fdiv_low h0 h1
    have w0 : IntKind.wrap IntKind.u64 0 = 0 := u64_in' (by decide) (by decide)
    have wn : IntKind.wrap IntKind.u64 n = n := u64_in' h0 (by omega)
    refine good_end ?_
    simp only [a1, a2, b1, b0, bn, and_low h0 h1, Int.zero_mul, Int.mul_zero, Int.one_mul, w0, wn, Int.zero_add, Int.add_zero]))
theorem f107 {n : Int} (h0 : 0 ≤ n) (h1 : n ≤ 4294967295) : ok107 1 n = true ∧ v107 1 n = (0, n) :=
  sp107 _ _ _ (run107 _ _ _ (by
    obtain ⟨a, b⟩ := f123 h0 h1
    unfold t107
    simp only [b]
    exact good_true a (good_end rfl)))
theorem tn0 : Int.toNat 0 = 0 := rfl
theorem rep_half {v : Int} {i m : Nat} (hi : 0 < i) (him : i < m) : List.take i (List.replicate i v ++ List.replicate (m - i) 0) ++ List.take (min (m - i) i) (List.take i (List.replicate i v ++ List.replicate (m - i) 0)) ++ List.drop (i + min (m - i) i) (List.replicate i v ++ List.replicate (m - i) (0 : Int)) = List.replicate (min (i + i) m) v ++ List.replicate (m - min (i + i) m) 0 := by
  rw [List.take_append_of_le_length (by simp), List.take_replicate, Nat.min_self, List.take_replicate, List.drop_append, List.drop_replicate, List.drop_replicate, List.length_replicate,
    List.replicate_append_replicate]
  have e1 : i + min (min (m - i) i) i = min (i + i) m := by omega
  have e2 : i - (i + min (m - i) i) = 0 := by omega
  have e3 : m - i - (i + min (m - i) i - i) = m - min (i + i) m := by omega
  rw [e1, e2, e3]; simp
theorem l75 {v : Int} {m : Nat} (hm : m ≤ 4294967296) : ∀ (k i : Nat), 0 < i → i ≤ m → m < i * 2 ^ k + 1 → Lead E75 kr75 (.sl .int (List.replicate m v)) (a75_8 (i : Int) (List.replicate i v ++ List.replicate (m - i) 0)) := by
  intro k
  induction k with
  | zero =>
    intro i h0 h1 h2
    obtain rfl : i = m := by omega
    refine h75_8 _ _ _ ?_
    unfold t75_8
    simp only [List.length_append, List.length_replicate, Nat.sub_self, List.replicate_zero, List.append_nil, Nat.add_zero]
    refine good_neg (by omega) ?_
    exact good_end rfl
  | succ k ih =>
    intro i h0 h1 h2
    by_cases hi : i = m
    · subst hi
      refine h75_8 _ _ _ ?_
      unfold t75_8
      simp only [List.length_append, List.length_replicate, Nat.sub_self, List.replicate_zero, List.append_nil, Nat.add_zero]
      refine good_neg (by omega) ?_
      exact good_end rfl
    · refine h75_8 _ _ _ ?_
      unfold t75_8
      have e0 : i + (m - i) = m := by omega
      have e2 : List.take i (List.replicate i v ++ List.replicate (m - i) (0 : Int)) = List.replicate i v := by
        rw [List.take_append_of_le_length (by simp), List.take_replicate, Nat.min_self]
      simp only [tn0, Nat.sub_zero, List.drop_zero, Int.toNat_natCast]
      have e5 : (List.replicate i v ++ List.replicate (m - i) (0 : Int)).length = m := by simp; omega
      simp only [e5]
      have e4 : (List.take i (List.replicate i v ++ List.replicate (m - i) (0 : Int))).length = i := by rw [e2, List.length_replicate]
      simp only [e4]
      repeat (first | (refine good_pos (by omega) ?_) | (refine good_pos trivial ?_) | (refine good_neg (by omega) ?_) | (refine good_npos (by omega) ?_) | (refine good_nneg (by omega) ?_) | (refine good_gi (by omega) (by omega) ?_) | (refine good_gb (by omega) (by omega) ?_) | (refine good_ble (by omega) ?_))
      have := ih (min (i + i) m) (by omega) (by omega) (by
        rw [Nat.pow_succ] at h2
        by_cases h : i + i ≤ m
        · rw [Nat.min_eq_left h]
          have : (i + i) * 2 ^ k = i * (2 ^ k * 2) := by rw [Nat.add_mul, Nat.mul_comm (2 ^ k), ← Nat.mul_assoc, Nat.mul_comm i 2, Nat.mul_assoc]; omega
          omega
        · rw [Nat.min_eq_right (by omega)]
          have : 0 < 2 ^ k := Nat.two_pow_pos k
          have : m * 1 ≤ m * 2 ^ k := Nat.mul_le_mul_left m this
          omega)
      rw [rep_half h0 (by omega)]
      have e3 : IntKind.wrap IntKind.i64 ((i : Int) + ((min (m - i) i : Nat) : Int)) = ((min (i + i) m : Nat) : Int) := by
        rw [wrap_in (by omega) (by omega)]; omega
      rw [e3]
      exact good_at this
theorem f75 {v n : Int} (h0 : 0 ≤ n) (h1 : n ≤ 4294967295) : ok75 [v] n = true ∧ v75 [v] n = List.replicate n.toNat v :=
  sp75 _ _ _ (run75 _ _ _ (by
    obtain ⟨a, b⟩ := f107 h0 h1
    unfold t75
    have e1 : IntKind.wrap IntKind.u64 (([v].length : Nat) : Int) = 1 := by rw [u64_in'] <;> simp
    have e2 : IntKind.wrap IntKind.u64 n = n := u64_in' h0 (by omega)
    have e3 : IntKind.wrap IntKind.i64 n = n := wrap_in (by omega) (by omega)
    simp only [e1, e2, b, e3]
    refine good_neg (by omega) (good_true a ?_)
    repeat (first | (refine good_pos (by omega) ?_) | (refine good_pos trivial ?_) | (refine good_neg (by omega) ?_) | (refine good_npos (by omega) ?_) | (refine good_nneg (by omega) ?_) | (refine good_gi (by omega) (by omega) ?_) | (refine good_gb (by omega) (by omega) ?_) | (refine good_ble (by omega) ?_))
    simp only [List.length_replicate, List.length_singleton]
    by_cases hn : n = 0
    · subst hn
      refine good_at (h75_8 _ _ _ ?_)
      unfold t75_8
      refine good_neg (by simp) ?_
      exact good_end (by simp)
    · have hm : min n.toNat 1 = 1 := by omega
      rw [hm]
      have := l75 (v := v) (m := n.toNat) (by omega) 33 1 (by omega) (by omega) (by omega)
      simpa [good_some] using this))
end Go.Proofs.Ytnfgfdeidkhdkaa.Eng
