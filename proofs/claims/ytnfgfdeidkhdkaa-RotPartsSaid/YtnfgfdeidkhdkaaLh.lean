/- Make: whatever the numbers are, a net is made whose rows may be gone along. -/
import Derived.Test.YtnfgfdeidkhdkaaLg
namespace Go.Proofs.Ytnfgfdeidkhdkaa.Eng
set_option linter.unusedVariables false
set_option linter.unusedSimpArgs false
theorem row_take (l : List Int) {k : Int} (h : k ≤ (l.length : Int)) : (List.take (k.toNat - Int.toNat 0) (List.drop (Int.toNat 0) l)).length = k.toNat := by
  show (List.take (k.toNat - 0) (List.drop 0 l)).length = _
  simp; omega
/-- a row, a number laid in -/
def layIn (l : List Int) (k d : Int) : List Int := List.take (k.toNat - Int.toNat 0) (List.drop (Int.toNat 0) l) ++ [d] ++ List.take (((l.length : Nat) : Int).toNat - k.toNat) (List.drop k.toNat l)
theorem layIn_len {l : List Int} {k d : Int} (h0 : 0 ≤ k) (h1 : k ≤ (l.length : Int)) : (layIn l k d).length = l.length + 1 := by
  unfold layIn
  rw [List.length_append, List.length_append, row_take l h1]
  simp; omega
theorem layIn_gi {l : List Int} {k d : Int} (h0 : 0 ≤ k) (h1 : k ≤ (l.length : Int)) {j : Int} (j0 : 0 ≤ j) (j1 : j ≤ l.length) : gi (layIn l k d) j = if j < k then gi l j else if j = k then d else gi l (j - 1) := by
  have hl := row_take l h1
  unfold layIn
  by_cases c : j < k
  · rw [if_pos c, gi_append_left (by rw [List.length_append, hl]; simp; omega) j0, gi_append_left (by rw [hl]; omega) j0]
    simp only [gi, List.getD_eq_getElem?_getD]
    show (List.take (k.toNat - 0) (List.drop 0 l))[j.toNat]?.getD 0 = _
    rw [List.drop_zero, List.getElem?_take_of_lt (by omega)]
  · rw [if_neg c]
    by_cases c2 : j = k
    · rw [if_pos c2, gi_append_left (by rw [List.length_append, hl]; simp; omega) j0, gi_append_right (by rw [hl]; omega), hl]
      have : j - (k.toNat : Int) = 0 := by omega
      rw [this]; rfl
    · rw [if_neg c2, gi_append_right (by rw [List.length_append, hl]; simp; omega), List.length_append, hl]
      simp only [gi, List.getD_eq_getElem?_getD, List.length_singleton]
      rw [List.getElem?_take_of_lt (by omega), List.getElem?_drop]
      congr 2
      omega
/-- the darts of a vertex, of the first so many -/
structure RowTo (T : List Int) (v i : Int) (l : List Int) : Prop where
  mem : ∀ j : Int, 0 ≤ j → j < (l.length : Int) → 0 ≤ gi l j ∧ gi l j < i ∧ gi T (gi l j) = v
  one : ∀ i j : Int, 0 ≤ i → i < j → j < (l.length : Int) → gi l i ≠ gi l j
  all : ∀ d : Int, 0 ≤ d → d < i → gi T d = v → ∃ j : Int, 0 ≤ j ∧ j < (l.length : Int) ∧ gi l j = d
  len : (l.length : Int) ≤ i
theorem RowTo.skip {T l : List Int} {v i : Int} (h : RowTo T v i l) (c : gi T i ≠ v) : RowTo T v (i + 1) l :=
  ⟨fun j j0 j1 => by have := h.mem j j0 j1; omega, h.one, fun d d0 d1 e => h.all d d0 (by
    by_cases e' : d = i
    · subst e'; exact absurd e c
    · omega) e, by have := h.len; omega⟩
theorem RowTo.lay {T l : List Int} {v i k : Int} (h : RowTo T v i l) (hi : 0 ≤ i) (c : gi T i = v) (h0 : 0 ≤ k) (h1 : k ≤ (l.length : Int)) : RowTo T v (i + 1) (layIn l k i) := by
  have hl := layIn_len (d := i) h0 h1
  have hg : ∀ j : Int, 0 ≤ j → j ≤ l.length → _ := fun j j0 j1 => layIn_gi (d := i) h0 h1 j0 j1
  refine ⟨fun j j0 j1 => ?_, fun a b a0 ab b1 => ?_, fun d d0 d1 e => ?_, by have := h.len; omega⟩
  · rw [hg j j0 (by omega)]
    split
    · have := h.mem j j0 (by omega); omega
    · split
      · exact ⟨hi, by omega, c⟩
      · have := h.mem (j - 1) (by omega) (by omega); omega
  · rw [hg a a0 (by omega), hg b (by omega) (by omega)]
    split
    · have ha := h.mem a a0 (by omega)
      split
      · exact h.one a b a0 ab (by omega)
      · split
        · omega
        · exact h.one a (b - 1) a0 (by omega) (by omega)
    · split
      · rw [if_neg (by omega), if_neg (by omega)]
        have hb := h.mem (b - 1) (by omega) (by omega)
        omega
      · rw [if_neg (by omega), if_neg (by omega)]
        exact h.one (a - 1) (b - 1) (by omega) (by omega) (by omega)
  · by_cases e' : d = i
    · refine ⟨k, h0, by omega, ?_⟩
      rw [hg k h0 h1, if_neg (by omega), if_pos rfl, e']
    · obtain ⟨j, j0, j1, j2⟩ := h.all d d0 (by omega) e
      by_cases cj : j < k
      · refine ⟨j, j0, by omega, ?_⟩
        rw [hg j j0 (by omega), if_pos cj, j2]
      · refine ⟨j + 1, by omega, by omega, ?_⟩
        rw [hg (j + 1) (by omega) (by omega), if_neg (by omega), if_neg (by omega), show j + 1 - 1 = j by omega, j2]
theorem RowTo.row {T l : List Int} {v : Int} (h : RowTo T v T.length l) (hk : (T.length : Int) ≤ 240) : Row T v l := ⟨h.mem, h.one, h.all, by have := h.len; omega⟩
section
variable {ns : List Int} {n' : Int} {a b c : List Int}
theorem l19_8 : ∀ (n : Nat) (v : Int) (m : NetV), 0 ≤ v → v ≤ m.N → m.N - v = n → Made m →
    ∃ q, Made q ∧ q.N = m.N ∧ Lead E19 kr19 (.agg [.int .i64 q.N, .sl .int q.T, .sl .int q.X, .sl .int q.C]) (a19_8 ns v n' a b c m.N m.T m.X m.C) := by
  intro n
  induction n with
  | zero =>
    intro v m h0 h1 h2 hm
    refine ⟨m, hm, rfl, h19_8 _ _ _ _ _ _ _ _ _ _ _ ?_⟩
    unfold t19_8
    repeat (first | (refine good_pos (by omega) ?_) | (refine good_pos trivial ?_) | (refine good_neg (by omega) ?_) | (refine good_npos (by omega) ?_) | (refine good_nneg (by omega) ?_) | (refine good_gi (by omega) (by omega) ?_) | (refine good_gb (by omega) (by omega) ?_) | (refine good_ble (by omega) ?_))
    exact good_end rfl
  | succ n ih =>
    intro v m h0 h1 h2 hm
    have hT := hm.k
    have hl := hm.p.len
    have hn := hm.n1
    -- the round of this vertex: whatever its row is, a net is made; which one, the code tells
    have step : ∀ l, Row m.T v l → ∃ q, Made q ∧ q.N = m.N ∧ Lead E19 kr19 (.agg [.int .i64 q.N, .sl .int q.T, .sl .int q.X, .sl .int q.C]) (a19_12 ns v (m.T.length : Int) n' a b c m.N m.T m.X m.C l) := by
      intro l hr
      obtain ⟨k1, Z, hz, k2⟩ := f68 (N := m.N) (C := m.C) hr (by omega) hl
      have hm' : Made ⟨m.N, m.T, Z, m.C⟩ := ⟨hm.n0, hm.n1, hm.k, hm.e, hm.c, hm.tr, hm.cr, hm.p.turned hr hz, hm.z⟩
      obtain ⟨q, q1, q2, q3⟩ := ih (v + 1) ⟨m.N, m.T, Z, m.C⟩ (by omega) (by simp only; omega) (by simp only; omega) hm'
      refine ⟨q, q1, q2, h19_12 _ _ _ _ _ _ _ _ _ _ _ _ _ ?_⟩
      unfold t19_12
      rw [k2]
      refine good_neg (by omega) (good_true k1 ?_)
      simp (disch := omega) only [wrap_in]
      exact good_at q3
    -- the row that the code lays
    have row : ∀ (k : Nat) (i : Int) (l : List Int), 0 ≤ i → i ≤ m.T.length → (m.T.length : Int) - i = k → RowTo m.T v i l →
        ∃ q, Made q ∧ q.N = m.N ∧ Lead E19 kr19 (.agg [.int .i64 q.N, .sl .int q.T, .sl .int q.X, .sl .int q.C]) (a19_12 ns v i n' a b c m.N m.T m.X m.C l) := by
      intro k
      induction k with
      | zero =>
        intro i l h0 h1 h2 hl
        obtain rfl : i = m.T.length := by omega
        exact step l (hl.row (by omega))
      | succ k ihk =>
        intro i l i0 i1 i2 hl
        have hll := hl.len
        by_cases cv : gi m.T i = v
        · by_cases cn : 0 < (ns.length : Int)
          · have et : Int.tmod i (ns.length : Int) = i % ns.length := Int.tmod_eq_emod_of_nonneg i0
            have e0 : 0 ≤ i % (ns.length : Int) := Int.emod_nonneg _ (by omega)
            have e1 : i % (ns.length : Int) < ns.length := Int.emod_lt_of_pos _ (by omega)
            obtain ⟨k1, k2, k3⟩ := f66 (a := IntKind.wrap IntKind.i64 (Int.tdiv (gi ns (i % ns.length)) 7)) (n := (l.length : Int) + 1) (by omega) (by omega)
            obtain ⟨q, q1, q2, q3⟩ := ihk (i + 1) (layIn l (v66 (IntKind.wrap IntKind.i64 (Int.tdiv (gi ns (i % ns.length)) 7)) ((l.length : Int) + 1)) i) (by omega) (by omega) (by omega) (hl.lay i0 cv k2 (by omega))
            refine ⟨q, q1, q2, h19_12 _ _ _ _ _ _ _ _ _ _ _ _ _ ?_⟩
            unfold t19_12
            simp (disch := omega) only [wrap_in]
            rw [et]
            repeat (first | (refine good_pos (by omega) ?_) | (refine good_pos trivial ?_) | (refine good_neg (by omega) ?_) | (refine good_npos (by omega) ?_) | (refine good_nneg (by omega) ?_) | (refine good_gi (by omega) (by omega) ?_) | (refine good_gb (by omega) (by omega) ?_) | (refine good_ble (by omega) ?_))
            refine good_true k1 ?_
            generalize v66 (IntKind.wrap IntKind.i64 (Int.tdiv (gi ns (i % ns.length)) 7)) ((l.length : Int) + 1) = k at k2 k3 q3 ⊢
            simp only [List.length_append, row_take l (show k ≤ (l.length : Int) by omega), List.length_singleton, List.length_take, List.length_drop]
            repeat (first | (refine good_pos (by omega) ?_) | (refine good_pos trivial ?_) | (refine good_neg (by omega) ?_) | (refine good_npos (by omega) ?_) | (refine good_nneg (by omega) ?_) | (refine good_gi (by omega) (by omega) ?_) | (refine good_gb (by omega) (by omega) ?_) | (refine good_ble (by omega) ?_))
            exact good_at q3
          · obtain ⟨q, q1, q2, q3⟩ := ihk (i + 1) (layIn l 0 i) (by omega) (by omega) (by omega) (hl.lay i0 cv (by omega) (by omega))
            refine ⟨q, q1, q2, h19_12 _ _ _ _ _ _ _ _ _ _ _ _ _ ?_⟩
            unfold t19_12
            simp (disch := omega) only [wrap_in]
            simp only [List.length_append, row_take l (show (0 : Int) ≤ (l.length : Int) by omega), List.length_singleton, List.length_take, List.length_drop]
            repeat (first | (refine good_pos (by omega) ?_) | (refine good_pos trivial ?_) | (refine good_neg (by omega) ?_) | (refine good_npos (by omega) ?_) | (refine good_nneg (by omega) ?_) | (refine good_gi (by omega) (by omega) ?_) | (refine good_gb (by omega) (by omega) ?_) | (refine good_ble (by omega) ?_))
            exact good_at q3
        · obtain ⟨q, q1, q2, q3⟩ := ihk (i + 1) l (by omega) (by omega) (by omega) (hl.skip cv)
          refine ⟨q, q1, q2, h19_12 _ _ _ _ _ _ _ _ _ _ _ _ _ ?_⟩
          unfold t19_12
          simp (disch := omega) only [wrap_in]
          repeat (first | (refine good_pos (by omega) ?_) | (refine good_pos trivial ?_) | (refine good_neg (by omega) ?_) | (refine good_npos (by omega) ?_) | (refine good_nneg (by omega) ?_) | (refine good_gi (by omega) (by omega) ?_) | (refine good_gb (by omega) (by omega) ?_) | (refine good_ble (by omega) ?_))
          exact good_at q3
    obtain ⟨q, q1, q2, q3⟩ := row m.T.length 0 [] (by omega) (by omega) (by omega) ⟨fun j j0 j1 => by simp at j1; omega, fun i j _ _ j1 => by simp at j1; omega, fun d d0 d1 => by omega, by simp⟩
    refine ⟨q, q1, q2, h19_8 _ _ _ _ _ _ _ _ _ _ _ ?_⟩
    unfold t19_8
    repeat (first | (refine good_pos (by omega) ?_) | (refine good_pos trivial ?_) | (refine good_neg (by omega) ?_) | (refine good_npos (by omega) ?_) | (refine good_nneg (by omega) ?_) | (refine good_gi (by omega) (by omega) ?_) | (refine good_gb (by omega) (by omega) ?_) | (refine good_ble (by omega) ?_))
    exact good_at q3
theorem l19_3 : ∀ (n : Nat) (i : Int) (m : NetV), 0 ≤ i → i ≤ 40 → 40 - i ≤ n → (m.T.length : Int) = i → Made m →
    ∃ q, Made q ∧ q.N = m.N ∧ Lead E19 kr19 (.agg [.int .i64 q.N, .sl .int q.T, .sl .int q.X, .sl .int q.C]) (a19_3 ns i n' a b c m.N m.T m.X m.C) := by
  intro n
  induction n with
  | zero =>
    intro i m h0 h1 h2 h3 hm
    obtain ⟨q, q1, q2, q3⟩ := l19_8 (ns := ns) (n' := n') (a := a) (b := b) (c := c) m.N.toNat 0 m (by omega) hm.n0 (by have := hm.n0; omega) hm
    refine ⟨q, q1, q2, h19_3 _ _ _ _ _ _ _ _ _ _ _ ?_⟩
    unfold t19_3
    simp (disch := omega) only [wrap_in]
    by_cases c1 : i + 1 < (ns.length : Int)
    · repeat (first | (refine good_pos (by omega) ?_) | (refine good_pos trivial ?_) | (refine good_neg (by omega) ?_) | (refine good_npos (by omega) ?_) | (refine good_nneg (by omega) ?_) | (refine good_gi (by omega) (by omega) ?_) | (refine good_gb (by omega) (by omega) ?_) | (refine good_ble (by omega) ?_))
      exact good_at q3
    · repeat (first | (refine good_pos (by omega) ?_) | (refine good_pos trivial ?_) | (refine good_neg (by omega) ?_) | (refine good_npos (by omega) ?_) | (refine good_nneg (by omega) ?_) | (refine good_gi (by omega) (by omega) ?_) | (refine good_gb (by omega) (by omega) ?_) | (refine good_ble (by omega) ?_))
      exact good_at q3
  | succ n ih =>
    intro i m h0 h1 h2 h3 hm
    obtain ⟨q, q1, q2, q3⟩ := l19_8 (ns := ns) (n' := n') (a := a) (b := b) (c := c) m.N.toNat 0 m (by omega) hm.n0 (by have := hm.n0; omega) hm
    by_cases c1 : i + 1 < (ns.length : Int)
    · by_cases c2 : i < 40
      · by_cases c3 : 0 < m.N
        · have hn1 := hm.n1
          have hl := hm.p.len
          have hcl := hm.c
          have he := hm.e
          obtain ⟨a1, a2, a3⟩ := f66 (a := gi ns i) (n := 1099511627776) (by decide) (by decide)
          obtain ⟨b1, b2, b3⟩ := f64 (gi ns (i + 1))
          obtain ⟨c1', c2', c3'⟩ := f64 (IntKind.wrap IntKind.i64 (Int.tdiv (gi ns (i + 1)) 11))
          have e1 : Int.tmod (v66 (gi ns i) 1099511627776) m.N = v66 (gi ns i) 1099511627776 % m.N := Int.tmod_eq_emod_of_nonneg a2
          have e2 : Int.tdiv (v66 (gi ns i) 1099511627776) 9 = v66 (gi ns i) 1099511627776 / 9 := Int.tdiv_eq_ediv_of_nonneg a2
          have e3 : Int.tmod (v66 (gi ns i) 1099511627776 / 9) m.N = v66 (gi ns i) 1099511627776 / 9 % m.N := Int.tmod_eq_emod_of_nonneg (by omega)
          have r0 : 0 ≤ v66 (gi ns i) 1099511627776 % m.N ∧ v66 (gi ns i) 1099511627776 % m.N < m.N := ⟨Int.emod_nonneg _ (by omega), Int.emod_lt_of_pos _ c3⟩
          have r1 : 0 ≤ v66 (gi ns i) 1099511627776 / 9 % m.N ∧ v66 (gi ns i) 1099511627776 / 9 % m.N < m.N := ⟨Int.emod_nonneg _ (by omega), Int.emod_lt_of_pos _ c3⟩
          obtain ⟨g1, g2⟩ := f67 (N := m.N) (T := m.T) (X := m.X) (C := m.C) (c := v64 (gi ns (i + 1))) (d := v64 (IntKind.wrap IntKind.i64 (Int.tdiv (gi ns (i + 1)) 11))) (by omega) hl hcl r0 r1 b3 c3'
          have hm' : Made (v67 m.N m.T m.X m.C [v66 (gi ns i) 1099511627776 % m.N, v66 (gi ns i) 1099511627776 / 9 % m.N, v64 (gi ns (i + 1)), v64 (IntKind.wrap IntKind.i64 (Int.tdiv (gi ns (i + 1)) 11))]).1 := by
            rw [g2]
            have ap : ∀ (l : List Int) (x y : Int) (d : Int), 0 ≤ d → d < (l.length : Int) + 2 → (d < l.length ∧ gi (l ++ [x, y]) d = gi l d) ∨ gi (l ++ [x, y]) d = x ∨ gi (l ++ [x, y]) d = y := by
              intro l x y d d0 d1
              by_cases cd : d < l.length
              · exact .inl ⟨cd, gi_append_left cd d0⟩
              · rw [gi_append_right (by omega)]
                have : d - l.length = 0 ∨ d - l.length = 1 := by omega
                rcases this with e | e <;> rw [e]
                · exact .inr (.inl rfl)
                · exact .inr (.inr rfl)
            refine ⟨hm.n0, hm.n1, by simp; omega, by simp; omega, by simp; omega, fun d d0 d1 => ?_, fun d d0 d1 => ?_, hm.p.add he, fun h => by simp only at h; omega⟩
            · rcases ap m.T _ _ d d0 (by simpa using d1) with ⟨x, y⟩ | y | y
              · rw [y]; exact hm.tr d d0 x
              · rw [y]; exact r0
              · rw [y]; exact r1
            · have d1' : d < (m.T.length : Int) + 2 := by simpa using d1
              rcases ap m.C _ _ d d0 (by omega) with ⟨x, y⟩ | y | y
              · have := hm.cr d d0 (by omega)
                constructor <;> (simp only; rw [y]; omega)
              · constructor <;> (simp only; rw [y]; omega)
              · constructor <;> (simp only; rw [y]; omega)
          obtain ⟨q', q1', q2', q3'⟩ := ih (i + 2) _ (by omega) (by omega) (by omega) (by rw [g2]; simp; omega) hm'
          refine ⟨q', q1', by rw [q2', g2], h19_3 _ _ _ _ _ _ _ _ _ _ _ ?_⟩
          unfold t19_3
          simp (disch := omega) only [wrap_in]
          repeat (first | (refine good_pos (by omega) ?_) | (refine good_pos trivial ?_) | (refine good_neg (by omega) ?_) | (refine good_npos (by omega) ?_) | (refine good_nneg (by omega) ?_) | (refine good_gi (by omega) (by omega) ?_) | (refine good_gb (by omega) (by omega) ?_) | (refine good_ble (by omega) ?_))
          refine good_true a1 ?_
          repeat (first | (refine good_pos (by omega) ?_) | (refine good_pos trivial ?_) | (refine good_neg (by omega) ?_) | (refine good_npos (by omega) ?_) | (refine good_nneg (by omega) ?_) | (refine good_gi (by omega) (by omega) ?_) | (refine good_gb (by omega) (by omega) ?_) | (refine good_ble (by omega) ?_))
          refine good_true b1 ?_
          repeat (first | (refine good_pos (by omega) ?_) | (refine good_pos trivial ?_) | (refine good_neg (by omega) ?_) | (refine good_npos (by omega) ?_) | (refine good_nneg (by omega) ?_) | (refine good_gi (by omega) (by omega) ?_) | (refine good_gb (by omega) (by omega) ?_) | (refine good_ble (by omega) ?_))
          simp only [e1, e2]
          simp (disch := omega) only [wrap_in]
          simp only [e3]
          refine good_true c1' (good_true g1 ?_)
          exact good_at q3'
        · refine ⟨q, q1, q2, h19_3 _ _ _ _ _ _ _ _ _ _ _ ?_⟩
          unfold t19_3
          simp (disch := omega) only [wrap_in]
          repeat (first | (refine good_pos (by omega) ?_) | (refine good_pos trivial ?_) | (refine good_neg (by omega) ?_) | (refine good_npos (by omega) ?_) | (refine good_nneg (by omega) ?_) | (refine good_gi (by omega) (by omega) ?_) | (refine good_gb (by omega) (by omega) ?_) | (refine good_ble (by omega) ?_))
          exact good_at q3
      · refine ⟨q, q1, q2, h19_3 _ _ _ _ _ _ _ _ _ _ _ ?_⟩
        unfold t19_3
        simp (disch := omega) only [wrap_in]
        repeat (first | (refine good_pos (by omega) ?_) | (refine good_pos trivial ?_) | (refine good_neg (by omega) ?_) | (refine good_npos (by omega) ?_) | (refine good_nneg (by omega) ?_) | (refine good_gi (by omega) (by omega) ?_) | (refine good_gb (by omega) (by omega) ?_) | (refine good_ble (by omega) ?_))
        exact good_at q3
    · refine ⟨q, q1, q2, h19_3 _ _ _ _ _ _ _ _ _ _ _ ?_⟩
      unfold t19_3
      simp (disch := omega) only [wrap_in]
      repeat (first | (refine good_pos (by omega) ?_) | (refine good_pos trivial ?_) | (refine good_neg (by omega) ?_) | (refine good_npos (by omega) ?_) | (refine good_nneg (by omega) ?_) | (refine good_gi (by omega) (by omega) ?_) | (refine good_gb (by omega) (by omega) ?_) | (refine good_ble (by omega) ?_))
      exact good_at q3
theorem f19 (size : Int) (ns : List Int) : ok19 size ns = true ∧ Made (v19 size ns) ∧ (v19 size ns).N = v66 size 9 := by
  obtain ⟨a1, a2, a3⟩ := f66 (a := size) (n := 9) (by decide) (by decide)
  obtain ⟨q, q1, q2, q3⟩ := l19_3 (ns := ns) (n' := 0) (a := []) (b := []) (c := []) 40 0 ⟨v66 size 9, [], [], []⟩ (by omega) (by omega) (by omega) rfl
    ⟨a2, by simp only; omega, by simp, by simp, rfl, fun d d0 d1 => by simp at d1; omega, fun d d0 d1 => by simp at d1; omega, ⟨rfl, fun d d0 d1 => by simp at d1; omega, fun d d0 d1 => by simp at d1; omega, fun d e d0 d1 => by simp at d1; omega⟩, fun _ => rfl⟩
  have := sp19 size ns q (run19 _ _ _ (by
    unfold t19
    exact good_true a1 (good_at q3)))
  exact ⟨this.1, by rw [this.2]; exact q1, by rw [this.2]; exact q2⟩
end
end Go.Proofs.Ytnfgfdeidkhdkaa.Eng
