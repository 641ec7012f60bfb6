/- Edge, Round, Make: the nets that are made of numbers. -/
import Derived.Test.YtnfgfdeidkhdkaaLd
import Derived.Test.YtnfgfdeidkhdkaaP19
namespace Go.Proofs.Ytnfgfdeidkhdkaa.Eng
set_option linter.unusedVariables false
set_option linter.unusedSimpArgs false
theorem gi_cons0 (a : Int) (l : List Int) : gi (a :: l) 0 = a := rfl
theorem good_lit {E : Nat → Env} {kr : St → Option CV} {r : CV} {x a : Int} {l : List Int} {f : Int → Option Leaf} (h : l[x.toNat]? = some a) (h' : Good E kr (f a) r) : Good E kr (ob (l[x.toNat]?) f) r := by rw [h]; exact h'
theorem f67 {N : Int} {T X C : List Int} {a b c d : Int} (hk : (T.length : Int) < 240) (hx : (X.length : Int) = T.length) (hc : (C.length : Int) = T.length) (ha : 0 ≤ a ∧ a < N) (hb : 0 ≤ b ∧ b < N) (h1 : c ≤ 2147483648) (h2 : d ≤ 2147483648) :
    ok67 N T X C [a, b, c, d] = true ∧ v67 N T X C [a, b, c, d] = (⟨N, T ++ [a, b], X ++ [(T.length : Int), (T.length : Int) + 1], C ++ [c, d]⟩, 0) :=
  sp67 _ _ _ _ _ _ (run67 _ _ _ _ _ _ (by
    unfold t67
    simp (disch := omega) only [wrap_in]
    have hx' : X.length = T.length := by omega
    have hc' : C.length = T.length := by omega
    refine good_neg (by omega) ?_
    refine good_lit rfl (good_neg (by omega) ?_)
    refine good_lit rfl (good_neg (by omega) ?_)
    refine good_lit rfl (good_neg (by omega) ?_)
    refine good_lit rfl (good_neg (by omega) ?_)
    refine good_lit rfl (good_neg (by omega) ?_)
    refine good_lit rfl (good_neg (by omega) ?_)
    refine good_ble (by omega) ?_
    refine good_lit rfl (good_lit rfl ?_)
    refine good_ble (by simp; omega) ?_
    refine good_ble (by omega) ?_
    refine good_ble (by simp; omega) ?_
    refine good_ble (by omega) ?_
    refine good_lit rfl (good_lit rfl ?_)
    refine good_ble (by simp; omega) ?_
    exact good_end rfl))
/-- a row without a number twice, of just the darts of a vertex -/
structure Row (T : List Int) (v : Int) (l : List Int) : Prop where
  mem : ∀ j : Int, 0 ≤ j → j < (l.length : Int) → 0 ≤ gi l j ∧ gi l j < (T.length : Int) ∧ gi T (gi l j) = v
  one : ∀ i j : Int, 0 ≤ i → i < j → j < (l.length : Int) → gi l i ≠ gi l j
  all : ∀ d : Int, 0 ≤ d → d < (T.length : Int) → gi T d = v → ∃ j : Int, 0 ≤ j ∧ j < (l.length : Int) ∧ gi l j = d
  len : l.length ≤ 240
theorem mem_take {l : List Int} {i d : Int} (h0 : 0 ≤ i) (h1 : i ≤ (l.length : Int)) : d ∈ l.take i.toNat ↔ ∃ j : Int, 0 ≤ j ∧ j < i ∧ gi l j = d := by
  constructor
  · intro h
    obtain ⟨x, x0, x1, x2⟩ := gi_of_mem h
    rw [List.length_take] at x1
    refine ⟨x, x0, by omega, ?_⟩
    rw [← x2]
    simp only [gi, List.getD_eq_getElem?_getD]
    rw [List.getElem?_take_of_lt (by omega)]
  · rintro ⟨j, j0, j1, rfl⟩
    have hj : j.toNat < (l.take i.toNat).length := by rw [List.length_take]; omega
    have : (l.take i.toNat)[j.toNat] = gi l j := by
      rw [List.getElem_take, ← gi_get (by omega)]
      congr 1; omega
    rw [← this]
    exact List.getElem_mem hj
theorem mem_gi {l : List Int} {d : Int} : d ∈ l ↔ ∃ j : Int, 0 ≤ j ∧ j < (l.length : Int) ∧ gi l j = d :=
  ⟨fun h => gi_of_mem h, fun ⟨j, h0, h1, h2⟩ => h2 ▸ gi_mem h0 h1⟩
section
variable {N : Int} {T X C l : List Int} {v n' : Int} {a b c : List Int}
/-- the row of next darts, where l is a vertex's round -/
structure Turned (X l Y : List Int) : Prop where
  len : Y.length = X.length
  on : ∀ j : Int, 0 ≤ j → j < (l.length : Int) → gi Y (gi l j) = gi l ((j + 1) % l.length)
  off : ∀ d : Int, 0 ≤ d → d < (X.length : Int) → (∀ j : Int, 0 ≤ j → j < (l.length : Int) → gi l j ≠ d) → gi Y d = gi X d
theorem l68_18 (hr : Row T v l) (hx : (X.length : Int) = T.length) : ∀ (m : Nat) (i : Int) (Y : List Int), 0 ≤ i → i ≤ l.length → (l.length : Int) - i = m →
    Y.length = X.length → (∀ j : Int, 0 ≤ j → j < i → gi Y (gi l j) = gi l ((j + 1) % l.length)) → (∀ d : Int, 0 ≤ d → d < (X.length : Int) → (∀ j : Int, 0 ≤ j → j < i → gi l j ≠ d) → gi Y d = gi X d) →
    ∃ Z, Turned X l Z ∧ Lead E68 kr68 (.tup [.agg [.int .i64 N, .sl .int T, .sl .int Z, .sl .int C], .int .i64 0]) (a68_18 l i N T C Y n' a b c) := by
  have hl := hr.len
  intro m
  induction m with
  | zero =>
    intro i Y h0 h1 h2 hy ha hb
    refine ⟨Y, ⟨hy, fun j j0 j1 => ha j j0 (by omega), fun d d0 d1 h => hb d d0 d1 fun j j0 j1 => h j j0 (by omega)⟩, h68_18 _ _ _ _ _ _ _ _ _ _ _ ?_⟩
    unfold t68_18
    repeat (first | (refine good_pos (by omega) ?_) | (refine good_pos trivial ?_) | (refine good_neg (by omega) ?_) | (refine good_npos (by omega) ?_) | (refine good_nneg (by omega) ?_) | (refine good_gi (by omega) (by omega) ?_) | (refine good_gb (by omega) (by omega) ?_) | (refine good_ble (by omega) ?_))
    exact good_end rfl
  | succ m ih =>
    intro i Y h0 h1 h2 hy ha hb
    have hi := hr.mem i h0 (by omega)
    have et : Int.tmod (i + 1) (l.length : Int) = (i + 1) % l.length := Int.tmod_eq_emod_of_nonneg (by omega)
    have e0 : 0 ≤ (i + 1) % (l.length : Int) := Int.emod_nonneg _ (by omega)
    have e1 : (i + 1) % (l.length : Int) < l.length := Int.emod_lt_of_pos _ (by omega)
    have hg : ∀ j : Int, 0 ≤ j → j < i → gi l j ≠ gi l i := fun j j0 j1 => hr.one j i j0 j1 (by omega)
    obtain ⟨Z, hz, h⟩ := ih (i + 1) (Y.set (gi l i).toNat (gi l ((i + 1) % l.length))) (by omega) (by omega) (by omega) (by rw [List.length_set]; exact hy) (fun j j0 j1 => by
      have hj := hr.mem j j0 (by omega)
      rw [gi_set hi.1 (by omega) hj.1]
      by_cases e : j = i
      · subst e; rw [if_pos rfl]
      · rw [if_neg (hg j j0 (by omega))]; exact ha j j0 (by omega)) (fun d d0 d1 hd => by
      rw [gi_set hi.1 (by omega) d0, if_neg (fun e => hd i h0 (by omega) e.symm)]
      exact hb d d0 d1 fun j j0 j1 => hd j j0 (by omega))
    refine ⟨Z, hz, h68_18 _ _ _ _ _ _ _ _ _ _ _ ?_⟩
    unfold t68_18
    simp (disch := omega) only [wrap_in]
    rw [et]
    repeat (first | (refine good_pos (by omega) ?_) | (refine good_pos trivial ?_) | (refine good_neg (by omega) ?_) | (refine good_npos (by omega) ?_) | (refine good_nneg (by omega) ?_) | (refine good_gi (by omega) (by omega) ?_) | (refine good_gb (by omega) (by omega) ?_) | (refine good_ble (by omega) ?_))
    exact good_at h
theorem l68_12 (hr : Row T v l) (hk : T.length ≤ 240) (hx : (X.length : Int) = T.length) : ∀ (m : Nat) (i : Int), 0 ≤ i → i ≤ T.length → (T.length : Int) - i = m →
    ∃ Z, Turned X l Z ∧ Lead E68 kr68 (.tup [.agg [.int .i64 N, .sl .int T, .sl .int Z, .sl .int C], .int .i64 0]) (a68_12 v l i N T X C n' a b c) := by
  have hl := hr.len
  intro m
  induction m with
  | zero =>
    intro i h0 h1 h2
    obtain ⟨Z, hz, h⟩ := l68_18 (N := N) (C := C) (n' := n') (a := a) (b := b) (c := c) hr hx l.length 0 X (by omega) (by omega) (by omega) rfl (fun _ _ _ => by omega) (fun _ _ _ _ => rfl)
    refine ⟨Z, hz, h68_12 _ _ _ _ _ _ _ _ _ _ _ _ ?_⟩
    unfold t68_12
    repeat (first | (refine good_pos (by omega) ?_) | (refine good_pos trivial ?_) | (refine good_neg (by omega) ?_) | (refine good_npos (by omega) ?_) | (refine good_nneg (by omega) ?_) | (refine good_gi (by omega) (by omega) ?_) | (refine good_gb (by omega) (by omega) ?_) | (refine good_ble (by omega) ?_))
    exact good_at h
  | succ m ih =>
    intro i h0 h1 h2
    obtain ⟨Z, hz, h⟩ := ih (i + 1) (by omega) (by omega) (by omega)
    refine ⟨Z, hz, h68_12 _ _ _ _ _ _ _ _ _ _ _ _ ?_⟩
    unfold t68_12
    simp (disch := omega) only [wrap_in]
    by_cases c : gi T i = v
    · obtain ⟨k1, k2⟩ := f104 (l := l) (by omega) i
      have hm : i ∈ l := mem_gi.2 (hr.all i h0 (by omega) c)
      repeat (first | (refine good_pos (by omega) ?_) | (refine good_pos trivial ?_) | (refine good_neg (by omega) ?_) | (refine good_npos (by omega) ?_) | (refine good_nneg (by omega) ?_) | (refine good_gi (by omega) (by omega) ?_) | (refine good_gb (by omega) (by omega) ?_) | (refine good_ble (by omega) ?_))
      refine good_true k1 (good_nfalse (by rw [k2]; simpa using hm) ?_)
      exact good_at h
    · repeat (first | (refine good_pos (by omega) ?_) | (refine good_pos trivial ?_) | (refine good_neg (by omega) ?_) | (refine good_npos (by omega) ?_) | (refine good_nneg (by omega) ?_) | (refine good_gi (by omega) (by omega) ?_) | (refine good_gb (by omega) (by omega) ?_) | (refine good_ble (by omega) ?_))
      exact good_at h
theorem l68_7 (hr : Row T v l) (hk : T.length ≤ 240) (hx : (X.length : Int) = T.length) : ∀ (m : Nat) (i : Int), 0 ≤ i → i ≤ l.length → (l.length : Int) - i = m →
    ∃ Z, Turned X l Z ∧ Lead E68 kr68 (.tup [.agg [.int .i64 N, .sl .int T, .sl .int Z, .sl .int C], .int .i64 0]) (a68_7 v l i N T X C n' a b c) := by
  have hl := hr.len
  intro m
  induction m with
  | zero =>
    intro i h0 h1 h2
    obtain ⟨Z, hz, h⟩ := l68_12 (N := N) (C := C) (n' := n') (a := a) (b := b) (c := c) hr hk hx T.length 0 (by omega) (by omega) (by omega)
    refine ⟨Z, hz, h68_7 _ _ _ _ _ _ _ _ _ _ _ _ ?_⟩
    unfold t68_7
    repeat (first | (refine good_pos (by omega) ?_) | (refine good_pos trivial ?_) | (refine good_neg (by omega) ?_) | (refine good_npos (by omega) ?_) | (refine good_nneg (by omega) ?_) | (refine good_gi (by omega) (by omega) ?_) | (refine good_gb (by omega) (by omega) ?_) | (refine good_ble (by omega) ?_))
    exact good_at h
  | succ m ih =>
    intro i h0 h1 h2
    obtain ⟨Z, hz, h⟩ := ih (i + 1) (by omega) (by omega) (by omega)
    refine ⟨Z, hz, h68_7 _ _ _ _ _ _ _ _ _ _ _ _ ?_⟩
    unfold t68_7
    have e : List.take (i.toNat - Int.toNat 0) (List.drop (Int.toNat 0) l) = l.take i.toNat := rfl
    simp only [e]
    simp (disch := omega) only [wrap_in]
    obtain ⟨k1, k2⟩ := f104 (l := l.take i.toNat) (by simp; omega) (gi l i)
    have hm : ¬ gi l i ∈ l.take i.toNat := fun hm => by
      obtain ⟨j, j0, j1, j2⟩ := (mem_take h0 h1).1 hm
      exact hr.one j i j0 j1 (by omega) j2
    repeat (first | (refine good_pos (by omega) ?_) | (refine good_pos trivial ?_) | (refine good_neg (by omega) ?_) | (refine good_npos (by omega) ?_) | (refine good_nneg (by omega) ?_) | (refine good_gi (by omega) (by omega) ?_) | (refine good_gb (by omega) (by omega) ?_) | (refine good_ble (by omega) ?_))
    refine good_true k1 (good_false (by rw [k2]; simpa using hm) ?_)
    exact good_at h
theorem l68_2 (hr : Row T v l) (hk : T.length ≤ 240) (hx : (X.length : Int) = T.length) : ∀ (m : Nat) (i : Int), 0 ≤ i → i ≤ l.length → (l.length : Int) - i = m →
    ∃ Z, Turned X l Z ∧ Lead E68 kr68 (.tup [.agg [.int .i64 N, .sl .int T, .sl .int Z, .sl .int C], .int .i64 0]) (a68_2 v l i N T X C n' a b c) := by
  have hl := hr.len
  intro m
  induction m with
  | zero =>
    intro i h0 h1 h2
    obtain ⟨Z, hz, h⟩ := l68_7 (N := N) (C := C) (n' := n') (a := a) (b := b) (c := c) hr hk hx l.length 0 (by omega) (by omega) (by omega)
    refine ⟨Z, hz, h68_2 _ _ _ _ _ _ _ _ _ _ _ _ ?_⟩
    unfold t68_2
    repeat (first | (refine good_pos (by omega) ?_) | (refine good_pos trivial ?_) | (refine good_neg (by omega) ?_) | (refine good_npos (by omega) ?_) | (refine good_nneg (by omega) ?_) | (refine good_gi (by omega) (by omega) ?_) | (refine good_gb (by omega) (by omega) ?_) | (refine good_ble (by omega) ?_))
    exact good_at h
  | succ m ih =>
    intro i h0 h1 h2
    obtain ⟨Z, hz, h⟩ := ih (i + 1) (by omega) (by omega) (by omega)
    obtain ⟨m0, m1, m2⟩ := hr.mem i h0 (by omega)
    refine ⟨Z, hz, h68_2 _ _ _ _ _ _ _ _ _ _ _ _ ?_⟩
    unfold t68_2
    simp (disch := omega) only [wrap_in]
    repeat (first | (refine good_pos (by omega) ?_) | (refine good_pos trivial ?_) | (refine good_neg (by omega) ?_) | (refine good_npos (by omega) ?_) | (refine good_nneg (by omega) ?_) | (refine good_gi (by omega) (by omega) ?_) | (refine good_gb (by omega) (by omega) ?_) | (refine good_ble (by omega) ?_))
    exact good_at h
theorem f68 (hr : Row T v l) (hk : T.length ≤ 240) (hx : (X.length : Int) = T.length) : ok68 N T X C v l = true ∧ ∃ Z, Turned X l Z ∧ v68 N T X C v l = (⟨N, T, Z, C⟩, 0) := by
  obtain ⟨Z, hz, h⟩ := l68_2 (N := N) (C := C) (n' := 0) (a := []) (b := []) (c := []) hr hk hx l.length 0 (by omega) (by omega) (by omega)
  have := sp68 N T X C v l (⟨N, T, Z, C⟩, 0) (run68 _ _ _ _ _ _ _ (by
    unfold t68
    exact good_at h))
  exact ⟨this.1, Z, hz, this.2⟩
end
/-- each next dart begins where the dart does; none is next of two -/
structure Perm (T X : List Int) : Prop where
  len : (X.length : Int) = T.length
  rng : InR X T.length
  tail : ∀ d : Int, 0 ≤ d → d < (T.length : Int) → gi T (gi X d) = gi T d
  inj : ∀ d e : Int, 0 ≤ d → d < (T.length : Int) → 0 ≤ e → e < (T.length : Int) → gi X d = gi X e → d = e
theorem Perm.turned {T X l Z : List Int} {v : Int} (h : Perm T X) (hr : Row T v l) (hz : Turned X l Z) : Perm T Z := by
  have hl := h.len
  have hzl := hz.len
  have nx : ∀ j : Int, 0 ≤ j → j < (l.length : Int) → 0 ≤ (j + 1) % (l.length : Int) ∧ (j + 1) % (l.length : Int) < l.length := fun j j0 j1 => ⟨Int.emod_nonneg _ (by omega), Int.emod_lt_of_pos _ (by omega)⟩
  have cs : ∀ d : Int, 0 ≤ d → d < (T.length : Int) → (∃ j : Int, 0 ≤ j ∧ j < (l.length : Int) ∧ gi l j = d ∧ gi Z d = gi l ((j + 1) % l.length) ∧ gi T d = v) ∨ (gi Z d = gi X d ∧ gi T d ≠ v) := by
    intro d d0 d1
    by_cases c : gi T d = v
    · obtain ⟨j, j0, j1, j2⟩ := hr.all d d0 d1 c
      exact .inl ⟨j, j0, j1, j2, by rw [← j2]; exact hz.on j j0 j1, c⟩
    · refine .inr ⟨hz.off d d0 (by omega) fun j j0 j1 e => ?_, c⟩
      have := (hr.mem j j0 j1).2.2
      rw [e] at this
      exact c this
  refine ⟨by omega, fun d d0 d1 => ?_, fun d d0 d1 => ?_, fun d e d0 d1 e0 e1 h' => ?_⟩
  · rcases cs d d0 (by omega) with ⟨j, j0, j1, j2, j3, j4⟩ | ⟨a, b⟩
    · obtain ⟨m0, m1⟩ := nx j j0 j1
      have := hr.mem _ m0 m1
      rw [j3]; omega
    · rw [a]; exact h.rng d d0 (by omega)
  · rcases cs d d0 d1 with ⟨j, j0, j1, j2, j3, j4⟩ | ⟨a, b⟩
    · obtain ⟨m0, m1⟩ := nx j j0 j1
      rw [j3, (hr.mem _ m0 m1).2.2, j4]
    · rw [a]; exact h.tail d d0 d1
  · rcases cs d d0 d1 with ⟨j, j0, j1, j2, j3, j4⟩ | ⟨a, b⟩
    · rcases cs e e0 e1 with ⟨k, k0, k1, k2, k3, k4⟩ | ⟨a', b'⟩
      · rw [j3, k3] at h'
        obtain ⟨m0, m1⟩ := nx j j0 j1
        obtain ⟨n0, n1⟩ := nx k k0 k1
        have e1 : (j + 1) % (l.length : Int) = (k + 1) % (l.length : Int) := by
          by_cases c : (j + 1) % (l.length : Int) < (k + 1) % (l.length : Int)
          · exact absurd h' (hr.one _ _ m0 c n1)
          by_cases c : (k + 1) % (l.length : Int) < (j + 1) % (l.length : Int)
          · exact absurd h'.symm (hr.one _ _ n0 c m1)
          omega
        have e2 : j = k := by
          by_cases c1 : j + 1 = l.length
          · rw [c1, Int.emod_self] at e1
            by_cases c2 : k + 1 = l.length
            · omega
            · rw [Int.emod_eq_of_lt (by omega) (by omega)] at e1; omega
          · rw [Int.emod_eq_of_lt (by omega) (by omega)] at e1
            by_cases c2 : k + 1 = l.length
            · rw [c2, Int.emod_self] at e1; omega
            · rw [Int.emod_eq_of_lt (a := k + 1) (by omega) (by omega)] at e1; omega
        rw [← j2, ← k2, e2]
      · exfalso
        rw [j3, a'] at h'
        obtain ⟨m0, m1⟩ := nx j j0 j1
        have a1 := (hr.mem _ m0 m1).2.2
        rw [h', h.tail e e0 e1] at a1
        exact b' a1
    · rcases cs e e0 e1 with ⟨k, k0, k1, k2, k3, k4⟩ | ⟨a', b'⟩
      · exfalso
        rw [k3, a] at h'
        obtain ⟨m0, m1⟩ := nx k k0 k1
        have a1 := (hr.mem _ m0 m1).2.2
        rw [← h', h.tail d d0 d1] at a1
        exact b a1
      · rw [a, a'] at h'
        exact h.inj d e d0 d1 e0 e1 h'
/-- what is made -/
structure Made (m : NetV) : Prop where
  n0 : 0 ≤ m.N
  n1 : m.N ≤ 8
  k : (m.T.length : Int) ≤ 40
  e : (m.T.length : Int) % 2 = 0
  c : (m.C.length : Int) = m.T.length
  tr : InR m.T m.N
  cr : ∀ d : Int, 0 ≤ d → d < (m.T.length : Int) → 0 ≤ gi m.C d ∧ gi m.C d ≤ 2147483648
  p : Perm m.T m.X
  z : m.N = 0 → (m.T.length : Int) = 0
theorem Perm.add {T X : List Int} {a b : Int} (h : Perm T X) (he : (T.length : Int) % 2 = 0) : Perm (T ++ [a, b]) (X ++ [(T.length : Int), (T.length : Int) + 1]) := by
  have hl := h.len
  have l1 : ((T ++ [a, b]).length : Int) = T.length + 2 := by simp
  have l2 : ((X ++ [(T.length : Int), (T.length : Int) + 1]).length : Int) = X.length + 2 := by simp
  have cs : ∀ d : Int, 0 ≤ d → d < (T.length : Int) + 2 → (d < T.length ∧ gi (X ++ [(T.length : Int), (T.length : Int) + 1]) d = gi X d ∧ 0 ≤ gi X d ∧ gi X d < T.length) ∨ (T.length ≤ d ∧ gi (X ++ [(T.length : Int), (T.length : Int) + 1]) d = d) := by
    intro d d0 d1
    by_cases c : d < T.length
    · exact .inl ⟨c, gi_append_left (by omega) d0, h.rng d d0 (by omega)⟩
    · refine .inr ⟨by omega, ?_⟩
      rw [gi_append_right (by omega)]
      have : d = T.length ∨ d = T.length + 1 := by omega
      rcases this with e | e
      · have e2 : d - X.length = 0 := by omega
        rw [e2, e]; rfl
      · have e2 : d - X.length = 1 := by omega
        rw [e2, e]; rfl
  refine ⟨by omega, fun d d0 d1 => ?_, fun d d0 d1 => ?_, fun d e d0 d1 e0 e1 h' => ?_⟩
  · rcases cs d d0 (by omega) with ⟨a, b, c⟩ | ⟨a, b⟩ <;> rw [b] <;> omega
  · rcases cs d d0 (by omega) with ⟨a, b, c⟩ | ⟨a, b⟩ <;> rw [b]
    rw [gi_append_left (by omega) c.1, gi_append_left (by omega) d0]
    exact h.tail d d0 a
  · rcases cs d d0 (by omega) with ⟨a, b, c⟩ | ⟨a, b⟩ <;> rcases cs e e0 (by omega) with ⟨a', b', c'⟩ | ⟨a', b'⟩ <;> rw [b, b'] at h'
    · exact h.inj d e d0 a e0 a' h'
    · omega
    · omega
    · exact h'
end Go.Proofs.Ytnfgfdeidkhdkaa.Eng
