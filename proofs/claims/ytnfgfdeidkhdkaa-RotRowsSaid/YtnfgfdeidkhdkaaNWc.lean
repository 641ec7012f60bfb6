/- Edge, Round, Make: the nets that are made of numbers · Make: whatever the numbers are, a net is made whose rows may be gone along · watershed/watershedlaw2.RotPlanes: its run from loop to loop, as Lean printed it (a program of this session's wrote these rows). No condition · watershed/watershedlaw2.RotChecks: its run from loop to loop, as Lean printed it (a program of this session's wrote these rows). No condition · watershed/rot.Turn: its run from loop to loop, as Lean printed it (a program of this session's wrote these rows). No condition · watershed/watershedlaw2.RotGrows: its run from loop to loop, as Lean printed it (a program of this session's wrote these rows). No condition · RotPlanes, RotChecks, RotGrows · watershed/watershedref1.Ints: its run from loop to loop, as Lean printed it (a program of this session's wrote these rows). No condition · watershed/watershedref1.Same: its run from loop to loop, as Lean printed it (a program of this session's wrote these rows). No condition · watershed/watershedref2.Turn: its run from loop to loop, as Lean printed it (a program of this session's wrote these rows). No condition · watershed/watershedlaw2.RotRows: its run from loop to loop, as Lean printed it (a program of this session's wrote these rows). No condition · RotRows: ends, darts about, faces, pieces of any net are the document's -/
import Derived.Test.YtnfgfdeidkhdkaaNWb
/- Lg: Edge, Round, Make: the nets that are made of numbers. -/
namespace Go.Proofs.Ytnfgfdeidkhdkaa.Eng
set_option linter.unusedVariables false
set_option linter.unusedSimpArgs false
theorem gi_cons0 (a : Int) (l : List Int) : gi (a :: l) 0 = a := rfl
theorem good_lit {E : Nat → Env} {kr : St → Option CV} {r : CV} {x a : Int} {l : List Int} {f : Int → Option Leaf} (h : l[x.toNat]? = some a) (h' : Good E kr (f a) r) : Good E kr (ob (l[x.toNat]?) f) r := by rw [h]; exact h'
theorem f67 {N : Int} {T X C : List Int} {a b c d : Int} (hk : (T.length : Int) < 240) (hx : (X.length : Int) = T.length) (hc : (C.length : Int) = T.length) (ha : 0 ≤ a ∧ a < N) (hb : 0 ≤ b ∧ b < N) (h1 : c ≤ 2147483648) (h2 : d ≤ 2147483648) :
    ok67 N T X C [a, b, c, d] = true ∧ v67 N T X C [a, b, c, d] = (⟨N, T ++ [a, b], X ++ [(T.length : Int), (T.length : Int) + 1], C ++ [c, d]⟩, 0) :=
  sp67 _ _ _ _ _ _ (run67 _ _ _ _ _ _ (by
    unfold t67
    simp (disch := omega) only [wrap_in]
    have hx' : X.length = T.length := by omega
    have hc' : C.length = T.length := by omega
    refine good_neg (by omega) ?_
    refine good_lit rfl (good_neg (by omega) ?_)
    refine good_lit rfl (good_neg (by omega) ?_)
    refine good_lit rfl (good_neg (by omega) ?_)
    refine good_lit rfl (good_neg (by omega) ?_)
    refine good_lit rfl (good_neg (by omega) ?_)
    refine good_lit rfl (good_neg (by omega) ?_)
    refine good_ble (by omega) ?_
    refine good_lit rfl (good_lit rfl ?_)
    refine good_ble (by simp; omega) ?_
    refine good_ble (by omega) ?_
    refine good_ble (by simp; omega) ?_
    refine good_ble (by omega) ?_
    refine good_lit rfl (good_lit rfl ?_)
    refine good_ble (by simp; omega) ?_
    exact good_end rfl))
/-- a row without a number twice, of just the darts of a vertex -/
structure Row (T : List Int) (v : Int) (l : List Int) : Prop where
  mem : ∀ j : Int, 0 ≤ j → j < (l.length : Int) → 0 ≤ gi l j ∧ gi l j < (T.length : Int) ∧ gi T (gi l j) = v
  one : ∀ i j : Int, 0 ≤ i → i < j → j < (l.length : Int) → gi l i ≠ gi l j
  all : ∀ d : Int, 0 ≤ d → d < (T.length : Int) → gi T d = v → ∃ j : Int, 0 ≤ j ∧ j < (l.length : Int) ∧ gi l j = d
  len : l.length ≤ 240
theorem mem_take {l : List Int} {i d : Int} (h0 : 0 ≤ i) (h1 : i ≤ (l.length : Int)) : d ∈ l.take i.toNat ↔ ∃ j : Int, 0 ≤ j ∧ j < i ∧ gi l j = d := by
  constructor
  · intro h
    obtain ⟨x, x0, x1, x2⟩ := gi_of_mem h
    rw [List.length_take] at x1
    refine ⟨x, x0, by omega, ?_⟩
    rw [← x2]
    simp only [gi, List.getD_eq_getElem?_getD]
    rw [List.getElem?_take_of_lt (by omega)]
  · rintro ⟨j, j0, j1, rfl⟩
    have hj : j.toNat < (l.take i.toNat).length := by rw [List.length_take]; omega
    have : (l.take i.toNat)[j.toNat] = gi l j := by
      rw [List.getElem_take, ← gi_get (by omega)]
      congr 1; omega
    rw [← this]
    exact List.getElem_mem hj
theorem mem_gi {l : List Int} {d : Int} : d ∈ l ↔ ∃ j : Int, 0 ≤ j ∧ j < (l.length : Int) ∧ gi l j = d :=
  ⟨fun h => gi_of_mem h, fun ⟨j, h0, h1, h2⟩ => h2 ▸ gi_mem h0 h1⟩
section
variable {N : Int} {T X C l : List Int} {v n' : Int} {a b c : List Int}
/-- the row of next darts, where l is a vertex's round -/
structure Turned (X l Y : List Int) : Prop where
  len : Y.length = X.length
  on : ∀ j : Int, 0 ≤ j → j < (l.length : Int) → gi Y (gi l j) = gi l ((j + 1) % l.length)
  off : ∀ d : Int, 0 ≤ d → d < (X.length : Int) → (∀ j : Int, 0 ≤ j → j < (l.length : Int) → gi l j ≠ d) → gi Y d = gi X d
theorem l68_18 (hr : Row T v l) (hx : (X.length : Int) = T.length) : ∀ (m : Nat) (i : Int) (Y : List Int), 0 ≤ i → i ≤ l.length → (l.length : Int) - i = m →
    Y.length = X.length → (∀ j : Int, 0 ≤ j → j < i → gi Y (gi l j) = gi l ((j + 1) % l.length)) → (∀ d : Int, 0 ≤ d → d < (X.length : Int) → (∀ j : Int, 0 ≤ j → j < i → gi l j ≠ d) → gi Y d = gi X d) →
    ∃ Z, Turned X l Z ∧ Lead E68 kr68 (.tup [.agg [.int .i64 N, .sl .int T, .sl .int Z, .sl .int C], .int .i64 0]) (a68_18 l i N T C Y n' a b c) := by
  have hl := hr.len
  intro m
  induction m with
  | zero =>
    intro i Y h0 h1 h2 hy ha hb
    refine ⟨Y, ⟨hy, fun j j0 j1 => ha j j0 (by omega), fun d d0 d1 h => hb d d0 d1 fun j j0 j1 => h j j0 (by omega)⟩, h68_18 _ _ _ _ _ _ _ _ _ _ _ ?_⟩
    unfold t68_18
    repeat (first | (refine good_pos (by omega) ?_) | (refine good_pos trivial ?_) | (refine good_neg (by omega) ?_) | (refine good_npos (by omega) ?_) | (refine good_nneg (by omega) ?_) | (refine good_gi (by omega) (by omega) ?_) | (refine good_gb (by omega) (by omega) ?_) | (refine good_ble (by omega) ?_))
    exact good_end rfl
  | succ m ih =>
    intro i Y h0 h1 h2 hy ha hb
    have hi := hr.mem i h0 (by omega)
    have et : Int.tmod (i + 1) (l.length : Int) = (i + 1) % l.length := Int.tmod_eq_emod_of_nonneg (by omega)
    have e0 : 0 ≤ (i + 1) % (l.length : Int) := Int.emod_nonneg _ (by omega)
    have e1 : (i + 1) % (l.length : Int) < l.length := Int.emod_lt_of_pos _ (by omega)
    have hg : ∀ j : Int, 0 ≤ j → j < i → gi l j ≠ gi l i := fun j j0 j1 => hr.one j i j0 j1 (by omega)
    obtain ⟨Z, hz, h⟩ := ih (i + 1) (Y.set (gi l i).toNat (gi l ((i + 1) % l.length))) (by omega) (by omega) (by omega) (by rw [List.length_set]; exact hy) (fun j j0 j1 => by
      have hj := hr.mem j j0 (by omega)
      rw [gi_set hi.1 (by omega) hj.1]
      by_cases e : j = i
      · subst e; rw [if_pos rfl]
      · rw [if_neg (hg j j0 (by omega))]; exact ha j j0 (by omega)) (fun d d0 d1 hd => by
      rw [gi_set hi.1 (by omega) d0, if_neg (fun e => hd i h0 (by omega) e.symm)]
      exact hb d d0 d1 fun j j0 j1 => hd j j0 (by omega))
    refine ⟨Z, hz, h68_18 _ _ _ _ _ _ _ _ _ _ _ ?_⟩
    unfold t68_18
    simp (disch := omega) only [wrap_in]
    rw [et]
    repeat (first | (refine good_pos (by omega) ?_) | (refine good_pos trivial ?_) | (refine good_neg (by omega) ?_) | (refine good_npos (by omega) ?_) | (refine good_nneg (by omega) ?_) | (refine good_gi (by omega) (by omega) ?_) | (refine good_gb (by omega) (by omega) ?_) | (refine good_ble (by omega) ?_))
    exact good_at h
theorem l68_12 (hr : Row T v l) (hk : T.length ≤ 240) (hx : (X.length : Int) = T.length) : ∀ (m : Nat) (i : Int), 0 ≤ i → i ≤ T.length → (T.length : Int) - i = m →
    ∃ Z, Turned X l Z ∧ Lead E68 kr68 (.tup [.agg [.int .i64 N, .sl .int T, .sl .int Z, .sl .int C], .int .i64 0]) (a68_12 v l i N T X C n' a b c) := by
  have hl := hr.len
  intro m
  induction m with
  | zero =>
    intro i h0 h1 h2
    obtain ⟨Z, hz, h⟩ := l68_18 (N := N) (C := C) (n' := n') (a := a) (b := b) (c := c) hr hx l.length 0 X (by omega) (by omega) (by omega) rfl (fun _ _ _ => by omega) (fun _ _ _ _ => rfl)
    refine ⟨Z, hz, h68_12 _ _ _ _ _ _ _ _ _ _ _ _ ?_⟩
    unfold t68_12
    repeat (first | (refine good_pos (by omega) ?_) | (refine good_pos trivial ?_) | (refine good_neg (by omega) ?_) | (refine good_npos (by omega) ?_) | (refine good_nneg (by omega) ?_) | (refine good_gi (by omega) (by omega) ?_) | (refine good_gb (by omega) (by omega) ?_) | (refine good_ble (by omega) ?_))
    exact good_at h
  | succ m ih =>
    intro i h0 h1 h2
    obtain ⟨Z, hz, h⟩ := ih (i + 1) (by omega) (by omega) (by omega)
    refine ⟨Z, hz, h68_12 _ _ _ _ _ _ _ _ _ _ _ _ ?_⟩
    unfold t68_12
    simp (disch := omega) only [wrap_in]
    by_cases c : gi T i = v
    · obtain ⟨k1, k2⟩ := f104 (l := l) (by omega) i
      have hm : i ∈ l := mem_gi.2 (hr.all i h0 (by omega) c)
      repeat (first | (refine good_pos (by omega) ?_) | (refine good_pos trivial ?_) | (refine good_neg (by omega) ?_) | (refine good_npos (by omega) ?_) | (refine good_nneg (by omega) ?_) | (refine good_gi (by omega) (by omega) ?_) | (refine good_gb (by omega) (by omega) ?_) | (refine good_ble (by omega) ?_))
      refine good_true k1 (good_nfalse (by rw [k2]; simpa using hm) ?_)
      exact good_at h
    · repeat (first | (refine good_pos (by omega) ?_) | (refine good_pos trivial ?_) | (refine good_neg (by omega) ?_) | (refine good_npos (by omega) ?_) | (refine good_nneg (by omega) ?_) | (refine good_gi (by omega) (by omega) ?_) | (refine good_gb (by omega) (by omega) ?_) | (refine good_ble (by omega) ?_))
      exact good_at h
theorem l68_7 (hr : Row T v l) (hk : T.length ≤ 240) (hx : (X.length : Int) = T.length) : ∀ (m : Nat) (i : Int), 0 ≤ i → i ≤ l.length → (l.length : Int) - i = m →
    ∃ Z, Turned X l Z ∧ Lead E68 kr68 (.tup [.agg [.int .i64 N, .sl .int T, .sl .int Z, .sl .int C], .int .i64 0]) (a68_7 v l i N T X C n' a b c) := by
  have hl := hr.len
  intro m
  induction m with
  | zero =>
    intro i h0 h1 h2
    obtain ⟨Z, hz, h⟩ := l68_12 (N := N) (C := C) (n' := n') (a := a) (b := b) (c := c) hr hk hx T.length 0 (by omega) (by omega) (by omega)
    refine ⟨Z, hz, h68_7 _ _ _ _ _ _ _ _ _ _ _ _ ?_⟩
    unfold t68_7
    repeat (first | (refine good_pos (by omega) ?_) | (refine good_pos trivial ?_) | (refine good_neg (by omega) ?_) | (refine good_npos (by omega) ?_) | (refine good_nneg (by omega) ?_) | (refine good_gi (by omega) (by omega) ?_) | (refine good_gb (by omega) (by omega) ?_) | (refine good_ble (by omega) ?_))
    exact good_at h
  | succ m ih =>
    intro i h0 h1 h2
    obtain ⟨Z, hz, h⟩ := ih (i + 1) (by omega) (by omega) (by omega)
    refine ⟨Z, hz, h68_7 _ _ _ _ _ _ _ _ _ _ _ _ ?_⟩
    unfold t68_7
    have e : List.take (i.toNat - Int.toNat 0) (List.drop (Int.toNat 0) l) = l.take i.toNat := rfl
    simp only [e]
    simp (disch := omega) only [wrap_in]
    obtain ⟨k1, k2⟩ := f104 (l := l.take i.toNat) (by simp; omega) (gi l i)
    have hm : ¬ gi l i ∈ l.take i.toNat := fun hm => by
      obtain ⟨j, j0, j1, j2⟩ := (mem_take h0 h1).1 hm
      exact hr.one j i j0 j1 (by omega) j2
    repeat (first | (refine good_pos (by omega) ?_) | (refine good_pos trivial ?_) | (refine good_neg (by omega) ?_) | (refine good_npos (by omega) ?_) | (refine good_nneg (by omega) ?_) | (refine good_gi (by omega) (by omega) ?_) | (refine good_gb (by omega) (by omega) ?_) | (refine good_ble (by omega) ?_))
    refine good_true k1 (good_false (by rw [k2]; simpa using hm) ?_)
    exact good_at h
theorem l68_2 (hr : Row T v l) (hk : T.length ≤ 240) (hx : (X.length : Int) = T.length) : ∀ (m : Nat) (i : Int), 0 ≤ i → i ≤ l.length → (l.length : Int) - i = m →
    ∃ Z, Turned X l Z ∧ Lead E68 kr68 (.tup [.agg [.int .i64 N, .sl .int T, .sl .int Z, .sl .int C], .int .i64 0]) (a68_2 v l i N T X C n' a b c) := by
  have hl := hr.len
  intro m
  induction m with
  | zero =>
    intro i h0 h1 h2
    obtain ⟨Z, hz, h⟩ := l68_7 (N := N) (C := C) (n' := n') (a := a) (b := b) (c := c) hr hk hx l.length 0 (by omega) (by omega) (by omega)
    refine ⟨Z, hz, h68_2 _ _ _ _ _ _ _ _ _ _ _ _ ?_⟩
    unfold t68_2
    repeat (first | (refine good_pos (by omega) ?_) | (refine good_pos trivial ?_) | (refine good_neg (by omega) ?_) | (refine good_npos (by omega) ?_) | (refine good_nneg (by omega) ?_) | (refine good_gi (by omega) (by omega) ?_) | (refine good_gb (by omega) (by omega) ?_) | (refine good_ble (by omega) ?_))
    exact good_at h
  | succ m ih =>
    intro i h0 h1 h2
    obtain ⟨Z, hz, h⟩ := ih (i + 1) (by omega) (by omega) (by omega)
    obtain ⟨m0, m1, m2⟩ := hr.mem i h0 (by omega)
    refine ⟨Z, hz, h68_2 _ _ _ _ _ _ _ _ _ _ _ _ ?_⟩
    unfold t68_2
    simp (disch := omega) only [wrap_in]
    repeat (first | (refine good_pos (by omega) ?_) | (refine good_pos trivial ?_) | (refine good_neg (by omega) ?_) | (refine good_npos (by omega) ?_) | (refine good_nneg (by omega) ?_) | (refine good_gi (by omega) (by omega) ?_) | (refine good_gb (by omega) (by omega) ?_) | (refine good_ble (by omega) ?_))
    exact good_at h
theorem f68 (hr : Row T v l) (hk : T.length ≤ 240) (hx : (X.length : Int) = T.length) : ok68 N T X C v l = true ∧ ∃ Z, Turned X l Z ∧ v68 N T X C v l = (⟨N, T, Z, C⟩, 0) := by
  obtain ⟨Z, hz, h⟩ := l68_2 (N := N) (C := C) (n' := 0) (a := []) (b := []) (c := []) hr hk hx l.length 0 (by omega) (by omega) (by omega)
  have := sp68 N T X C v l (⟨N, T, Z, C⟩, 0) (run68 _ _ _ _ _ _ _ (by
    unfold t68
    exact good_at h))
  exact ⟨this.1, Z, hz, this.2⟩
end
/-- each next dart begins where the dart does; none is next of two -/
structure Perm (T X : List Int) : Prop where
  len : (X.length : Int) = T.length
  rng : InR X T.length
  tail : ∀ d : Int, 0 ≤ d → d < (T.length : Int) → gi T (gi X d) = gi T d
  inj : ∀ d e : Int, 0 ≤ d → d < (T.length : Int) → 0 ≤ e → e < (T.length : Int) → gi X d = gi X e → d = e
theorem Perm.turned {T X l Z : List Int} {v : Int} (h : Perm T X) (hr : Row T v l) (hz : Turned X l Z) : Perm T Z := by
  have hl := h.len
  have hzl := hz.len
  have nx : ∀ j : Int, 0 ≤ j → j < (l.length : Int) → 0 ≤ (j + 1) % (l.length : Int) ∧ (j + 1) % (l.length : Int) < l.length := fun j j0 j1 => ⟨Int.emod_nonneg _ (by omega), Int.emod_lt_of_pos _ (by omega)⟩
  have cs : ∀ d : Int, 0 ≤ d → d < (T.length : Int) → (∃ j : Int, 0 ≤ j ∧ j < (l.length : Int) ∧ gi l j = d ∧ gi Z d = gi l ((j + 1) % l.length) ∧ gi T d = v) ∨ (gi Z d = gi X d ∧ gi T d ≠ v) := by
    intro d d0 d1
    by_cases c : gi T d = v
    · obtain ⟨j, j0, j1, j2⟩ := hr.all d d0 d1 c
      exact .inl ⟨j, j0, j1, j2, by rw [← j2]; exact hz.on j j0 j1, c⟩
    · refine .inr ⟨hz.off d d0 (by omega) fun j j0 j1 e => ?_, c⟩
      have := (hr.mem j j0 j1).2.2
      rw [e] at this
      exact c this
  refine ⟨by omega, fun d d0 d1 => ?_, fun d d0 d1 => ?_, fun d e d0 d1 e0 e1 h' => ?_⟩
  · rcases cs d d0 (by omega) with ⟨j, j0, j1, j2, j3, j4⟩ | ⟨a, b⟩
    · obtain ⟨m0, m1⟩ := nx j j0 j1
      have := hr.mem _ m0 m1
      rw [j3]; omega
    · rw [a]; exact h.rng d d0 (by omega)
  · rcases cs d d0 d1 with ⟨j, j0, j1, j2, j3, j4⟩ | ⟨a, b⟩
    · obtain ⟨m0, m1⟩ := nx j j0 j1
      rw [j3, (hr.mem _ m0 m1).2.2, j4]
    · rw [a]; exact h.tail d d0 d1
  · rcases cs d d0 d1 with ⟨j, j0, j1, j2, j3, j4⟩ | ⟨a, b⟩
    · rcases cs e e0 e1 with ⟨k, k0, k1, k2, k3, k4⟩ | ⟨a', b'⟩
      · rw [j3, k3] at h'
        obtain ⟨m0, m1⟩ := nx j j0 j1
        obtain ⟨n0, n1⟩ := nx k k0 k1
        have e1 : (j + 1) % (l.length : Int) = (k + 1) % (l.length : Int) := by
          by_cases c : (j + 1) % (l.length : Int) < (k + 1) % (l.length : Int)
          · exact absurd h' (hr.one _ _ m0 c n1)
          by_cases c : (k + 1) % (l.length : Int) < (j + 1) % (l.length : Int)
          · exact absurd h'.symm (hr.one _ _ n0 c m1)
          omega
        have e2 : j = k := by
          by_cases c1 : j + 1 = l.length
          · rw [c1, Int.emod_self] at e1
            by_cases c2 : k + 1 = l.length
            · omega
            · rw [Int.emod_eq_of_lt (by omega) (by omega)] at e1; omega
          · rw [Int.emod_eq_of_lt (by omega) (by omega)] at e1
            by_cases c2 : k + 1 = l.length
            · rw [c2, Int.emod_self] at e1; omega
            · rw [Int.emod_eq_of_lt (a := k + 1) (by omega) (by omega)] at e1; omega
        rw [← j2, ← k2, e2]
      · exfalso
        rw [j3, a'] at h'
        obtain ⟨m0, m1⟩ := nx j j0 j1
        have a1 := (hr.mem _ m0 m1).2.2
        rw [h', h.tail e e0 e1] at a1
        exact b' a1
    · rcases cs e e0 e1 with ⟨k, k0, k1, k2, k3, k4⟩ | ⟨a', b'⟩
      · exfalso
        rw [k3, a] at h'
        obtain ⟨m0, m1⟩ := nx k k0 k1
        have a1 := (hr.mem _ m0 m1).2.2
        rw [← h', h.tail d d0 d1] at a1
        exact b a1
      · rw [a, a'] at h'
        exact h.inj d e d0 d1 e0 e1 h'
/-- what is made -/
structure Made (m : NetV) : Prop where
  n0 : 0 ≤ m.N
  n1 : m.N ≤ 8
  k : (m.T.length : Int) ≤ 40
  e : (m.T.length : Int) % 2 = 0
  c : (m.C.length : Int) = m.T.length
  tr : InR m.T m.N
  cr : ∀ d : Int, 0 ≤ d → d < (m.T.length : Int) → 0 ≤ gi m.C d ∧ gi m.C d ≤ 2147483648
  p : Perm m.T m.X
  z : m.N = 0 → (m.T.length : Int) = 0
theorem Perm.add {T X : List Int} {a b : Int} (h : Perm T X) (he : (T.length : Int) % 2 = 0) : Perm (T ++ [a, b]) (X ++ [(T.length : Int), (T.length : Int) + 1]) := by
  have hl := h.len
  have l1 : ((T ++ [a, b]).length : Int) = T.length + 2 := by simp
  have l2 : ((X ++ [(T.length : Int), (T.length : Int) + 1]).length : Int) = X.length + 2 := by simp
  have cs : ∀ d : Int, 0 ≤ d → d < (T.length : Int) + 2 → (d < T.length ∧ gi (X ++ [(T.length : Int), (T.length : Int) + 1]) d = gi X d ∧ 0 ≤ gi X d ∧ gi X d < T.length) ∨ (T.length ≤ d ∧ gi (X ++ [(T.length : Int), (T.length : Int) + 1]) d = d) := by
    intro d d0 d1
    by_cases c : d < T.length
    · exact .inl ⟨c, gi_append_left (by omega) d0, h.rng d d0 (by omega)⟩
    · refine .inr ⟨by omega, ?_⟩
      rw [gi_append_right (by omega)]
      have : d = T.length ∨ d = T.length + 1 := by omega
      rcases this with e | e
      · have e2 : d - X.length = 0 := by omega
        rw [e2, e]; rfl
      · have e2 : d - X.length = 1 := by omega
        rw [e2, e]; rfl
  refine ⟨by omega, fun d d0 d1 => ?_, fun d d0 d1 => ?_, fun d e d0 d1 e0 e1 h' => ?_⟩
  · rcases cs d d0 (by omega) with ⟨a, b, c⟩ | ⟨a, b⟩ <;> rw [b] <;> omega
  · rcases cs d d0 (by omega) with ⟨a, b, c⟩ | ⟨a, b⟩ <;> rw [b]
    rw [gi_append_left (by omega) c.1, gi_append_left (by omega) d0]
    exact h.tail d d0 a
  · rcases cs d d0 (by omega) with ⟨a, b, c⟩ | ⟨a, b⟩ <;> rcases cs e e0 (by omega) with ⟨a', b', c'⟩ | ⟨a', b'⟩ <;> rw [b, b'] at h'
    · exact h.inj d e d0 a e0 a' h'
    · omega
    · omega
    · exact h'
end Go.Proofs.Ytnfgfdeidkhdkaa.Eng
/- Lh: Make: whatever the numbers are, a net is made whose rows may be gone along. -/
namespace Go.Proofs.Ytnfgfdeidkhdkaa.Eng
set_option linter.unusedVariables false
set_option linter.unusedSimpArgs false
theorem row_take (l : List Int) {k : Int} (h : k ≤ (l.length : Int)) : (List.take (k.toNat - Int.toNat 0) (List.drop (Int.toNat 0) l)).length = k.toNat := by
  show (List.take (k.toNat - 0) (List.drop 0 l)).length = _
  simp; omega
/-- a row, a number laid in -/
def layIn (l : List Int) (k d : Int) : List Int := List.take (k.toNat - Int.toNat 0) (List.drop (Int.toNat 0) l) ++ [d] ++ List.take (((l.length : Nat) : Int).toNat - k.toNat) (List.drop k.toNat l)
theorem layIn_len {l : List Int} {k d : Int} (h0 : 0 ≤ k) (h1 : k ≤ (l.length : Int)) : (layIn l k d).length = l.length + 1 := by
  unfold layIn
  rw [List.length_append, List.length_append, row_take l h1]
  simp; omega
theorem layIn_gi {l : List Int} {k d : Int} (h0 : 0 ≤ k) (h1 : k ≤ (l.length : Int)) {j : Int} (j0 : 0 ≤ j) (j1 : j ≤ l.length) : gi (layIn l k d) j = if j < k then gi l j else if j = k then d else gi l (j - 1) := by
  have hl := row_take l h1
  unfold layIn
  by_cases c : j < k
  · rw [if_pos c, gi_append_left (by rw [List.length_append, hl]; simp; omega) j0, gi_append_left (by rw [hl]; omega) j0]
    simp only [gi, List.getD_eq_getElem?_getD]
    show (List.take (k.toNat - 0) (List.drop 0 l))[j.toNat]?.getD 0 = _
    rw [List.drop_zero, List.getElem?_take_of_lt (by omega)]
  · rw [if_neg c]
    by_cases c2 : j = k
    · rw [if_pos c2, gi_append_left (by rw [List.length_append, hl]; simp; omega) j0, gi_append_right (by rw [hl]; omega), hl]
      have : j - (k.toNat : Int) = 0 := by omega
      rw [this]; rfl
    · rw [if_neg c2, gi_append_right (by rw [List.length_append, hl]; simp; omega), List.length_append, hl]
      simp only [gi, List.getD_eq_getElem?_getD, List.length_singleton]
      rw [List.getElem?_take_of_lt (by omega), List.getElem?_drop]
      congr 2
      omega
/-- the darts of a vertex, of the first so many -/
structure RowTo (T : List Int) (v i : Int) (l : List Int) : Prop where
  mem : ∀ j : Int, 0 ≤ j → j < (l.length : Int) → 0 ≤ gi l j ∧ gi l j < i ∧ gi T (gi l j) = v
  one : ∀ i j : Int, 0 ≤ i → i < j → j < (l.length : Int) → gi l i ≠ gi l j
  all : ∀ d : Int, 0 ≤ d → d < i → gi T d = v → ∃ j : Int, 0 ≤ j ∧ j < (l.length : Int) ∧ gi l j = d
  len : (l.length : Int) ≤ i
theorem RowTo.skip {T l : List Int} {v i : Int} (h : RowTo T v i l) (c : gi T i ≠ v) : RowTo T v (i + 1) l :=
  ⟨fun j j0 j1 => by have := h.mem j j0 j1; omega, h.one, fun d d0 d1 e => h.all d d0 (by
    by_cases e' : d = i
    · subst e'; exact absurd e c
    · omega) e, by have := h.len; omega⟩
theorem RowTo.lay {T l : List Int} {v i k : Int} (h : RowTo T v i l) (hi : 0 ≤ i) (c : gi T i = v) (h0 : 0 ≤ k) (h1 : k ≤ (l.length : Int)) : RowTo T v (i + 1) (layIn l k i) := by
  have hl := layIn_len (d := i) h0 h1
  have hg : ∀ j : Int, 0 ≤ j → j ≤ l.length → _ := fun j j0 j1 => layIn_gi (d := i) h0 h1 j0 j1
  refine ⟨fun j j0 j1 => ?_, fun a b a0 ab b1 => ?_, fun d d0 d1 e => ?_, by have := h.len; omega⟩
  · rw [hg j j0 (by omega)]
    split
    · have := h.mem j j0 (by omega); omega
    · split
      · exact ⟨hi, by omega, c⟩
      · have := h.mem (j - 1) (by omega) (by omega); omega
  · rw [hg a a0 (by omega), hg b (by omega) (by omega)]
    split
    · have ha := h.mem a a0 (by omega)
      split
      · exact h.one a b a0 ab (by omega)
      · split
        · omega
        · exact h.one a (b - 1) a0 (by omega) (by omega)
    · split
      · rw [if_neg (by omega), if_neg (by omega)]
        have hb := h.mem (b - 1) (by omega) (by omega)
        omega
      · rw [if_neg (by omega), if_neg (by omega)]
        exact h.one (a - 1) (b - 1) (by omega) (by omega) (by omega)
  · by_cases e' : d = i
    · refine ⟨k, h0, by omega, ?_⟩
      rw [hg k h0 h1, if_neg (by omega), if_pos rfl, e']
    · obtain ⟨j, j0, j1, j2⟩ := h.all d d0 (by omega) e
      by_cases cj : j < k
      · refine ⟨j, j0, by omega, ?_⟩
        rw [hg j j0 (by omega), if_pos cj, j2]
      · refine ⟨j + 1, by omega, by omega, ?_⟩
        rw [hg (j + 1) (by omega) (by omega), if_neg (by omega), if_neg (by omega), show j + 1 - 1 = j by omega, j2]
theorem RowTo.row {T l : List Int} {v : Int} (h : RowTo T v T.length l) (hk : (T.length : Int) ≤ 240) : Row T v l := ⟨h.mem, h.one, h.all, by have := h.len; omega⟩
section
variable {ns : List Int} {n' : Int} {a b c : List Int}
theorem l19_8 : ∀ (n : Nat) (v : Int) (m : NetV), 0 ≤ v → v ≤ m.N → m.N - v = n → Made m →
    ∃ q, Made q ∧ q.N = m.N ∧ Lead E19 kr19 (.agg [.int .i64 q.N, .sl .int q.T, .sl .int q.X, .sl .int q.C]) (a19_8 ns v n' a b c m.N m.T m.X m.C) := by
  intro n
  induction n with
  | zero =>
    intro v m h0 h1 h2 hm
    refine ⟨m, hm, rfl, h19_8 _ _ _ _ _ _ _ _ _ _ _ ?_⟩
    unfold t19_8
    repeat (first | (refine good_pos (by omega) ?_) | (refine good_pos trivial ?_) | (refine good_neg (by omega) ?_) | (refine good_npos (by omega) ?_) | (refine good_nneg (by omega) ?_) | (refine good_gi (by omega) (by omega) ?_) | (refine good_gb (by omega) (by omega) ?_) | (refine good_ble (by omega) ?_))
    exact good_end rfl
  | succ n ih =>
    intro v m h0 h1 h2 hm
    have hT := hm.k
    have hl := hm.p.len
    have hn := hm.n1
    -- the round of this vertex: whatever its row is, a net is made; which one, the code tells
    have step : ∀ l, Row m.T v l → ∃ q, Made q ∧ q.N = m.N ∧ Lead E19 kr19 (.agg [.int .i64 q.N, .sl .int q.T, .sl .int q.X, .sl .int q.C]) (a19_12 ns v (m.T.length : Int) n' a b c m.N m.T m.X m.C l) := by
      intro l hr
      obtain ⟨k1, Z, hz, k2⟩ := f68 (N := m.N) (C := m.C) hr (by omega) hl
      have hm' : Made ⟨m.N, m.T, Z, m.C⟩ := ⟨hm.n0, hm.n1, hm.k, hm.e, hm.c, hm.tr, hm.cr, hm.p.turned hr hz, hm.z⟩
      obtain ⟨q, q1, q2, q3⟩ := ih (v + 1) ⟨m.N, m.T, Z, m.C⟩ (by omega) (by simp only; omega) (by simp only; omega) hm'
      refine ⟨q, q1, q2, h19_12 _ _ _ _ _ _ _ _ _ _ _ _ _ ?_⟩
      unfold t19_12
      rw [k2]
      refine good_neg (by omega) (good_true k1 ?_)
      simp (disch := omega) only [wrap_in]
      exact good_at q3
    -- the row that the code lays
    have row : ∀ (k : Nat) (i : Int) (l : List Int), 0 ≤ i → i ≤ m.T.length → (m.T.length : Int) - i = k → RowTo m.T v i l →
        ∃ q, Made q ∧ q.N = m.N ∧ Lead E19 kr19 (.agg [.int .i64 q.N, .sl .int q.T, .sl .int q.X, .sl .int q.C]) (a19_12 ns v i n' a b c m.N m.T m.X m.C l) := by
      intro k
      induction k with
      | zero =>
        intro i l h0 h1 h2 hl
        obtain rfl : i = m.T.length := by omega
        exact step l (hl.row (by omega))
      | succ k ihk =>
        intro i l i0 i1 i2 hl
        have hll := hl.len
        by_cases cv : gi m.T i = v
        · by_cases cn : 0 < (ns.length : Int)
          · have et : Int.tmod i (ns.length : Int) = i % ns.length := Int.tmod_eq_emod_of_nonneg i0
            have e0 : 0 ≤ i % (ns.length : Int) := Int.emod_nonneg _ (by omega)
            have e1 : i % (ns.length : Int) < ns.length := Int.emod_lt_of_pos _ (by omega)
            obtain ⟨k1, k2, k3⟩ := f66 (a := IntKind.wrap IntKind.i64 (Int.tdiv (gi ns (i % ns.length)) 7)) (n := (l.length : Int) + 1) (by omega) (by omega)
            obtain ⟨q, q1, q2, q3⟩ := ihk (i + 1) (layIn l (v66 (IntKind.wrap IntKind.i64 (Int.tdiv (gi ns (i % ns.length)) 7)) ((l.length : Int) + 1)) i) (by omega) (by omega) (by omega) (hl.lay i0 cv k2 (by omega))
            refine ⟨q, q1, q2, h19_12 _ _ _ _ _ _ _ _ _ _ _ _ _ ?_⟩
            unfold t19_12
            simp (disch := omega) only [wrap_in]
            rw [et]
            repeat (first | (refine good_pos (by omega) ?_) | (refine good_pos trivial ?_) | (refine good_neg (by omega) ?_) | (refine good_npos (by omega) ?_) | (refine good_nneg (by omega) ?_) | (refine good_gi (by omega) (by omega) ?_) | (refine good_gb (by omega) (by omega) ?_) | (refine good_ble (by omega) ?_))
            refine good_true k1 ?_
            generalize v66 (IntKind.wrap IntKind.i64 (Int.tdiv (gi ns (i % ns.length)) 7)) ((l.length : Int) + 1) = k at k2 k3 q3 ⊢
            simp only [List.length_append, row_take l (show k ≤ (l.length : Int) by omega), List.length_singleton, List.length_take, List.length_drop]
            repeat (first | (refine good_pos (by omega) ?_) | (refine good_pos trivial ?_) | (refine good_neg (by omega) ?_) | (refine good_npos (by omega) ?_) | (refine good_nneg (by omega) ?_) | (refine good_gi (by omega) (by omega) ?_) | (refine good_gb (by omega) (by omega) ?_) | (refine good_ble (by omega) ?_))
            exact good_at q3
          · obtain ⟨q, q1, q2, q3⟩ := ihk (i + 1) (layIn l 0 i) (by omega) (by omega) (by omega) (hl.lay i0 cv (by omega) (by omega))
            refine ⟨q, q1, q2, h19_12 _ _ _ _ _ _ _ _ _ _ _ _ _ ?_⟩
            unfold t19_12
            simp (disch := omega) only [wrap_in]
            simp only [List.length_append, row_take l (show (0 : Int) ≤ (l.length : Int) by omega), List.length_singleton, List.length_take, List.length_drop]
            repeat (first | (refine good_pos (by omega) ?_) | (refine good_pos trivial ?_) | (refine good_neg (by omega) ?_) | (refine good_npos (by omega) ?_) | (refine good_nneg (by omega) ?_) | (refine good_gi (by omega) (by omega) ?_) | (refine good_gb (by omega) (by omega) ?_) | (refine good_ble (by omega) ?_))
            exact good_at q3
        · obtain ⟨q, q1, q2, q3⟩ := ihk (i + 1) l (by omega) (by omega) (by omega) (hl.skip cv)
          refine ⟨q, q1, q2, h19_12 _ _ _ _ _ _ _ _ _ _ _ _ _ ?_⟩
          unfold t19_12
          simp (disch := omega) only [wrap_in]
          repeat (first | (refine good_pos (by omega) ?_) | (refine good_pos trivial ?_) | (refine good_neg (by omega) ?_) | (refine good_npos (by omega) ?_) | (refine good_nneg (by omega) ?_) | (refine good_gi (by omega) (by omega) ?_) | (refine good_gb (by omega) (by omega) ?_) | (refine good_ble (by omega) ?_))
          exact good_at q3
    obtain ⟨q, q1, q2, q3⟩ := row m.T.length 0 [] (by omega) (by omega) (by omega) ⟨fun j j0 j1 => by simp at j1; omega, fun i j _ _ j1 => by simp at j1; omega, fun d d0 d1 => by omega, by simp⟩
    refine ⟨q, q1, q2, h19_8 _ _ _ _ _ _ _ _ _ _ _ ?_⟩
    unfold t19_8
    repeat (first | (refine good_pos (by omega) ?_) | (refine good_pos trivial ?_) | (refine good_neg (by omega) ?_) | (refine good_npos (by omega) ?_) | (refine good_nneg (by omega) ?_) | (refine good_gi (by omega) (by omega) ?_) | (refine good_gb (by omega) (by omega) ?_) | (refine good_ble (by omega) ?_))
    exact good_at q3
theorem l19_3 : ∀ (n : Nat) (i : Int) (m : NetV), 0 ≤ i → i ≤ 40 → 40 - i ≤ n → (m.T.length : Int) = i → Made m →
    ∃ q, Made q ∧ q.N = m.N ∧ Lead E19 kr19 (.agg [.int .i64 q.N, .sl .int q.T, .sl .int q.X, .sl .int q.C]) (a19_3 ns i n' a b c m.N m.T m.X m.C) := by
  intro n
  induction n with
  | zero =>
    intro i m h0 h1 h2 h3 hm
    obtain ⟨q, q1, q2, q3⟩ := l19_8 (ns := ns) (n' := n') (a := a) (b := b) (c := c) m.N.toNat 0 m (by omega) hm.n0 (by have := hm.n0; omega) hm
    refine ⟨q, q1, q2, h19_3 _ _ _ _ _ _ _ _ _ _ _ ?_⟩
    unfold t19_3
    simp (disch := omega) only [wrap_in]
    by_cases c1 : i + 1 < (ns.length : Int)
    · repeat (first | (refine good_pos (by omega) ?_) | (refine good_pos trivial ?_) | (refine good_neg (by omega) ?_) | (refine good_npos (by omega) ?_) | (refine good_nneg (by omega) ?_) | (refine good_gi (by omega) (by omega) ?_) | (refine good_gb (by omega) (by omega) ?_) | (refine good_ble (by omega) ?_))
      exact good_at q3
    · repeat (first | (refine good_pos (by omega) ?_) | (refine good_pos trivial ?_) | (refine good_neg (by omega) ?_) | (refine good_npos (by omega) ?_) | (refine good_nneg (by omega) ?_) | (refine good_gi (by omega) (by omega) ?_) | (refine good_gb (by omega) (by omega) ?_) | (refine good_ble (by omega) ?_))
      exact good_at q3
  | succ n ih =>
    intro i m h0 h1 h2 h3 hm
    obtain ⟨q, q1, q2, q3⟩ := l19_8 (ns := ns) (n' := n') (a := a) (b := b) (c := c) m.N.toNat 0 m (by omega) hm.n0 (by have := hm.n0; omega) hm
    by_cases c1 : i + 1 < (ns.length : Int)
    · by_cases c2 : i < 40
      · by_cases c3 : 0 < m.N
        · have hn1 := hm.n1
          have hl := hm.p.len
          have hcl := hm.c
          have he := hm.e
          obtain ⟨a1, a2, a3⟩ := f66 (a := gi ns i) (n := 1099511627776) (by decide) (by decide)
          obtain ⟨b1, b2, b3⟩ := f64 (gi ns (i + 1))
          obtain ⟨c1', c2', c3'⟩ := f64 (IntKind.wrap IntKind.i64 (Int.tdiv (gi ns (i + 1)) 11))
          have e1 : Int.tmod (v66 (gi ns i) 1099511627776) m.N = v66 (gi ns i) 1099511627776 % m.N := Int.tmod_eq_emod_of_nonneg a2
          have e2 : Int.tdiv (v66 (gi ns i) 1099511627776) 9 = v66 (gi ns i) 1099511627776 / 9 := Int.tdiv_eq_ediv_of_nonneg a2
          have e3 : Int.tmod (v66 (gi ns i) 1099511627776 / 9) m.N = v66 (gi ns i) 1099511627776 / 9 % m.N := Int.tmod_eq_emod_of_nonneg (by omega)
          have r0 : 0 ≤ v66 (gi ns i) 1099511627776 % m.N ∧ v66 (gi ns i) 1099511627776 % m.N < m.N := ⟨Int.emod_nonneg _ (by omega), Int.emod_lt_of_pos _ c3⟩
          have r1 : 0 ≤ v66 (gi ns i) 1099511627776 / 9 % m.N ∧ v66 (gi ns i) 1099511627776 / 9 % m.N < m.N := ⟨Int.emod_nonneg _ (by omega), Int.emod_lt_of_pos _ c3⟩
          obtain ⟨g1, g2⟩ := f67 (N := m.N) (T := m.T) (X := m.X) (C := m.C) (c := v64 (gi ns (i + 1))) (d := v64 (IntKind.wrap IntKind.i64 (Int.tdiv (gi ns (i + 1)) 11))) (by omega) hl hcl r0 r1 b3 c3'
          have hm' : Made (v67 m.N m.T m.X m.C [v66 (gi ns i) 1099511627776 % m.N, v66 (gi ns i) 1099511627776 / 9 % m.N, v64 (gi ns (i + 1)), v64 (IntKind.wrap IntKind.i64 (Int.tdiv (gi ns (i + 1)) 11))]).1 := by
            rw [g2]
            have ap : ∀ (l : List Int) (x y : Int) (d : Int), 0 ≤ d → d < (l.length : Int) + 2 → (d < l.length ∧ gi (l ++ [x, y]) d = gi l d) ∨ gi (l ++ [x, y]) d = x ∨ gi (l ++ [x, y]) d = y := by
              intro l x y d d0 d1
              by_cases cd : d < l.length
              · exact .inl ⟨cd, gi_append_left cd d0⟩
              · rw [gi_append_right (by omega)]
                have : d - l.length = 0 ∨ d - l.length = 1 := by omega
                rcases this with e | e <;> rw [e]
                · exact .inr (.inl rfl)
                · exact .inr (.inr rfl)
            refine ⟨hm.n0, hm.n1, by simp; omega, by simp; omega, by simp; omega, fun d d0 d1 => ?_, fun d d0 d1 => ?_, hm.p.add he, fun h => by simp only at h; omega⟩
            · rcases ap m.T _ _ d d0 (by simpa using d1) with ⟨x, y⟩ | y | y
              · rw [y]; exact hm.tr d d0 x
              · rw [y]; exact r0
              · rw [y]; exact r1
            · have d1' : d < (m.T.length : Int) + 2 := by simpa using d1
              rcases ap m.C _ _ d d0 (by omega) with ⟨x, y⟩ | y | y
              · have := hm.cr d d0 (by omega)
                constructor <;> (simp only; rw [y]; omega)
              · constructor <;> (simp only; rw [y]; omega)
              · constructor <;> (simp only; rw [y]; omega)
          obtain ⟨q', q1', q2', q3'⟩ := ih (i + 2) _ (by omega) (by omega) (by omega) (by rw [g2]; simp; omega) hm'
          refine ⟨q', q1', by rw [q2', g2], h19_3 _ _ _ _ _ _ _ _ _ _ _ ?_⟩
          unfold t19_3
          simp (disch := omega) only [wrap_in]
          repeat (first | (refine good_pos (by omega) ?_) | (refine good_pos trivial ?_) | (refine good_neg (by omega) ?_) | (refine good_npos (by omega) ?_) | (refine good_nneg (by omega) ?_) | (refine good_gi (by omega) (by omega) ?_) | (refine good_gb (by omega) (by omega) ?_) | (refine good_ble (by omega) ?_))
          refine good_true a1 ?_
          repeat (first | (refine good_pos (by omega) ?_) | (refine good_pos trivial ?_) | (refine good_neg (by omega) ?_) | (refine good_npos (by omega) ?_) | (refine good_nneg (by omega) ?_) | (refine good_gi (by omega) (by omega) ?_) | (refine good_gb (by omega) (by omega) ?_) | (refine good_ble (by omega) ?_))
          refine good_true b1 ?_
          repeat (first | (refine good_pos (by omega) ?_) | (refine good_pos trivial ?_) | (refine good_neg (by omega) ?_) | (refine good_npos (by omega) ?_) | (refine good_nneg (by omega) ?_) | (refine good_gi (by omega) (by omega) ?_) | (refine good_gb (by omega) (by omega) ?_) | (refine good_ble (by omega) ?_))
          simp only [e1, e2]
          simp (disch := omega) only [wrap_in]
          simp only [e3]
          refine good_true c1' (good_true g1 ?_)
          exact good_at q3'
        · refine ⟨q, q1, q2, h19_3 _ _ _ _ _ _ _ _ _ _ _ ?_⟩
          unfold t19_3
          simp (disch := omega) only [wrap_in]
          repeat (first | (refine good_pos (by omega) ?_) | (refine good_pos trivial ?_) | (refine good_neg (by omega) ?_) | (refine good_npos (by omega) ?_) | (refine good_nneg (by omega) ?_) | (refine good_gi (by omega) (by omega) ?_) | (refine good_gb (by omega) (by omega) ?_) | (refine good_ble (by omega) ?_))
          exact good_at q3
      · refine ⟨q, q1, q2, h19_3 _ _ _ _ _ _ _ _ _ _ _ ?_⟩
        unfold t19_3
        simp (disch := omega) only [wrap_in]
        repeat (first | (refine good_pos (by omega) ?_) | (refine good_pos trivial ?_) | (refine good_neg (by omega) ?_) | (refine good_npos (by omega) ?_) | (refine good_nneg (by omega) ?_) | (refine good_gi (by omega) (by omega) ?_) | (refine good_gb (by omega) (by omega) ?_) | (refine good_ble (by omega) ?_))
        exact good_at q3
    · refine ⟨q, q1, q2, h19_3 _ _ _ _ _ _ _ _ _ _ _ ?_⟩
      unfold t19_3
      simp (disch := omega) only [wrap_in]
      repeat (first | (refine good_pos (by omega) ?_) | (refine good_pos trivial ?_) | (refine good_neg (by omega) ?_) | (refine good_npos (by omega) ?_) | (refine good_nneg (by omega) ?_) | (refine good_gi (by omega) (by omega) ?_) | (refine good_gb (by omega) (by omega) ?_) | (refine good_ble (by omega) ?_))
      exact good_at q3
theorem f19 (size : Int) (ns : List Int) : ok19 size ns = true ∧ Made (v19 size ns) ∧ (v19 size ns).N = v66 size 9 := by
  obtain ⟨a1, a2, a3⟩ := f66 (a := size) (n := 9) (by decide) (by decide)
  obtain ⟨q, q1, q2, q3⟩ := l19_3 (ns := ns) (n' := 0) (a := []) (b := []) (c := []) 40 0 ⟨v66 size 9, [], [], []⟩ (by omega) (by omega) (by omega) rfl
    ⟨a2, by simp only; omega, by simp, by simp, rfl, fun d d0 d1 => by simp at d1; omega, fun d d0 d1 => by simp at d1; omega, ⟨rfl, fun d d0 d1 => by simp at d1; omega, fun d d0 d1 => by simp at d1; omega, fun d e d0 d1 => by simp at d1; omega⟩, fun _ => rfl⟩
  have := sp19 size ns q (run19 _ _ _ (by
    unfold t19
    exact good_true a1 (good_at q3)))
  exact ⟨this.1, by rw [this.2]; exact q1, by rw [this.2]; exact q2⟩
end
end Go.Proofs.Ytnfgfdeidkhdkaa.Eng
/- P3: watershed/watershedlaw2.RotPlanes: its run from loop to loop, as Lean printed it (a program of this session's wrote these rows). No condition. -/
namespace Go.Proofs.Ytnfgfdeidkhdkaa.Eng
set_option linter.unusedVariables false
set_option maxRecDepth 100000
noncomputable def ents3 : List (Nat × Ent) := [(17, ent17), (18, ent18), (19, ent19), (20, ent20), (21, ent21)]
noncomputable def mems3 : List (Nat × EntM) := []
noncomputable def E3 (fu : Nat) : Env := ⟨26, 0, semOf ents3, [], memOf mems3, [], [], fu⟩
theorem fuel3 : Fuel E3 := fun _ => rfl
noncomputable def kr3 : St → Option CV := endK true Try.f3.results.toList
noncomputable def t3 (ns : List Int) (size : Int) (ms : List Int) : Option Leaf :=
  bif ok18 ns then
   bif ok19 size ms then
    bif ok20 (NetV.N (v18 ns)) (NetV.T (v18 ns)) (NetV.X (v18 ns)) (NetV.C (v18 ns)) then
     bif Decidable.decide (v20 (NetV.N (v18 ns)) (NetV.T (v18 ns)) (NetV.X (v18 ns)) (NetV.C (v18 ns)) = (0 : Int)) then
      bif ok20 (NetV.N (v19 size ms)) (NetV.T (v19 size ms)) (NetV.X (v19 size ms)) (NetV.C (v19 size ms)) then
       bif ok21 (NetV.N (v19 size ms)) (NetV.T (v19 size ms)) (NetV.X (v19 size ms)) (NetV.C (v19 size ms)) then
        some (.ret (CV.bool (Decidable.decide (v20 (NetV.N (v19 size ms)) (NetV.T (v19 size ms)) (NetV.X (v19 size ms)) (NetV.C (v19 size ms)) = v21 (NetV.N (v19 size ms)) (NetV.T (v19 size ms)) (NetV.X (v19 size ms)) (NetV.C (v19 size ms))))))
       else
        none
      else
       none
     else
      some (.ret (CV.bool Bool.false))
    else
     none
   else
    none
  else
   none
theorem c3 (fu : Nat) (ns : List Int) (size : Int) (ms : List Int) : cutB (E3 fu) kr3 Try.f3 (⟨parT 0 [.sl .int ns, .int .i64 size, .sl .int ms], []⟩) = t3 ns size ms := by kernel_rfl
def R3 (ns : List Int) (size : Int) (ms : List Int) (r : Bool) : Prop := RunF E3 true Try.f3 [.sl .int ns, .int .i64 size, .sl .int ms] (.bool r)
theorem run3 (ns : List Int) (size : Int) (ms : List Int) (r : Bool) (h : Good E3 kr3 (t3 ns size ms) (.bool r)) : R3 ns size ms r := RunF.of fuel3 (fun fu => c3 fu ns size ms) h
noncomputable def ok3 (ns : List Int) (size : Int) (ms : List Int) : Bool := okP (R3 ns size ms)
noncomputable def v3 (ns : List Int) (size : Int) (ms : List Int) : Bool := valP (R3 ns size ms)
theorem sp3 (ns : List Int) (size : Int) (ms : List Int) (r : Bool) (h : R3 ns size ms r) : ok3 ns size ms = true ∧ v3 ns size ms = r := okP_of h fun b hb => by
  have := RunF.uniq hb h
  simp_all
theorem at3 : P.funcs[3]? = some Try.f3 := by kernel_rfl
theorem callable3 : callable 3 = true := by kernel_rfl
theorem semok3 : SemOk (semOf ents3) := EntsOk.sem (.cons entok17 (.cons entok18 (.cons entok19 (.cons entok20 (.cons entok21 (.nil))))))
theorem memok3 : MemOk (memOf mems3) := EntsMOk.mem (.nil)
noncomputable def ent3 : Ent := fun args => match args with
  | [.sl .int ns, .int .i64 size, .sl .int ms] => some (true, ok3 ns size ms, .bool (v3 ns size ms))
  | _ => none
theorem entok3 : EntOk 3 ent3 := fun args own r h => by
  unfold ent3 at h
  split at h
  · simp only [Option.some.injEq, Prod.mk.injEq] at h
    obtain ⟨rfl, h, rfl⟩ := h
    exact ⟨RunF.calls (fun _ => semok3) (fun _ => memok3) at3 rfl (Nat.le_of_ble_eq_true rfl) (fun _ => rfl) (okP_val h), callable3⟩
  · cases h
end Go.Proofs.Ytnfgfdeidkhdkaa.Eng
/- P4: watershed/watershedlaw2.RotChecks: its run from loop to loop, as Lean printed it (a program of this session's wrote these rows). No condition. -/
namespace Go.Proofs.Ytnfgfdeidkhdkaa.Eng
set_option linter.unusedVariables false
set_option maxRecDepth 100000
noncomputable def ents4 : List (Nat × Ent) := [(17, ent17), (18, ent18), (20, ent20), (21, ent21), (22, ent22)]
noncomputable def mems4 : List (Nat × EntM) := []
noncomputable def E4 (fu : Nat) : Env := ⟨147, 0, semOf ents4, [], memOf mems4, [], [], fu⟩
theorem fuel4 : Fuel E4 := fun _ => rfl
noncomputable def kr4 : St → Option CV := endK true Try.f4.results.toList
noncomputable def t4 (ns : List Int) (which : Int) (at_ : Int) (v : Int) (raw : List Int) : Option Leaf :=
  bif Decidable.decide ((300 : Int) < (↑(List.length raw) : Int)) then
   some (.ret (CV.bool Bool.true))
  else
   bif ok18 ns then
    bif ok22 which (9 : Int) then
     bif Decidable.decide (v22 which (9 : Int) = (0 : Int)) then
      bif ok20 v (NetV.T (v18 ns)) (NetV.X (v18 ns)) (NetV.C (v18 ns)) then
       bif ok21 v (NetV.T (v18 ns)) (NetV.X (v18 ns)) (NetV.C (v18 ns)) then
        some (.ret (CV.bool (Decidable.decide (v20 v (NetV.T (v18 ns)) (NetV.X (v18 ns)) (NetV.C (v18 ns)) = v21 v (NetV.T (v18 ns)) (NetV.X (v18 ns)) (NetV.C (v18 ns))))))
       else
        none
      else
       none
     else
      bif Decidable.decide (v22 which (9 : Int) = (1 : Int)) then
       bif ok22 v (3 : Int) then
        bif ok20 (IntKind.wrap IntKind.i64 (IntKind.wrap IntKind.i64 (NetV.N (v18 ns) + v22 v (3 : Int)) - (1 : Int))) (NetV.T (v18 ns)) (NetV.X (v18 ns)) (NetV.C (v18 ns)) then
         bif ok21 (IntKind.wrap IntKind.i64 (IntKind.wrap IntKind.i64 (NetV.N (v18 ns) + v22 v (3 : Int)) - (1 : Int))) (NetV.T (v18 ns)) (NetV.X (v18 ns)) (NetV.C (v18 ns)) then
          some (.ret (CV.bool (Decidable.decide (v20 (IntKind.wrap IntKind.i64 (IntKind.wrap IntKind.i64 (NetV.N (v18 ns) + v22 v (3 : Int)) - (1 : Int))) (NetV.T (v18 ns)) (NetV.X (v18 ns)) (NetV.C (v18 ns)) = v21 (IntKind.wrap IntKind.i64 (IntKind.wrap IntKind.i64 (NetV.N (v18 ns) + v22 v (3 : Int)) - (1 : Int))) (NetV.T (v18 ns)) (NetV.X (v18 ns)) (NetV.C (v18 ns))))))
         else
          none
        else
         none
       else
        none
      else
       bif Decidable.decide (v22 which (9 : Int) = (2 : Int)) then
        bif Decidable.decide ((0 : Int) < (↑(List.length (NetV.T (v18 ns))) : Int)) then
         bif ok22 at_ (↑(List.length (NetV.T (v18 ns))) : Int) then
          bif Decidable.decide ((0 : Int) ≤ v22 at_ (↑(List.length (NetV.T (v18 ns))) : Int)) then
           bif Decidable.decide (v22 at_ (↑(List.length (NetV.T (v18 ns))) : Int) < (↑(List.length (NetV.T (v18 ns))) : Int)) then
            ob ((NetV.T (v18 ns))[Int.toNat (v22 at_ (↑(List.length (NetV.T (v18 ns))) : Int))]?) fun x1 =>
             bif ok20 (NetV.N (v18 ns)) (List.set (NetV.T (v18 ns)) (Int.toNat (v22 at_ (↑(List.length (NetV.T (v18 ns))) : Int))) v) (NetV.X (v18 ns)) (NetV.C (v18 ns)) then
              bif ok21 (NetV.N (v18 ns)) (List.set (NetV.T (v18 ns)) (Int.toNat (v22 at_ (↑(List.length (NetV.T (v18 ns))) : Int))) v) (NetV.X (v18 ns)) (NetV.C (v18 ns)) then
               some (.ret (CV.bool (Decidable.decide (v20 (NetV.N (v18 ns)) (List.set (NetV.T (v18 ns)) (Int.toNat (v22 at_ (↑(List.length (NetV.T (v18 ns))) : Int))) v) (NetV.X (v18 ns)) (NetV.C (v18 ns)) = v21 (NetV.N (v18 ns)) (List.set (NetV.T (v18 ns)) (Int.toNat (v22 at_ (↑(List.length (NetV.T (v18 ns))) : Int))) v) (NetV.X (v18 ns)) (NetV.C (v18 ns))))))
              else
               none
             else
              none
           else
            none
          else
           none
         else
          none
        else
         bif ok20 (NetV.N (v18 ns)) (NetV.T (v18 ns)) (NetV.X (v18 ns)) (NetV.C (v18 ns)) then
          bif ok21 (NetV.N (v18 ns)) (NetV.T (v18 ns)) (NetV.X (v18 ns)) (NetV.C (v18 ns)) then
           some (.ret (CV.bool (Decidable.decide (v20 (NetV.N (v18 ns)) (NetV.T (v18 ns)) (NetV.X (v18 ns)) (NetV.C (v18 ns)) = v21 (NetV.N (v18 ns)) (NetV.T (v18 ns)) (NetV.X (v18 ns)) (NetV.C (v18 ns))))))
          else
           none
         else
          none
       else
        bif Decidable.decide (v22 which (9 : Int) = (3 : Int)) then
         bif Decidable.decide ((0 : Int) < (↑(List.length (NetV.T (v18 ns))) : Int)) then
          bif ok22 at_ (↑(List.length (NetV.T (v18 ns))) : Int) then
           bif ok22 v (NetV.N (v18 ns)) then
            bif Decidable.decide ((0 : Int) ≤ v22 at_ (↑(List.length (NetV.T (v18 ns))) : Int)) then
             bif Decidable.decide (v22 at_ (↑(List.length (NetV.T (v18 ns))) : Int) < (↑(List.length (NetV.T (v18 ns))) : Int)) then
              ob ((NetV.T (v18 ns))[Int.toNat (v22 at_ (↑(List.length (NetV.T (v18 ns))) : Int))]?) fun x2 =>
               bif ok20 (NetV.N (v18 ns)) (List.set (NetV.T (v18 ns)) (Int.toNat (v22 at_ (↑(List.length (NetV.T (v18 ns))) : Int))) (v22 v (NetV.N (v18 ns)))) (NetV.X (v18 ns)) (NetV.C (v18 ns)) then
                bif ok21 (NetV.N (v18 ns)) (List.set (NetV.T (v18 ns)) (Int.toNat (v22 at_ (↑(List.length (NetV.T (v18 ns))) : Int))) (v22 v (NetV.N (v18 ns)))) (NetV.X (v18 ns)) (NetV.C (v18 ns)) then
                 some (.ret (CV.bool (Decidable.decide (v20 (NetV.N (v18 ns)) (List.set (NetV.T (v18 ns)) (Int.toNat (v22 at_ (↑(List.length (NetV.T (v18 ns))) : Int))) (v22 v (NetV.N (v18 ns)))) (NetV.X (v18 ns)) (NetV.C (v18 ns)) = v21 (NetV.N (v18 ns)) (List.set (NetV.T (v18 ns)) (Int.toNat (v22 at_ (↑(List.length (NetV.T (v18 ns))) : Int))) (v22 v (NetV.N (v18 ns)))) (NetV.X (v18 ns)) (NetV.C (v18 ns))))))
                else
                 none
               else
                none
             else
              none
            else
             none
           else
            none
          else
           none
         else
          bif ok20 (NetV.N (v18 ns)) (NetV.T (v18 ns)) (NetV.X (v18 ns)) (NetV.C (v18 ns)) then
           bif ok21 (NetV.N (v18 ns)) (NetV.T (v18 ns)) (NetV.X (v18 ns)) (NetV.C (v18 ns)) then
            some (.ret (CV.bool (Decidable.decide (v20 (NetV.N (v18 ns)) (NetV.T (v18 ns)) (NetV.X (v18 ns)) (NetV.C (v18 ns)) = v21 (NetV.N (v18 ns)) (NetV.T (v18 ns)) (NetV.X (v18 ns)) (NetV.C (v18 ns))))))
           else
            none
          else
           none
        else
         bif Decidable.decide (v22 which (9 : Int) = (4 : Int)) then
          bif Decidable.decide ((0 : Int) < (↑(List.length (NetV.T (v18 ns))) : Int)) then
           bif ok22 at_ (↑(List.length (NetV.T (v18 ns))) : Int) then
            bif ok22 v (↑(List.length (NetV.T (v18 ns))) : Int) then
             bif ok22 v (2 : Int) then
              bif Decidable.decide ((0 : Int) ≤ v22 v (2 : Int)) then
               bif Decidable.decide (v22 v (2 : Int) < (↑(List.length [v, v22 v (↑(List.length (NetV.T (v18 ns))) : Int)]) : Int)) then
                ob ([v, v22 v (↑(List.length (NetV.T (v18 ns))) : Int)][Int.toNat (v22 v (2 : Int))]?) fun x3 =>
                 bif Decidable.decide ((0 : Int) ≤ v22 at_ (↑(List.length (NetV.T (v18 ns))) : Int)) then
                  bif Decidable.decide (v22 at_ (↑(List.length (NetV.T (v18 ns))) : Int) < (↑(List.length (NetV.X (v18 ns))) : Int)) then
                   ob ((NetV.X (v18 ns))[Int.toNat (v22 at_ (↑(List.length (NetV.T (v18 ns))) : Int))]?) fun x4 =>
                    bif ok20 (NetV.N (v18 ns)) (NetV.T (v18 ns)) (List.set (NetV.X (v18 ns)) (Int.toNat (v22 at_ (↑(List.length (NetV.T (v18 ns))) : Int))) x3) (NetV.C (v18 ns)) then
                     bif ok21 (NetV.N (v18 ns)) (NetV.T (v18 ns)) (List.set (NetV.X (v18 ns)) (Int.toNat (v22 at_ (↑(List.length (NetV.T (v18 ns))) : Int))) x3) (NetV.C (v18 ns)) then
                      some (.ret (CV.bool (Decidable.decide (v20 (NetV.N (v18 ns)) (NetV.T (v18 ns)) (List.set (NetV.X (v18 ns)) (Int.toNat (v22 at_ (↑(List.length (NetV.T (v18 ns))) : Int))) x3) (NetV.C (v18 ns)) = v21 (NetV.N (v18 ns)) (NetV.T (v18 ns)) (List.set (NetV.X (v18 ns)) (Int.toNat (v22 at_ (↑(List.length (NetV.T (v18 ns))) : Int))) x3) (NetV.C (v18 ns))))))
                     else
                      none
                    else
                     none
                  else
                   none
                 else
                  none
               else
                none
              else
               none
             else
              none
            else
             none
           else
            none
          else
           bif ok20 (NetV.N (v18 ns)) (NetV.T (v18 ns)) (NetV.X (v18 ns)) (NetV.C (v18 ns)) then
            bif ok21 (NetV.N (v18 ns)) (NetV.T (v18 ns)) (NetV.X (v18 ns)) (NetV.C (v18 ns)) then
             some (.ret (CV.bool (Decidable.decide (v20 (NetV.N (v18 ns)) (NetV.T (v18 ns)) (NetV.X (v18 ns)) (NetV.C (v18 ns)) = v21 (NetV.N (v18 ns)) (NetV.T (v18 ns)) (NetV.X (v18 ns)) (NetV.C (v18 ns))))))
            else
             none
           else
            none
         else
          bif Decidable.decide (v22 which (9 : Int) = (5 : Int)) then
           bif Decidable.decide ((0 : Int) < (↑(List.length (NetV.T (v18 ns))) : Int)) then
            bif ok22 at_ (↑(List.length (NetV.T (v18 ns))) : Int) then
             bif ok22 v (5 : Int) then
              bif Decidable.decide ((0 : Int) ≤ v22 v (5 : Int)) then
               bif Decidable.decide (v22 v (5 : Int) < (↑(List.length [(-1 : Int), (0 : Int), (2147483648 : Int), (2147483649 : Int), v]) : Int)) then
                ob ([(-1 : Int), (0 : Int), (2147483648 : Int), (2147483649 : Int), v][Int.toNat (v22 v (5 : Int))]?) fun x5 =>
                 bif Decidable.decide ((0 : Int) ≤ v22 at_ (↑(List.length (NetV.T (v18 ns))) : Int)) then
                  bif Decidable.decide (v22 at_ (↑(List.length (NetV.T (v18 ns))) : Int) < (↑(List.length (NetV.C (v18 ns))) : Int)) then
                   ob ((NetV.C (v18 ns))[Int.toNat (v22 at_ (↑(List.length (NetV.T (v18 ns))) : Int))]?) fun x6 =>
                    bif ok20 (NetV.N (v18 ns)) (NetV.T (v18 ns)) (NetV.X (v18 ns)) (List.set (NetV.C (v18 ns)) (Int.toNat (v22 at_ (↑(List.length (NetV.T (v18 ns))) : Int))) x5) then
                     bif ok21 (NetV.N (v18 ns)) (NetV.T (v18 ns)) (NetV.X (v18 ns)) (List.set (NetV.C (v18 ns)) (Int.toNat (v22 at_ (↑(List.length (NetV.T (v18 ns))) : Int))) x5) then
                      some (.ret (CV.bool (Decidable.decide (v20 (NetV.N (v18 ns)) (NetV.T (v18 ns)) (NetV.X (v18 ns)) (List.set (NetV.C (v18 ns)) (Int.toNat (v22 at_ (↑(List.length (NetV.T (v18 ns))) : Int))) x5) = v21 (NetV.N (v18 ns)) (NetV.T (v18 ns)) (NetV.X (v18 ns)) (List.set (NetV.C (v18 ns)) (Int.toNat (v22 at_ (↑(List.length (NetV.T (v18 ns))) : Int))) x5)))))
                     else
                      none
                    else
                     none
                  else
                   none
                 else
                  none
               else
                none
              else
               none
             else
              none
            else
             none
           else
            bif ok20 (NetV.N (v18 ns)) (NetV.T (v18 ns)) (NetV.X (v18 ns)) (NetV.C (v18 ns)) then
             bif ok21 (NetV.N (v18 ns)) (NetV.T (v18 ns)) (NetV.X (v18 ns)) (NetV.C (v18 ns)) then
              some (.ret (CV.bool (Decidable.decide (v20 (NetV.N (v18 ns)) (NetV.T (v18 ns)) (NetV.X (v18 ns)) (NetV.C (v18 ns)) = v21 (NetV.N (v18 ns)) (NetV.T (v18 ns)) (NetV.X (v18 ns)) (NetV.C (v18 ns))))))
             else
              none
            else
             none
          else
           bif Decidable.decide (v22 which (9 : Int) = (6 : Int)) then
            bif ok22 at_ (IntKind.wrap IntKind.i64 ((↑(List.length (NetV.T (v18 ns))) : Int) + (1 : Int))) then
             bif Decidable.decide ((0 : Int) ≤ v22 at_ (IntKind.wrap IntKind.i64 ((↑(List.length (NetV.T (v18 ns))) : Int) + (1 : Int)))) then
              bif Decidable.decide (v22 at_ (IntKind.wrap IntKind.i64 ((↑(List.length (NetV.T (v18 ns))) : Int) + (1 : Int))) ≤ v22 at_ (IntKind.wrap IntKind.i64 ((↑(List.length (NetV.T (v18 ns))) : Int) + (1 : Int)))) then
               bif Decidable.decide (v22 at_ (IntKind.wrap IntKind.i64 ((↑(List.length (NetV.T (v18 ns))) : Int) + (1 : Int))) ≤ (↑(List.length (NetV.T (v18 ns))) : Int)) then
                bif ok20 (NetV.N (v18 ns)) (List.take (Int.toNat (v22 at_ (IntKind.wrap IntKind.i64 ((↑(List.length (NetV.T (v18 ns))) : Int) + (1 : Int)))) - Int.toNat (0 : Int)) (List.drop (Int.toNat (0 : Int)) (NetV.T (v18 ns)))) (NetV.X (v18 ns)) (NetV.C (v18 ns)) then
                 bif ok21 (NetV.N (v18 ns)) (List.take (Int.toNat (v22 at_ (IntKind.wrap IntKind.i64 ((↑(List.length (NetV.T (v18 ns))) : Int) + (1 : Int)))) - Int.toNat (0 : Int)) (List.drop (Int.toNat (0 : Int)) (NetV.T (v18 ns)))) (NetV.X (v18 ns)) (NetV.C (v18 ns)) then
                  some (.ret (CV.bool (Decidable.decide (v20 (NetV.N (v18 ns)) (List.take (Int.toNat (v22 at_ (IntKind.wrap IntKind.i64 ((↑(List.length (NetV.T (v18 ns))) : Int) + (1 : Int)))) - Int.toNat (0 : Int)) (List.drop (Int.toNat (0 : Int)) (NetV.T (v18 ns)))) (NetV.X (v18 ns)) (NetV.C (v18 ns)) = v21 (NetV.N (v18 ns)) (List.take (Int.toNat (v22 at_ (IntKind.wrap IntKind.i64 ((↑(List.length (NetV.T (v18 ns))) : Int) + (1 : Int)))) - Int.toNat (0 : Int)) (List.drop (Int.toNat (0 : Int)) (NetV.T (v18 ns)))) (NetV.X (v18 ns)) (NetV.C (v18 ns))))))
                 else
                  none
                else
                 none
               else
                none
              else
               none
             else
              none
            else
             none
           else
            bif Decidable.decide (v22 which (9 : Int) = (7 : Int)) then
             bif ok20 (NetV.N (v18 ns)) (NetV.T (v18 ns)) raw (NetV.C (v18 ns)) then
              bif ok21 (NetV.N (v18 ns)) (NetV.T (v18 ns)) raw (NetV.C (v18 ns)) then
               some (.ret (CV.bool (Decidable.decide (v20 (NetV.N (v18 ns)) (NetV.T (v18 ns)) raw (NetV.C (v18 ns)) = v21 (NetV.N (v18 ns)) (NetV.T (v18 ns)) raw (NetV.C (v18 ns))))))
              else
               none
             else
              none
            else
             bif Decidable.decide (v22 which (9 : Int) = (8 : Int)) then
              bif Decidable.decide ((0 : Int) < (↑(List.length (NetV.T (v18 ns))) : Int)) then
               bif ok22 at_ (↑(List.length (NetV.T (v18 ns))) : Int) then
                bif ok22 v (↑(List.length (NetV.T (v18 ns))) : Int) then
                 bif Decidable.decide ((0 : Int) ≤ v22 v (↑(List.length (NetV.T (v18 ns))) : Int)) then
                  bif Decidable.decide (v22 v (↑(List.length (NetV.T (v18 ns))) : Int) < (↑(List.length (NetV.X (v18 ns))) : Int)) then
                   ob ((NetV.X (v18 ns))[Int.toNat (v22 v (↑(List.length (NetV.T (v18 ns))) : Int))]?) fun x7 =>
                    bif Decidable.decide ((0 : Int) ≤ v22 at_ (↑(List.length (NetV.T (v18 ns))) : Int)) then
                     bif Decidable.decide (v22 at_ (↑(List.length (NetV.T (v18 ns))) : Int) < (↑(List.length (NetV.X (v18 ns))) : Int)) then
                      ob ((NetV.X (v18 ns))[Int.toNat (v22 at_ (↑(List.length (NetV.T (v18 ns))) : Int))]?) fun x8 =>
                       bif Decidable.decide ((0 : Int) ≤ v22 at_ (↑(List.length (NetV.T (v18 ns))) : Int)) then
                        bif Decidable.decide (v22 at_ (↑(List.length (NetV.T (v18 ns))) : Int) < (↑(List.length (NetV.X (v18 ns))) : Int)) then
                         ob ((NetV.X (v18 ns))[Int.toNat (v22 at_ (↑(List.length (NetV.T (v18 ns))) : Int))]?) fun x9 =>
                          bif Decidable.decide ((0 : Int) ≤ v22 v (↑(List.length (NetV.T (v18 ns))) : Int)) then
                           bif Decidable.decide (v22 v (↑(List.length (NetV.T (v18 ns))) : Int) < (↑(List.length (List.set (NetV.X (v18 ns)) (Int.toNat (v22 at_ (↑(List.length (NetV.T (v18 ns))) : Int))) x7)) : Int)) then
                            ob ((List.set (NetV.X (v18 ns)) (Int.toNat (v22 at_ (↑(List.length (NetV.T (v18 ns))) : Int))) x7)[Int.toNat (v22 v (↑(List.length (NetV.T (v18 ns))) : Int))]?) fun x10 =>
                             bif ok20 (NetV.N (v18 ns)) (NetV.T (v18 ns)) (List.set (List.set (NetV.X (v18 ns)) (Int.toNat (v22 at_ (↑(List.length (NetV.T (v18 ns))) : Int))) x7) (Int.toNat (v22 v (↑(List.length (NetV.T (v18 ns))) : Int))) x8) (NetV.C (v18 ns)) then
                              bif ok21 (NetV.N (v18 ns)) (NetV.T (v18 ns)) (List.set (List.set (NetV.X (v18 ns)) (Int.toNat (v22 at_ (↑(List.length (NetV.T (v18 ns))) : Int))) x7) (Int.toNat (v22 v (↑(List.length (NetV.T (v18 ns))) : Int))) x8) (NetV.C (v18 ns)) then
                               some (.ret (CV.bool (Decidable.decide (v20 (NetV.N (v18 ns)) (NetV.T (v18 ns)) (List.set (List.set (NetV.X (v18 ns)) (Int.toNat (v22 at_ (↑(List.length (NetV.T (v18 ns))) : Int))) x7) (Int.toNat (v22 v (↑(List.length (NetV.T (v18 ns))) : Int))) x8) (NetV.C (v18 ns)) = v21 (NetV.N (v18 ns)) (NetV.T (v18 ns)) (List.set (List.set (NetV.X (v18 ns)) (Int.toNat (v22 at_ (↑(List.length (NetV.T (v18 ns))) : Int))) x7) (Int.toNat (v22 v (↑(List.length (NetV.T (v18 ns))) : Int))) x8) (NetV.C (v18 ns))))))
                              else
                               none
                             else
                              none
                           else
                            none
                          else
                           none
                        else
                         none
                       else
                        none
                     else
                      none
                    else
                     none
                  else
                   none
                 else
                  none
                else
                 none
               else
                none
              else
               bif ok20 (NetV.N (v18 ns)) (NetV.T (v18 ns)) (NetV.X (v18 ns)) (NetV.C (v18 ns)) then
                bif ok21 (NetV.N (v18 ns)) (NetV.T (v18 ns)) (NetV.X (v18 ns)) (NetV.C (v18 ns)) then
                 some (.ret (CV.bool (Decidable.decide (v20 (NetV.N (v18 ns)) (NetV.T (v18 ns)) (NetV.X (v18 ns)) (NetV.C (v18 ns)) = v21 (NetV.N (v18 ns)) (NetV.T (v18 ns)) (NetV.X (v18 ns)) (NetV.C (v18 ns))))))
                else
                 none
               else
                none
             else
              bif ok20 (NetV.N (v18 ns)) (NetV.T (v18 ns)) (NetV.X (v18 ns)) (NetV.C (v18 ns)) then
               bif ok21 (NetV.N (v18 ns)) (NetV.T (v18 ns)) (NetV.X (v18 ns)) (NetV.C (v18 ns)) then
                some (.ret (CV.bool (Decidable.decide (v20 (NetV.N (v18 ns)) (NetV.T (v18 ns)) (NetV.X (v18 ns)) (NetV.C (v18 ns)) = v21 (NetV.N (v18 ns)) (NetV.T (v18 ns)) (NetV.X (v18 ns)) (NetV.C (v18 ns))))))
               else
                none
              else
               none
    else
     none
   else
    none
theorem c4 (fu : Nat) (ns : List Int) (which : Int) (at_ : Int) (v : Int) (raw : List Int) : cutB (E4 fu) kr4 Try.f4 (⟨parT 0 [.sl .int ns, .int .i64 which, .int .i64 at_, .int .i64 v, .sl .int raw], []⟩) = t4 ns which at_ v raw := by kernel_rfl
def R4 (ns : List Int) (which : Int) (at_ : Int) (v : Int) (raw : List Int) (r : Bool) : Prop := RunF E4 true Try.f4 [.sl .int ns, .int .i64 which, .int .i64 at_, .int .i64 v, .sl .int raw] (.bool r)
theorem run4 (ns : List Int) (which : Int) (at_ : Int) (v : Int) (raw : List Int) (r : Bool) (h : Good E4 kr4 (t4 ns which at_ v raw) (.bool r)) : R4 ns which at_ v raw r := RunF.of fuel4 (fun fu => c4 fu ns which at_ v raw) h
noncomputable def ok4 (ns : List Int) (which : Int) (at_ : Int) (v : Int) (raw : List Int) : Bool := okP (R4 ns which at_ v raw)
noncomputable def v4 (ns : List Int) (which : Int) (at_ : Int) (v : Int) (raw : List Int) : Bool := valP (R4 ns which at_ v raw)
theorem sp4 (ns : List Int) (which : Int) (at_ : Int) (v : Int) (raw : List Int) (r : Bool) (h : R4 ns which at_ v raw r) : ok4 ns which at_ v raw = true ∧ v4 ns which at_ v raw = r := okP_of h fun b hb => by
  have := RunF.uniq hb h
  simp_all
theorem at4 : P.funcs[4]? = some Try.f4 := by kernel_rfl
theorem callable4 : callable 4 = true := by kernel_rfl
theorem semok4 : SemOk (semOf ents4) := EntsOk.sem (.cons entok17 (.cons entok18 (.cons entok20 (.cons entok21 (.cons entok22 (.nil))))))
theorem memok4 : MemOk (memOf mems4) := EntsMOk.mem (.nil)
noncomputable def ent4 : Ent := fun args => match args with
  | [.sl .int ns, .int .i64 which, .int .i64 at_, .int .i64 v, .sl .int raw] => some (true, ok4 ns which at_ v raw, .bool (v4 ns which at_ v raw))
  | _ => none
theorem entok4 : EntOk 4 ent4 := fun args own r h => by
  unfold ent4 at h
  split at h
  · simp only [Option.some.injEq, Prod.mk.injEq] at h
    obtain ⟨rfl, h, rfl⟩ := h
    exact ⟨RunF.calls (fun _ => semok4) (fun _ => memok4) at4 rfl (Nat.le_of_ble_eq_true rfl) (fun _ => rfl) (okP_val h), callable4⟩
  · cases h
end Go.Proofs.Ytnfgfdeidkhdkaa.Eng
/- P29: watershed/rot.Turn: its run from loop to loop, as Lean printed it (a program of this session's wrote these rows). No condition. -/
namespace Go.Proofs.Ytnfgfdeidkhdkaa.Eng
set_option linter.unusedVariables false
set_option maxRecDepth 100000
noncomputable def ents29 : List (Nat × Ent) := [(76, ent76)]
noncomputable def mems29 : List (Nat × EntM) := []
noncomputable def E29 (fu : Nat) : Env := ⟨42, 0, semOf ents29, [], memOf mems29, [], [(100003, ⟨[], [(2, none), (2, some 0), (2, some 1), (2, some 2), (2, some 3), (3, none), (3, some 0), (3, some 1), (3, some 2), (3, some 3), (19, none), (20, none), (21, none)], [2, 3, 19, 20, 21]⟩)], fu⟩
theorem fuel29 : Fuel E29 := fun _ => rfl
noncomputable def kr29 : St → Option CV := endK true Try.f29.results.toList
noncomputable def K29_3 : List Fr := theK Try.f29 100003
noncomputable def C29_3 : Code := theC Try.f29 100003
def s29_3 (l19 : List Int) (i20 : Int) (i21 : Int) (iM0_0 : Int) (lM0_1 : List Int) (lM0_2 : List Int) (lM0_3 : List Int) (iM1_0 : Int) (mM2 : List Int) (mM3 : List Int) (mM4 : List Int) : St := ⟨[(2, .ptr 8000 0), (3, .ptr 8001 0), (19, .sl .int l19), (20, .int .i64 i20), (21, .int .i64 i21)], [(8000, some (.cells 25 [.int .i64 iM0_0, .sl .int lM0_1, .sl .int lM0_2, .sl .int lM0_3])), (8001, some (.cells 25 [.int .i64 iM1_0, .ref 8002, .ref 8003, .ref 8004])), (8002, some (.arr true .int mM2)), (8003, some (.arr true .int mM3)), (8004, some (.arr true .int mM4))]⟩
noncomputable def a29_3 (l19 : List Int) (i20 : Int) (i21 : Int) (iM0_0 : Int) (lM0_1 : List Int) (lM0_2 : List Int) (lM0_3 : List Int) (iM1_0 : Int) (mM2 : List Int) (mM3 : List Int) (mM4 : List Int) : Leaf := .at K29_3 C29_3 (s29_3 l19 i20 i21 iM0_0 lM0_1 lM0_2 lM0_3 iM1_0 mM2 mM3 mM4)
noncomputable def t29_3 (l19 : List Int) (i20 : Int) (i21 : Int) (iM0_0 : Int) (lM0_1 : List Int) (lM0_2 : List Int) (lM0_3 : List Int) (iM1_0 : Int) (mM2 : List Int) (mM3 : List Int) (mM4 : List Int) : Option Leaf :=
  bif Decidable.decide (i21 < i20) then
   bif Decidable.decide ((0 : Int) ≤ i21) then
    ob (l19[Int.toNat i21]?) fun x1 =>
     bif Decidable.decide ((0 : Int) ≤ x1) then
      bif Decidable.decide (x1 < (↑(List.length mM3) : Int)) then
       bif Decidable.decide ((0 : Int) ≤ x1) then
        bif Decidable.decide (x1 < (↑(List.length mM3) : Int)) then
         ob (mM3[Int.toNat x1]?) fun x2 =>
          some (a29_3 l19 i20 (IntKind.wrap IntKind.i64 (i21 + (1 : Int))) iM0_0 lM0_1 lM0_2 lM0_3 iM1_0 mM2 (List.set mM3 (Int.toNat x1) i21) mM4)
        else
         none
       else
        none
      else
       some (a29_3 l19 i20 (IntKind.wrap IntKind.i64 (i21 + (1 : Int))) iM0_0 lM0_1 lM0_2 lM0_3 iM1_0 mM2 mM3 mM4)
     else
      some (a29_3 l19 i20 (IntKind.wrap IntKind.i64 (i21 + (1 : Int))) iM0_0 lM0_1 lM0_2 lM0_3 iM1_0 mM2 mM3 mM4)
   else
    none
  else
   some (.ret (CV.agg [CV.int IntKind.i64 iM1_0, CV.sl SK.int mM2, CV.sl SK.int mM3, CV.sl SK.int mM4]))
theorem c29_3 (fu : Nat) (l19 : List Int) (i20 : Int) (i21 : Int) (iM0_0 : Int) (lM0_1 : List Int) (lM0_2 : List Int) (lM0_3 : List Int) (iM1_0 : Int) (mM2 : List Int) (mM3 : List Int) (mM4 : List Int) : cutL (E29 fu) kr29 K29_3 C29_3 (s29_3 l19 i20 i21 iM0_0 lM0_1 lM0_2 lM0_3 iM1_0 mM2 mM3 mM4) = t29_3 l19 i20 i21 iM0_0 lM0_1 lM0_2 lM0_3 iM1_0 mM2 mM3 mM4 := by kernel_rfl
theorem h29_3 (l19 : List Int) (i20 : Int) (i21 : Int) (iM0_0 : Int) (lM0_1 : List Int) (lM0_2 : List Int) (lM0_3 : List Int) (iM1_0 : Int) (mM2 : List Int) (mM3 : List Int) (mM4 : List Int) (r : CV) (h : Good E29 kr29 (t29_3 l19 i20 i21 iM0_0 lM0_1 lM0_2 lM0_3 iM1_0 mM2 mM3 mM4) r) : Lead E29 kr29 r (a29_3 l19 i20 i21 iM0_0 lM0_1 lM0_2 lM0_3 iM1_0 mM2 mM3 mM4) := Lead.at fuel29 (fun fu => c29_3 fu l19 i20 i21 iM0_0 lM0_1 lM0_2 lM0_3 iM1_0 mM2 mM3 mM4) h
noncomputable def t29 (gN : Int) (gT : List Int) (gX : List Int) (gC : List Int) : Option Leaf :=
  bif Nat.ble (List.length gT) (4294967296 : Nat) then
   bif Nat.ble (List.length gX) (4294967296 : Nat) then
    bif Nat.ble (List.length gC) (4294967296 : Nat) then
     some (a29_3 gX ((↑(List.length gX) : Int)) ((0 : Int)) ((0 : Int)) [] [] [] gN gT gX gC)
    else
     none
   else
    none
  else
   none
theorem c29 (fu : Nat) (gN : Int) (gT : List Int) (gX : List Int) (gC : List Int) : cutB (E29 fu) kr29 Try.f29 (⟨parT 0 [.agg [.int .i64 gN, .sl .int gT, .sl .int gX, .sl .int gC]], []⟩) = t29 gN gT gX gC := by kernel_rfl
def R29 (gN : Int) (gT : List Int) (gX : List Int) (gC : List Int) (r : NetV) : Prop := RunF E29 true Try.f29 [.agg [.int .i64 gN, .sl .int gT, .sl .int gX, .sl .int gC]] (.agg [.int .i64 r.N, .sl .int r.T, .sl .int r.X, .sl .int r.C])
theorem run29 (gN : Int) (gT : List Int) (gX : List Int) (gC : List Int) (r : NetV) (h : Good E29 kr29 (t29 gN gT gX gC) (.agg [.int .i64 r.N, .sl .int r.T, .sl .int r.X, .sl .int r.C])) : R29 gN gT gX gC r := RunF.of fuel29 (fun fu => c29 fu gN gT gX gC) h
noncomputable def ok29 (gN : Int) (gT : List Int) (gX : List Int) (gC : List Int) : Bool := okP (R29 gN gT gX gC)
noncomputable def v29 (gN : Int) (gT : List Int) (gX : List Int) (gC : List Int) : NetV := valP (R29 gN gT gX gC)
theorem sp29 (gN : Int) (gT : List Int) (gX : List Int) (gC : List Int) (r : NetV) (h : R29 gN gT gX gC r) : ok29 gN gT gX gC = true ∧ v29 gN gT gX gC = r := okP_of h fun b hb => by
  have := RunF.uniq hb h
  cases b; cases r; simp_all
theorem at29 : P.funcs[29]? = some Try.f29 := by kernel_rfl
theorem callable29 : callable 29 = true := by kernel_rfl
theorem semok29 : SemOk (semOf ents29) := EntsOk.sem (.cons entok76 (.nil))
theorem memok29 : MemOk (memOf mems29) := EntsMOk.mem (.nil)
noncomputable def ent29 : Ent := fun args => match args with
  | [.agg [.int .i64 gN, .sl .int gT, .sl .int gX, .sl .int gC]] => some (true, ok29 gN gT gX gC, .agg [.int .i64 (v29 gN gT gX gC).N, .sl .int (v29 gN gT gX gC).T, .sl .int (v29 gN gT gX gC).X, .sl .int (v29 gN gT gX gC).C])
  | _ => none
theorem entok29 : EntOk 29 ent29 := fun args own r h => by
  unfold ent29 at h
  split at h
  · simp only [Option.some.injEq, Prod.mk.injEq] at h
    obtain ⟨rfl, h, rfl⟩ := h
    exact ⟨RunF.calls (fun _ => semok29) (fun _ => memok29) at29 rfl (Nat.le_of_ble_eq_true rfl) (fun _ => rfl) (okP_val h), callable29⟩
  · cases h
end Go.Proofs.Ytnfgfdeidkhdkaa.Eng
/- P8: watershed/watershedlaw2.RotGrows: its run from loop to loop, as Lean printed it (a program of this session's wrote these rows). No condition. -/
namespace Go.Proofs.Ytnfgfdeidkhdkaa.Eng
set_option linter.unusedVariables false
set_option maxRecDepth 100000
noncomputable def ents8 : List (Nat × Ent) := [(17, ent17), (18, ent18), (19, ent19), (20, ent20), (21, ent21), (22, ent22), (29, ent29), (33, ent33)]
noncomputable def mems8 : List (Nat × EntM) := []
noncomputable def E8 (fu : Nat) : Env := ⟨109, 0, semOf ents8, [], memOf mems8, [], [(100011, ⟨[], [(2, none), (3, none), (9, none), (9, some 0), (9, some 1), (9, some 2), (9, some 3), (11, none), (12, none)], [2, 3, 9, 11, 12]⟩)], fu⟩
theorem fuel8 : Fuel E8 := fun _ => rfl
noncomputable def kr8 : St → Option CV := endK true Try.f8.results.toList
noncomputable def K8_11 : List Fr := theK Try.f8 100011
noncomputable def C8_11 : Code := theC Try.f8 100011
def s8_11 (i2 : Int) (l3 : List Int) (i12 : Int) (iM0_0 : Int) (mM1 : List Int) (mM2 : List Int) (mM3 : List Int) (mM4 : List Int) : St := ⟨[(2, .int .i64 i2), (3, .sl .int l3), (9, .ptr 8000 0), (11, .ref 8004), (12, .int .i64 i12)], [(8000, some (.cells 25 [.int .i64 iM0_0, .ref 8001, .ref 8002, .ref 8003])), (8001, some (.arr false .int mM1)), (8002, some (.arr false .int mM2)), (8003, some (.arr false .int mM3)), (8004, some (.arr false .int mM4))]⟩
noncomputable def a8_11 (i2 : Int) (l3 : List Int) (i12 : Int) (iM0_0 : Int) (mM1 : List Int) (mM2 : List Int) (mM3 : List Int) (mM4 : List Int) : Leaf := .at K8_11 C8_11 (s8_11 i2 l3 i12 iM0_0 mM1 mM2 mM3 mM4)
noncomputable def t8_11 (i2 : Int) (l3 : List Int) (i12 : Int) (iM0_0 : Int) (mM1 : List Int) (mM2 : List Int) (mM3 : List Int) (mM4 : List Int) : Option Leaf :=
  bif Decidable.decide (i12 < (3 : Int)) then
   bif Decidable.decide ((0 : Int) ≤ i12) then
    bif Decidable.decide (i12 < (↑(List.length mM4) : Int)) then
     ob (mM4[Int.toNat i12]?) fun x1 =>
      bif Decidable.decide (x1 < (0 : Int)) then
       some (.ret (CV.bool Bool.false))
      else
       bif Decidable.decide ((0 : Int) ≤ i12) then
        bif Decidable.decide (i12 < (↑(List.length mM4) : Int)) then
         ob (mM4[Int.toNat i12]?) fun x2 =>
          bif Decidable.decide ((↑(List.length mM2) : Int) ≤ x2) then
           some (.ret (CV.bool Bool.false))
          else
           some (a8_11 i2 l3 (IntKind.wrap IntKind.i64 (i12 + (1 : Int))) iM0_0 mM1 mM2 mM3 mM4)
        else
         none
       else
        none
    else
     none
   else
    none
  else
   bif Decidable.decide ((0 : Int) < (↑(List.length mM4) : Int)) then
    ob (mM4[Int.toNat (0 : Int)]?) fun x3 =>
     bif Decidable.decide ((1 : Int) < (↑(List.length mM4) : Int)) then
      ob (mM4[Int.toNat (1 : Int)]?) fun x4 =>
       bif Decidable.decide ((2 : Int) < (↑(List.length mM4) : Int)) then
        ob (mM4[Int.toNat (2 : Int)]?) fun x5 =>
         bif Decidable.decide ((2 : Int) < (↑(List.length mM4) : Int)) then
          ob (mM4[Int.toNat (2 : Int)]?) fun x6 =>
           bif Decidable.decide ((2 : Int) < (↑(List.length mM4) : Int)) then
            ob (mM4[Int.toNat (2 : Int)]?) fun x7 =>
             bif Decidable.decide ((0 : Int) ≤ x7) then
              bif Decidable.decide (x7 < (↑(List.length mM2) : Int)) then
               ob (mM2[Int.toNat x7]?) fun x8 =>
                bif Decidable.decide ((1 : Int) < (↑(List.length mM4) : Int)) then
                 ob (mM4[Int.toNat (1 : Int)]?) fun x9 =>
                  bif Decidable.decide ((0 : Int) ≤ x3) then
                   bif Decidable.decide (x3 < (↑(List.length mM2) : Int)) then
                    ob (mM2[Int.toNat x3]?) fun x10 =>
                     bif Decidable.decide ((0 : Int) ≤ x4) then
                      bif Decidable.decide (x4 < (↑(List.length (List.set mM2 (Int.toNat x3) x6)) : Int)) then
                       ob ((List.set mM2 (Int.toNat x3) x6)[Int.toNat x4]?) fun x11 =>
                        bif Decidable.decide ((0 : Int) ≤ x5) then
                         bif Decidable.decide (x5 < (↑(List.length (List.set (List.set mM2 (Int.toNat x3) x6) (Int.toNat x4) x8)) : Int)) then
                          ob ((List.set (List.set mM2 (Int.toNat x3) x6) (Int.toNat x4) x8)[Int.toNat x5]?) fun x12 =>
                           bif ok20 iM0_0 mM1 (List.set (List.set (List.set mM2 (Int.toNat x3) x6) (Int.toNat x4) x8) (Int.toNat x5) x9) mM3 then
                            bif ok19 i2 l3 then
                             bif ok21 iM0_0 mM1 (List.set (List.set (List.set mM2 (Int.toNat x3) x6) (Int.toNat x4) x8) (Int.toNat x5) x9) mM3 then
                              bif Decidable.decide (v20 iM0_0 mM1 (List.set (List.set (List.set mM2 (Int.toNat x3) x6) (Int.toNat x4) x8) (Int.toNat x5) x9) mM3 = v21 iM0_0 mM1 (List.set (List.set (List.set mM2 (Int.toNat x3) x6) (Int.toNat x4) x8) (Int.toNat x5) x9) mM3) then
                               bif Decidable.decide (v20 iM0_0 mM1 (List.set (List.set (List.set mM2 (Int.toNat x3) x6) (Int.toNat x4) x8) (Int.toNat x5) x9) mM3 = (0 : Int)) then
                                bif ok29 (NetV.N (v19 i2 l3)) (NetV.T (v19 i2 l3)) (NetV.X (v19 i2 l3)) (NetV.C (v19 i2 l3)) then
                                 some (.ret (CV.bool (Decidable.decide (NetV.N (v29 (NetV.N (v19 i2 l3)) (NetV.T (v19 i2 l3)) (NetV.X (v19 i2 l3)) (NetV.C (v19 i2 l3))) = NetV.N (v19 i2 l3)))))
                                else
                                 none
                               else
                                bif Decidable.decide (v20 iM0_0 mM1 (List.set (List.set (List.set mM2 (Int.toNat x3) x6) (Int.toNat x4) x8) (Int.toNat x5) x9) mM3 = (8 : Int)) then
                                 bif ok29 (NetV.N (v19 i2 l3)) (NetV.T (v19 i2 l3)) (NetV.X (v19 i2 l3)) (NetV.C (v19 i2 l3)) then
                                  some (.ret (CV.bool (Decidable.decide (NetV.N (v29 (NetV.N (v19 i2 l3)) (NetV.T (v19 i2 l3)) (NetV.X (v19 i2 l3)) (NetV.C (v19 i2 l3))) = NetV.N (v19 i2 l3)))))
                                 else
                                  none
                                else
                                 some (.ret (CV.bool Bool.false))
                              else
                               some (.ret (CV.bool Bool.false))
                             else
                              none
                            else
                             none
                           else
                            none
                         else
                          none
                        else
                         none
                      else
                       none
                     else
                      none
                   else
                    none
                  else
                   none
                else
                 none
              else
               none
             else
              none
           else
            none
         else
          none
       else
        none
     else
      none
   else
    none
theorem c8_11 (fu : Nat) (i2 : Int) (l3 : List Int) (i12 : Int) (iM0_0 : Int) (mM1 : List Int) (mM2 : List Int) (mM3 : List Int) (mM4 : List Int) : cutL (E8 fu) kr8 K8_11 C8_11 (s8_11 i2 l3 i12 iM0_0 mM1 mM2 mM3 mM4) = t8_11 i2 l3 i12 iM0_0 mM1 mM2 mM3 mM4 := by kernel_rfl
theorem h8_11 (i2 : Int) (l3 : List Int) (i12 : Int) (iM0_0 : Int) (mM1 : List Int) (mM2 : List Int) (mM3 : List Int) (mM4 : List Int) (r : CV) (h : Good E8 kr8 (t8_11 i2 l3 i12 iM0_0 mM1 mM2 mM3 mM4) r) : Lead E8 kr8 r (a8_11 i2 l3 i12 iM0_0 mM1 mM2 mM3 mM4) := Lead.at fuel8 (fun fu => c8_11 fu i2 l3 i12 iM0_0 mM1 mM2 mM3 mM4) h
noncomputable def t8 (ns : List Int) (d : Int) (size : Int) (ms : List Int) : Option Leaf :=
  bif ok18 ns then
   bif Decidable.decide ((↑(List.length (NetV.T (v18 ns))) : Int) = (0 : Int)) then
    some (.ret (CV.bool Bool.true))
   else
    bif ok22 d (↑(List.length (NetV.T (v18 ns))) : Int) then
     bif ok33 (NetV.N (v18 ns)) (NetV.T (v18 ns)) (NetV.X (v18 ns)) (NetV.C (v18 ns)) (v22 d (↑(List.length (NetV.T (v18 ns))) : Int)) then
      bif Decidable.decide ((↑(List.length (v33 (NetV.N (v18 ns)) (NetV.T (v18 ns)) (NetV.X (v18 ns)) (NetV.C (v18 ns)) (v22 d (↑(List.length (NetV.T (v18 ns))) : Int)))) : Int) < (3 : Int)) then
       some (.ret (CV.bool Bool.true))
      else
       some (a8_11 size ms ((0 : Int)) (NetV.N (v18 ns)) (NetV.T (v18 ns)) (NetV.X (v18 ns)) (NetV.C (v18 ns)) (v33 (NetV.N (v18 ns)) (NetV.T (v18 ns)) (NetV.X (v18 ns)) (NetV.C (v18 ns)) (v22 d (↑(List.length (NetV.T (v18 ns))) : Int))))
     else
      none
    else
     none
  else
   none
theorem c8 (fu : Nat) (ns : List Int) (d : Int) (size : Int) (ms : List Int) : cutB (E8 fu) kr8 Try.f8 (⟨parT 0 [.sl .int ns, .int .i64 d, .int .i64 size, .sl .int ms], []⟩) = t8 ns d size ms := by kernel_rfl
def R8 (ns : List Int) (d : Int) (size : Int) (ms : List Int) (r : Bool) : Prop := RunF E8 true Try.f8 [.sl .int ns, .int .i64 d, .int .i64 size, .sl .int ms] (.bool r)
theorem run8 (ns : List Int) (d : Int) (size : Int) (ms : List Int) (r : Bool) (h : Good E8 kr8 (t8 ns d size ms) (.bool r)) : R8 ns d size ms r := RunF.of fuel8 (fun fu => c8 fu ns d size ms) h
noncomputable def ok8 (ns : List Int) (d : Int) (size : Int) (ms : List Int) : Bool := okP (R8 ns d size ms)
noncomputable def v8 (ns : List Int) (d : Int) (size : Int) (ms : List Int) : Bool := valP (R8 ns d size ms)
theorem sp8 (ns : List Int) (d : Int) (size : Int) (ms : List Int) (r : Bool) (h : R8 ns d size ms r) : ok8 ns d size ms = true ∧ v8 ns d size ms = r := okP_of h fun b hb => by
  have := RunF.uniq hb h
  simp_all
theorem at8 : P.funcs[8]? = some Try.f8 := by kernel_rfl
theorem callable8 : callable 8 = true := by kernel_rfl
theorem semok8 : SemOk (semOf ents8) := EntsOk.sem (.cons entok17 (.cons entok18 (.cons entok19 (.cons entok20 (.cons entok21 (.cons entok22 (.cons entok29 (.cons entok33 (.nil)))))))))
theorem memok8 : MemOk (memOf mems8) := EntsMOk.mem (.nil)
noncomputable def ent8 : Ent := fun args => match args with
  | [.sl .int ns, .int .i64 d, .int .i64 size, .sl .int ms] => some (true, ok8 ns d size ms, .bool (v8 ns d size ms))
  | _ => none
theorem entok8 : EntOk 8 ent8 := fun args own r h => by
  unfold ent8 at h
  split at h
  · simp only [Option.some.injEq, Prod.mk.injEq] at h
    obtain ⟨rfl, h, rfl⟩ := h
    exact ⟨RunF.calls (fun _ => semok8) (fun _ => memok8) at8 rfl (Nat.le_of_ble_eq_true rfl) (fun _ => rfl) (okP_val h), callable8⟩
  · cases h
end Go.Proofs.Ytnfgfdeidkhdkaa.Eng
/- Ls: RotPlanes, RotChecks, RotGrows. -/
namespace Go.Proofs.Ytnfgfdeidkhdkaa.Eng
set_option linter.unusedVariables false
set_option linter.unusedSimpArgs false
theorem ok20_t (N : Int) (T X C : List Int) : ok20 N T X C = true := (f20 N T X C).1
theorem ok21_t (N : Int) (T X C : List Int) : ok21 N T X C = true := (f21 N T X C).1
theorem v20_e (N : Int) (T X C : List Int) : v20 N T X C = checkE N T X C := (f20 N T X C).2
theorem v21_e (N : Int) (T X C : List Int) : v21 N T X C = checkE N T X C := (f21 N T X C).2
theorem ok19_t (s : Int) (ms : List Int) : ok19 s ms = true := (f19 s ms).1
theorem ok18_t (ns : List Int) : ok18 ns = true := (f18 ns).1
theorem f3 (ns : List Int) (size : Int) (ms : List Int) : R3 ns size ms true := by
  obtain ⟨a1, a2, -⟩ := f18 ns
  refine run3 _ _ _ _ ?_
  unfold t3
  simp only [ok20_t, ok21_t, v20_e, v21_e, ok18_t, ok19_t, cond_true, a2.check, decide_true]
  exact good_end rfl
theorem rotPlanes_calls (ns : List Int) (size : Int) (ms : List Int) : CallsC 3 [.sl .int ns, .int .i64 size, .sl .int ms] true (.bool true) :=
  RunF.calls (fun _ => semok3) (fun _ => memok3) at3 rfl (Nat.le_of_ble_eq_true rfl) (fun _ => rfl) (f3 ns size ms)
theorem two_len (x y : Int) : (([x, y] : List Int).length : Int) = 2 := rfl
theorem five_len (a b c d e : Int) : (([a, b, c, d, e] : List Int).length : Int) = 5 := rfl
theorem f4 (ns : List Int) (which a v : Int) (raw : List Int) : R4 ns which a v raw true := by
  obtain ⟨a1, a2, a3, a4⟩ := f18 ns
  obtain ⟨w1, w2, w3⟩ := f22 (a := which) (n := 9) (by decide) (by decide)
  refine run4 _ _ _ _ _ _ ?_
  unfold t4
  by_cases cr : 300 < (raw.length : Int)
  · repeat (first | (refine good_pos (by omega) ?_) | (refine good_pos trivial ?_) | (refine good_neg (by omega) ?_) | (refine good_npos (by omega) ?_) | (refine good_nneg (by omega) ?_) | (refine good_gi (by omega) (by omega) ?_) | (refine good_gb (by omega) (by omega) ?_) | (refine good_ble (by omega) ?_))
    exact good_end rfl
  refine good_neg cr ?_
  simp only [ok20_t, ok21_t, v20_e, v21_e, ok18_t, cond_true, w1, decide_true]
  generalize v18 ns = m at a2 a3 a4 ⊢
  have hs := a2.s
  have hx := hs.x
  have hc := hs.c
  have hn0 := hs.n0
  have hn1 := hs.n1
  generalize v22 which 9 = w at w2 w3 ⊢
  by_cases cT : 0 < (m.T.length : Int)
  · obtain ⟨b1, b2, b3⟩ := f22 (a := a) (n := (m.T.length : Int)) cT (by omega)
    obtain ⟨c1, c2, c3⟩ := f22 (a := v) (n := (m.T.length : Int)) cT (by omega)
    obtain ⟨d1, d2, d3⟩ := f22 (a := v) (n := m.N) (by omega) (by omega)
    obtain ⟨e1, e2, e3⟩ := f22 (a := v) (n := 2) (by omega) (by omega)
    obtain ⟨g1, g2, g3⟩ := f22 (a := v) (n := 5) (by omega) (by omega)
    obtain ⟨h1, h2, h3⟩ := f22 (a := v) (n := 3) (by omega) (by omega)
    obtain ⟨i1, i2, i3⟩ := f22 (a := a) (n := (m.T.length : Int) + 1) (by omega) (by omega)
    have e0 : IntKind.wrap IntKind.i64 ((m.T.length : Int) + 1) = (m.T.length : Int) + 1 := wrap_in (by omega) (by omega)
    simp only [b1, c1, d1, e1, g1, h1, e0, i1, cond_true, two_len, five_len, List.length_set]
    have hw : w = 0 ∨ w = 1 ∨ w = 2 ∨ w = 3 ∨ w = 4 ∨ w = 5 ∨ w = 6 ∨ w = 7 ∨ w = 8 := by omega
    rcases hw with rfl | rfl | rfl | rfl | rfl | rfl | rfl | rfl | rfl
    all_goals
      repeat (first | (refine good_pos (by omega) ?_) | (refine good_pos trivial ?_) | (refine good_neg (by omega) ?_) | (refine good_npos (by omega) ?_) | (refine good_nneg (by omega) ?_) | (refine good_gi (by omega) (by omega) ?_) | (refine good_gb (by omega) (by omega) ?_) | (refine good_ble (by omega) ?_))
    · exact good_end rfl
    · exact good_end rfl
    · exact good_end rfl
    · exact good_end rfl
    · exact good_end rfl
    · exact good_end rfl
    · exact good_end rfl
    · exact good_end rfl
    · refine good_gi c2 (by rw [List.length_set]; omega) ?_
      exact good_end rfl
  · obtain ⟨h1, h2, h3⟩ := f22 (a := v) (n := 3) (by omega) (by omega)
    obtain ⟨i1, i2, i3⟩ := f22 (a := a) (n := (m.T.length : Int) + 1) (by omega) (by omega)
    have e0 : IntKind.wrap IntKind.i64 ((m.T.length : Int) + 1) = (m.T.length : Int) + 1 := wrap_in (by omega) (by omega)
    simp only [h1, e0, i1, cond_true]
    have hw : w = 0 ∨ w = 1 ∨ w = 2 ∨ w = 3 ∨ w = 4 ∨ w = 5 ∨ w = 6 ∨ w = 7 ∨ w = 8 := by omega
    rcases hw with rfl | rfl | rfl | rfl | rfl | rfl | rfl | rfl | rfl
    all_goals
      repeat (first | (refine good_pos (by omega) ?_) | (refine good_pos trivial ?_) | (refine good_neg (by omega) ?_) | (refine good_npos (by omega) ?_) | (refine good_nneg (by omega) ?_) | (refine good_gi (by omega) (by omega) ?_) | (refine good_gb (by omega) (by omega) ?_) | (refine good_ble (by omega) ?_))
      exact good_end rfl
theorem rotChecks_calls (ns : List Int) (which a v : Int) (raw : List Int) : CallsC 4 [.sl .int ns, .int .i64 which, .int .i64 a, .int .i64 v, .sl .int raw] true (.bool true) :=
  RunF.calls (fun _ => semok4) (fun _ => memok4) at4 rfl (Nat.le_of_ble_eq_true rfl) (fun _ => rfl) (f4 ns which a v raw)
/-! ### RotGrows -/
section
variable {n' : Int} {a b c : List Int}
theorem l29_3 {N : Int} {T X C : List Int} (hx : (X.length : Int) ≤ 240) : ∀ (n : Nat) (i : Int) (Y : List Int), 0 ≤ i → i ≤ X.length → (X.length : Int) - i = n →
    ∃ Z : List Int, Z.length = Y.length ∧ (∀ u : Int, 0 ≤ u → (∀ d : Int, i ≤ d → d < (X.length : Int) → gi X d ≠ u) → gi Z u = gi Y u) ∧
      (∀ d : Int, i ≤ d → d < (X.length : Int) → 0 ≤ gi X d → gi X d < (Y.length : Int) → (∀ e : Int, d < e → e < (X.length : Int) → gi X e ≠ gi X d) → gi Z (gi X d) = d) ∧
      Lead E29 kr29 (.agg [.int .i64 N, .sl .int T, .sl .int Z, .sl .int C]) (a29_3 X (X.length : Int) i n' a b c N T Y C) := by
  intro n
  induction n with
  | zero =>
    intro i Y i0 i1 i2
    refine ⟨Y, rfl, fun u _ _ => rfl, fun d d0 d1 => by omega, h29_3 _ _ _ _ _ _ _ _ _ _ _ _ ?_⟩
    unfold t29_3
    repeat (first | (refine good_pos (by omega) ?_) | (refine good_pos trivial ?_) | (refine good_neg (by omega) ?_) | (refine good_npos (by omega) ?_) | (refine good_nneg (by omega) ?_) | (refine good_gi (by omega) (by omega) ?_) | (refine good_gb (by omega) (by omega) ?_) | (refine good_ble (by omega) ?_))
    exact good_end rfl
  | succ n ih =>
    intro i Y i0 i1 i2
    by_cases c1 : 0 ≤ gi X i ∧ gi X i < (Y.length : Int)
    · obtain ⟨Z, z1, z2, z3, z4⟩ := ih (i + 1) (Y.set (gi X i).toNat i) (by omega) (by omega) (by omega)
      rw [List.length_set] at z1 z3
      refine ⟨Z, z1, fun u u0 hu => ?_, fun d d0 d1 dx0 dx1 hd => ?_, h29_3 _ _ _ _ _ _ _ _ _ _ _ _ ?_⟩
      · rw [z2 u u0 fun d d0 d1 => hu d (by omega) d1, gi_set c1.1 c1.2 u0, if_neg (fun e => hu i (by omega) (by omega) e.symm)]
      · by_cases e : d = i
        · subst e
          rw [z2 _ dx0 fun e e0 e1 => hd e (by omega) e1, gi_set c1.1 c1.2 dx0, if_pos rfl]
        · exact z3 d (by omega) d1 dx0 dx1 hd
      · unfold t29_3
        simp (disch := omega) only [wrap_in]
        repeat (first | (refine good_pos (by omega) ?_) | (refine good_pos trivial ?_) | (refine good_neg (by omega) ?_) | (refine good_npos (by omega) ?_) | (refine good_nneg (by omega) ?_) | (refine good_gi (by omega) (by omega) ?_) | (refine good_gb (by omega) (by omega) ?_) | (refine good_ble (by omega) ?_))
        exact good_at z4
    · obtain ⟨Z, z1, z2, z3, z4⟩ := ih (i + 1) Y (by omega) (by omega) (by omega)
      refine ⟨Z, z1, fun u u0 hu => z2 u u0 fun d d0 d1 => hu d (by omega) d1, fun d d0 d1 dx0 dx1 hd => ?_, h29_3 _ _ _ _ _ _ _ _ _ _ _ _ ?_⟩
      · by_cases e : d = i
        · subst e; exact absurd ⟨dx0, dx1⟩ c1
        · exact z3 d (by omega) d1 dx0 dx1 hd
      · unfold t29_3
        simp (disch := omega) only [wrap_in]
        by_cases c2 : 0 ≤ gi X i
        · repeat (first | (refine good_pos (by omega) ?_) | (refine good_pos trivial ?_) | (refine good_neg (by omega) ?_) | (refine good_npos (by omega) ?_) | (refine good_nneg (by omega) ?_) | (refine good_gi (by omega) (by omega) ?_) | (refine good_gb (by omega) (by omega) ?_) | (refine good_ble (by omega) ?_))
          exact good_at z4
        · repeat (first | (refine good_pos (by omega) ?_) | (refine good_pos trivial ?_) | (refine good_neg (by omega) ?_) | (refine good_npos (by omega) ?_) | (refine good_nneg (by omega) ?_) | (refine good_gi (by omega) (by omega) ?_) | (refine good_gb (by omega) (by omega) ?_) | (refine good_ble (by omega) ?_))
          exact good_at z4
end
/-- the net seen from behind -/
structure TurnR (N : Int) (T X C : List Int) (m : NetV) : Prop where
  n : m.N = N
  t : m.T = T
  c : m.C = C
  len : m.X.length = X.length
  inv : (∀ d e : Int, 0 ≤ d → d < (X.length : Int) → 0 ≤ e → e < (X.length : Int) → gi X d = gi X e → d = e) → InR X X.length → ∀ d : Int, 0 ≤ d → d < (X.length : Int) → gi m.X (gi X d) = d
theorem f29 {N : Int} {T X C : List Int} (hT : (T.length : Int) ≤ 240) (hX : (X.length : Int) ≤ 240) (hC : (C.length : Int) ≤ 240) : ok29 N T X C = true ∧ TurnR N T X C (v29 N T X C) := by
  obtain ⟨Z, z1, z2, z3, z4⟩ := l29_3 (N := N) (T := T) (X := X) (C := C) (n' := 0) (a := []) (b := []) (c := []) hX X.length 0 X (by omega) (by omega) (by omega)
  have := sp29 N T X C ⟨N, T, Z, C⟩ (run29 _ _ _ _ _ (by
    unfold t29
    repeat (first | (refine good_pos (by omega) ?_) | (refine good_pos trivial ?_) | (refine good_neg (by omega) ?_) | (refine good_npos (by omega) ?_) | (refine good_nneg (by omega) ?_) | (refine good_gi (by omega) (by omega) ?_) | (refine good_gb (by omega) (by omega) ?_) | (refine good_ble (by omega) ?_))
    exact good_at z4))
  refine ⟨this.1, ?_⟩
  rw [this.2]
  exact ⟨rfl, rfl, rfl, z1, fun hinj hr d d0 d1 => z3 d d0 d1 (hr d d0 d1).1 (hr d d0 d1).2 fun e e0 e1 he => by have := hinj e d (by omega) e1 d0 d1 he; omega⟩
/-- three turns about a vertex, two of them exchanged -/
theorem turns_three {T X : List Int} {x : Int} (ht : TurnsOk T X) (hxl : (X.length : Int) = T.length) (x0 : 0 ≤ x) (x1 : x < (T.length : Int)) {k : Nat} (hk : Per (sta X) x k) (h3 : 3 ≤ k)
    {Y : List Int} (hY : Y = ((X.set x.toNat (gi X (gi X x))).set (gi X x).toNat (gi X (gi X (gi X x)))).set (gi X (gi X x)).toNat (gi X x)) : TurnsOk T Y ∧ (Y.length : Int) = X.length := by
  have hp := ht.perm
  have r := fun i => it_rng hp.rng x0 x1 i
  have r1 : 0 ≤ gi X x ∧ gi X x < T.length := r 1
  have r2 : 0 ≤ gi X (gi X x) ∧ gi X (gi X x) < T.length := r 2
  have r3 : 0 ≤ gi X (gi X (gi X x)) ∧ gi X (gi X (gi X x)) < T.length := r 3
  have d01 : x ≠ gi X x := fun e => hk.dis (show 0 < 1 by omega) (by omega) e
  have d02 : x ≠ gi X (gi X x) := fun e => hk.dis (show 0 < 2 by omega) (by omega) e
  have d12 : gi X x ≠ gi X (gi X x) := fun e => hk.dis (show 1 < 2 by omega) (by omega) e
  have gy : ∀ u : Int, 0 ≤ u → gi Y u = if u = gi X (gi X x) then gi X x else if u = gi X x then gi X (gi X (gi X x)) else if u = x then gi X (gi X x) else gi X u := fun u u0 => by
    rw [hY, gi_set r2.1 (by rw [List.length_set, List.length_set]; omega) u0]
    split
    · rfl
    · rw [gi_set r1.1 (by rw [List.length_set]; omega) u0]
      split
      · rfl
      · rw [gi_set x0 (by omega) u0]
  have y0 : gi Y x = gi X (gi X x) := by rw [gy x x0, if_neg d02, if_neg d01, if_pos rfl]
  have y1 : gi Y (gi X x) = gi X (gi X (gi X x)) := by rw [gy _ r1.1, if_neg d12, if_pos rfl]
  have y2 : gi Y (gi X (gi X x)) = gi X x := by rw [gy _ r2.1, if_pos rfl]
  have yo : ∀ u : Int, 0 ≤ u → u ≠ x → u ≠ gi X x → u ≠ gi X (gi X x) → gi Y u = gi X u := fun u u0 h0 h1 h2 => by rw [gy u u0, if_neg h2, if_neg h1, if_neg h0]
  -- two exchanges, one behind the other
  have s1 : Swp (sta X) (fun d => if d = x then gi X (gi X x) else if d = gi X x then gi X x else gi X d) T.length x (gi X x) :=
    ⟨⟨x0, x1⟩, r1, d01, by simp [sta], by simp only [if_neg (Ne.symm d01), if_true]; rfl, fun d d0 d1 h h' => by simp only [if_neg h, if_neg h']; rfl⟩
  have p1 := s1.perm hp
  have s2 : Swp (fun d => if d = x then gi X (gi X x) else if d = gi X x then gi X x else gi X d) (sta Y) T.length (gi X x) (gi X (gi X x)) := by
    refine ⟨r1, r2, d12, ?_, ?_, fun d d0 d1 h h' => ?_⟩
    · simp only [if_neg (Ne.symm d02), if_neg (Ne.symm d12)]
      exact y1
    · simp only [if_neg (Ne.symm d01), if_true]
      exact y2
    · by_cases c : d = x
      · simp only [c, if_true]; exact y0
      · simp only [if_neg c, if_neg h]; exact yo d d0 c h h'
  have p2 := s2.perm p1
  have tl := fun d d0 d1 => ht.tail d d0 d1
  have t1 : gi T (gi X x) = gi T x := tl x x0 x1
  have t2 : gi T (gi X (gi X x)) = gi T x := (tl _ r1.1 r1.2).trans t1
  have t3 : gi T (gi X (gi X (gi X x))) = gi T x := (tl _ r2.1 r2.2).trans t2
  refine ⟨⟨p2, fun d d0 d1 => ?_, fun d e d0 d1 e0 e1 h => ?_⟩, by rw [hY]; simp⟩
  · by_cases c0 : d = x
    · rw [c0, y0, t2]
    by_cases c1 : d = gi X x
    · rw [c1, y1, t3, t1]
    by_cases c2 : d = gi X (gi X x)
    · rw [c2, y2, t1, t2]
    · rw [yo d d0 c0 c1 c2]; exact tl d d0 d1
  · obtain ⟨n, rfl⟩ := ht.one d e d0 d1 e0 e1 h
    have o02 : Orb (sta Y) x (gi X (gi X x)) := ⟨1, y0⟩
    have o21 : Orb (sta Y) (gi X (gi X x)) (gi X x) := ⟨1, y2⟩
    have o13 : Orb (sta Y) (gi X x) (gi X (gi X (gi X x))) := ⟨1, y1⟩
    have all : ∀ n, Orb (sta Y) d (it (sta X) n d) := by
      intro n
      induction n with
      | zero => exact .refl _ _
      | succ n ih =>
        have rn := it_rng hp.rng d0 d1 n
        refine ih.trans ?_
        show Orb (sta Y) (it (sta X) n d) (gi X (it (sta X) n d))
        by_cases c0 : it (sta X) n d = x
        · rw [c0]; exact o02.trans o21
        by_cases c1 : it (sta X) n d = gi X x
        · rw [c1]; exact p2.symm r2.1 r2.2 o21
        by_cases c2 : it (sta X) n d = gi X (gi X x)
        · rw [c2]; exact o21.trans o13
        · exact ⟨1, yo _ rn.1 c0 c1 c2⟩
    exact all n
theorem f8 (ns : List Int) (d size : Int) (ms : List Int) : R8 ns d size ms true := by
  obtain ⟨a1, a2, a3, a4⟩ := f18 ns
  refine run8 _ _ _ _ _ ?_
  unfold t8
  refine good_true a1 ?_
  generalize v18 ns = m at a2 a3 a4 ⊢
  have hs := a2.s
  have ht := a2.t
  have hx := hs.x
  have hc := hs.c
  by_cases cT : (m.T.length : Int) = 0
  · repeat (first | (refine good_pos (by omega) ?_) | (refine good_pos trivial ?_) | (refine good_neg (by omega) ?_) | (refine good_npos (by omega) ?_) | (refine good_nneg (by omega) ?_) | (refine good_gi (by omega) (by omega) ?_) | (refine good_gb (by omega) (by omega) ?_) | (refine good_ble (by omega) ?_))
    exact good_end rfl
  obtain ⟨b1, b2, b3⟩ := f22 (a := d) (n := (m.T.length : Int)) (by omega) (by omega)
  obtain ⟨k, k1, k2⟩ := ht.perm.per b2 b3
  obtain ⟨c1, c2⟩ := f33 hs b2 (by omega) k2 (by omega)
  generalize v22 d (m.T.length : Int) = x at b2 b3 k2 c1 c2 ⊢
  rw [c2]
  have hrl : ((rnd (sta m.X) x k).length : Int) = k := by rw [rnd_len]
  simp only [hrl]
  refine good_neg cT (good_true b1 (good_true c1 ?_))
  by_cases c3 : (k : Int) < 3
  · repeat (first | (refine good_pos (by omega) ?_) | (refine good_pos trivial ?_) | (refine good_neg (by omega) ?_) | (refine good_npos (by omega) ?_) | (refine good_nneg (by omega) ?_) | (refine good_gi (by omega) (by omega) ?_) | (refine good_gb (by omega) (by omega) ?_) | (refine good_ble (by omega) ?_))
    exact good_end rfl
  refine good_neg c3 ?_
  have g0 : gi (rnd (sta m.X) x k) 0 = x := rnd_gi (i := 0) (by omega)
  have g1 : gi (rnd (sta m.X) x k) 1 = gi m.X x := rnd_gi (i := 1) (by omega)
  have g2 : gi (rnd (sta m.X) x k) 2 = gi m.X (gi m.X x) := rnd_gi (i := 2) (by omega)
  have r1 : 0 ≤ gi m.X x ∧ gi m.X x < m.T.length := it_rng ht.perm.rng b2 b3 1
  have r2 : 0 ≤ gi m.X (gi m.X x) ∧ gi m.X (gi m.X x) < m.T.length := it_rng ht.perm.rng b2 b3 2
  obtain ⟨e1, e2, -⟩ := f19 size ms
  have hmk := e2.k
  have hml := e2.p.len
  have hmc := e2.c
  obtain ⟨h1, h2⟩ := f29 (N := (v19 size ms).N) (T := (v19 size ms).T) (X := (v19 size ms).X) (C := (v19 size ms).C) (by omega) (by omega) (by omega)
  have fin : Lead E8 kr8 (.bool true) (a8_11 size ms 3 m.N m.T m.X m.C (rnd (sta m.X) x k)) := by
    refine h8_11 _ _ _ _ _ _ _ _ _ ?_
    unfold t8_11
    simp only [hrl, List.length_set]
    refine good_neg (by omega) ?_
    refine good_pos (by omega) (good_lit (gi_some (by omega) (by omega)) ?_)
    refine good_pos (by omega) (good_lit (gi_some (by omega) (by omega)) ?_)
    refine good_pos (by omega) (good_lit (gi_some (by omega) (by omega)) ?_)
    refine good_pos (by omega) (good_lit (gi_some (by omega) (by omega)) ?_)
    refine good_pos (by omega) (good_lit (gi_some (by omega) (by omega)) ?_)
    rw [g0, g1, g2]
    refine good_pos (by omega) (good_pos (by omega) (good_gi r2.1 (by omega) ?_))
    refine good_pos (by omega) (good_lit (gi_some (by omega) (by omega)) ?_)
    rw [g1]
    refine good_pos (by omega) (good_pos (by omega) (good_gi b2 (by omega) ?_))
    refine good_pos (by omega) (good_pos (by omega) (good_gi r1.1 (by rw [List.length_set]; omega) ?_))
    refine good_pos (by omega) (good_pos (by omega) (good_gi r2.1 (by rw [List.length_set, List.length_set]; omega) ?_))
    obtain ⟨t1, t2⟩ := turns_three ht hx b2 b3 k2 (by omega) rfl
    generalize hY : ((m.X.set x.toNat (gi m.X (gi m.X x))).set (gi m.X x).toNat (gi m.X (gi m.X (gi m.X x)))).set (gi m.X (gi m.X x)).toNat (gi m.X x) = Y at t1 t2 ⊢
    have hsY : Shape m.N m.T Y m.C := ⟨hs.n0, hs.n1, hs.k, by omega, hs.c, hs.e, fun d d0 d1 => t1.perm.rng d d0 (by omega), hs.tr⟩
    simp only [ok20_t, ok21_t, v20_e, v21_e, ok19_t, cond_true, decide_true, h1, h2.n]
    have hE : checkE m.N m.T Y m.C = 0 ∨ checkE m.N m.T Y m.C = 8 := by
      unfold checkE
      rw [if_neg (fun hh => hh (shape_iff.2 hsY)), if_neg (fun hh => hh t1), if_neg (fun hh => hh a2.c), if_neg (fun hh => hh (rk_one hs.n0 a2.con))]
      split
      · exact .inr rfl
      · exact .inl rfl
    rcases hE with hE | hE
    · simp only [hE, decide_true, cond_true]
      exact good_end rfl
    · rw [hE]
      refine good_neg (by omega) ?_
      simp only [decide_true, cond_true]
      exact good_end rfl
  have step : ∀ (n : Nat) (i : Int), 0 ≤ i → 3 - i = n → Lead E8 kr8 (.bool true) (a8_11 size ms i m.N m.T m.X m.C (rnd (sta m.X) x k)) := by
    intro n
    induction n with
    | zero =>
      intro i i0 i1
      obtain rfl : i = 3 := by omega
      exact fin
    | succ n ih =>
      intro i i0 i1
      have := ih (i + 1) (by omega) (by omega)
      have hg : gi (rnd (sta m.X) x k) i = it (sta m.X) i.toNat x := by
        have := rnd_gi (f := sta m.X) (d := x) (k := k) (i := i.toNat) (by omega)
        rwa [show ((i.toNat : Nat) : Int) = i by omega] at this
      have hr := it_rng ht.perm.rng b2 b3 i.toNat
      rw [← hg] at hr
      refine h8_11 _ _ _ _ _ _ _ _ _ ?_
      unfold t8_11
      simp (disch := omega) only [wrap_in]
      repeat (first | (refine good_pos (by omega) ?_) | (refine good_pos trivial ?_) | (refine good_neg (by omega) ?_) | (refine good_npos (by omega) ?_) | (refine good_nneg (by omega) ?_) | (refine good_gi (by omega) (by omega) ?_) | (refine good_gb (by omega) (by omega) ?_) | (refine good_ble (by omega) ?_))
      exact good_at this
  exact good_at (step 3 0 (by omega) (by omega))
theorem rotGrows_calls (ns : List Int) (d size : Int) (ms : List Int) : CallsC 8 [.sl .int ns, .int .i64 d, .int .i64 size, .sl .int ms] true (.bool true) :=
  RunF.calls (fun _ => semok8) (fun _ => memok8) at8 rfl (Nat.le_of_ble_eq_true rfl) (fun _ => rfl) (f8 ns d size ms)
end Go.Proofs.Ytnfgfdeidkhdkaa.Eng
/- P27: watershed/watershedref1.Ints: its run from loop to loop, as Lean printed it (a program of this session's wrote these rows). No condition. -/
namespace Go.Proofs.Ytnfgfdeidkhdkaa.Eng
set_option linter.unusedVariables false
set_option maxRecDepth 100000
noncomputable def ents27 : List (Nat × Ent) := []
noncomputable def mems27 : List (Nat × EntM) := []
noncomputable def E27 (fu : Nat) : Env := ⟨26, 0, semOf ents27, [], memOf mems27, [], [(100004, ⟨[], [(0, none), (1, none), (5, none)], [0, 1, 5]⟩)], fu⟩
theorem fuel27 : Fuel E27 := fun _ => rfl
noncomputable def kr27 : St → Option CV := endK true Try.f27.results.toList
noncomputable def K27_4 : List Fr := theK Try.f27 100004
noncomputable def C27_4 : Code := theC Try.f27 100004
def s27_4 (l0 : List Int) (l1 : List Int) (i5 : Int) : St := ⟨[(0, .sl .int l0), (1, .sl .int l1), (5, .int .i64 i5)], []⟩
noncomputable def a27_4 (l0 : List Int) (l1 : List Int) (i5 : Int) : Leaf := .at K27_4 C27_4 (s27_4 l0 l1 i5)
noncomputable def t27_4 (l0 : List Int) (l1 : List Int) (i5 : Int) : Option Leaf :=
  bif Decidable.decide (i5 < (↑(List.length l0) : Int)) then
   bif Decidable.decide ((0 : Int) ≤ i5) then
    ob (l0[Int.toNat i5]?) fun x1 =>
     bif Decidable.decide ((0 : Int) ≤ i5) then
      ob (l1[Int.toNat i5]?) fun x2 =>
       bif !Decidable.decide (x1 = x2) then
        some (.ret (CV.bool Bool.false))
       else
        some (a27_4 l0 l1 (IntKind.wrap IntKind.i64 (i5 + (1 : Int))))
     else
      none
   else
    none
  else
   some (.ret (CV.bool Bool.true))
theorem c27_4 (fu : Nat) (l0 : List Int) (l1 : List Int) (i5 : Int) : cutL (E27 fu) kr27 K27_4 C27_4 (s27_4 l0 l1 i5) = t27_4 l0 l1 i5 := by kernel_rfl
theorem h27_4 (l0 : List Int) (l1 : List Int) (i5 : Int) (r : CV) (h : Good E27 kr27 (t27_4 l0 l1 i5) r) : Lead E27 kr27 r (a27_4 l0 l1 i5) := Lead.at fuel27 (fun fu => c27_4 fu l0 l1 i5) h
noncomputable def t27 (a : List Int) (b : List Int) : Option Leaf :=
  bif !Decidable.decide ((↑(List.length a) : Int) = (↑(List.length b) : Int)) then
   some (.ret (CV.bool Bool.false))
  else
   some (a27_4 a b ((0 : Int)))
theorem c27 (fu : Nat) (a : List Int) (b : List Int) : cutB (E27 fu) kr27 Try.f27 (⟨parT 0 [.sl .int a, .sl .int b], []⟩) = t27 a b := by kernel_rfl
def R27 (a : List Int) (b : List Int) (r : Bool) : Prop := RunF E27 true Try.f27 [.sl .int a, .sl .int b] (.bool r)
theorem run27 (a : List Int) (b : List Int) (r : Bool) (h : Good E27 kr27 (t27 a b) (.bool r)) : R27 a b r := RunF.of fuel27 (fun fu => c27 fu a b) h
noncomputable def ok27 (a : List Int) (b : List Int) : Bool := okP (R27 a b)
noncomputable def v27 (a : List Int) (b : List Int) : Bool := valP (R27 a b)
theorem sp27 (a : List Int) (b : List Int) (r : Bool) (h : R27 a b r) : ok27 a b = true ∧ v27 a b = r := okP_of h fun b hb => by
  have := RunF.uniq hb h
  simp_all
theorem at27 : P.funcs[27]? = some Try.f27 := by kernel_rfl
theorem callable27 : callable 27 = true := by kernel_rfl
theorem semok27 : SemOk (semOf ents27) := EntsOk.sem (.nil)
theorem memok27 : MemOk (memOf mems27) := EntsMOk.mem (.nil)
noncomputable def ent27 : Ent := fun args => match args with
  | [.sl .int a, .sl .int b] => some (true, ok27 a b, .bool (v27 a b))
  | _ => none
theorem entok27 : EntOk 27 ent27 := fun args own r h => by
  unfold ent27 at h
  split at h
  · simp only [Option.some.injEq, Prod.mk.injEq] at h
    obtain ⟨rfl, h, rfl⟩ := h
    exact ⟨RunF.calls (fun _ => semok27) (fun _ => memok27) at27 rfl (Nat.le_of_ble_eq_true rfl) (fun _ => rfl) (okP_val h), callable27⟩
  · cases h
end Go.Proofs.Ytnfgfdeidkhdkaa.Eng
/- P28: watershed/watershedref1.Same: its run from loop to loop, as Lean printed it (a program of this session's wrote these rows). No condition. -/
namespace Go.Proofs.Ytnfgfdeidkhdkaa.Eng
set_option linter.unusedVariables false
set_option maxRecDepth 100000
noncomputable def ents28 : List (Nat × Ent) := [(27, ent27)]
noncomputable def mems28 : List (Nat × EntM) := []
noncomputable def E28 (fu : Nat) : Env := ⟨31, 0, semOf ents28, [], memOf mems28, [], [], fu⟩
theorem fuel28 : Fuel E28 := fun _ => rfl
noncomputable def kr28 : St → Option CV := endK true Try.f28.results.toList
noncomputable def t28 (gN : Int) (gT : List Int) (gX : List Int) (gC : List Int) (hN : Int) (hT : List Int) (hX : List Int) (hC : List Int) : Option Leaf :=
  bif Decidable.decide (gN = hN) then
   bif ok27 gT hT then
    bif v27 gT hT then
     bif ok27 gX hX then
      bif v27 gX hX then
       bif ok27 gC hC then
        some (.ret (CV.bool (v27 gC hC)))
       else
        none
      else
       some (.ret (CV.bool Bool.false))
     else
      none
    else
     some (.ret (CV.bool Bool.false))
   else
    none
  else
   some (.ret (CV.bool Bool.false))
theorem c28 (fu : Nat) (gN : Int) (gT : List Int) (gX : List Int) (gC : List Int) (hN : Int) (hT : List Int) (hX : List Int) (hC : List Int) : cutB (E28 fu) kr28 Try.f28 (⟨parT 0 [.agg [.int .i64 gN, .sl .int gT, .sl .int gX, .sl .int gC], .agg [.int .i64 hN, .sl .int hT, .sl .int hX, .sl .int hC]], []⟩) = t28 gN gT gX gC hN hT hX hC := by kernel_rfl
def R28 (gN : Int) (gT : List Int) (gX : List Int) (gC : List Int) (hN : Int) (hT : List Int) (hX : List Int) (hC : List Int) (r : Bool) : Prop := RunF E28 true Try.f28 [.agg [.int .i64 gN, .sl .int gT, .sl .int gX, .sl .int gC], .agg [.int .i64 hN, .sl .int hT, .sl .int hX, .sl .int hC]] (.bool r)
theorem run28 (gN : Int) (gT : List Int) (gX : List Int) (gC : List Int) (hN : Int) (hT : List Int) (hX : List Int) (hC : List Int) (r : Bool) (h : Good E28 kr28 (t28 gN gT gX gC hN hT hX hC) (.bool r)) : R28 gN gT gX gC hN hT hX hC r := RunF.of fuel28 (fun fu => c28 fu gN gT gX gC hN hT hX hC) h
noncomputable def ok28 (gN : Int) (gT : List Int) (gX : List Int) (gC : List Int) (hN : Int) (hT : List Int) (hX : List Int) (hC : List Int) : Bool := okP (R28 gN gT gX gC hN hT hX hC)
noncomputable def v28 (gN : Int) (gT : List Int) (gX : List Int) (gC : List Int) (hN : Int) (hT : List Int) (hX : List Int) (hC : List Int) : Bool := valP (R28 gN gT gX gC hN hT hX hC)
theorem sp28 (gN : Int) (gT : List Int) (gX : List Int) (gC : List Int) (hN : Int) (hT : List Int) (hX : List Int) (hC : List Int) (r : Bool) (h : R28 gN gT gX gC hN hT hX hC r) : ok28 gN gT gX gC hN hT hX hC = true ∧ v28 gN gT gX gC hN hT hX hC = r := okP_of h fun b hb => by
  have := RunF.uniq hb h
  simp_all
theorem at28 : P.funcs[28]? = some Try.f28 := by kernel_rfl
theorem callable28 : callable 28 = true := by kernel_rfl
theorem semok28 : SemOk (semOf ents28) := EntsOk.sem (.cons entok27 (.nil))
theorem memok28 : MemOk (memOf mems28) := EntsMOk.mem (.nil)
noncomputable def ent28 : Ent := fun args => match args with
  | [.agg [.int .i64 gN, .sl .int gT, .sl .int gX, .sl .int gC], .agg [.int .i64 hN, .sl .int hT, .sl .int hX, .sl .int hC]] => some (true, ok28 gN gT gX gC hN hT hX hC, .bool (v28 gN gT gX gC hN hT hX hC))
  | _ => none
theorem entok28 : EntOk 28 ent28 := fun args own r h => by
  unfold ent28 at h
  split at h
  · simp only [Option.some.injEq, Prod.mk.injEq] at h
    obtain ⟨rfl, h, rfl⟩ := h
    exact ⟨RunF.calls (fun _ => semok28) (fun _ => memok28) at28 rfl (Nat.le_of_ble_eq_true rfl) (fun _ => rfl) (okP_val h), callable28⟩
  · cases h
end Go.Proofs.Ytnfgfdeidkhdkaa.Eng
/- P30: watershed/watershedref2.Turn: its run from loop to loop, as Lean printed it (a program of this session's wrote these rows). No condition. -/
namespace Go.Proofs.Ytnfgfdeidkhdkaa.Eng
set_option linter.unusedVariables false
set_option maxRecDepth 100000
noncomputable def ents30 : List (Nat × Ent) := []
noncomputable def mems30 : List (Nat × EntM) := []
noncomputable def E30 (fu : Nat) : Env := ⟨35, 0, semOf ents30, [], memOf mems30, [], [(100003, ⟨[], [(1, none), (1, some 0), (1, some 1), (1, some 2), (1, some 3), (2, none), (2, some 0), (2, some 1), (2, some 2), (2, some 3), (3, none), (4, none)], [1, 2, 3, 4]⟩)], fu⟩
theorem fuel30 : Fuel E30 := fun _ => rfl
noncomputable def kr30 : St → Option CV := endK true Try.f30.results.toList
noncomputable def K30_3 : List Fr := theK Try.f30 100003
noncomputable def C30_3 : Code := theC Try.f30 100003
def s30_3 (i4 : Int) (iM0_0 : Int) (lM0_1 : List Int) (lM0_2 : List Int) (lM0_3 : List Int) (iM1_0 : Int) (lM1_1 : List Int) (lM1_2 : List Int) (lM1_3 : List Int) (mM2 : List Int) : St := ⟨[(1, .ptr 8000 0), (2, .ptr 8001 0), (3, .ref 8002), (4, .int .i64 i4)], [(8000, some (.cells 25 [.int .i64 iM0_0, .sl .int lM0_1, .sl .int lM0_2, .sl .int lM0_3])), (8001, some (.cells 25 [.int .i64 iM1_0, .sl .int lM1_1, .sl .int lM1_2, .sl .int lM1_3])), (8002, some (.arr true .int mM2))]⟩
noncomputable def a30_3 (i4 : Int) (iM0_0 : Int) (lM0_1 : List Int) (lM0_2 : List Int) (lM0_3 : List Int) (iM1_0 : Int) (lM1_1 : List Int) (lM1_2 : List Int) (lM1_3 : List Int) (mM2 : List Int) : Leaf := .at K30_3 C30_3 (s30_3 i4 iM0_0 lM0_1 lM0_2 lM0_3 iM1_0 lM1_1 lM1_2 lM1_3 mM2)
noncomputable def t30_3 (i4 : Int) (iM0_0 : Int) (lM0_1 : List Int) (lM0_2 : List Int) (lM0_3 : List Int) (iM1_0 : Int) (lM1_1 : List Int) (lM1_2 : List Int) (lM1_3 : List Int) (mM2 : List Int) : Option Leaf :=
  bif Decidable.decide (i4 < (↑(List.length mM2) : Int)) then
   bif Decidable.decide ((0 : Int) ≤ i4) then
    ob (lM0_2[Int.toNat i4]?) fun x1 =>
     bif Decidable.decide ((0 : Int) ≤ x1) then
      bif Decidable.decide (x1 < (↑(List.length mM2) : Int)) then
       ob (mM2[Int.toNat x1]?) fun x2 =>
        some (a30_3 (IntKind.wrap IntKind.i64 (i4 + (1 : Int))) iM0_0 lM0_1 lM0_2 lM0_3 iM1_0 lM1_1 lM1_2 lM1_3 (List.set mM2 (Int.toNat x1) i4))
      else
       none
     else
      none
   else
    none
  else
   bif Nat.ble (List.length lM0_1) (4294967296 : Nat) then
    bif Nat.ble (List.length lM0_3) (4294967296 : Nat) then
     some (.ret (CV.agg [CV.int IntKind.i64 iM0_0, CV.sl SK.int lM0_1, CV.sl SK.int mM2, CV.sl SK.int lM0_3]))
    else
     none
   else
    none
theorem c30_3 (fu : Nat) (i4 : Int) (iM0_0 : Int) (lM0_1 : List Int) (lM0_2 : List Int) (lM0_3 : List Int) (iM1_0 : Int) (lM1_1 : List Int) (lM1_2 : List Int) (lM1_3 : List Int) (mM2 : List Int) : cutL (E30 fu) kr30 K30_3 C30_3 (s30_3 i4 iM0_0 lM0_1 lM0_2 lM0_3 iM1_0 lM1_1 lM1_2 lM1_3 mM2) = t30_3 i4 iM0_0 lM0_1 lM0_2 lM0_3 iM1_0 lM1_1 lM1_2 lM1_3 mM2 := by kernel_rfl
theorem h30_3 (i4 : Int) (iM0_0 : Int) (lM0_1 : List Int) (lM0_2 : List Int) (lM0_3 : List Int) (iM1_0 : Int) (lM1_1 : List Int) (lM1_2 : List Int) (lM1_3 : List Int) (mM2 : List Int) (r : CV) (h : Good E30 kr30 (t30_3 i4 iM0_0 lM0_1 lM0_2 lM0_3 iM1_0 lM1_1 lM1_2 lM1_3 mM2) r) : Lead E30 kr30 r (a30_3 i4 iM0_0 lM0_1 lM0_2 lM0_3 iM1_0 lM1_1 lM1_2 lM1_3 mM2) := Lead.at fuel30 (fun fu => c30_3 fu i4 iM0_0 lM0_1 lM0_2 lM0_3 iM1_0 lM1_1 lM1_2 lM1_3 mM2) h
noncomputable def t30 (gN : Int) (gT : List Int) (gX : List Int) (gC : List Int) : Option Leaf :=
  bif Decidable.decide ((↑(List.length gX) : Int) = (↑(List.length gX) : Int)) then
   bif Decidable.decide ((↑(List.length gX) : Int) ≤ (4294967296 : Int)) then
    some (a30_3 ((0 : Int)) gN gT gX gC ((0 : Int)) [] [] [] (List.replicate (Int.toNat (↑(List.length gX) : Int)) (0 : SK.T SK.int)))
   else
    none
  else
   none
theorem c30 (fu : Nat) (gN : Int) (gT : List Int) (gX : List Int) (gC : List Int) : cutB (E30 fu) kr30 Try.f30 (⟨parT 0 [.agg [.int .i64 gN, .sl .int gT, .sl .int gX, .sl .int gC]], []⟩) = t30 gN gT gX gC := by kernel_rfl
def R30 (gN : Int) (gT : List Int) (gX : List Int) (gC : List Int) (r : NetV) : Prop := RunF E30 true Try.f30 [.agg [.int .i64 gN, .sl .int gT, .sl .int gX, .sl .int gC]] (.agg [.int .i64 r.N, .sl .int r.T, .sl .int r.X, .sl .int r.C])
theorem run30 (gN : Int) (gT : List Int) (gX : List Int) (gC : List Int) (r : NetV) (h : Good E30 kr30 (t30 gN gT gX gC) (.agg [.int .i64 r.N, .sl .int r.T, .sl .int r.X, .sl .int r.C])) : R30 gN gT gX gC r := RunF.of fuel30 (fun fu => c30 fu gN gT gX gC) h
noncomputable def ok30 (gN : Int) (gT : List Int) (gX : List Int) (gC : List Int) : Bool := okP (R30 gN gT gX gC)
noncomputable def v30 (gN : Int) (gT : List Int) (gX : List Int) (gC : List Int) : NetV := valP (R30 gN gT gX gC)
theorem sp30 (gN : Int) (gT : List Int) (gX : List Int) (gC : List Int) (r : NetV) (h : R30 gN gT gX gC r) : ok30 gN gT gX gC = true ∧ v30 gN gT gX gC = r := okP_of h fun b hb => by
  have := RunF.uniq hb h
  cases b; cases r; simp_all
theorem at30 : P.funcs[30]? = some Try.f30 := by kernel_rfl
theorem callable30 : callable 30 = true := by kernel_rfl
theorem semok30 : SemOk (semOf ents30) := EntsOk.sem (.nil)
theorem memok30 : MemOk (memOf mems30) := EntsMOk.mem (.nil)
noncomputable def ent30 : Ent := fun args => match args with
  | [.agg [.int .i64 gN, .sl .int gT, .sl .int gX, .sl .int gC]] => some (true, ok30 gN gT gX gC, .agg [.int .i64 (v30 gN gT gX gC).N, .sl .int (v30 gN gT gX gC).T, .sl .int (v30 gN gT gX gC).X, .sl .int (v30 gN gT gX gC).C])
  | _ => none
theorem entok30 : EntOk 30 ent30 := fun args own r h => by
  unfold ent30 at h
  split at h
  · simp only [Option.some.injEq, Prod.mk.injEq] at h
    obtain ⟨rfl, h, rfl⟩ := h
    exact ⟨RunF.calls (fun _ => semok30) (fun _ => memok30) at30 rfl (Nat.le_of_ble_eq_true rfl) (fun _ => rfl) (okP_val h), callable30⟩
  · cases h
end Go.Proofs.Ytnfgfdeidkhdkaa.Eng
/- P5: watershed/watershedlaw2.RotRows: its run from loop to loop, as Lean printed it (a program of this session's wrote these rows). No condition. -/
namespace Go.Proofs.Ytnfgfdeidkhdkaa.Eng
set_option linter.unusedVariables false
set_option maxRecDepth 100000
noncomputable def ents5 : List (Nat × Ent) := [(17, ent17), (18, ent18), (19, ent19), (22, ent22), (23, ent23), (24, ent24), (25, ent25), (26, ent26), (27, ent27), (28, ent28), (29, ent29), (30, ent30), (31, ent31), (32, ent32), (33, ent33), (34, ent34), (35, ent35), (36, ent36)]
noncomputable def mems5 : List (Nat × EntM) := []
noncomputable def E5 (fu : Nat) : Env := ⟨121, 0, semOf ents5, [], memOf mems5, [], [(100005, ⟨[], [(3, none), (9, none), (10, none)], [3, 9, 10]⟩)], fu⟩
theorem fuel5 : Fuel E5 := fun _ => rfl
noncomputable def kr5 : St → Option CV := endK true Try.f5.results.toList
noncomputable def K5_5 : List Fr := theK Try.f5 100005
noncomputable def C5_5 : Code := theC Try.f5 100005
def s5_5 (i3 : Int) (i10 : Int) (mM0 : List (Int × List Int × List Int × List Int)) : St := ⟨[(3, .int .i64 i3), (9, .ref 8000), (10, .int .i64 i10)], [(8000, some (.arr true .net mM0))]⟩
noncomputable def a5_5 (i3 : Int) (i10 : Int) (mM0 : List (Int × List Int × List Int × List Int)) : Leaf := .at K5_5 C5_5 (s5_5 i3 i10 mM0)
noncomputable def t5_5 (i3 : Int) (i10 : Int) (mM0 : List (Int × List Int × List Int × List Int)) : Option Leaf :=
  bif Decidable.decide (i10 < (2 : Int)) then
   bif Decidable.decide ((0 : Int) ≤ i10) then
    bif Decidable.decide (i10 < (↑(List.length mM0) : Int)) then
     ob (mM0[Int.toNat i10]?) fun x1 =>
      bif ok23 (Prod.fst x1) (Prod.fst (Prod.snd x1)) (Prod.fst (Prod.snd (Prod.snd x1))) (Prod.snd (Prod.snd (Prod.snd x1))) then
       bif ok24 (Prod.fst x1) (Prod.fst (Prod.snd x1)) (Prod.fst (Prod.snd (Prod.snd x1))) (Prod.snd (Prod.snd (Prod.snd x1))) then
        bif ok25 (Prod.fst x1) (Prod.fst (Prod.snd x1)) (Prod.fst (Prod.snd (Prod.snd x1))) (Prod.snd (Prod.snd (Prod.snd x1))) then
         bif ok26 (Prod.fst x1) (Prod.fst (Prod.snd x1)) (Prod.fst (Prod.snd (Prod.snd x1))) (Prod.snd (Prod.snd (Prod.snd x1))) then
          bif ok27 (Prod.fst (v23 (Prod.fst x1) (Prod.fst (Prod.snd x1)) (Prod.fst (Prod.snd (Prod.snd x1))) (Prod.snd (Prod.snd (Prod.snd x1))))) (Prod.fst (v24 (Prod.fst x1) (Prod.fst (Prod.snd x1)) (Prod.fst (Prod.snd (Prod.snd x1))) (Prod.snd (Prod.snd (Prod.snd x1))))) then
           bif !v27 (Prod.fst (v23 (Prod.fst x1) (Prod.fst (Prod.snd x1)) (Prod.fst (Prod.snd (Prod.snd x1))) (Prod.snd (Prod.snd (Prod.snd x1))))) (Prod.fst (v24 (Prod.fst x1) (Prod.fst (Prod.snd x1)) (Prod.fst (Prod.snd (Prod.snd x1))) (Prod.snd (Prod.snd (Prod.snd x1))))) then
            some (.ret (CV.bool Bool.false))
           else
            bif !Decidable.decide (Prod.snd (v23 (Prod.fst x1) (Prod.fst (Prod.snd x1)) (Prod.fst (Prod.snd (Prod.snd x1))) (Prod.snd (Prod.snd (Prod.snd x1)))) = Prod.snd (v24 (Prod.fst x1) (Prod.fst (Prod.snd x1)) (Prod.fst (Prod.snd (Prod.snd x1))) (Prod.snd (Prod.snd (Prod.snd x1))))) then
             some (.ret (CV.bool Bool.false))
            else
             bif ok27 (Prod.fst (v25 (Prod.fst x1) (Prod.fst (Prod.snd x1)) (Prod.fst (Prod.snd (Prod.snd x1))) (Prod.snd (Prod.snd (Prod.snd x1))))) (Prod.fst (v26 (Prod.fst x1) (Prod.fst (Prod.snd x1)) (Prod.fst (Prod.snd (Prod.snd x1))) (Prod.snd (Prod.snd (Prod.snd x1))))) then
              bif !v27 (Prod.fst (v25 (Prod.fst x1) (Prod.fst (Prod.snd x1)) (Prod.fst (Prod.snd (Prod.snd x1))) (Prod.snd (Prod.snd (Prod.snd x1))))) (Prod.fst (v26 (Prod.fst x1) (Prod.fst (Prod.snd x1)) (Prod.fst (Prod.snd (Prod.snd x1))) (Prod.snd (Prod.snd (Prod.snd x1))))) then
               some (.ret (CV.bool Bool.false))
              else
               bif !Decidable.decide (Prod.snd (v25 (Prod.fst x1) (Prod.fst (Prod.snd x1)) (Prod.fst (Prod.snd (Prod.snd x1))) (Prod.snd (Prod.snd (Prod.snd x1)))) = Prod.snd (v26 (Prod.fst x1) (Prod.fst (Prod.snd x1)) (Prod.fst (Prod.snd (Prod.snd x1))) (Prod.snd (Prod.snd (Prod.snd x1))))) then
                some (.ret (CV.bool Bool.false))
               else
                bif ok29 (Prod.fst x1) (Prod.fst (Prod.snd x1)) (Prod.fst (Prod.snd (Prod.snd x1))) (Prod.snd (Prod.snd (Prod.snd x1))) then
                 bif ok30 (Prod.fst x1) (Prod.fst (Prod.snd x1)) (Prod.fst (Prod.snd (Prod.snd x1))) (Prod.snd (Prod.snd (Prod.snd x1))) then
                  bif ok28 (NetV.N (v29 (Prod.fst x1) (Prod.fst (Prod.snd x1)) (Prod.fst (Prod.snd (Prod.snd x1))) (Prod.snd (Prod.snd (Prod.snd x1))))) (NetV.T (v29 (Prod.fst x1) (Prod.fst (Prod.snd x1)) (Prod.fst (Prod.snd (Prod.snd x1))) (Prod.snd (Prod.snd (Prod.snd x1))))) (NetV.X (v29 (Prod.fst x1) (Prod.fst (Prod.snd x1)) (Prod.fst (Prod.snd (Prod.snd x1))) (Prod.snd (Prod.snd (Prod.snd x1))))) (NetV.C (v29 (Prod.fst x1) (Prod.fst (Prod.snd x1)) (Prod.fst (Prod.snd (Prod.snd x1))) (Prod.snd (Prod.snd (Prod.snd x1))))) (NetV.N (v30 (Prod.fst x1) (Prod.fst (Prod.snd x1)) (Prod.fst (Prod.snd (Prod.snd x1))) (Prod.snd (Prod.snd (Prod.snd x1))))) (NetV.T (v30 (Prod.fst x1) (Prod.fst (Prod.snd x1)) (Prod.fst (Prod.snd (Prod.snd x1))) (Prod.snd (Prod.snd (Prod.snd x1))))) (NetV.X (v30 (Prod.fst x1) (Prod.fst (Prod.snd x1)) (Prod.fst (Prod.snd (Prod.snd x1))) (Prod.snd (Prod.snd (Prod.snd x1))))) (NetV.C (v30 (Prod.fst x1) (Prod.fst (Prod.snd x1)) (Prod.fst (Prod.snd (Prod.snd x1))) (Prod.snd (Prod.snd (Prod.snd x1))))) then
                   bif !v28 (NetV.N (v29 (Prod.fst x1) (Prod.fst (Prod.snd x1)) (Prod.fst (Prod.snd (Prod.snd x1))) (Prod.snd (Prod.snd (Prod.snd x1))))) (NetV.T (v29 (Prod.fst x1) (Prod.fst (Prod.snd x1)) (Prod.fst (Prod.snd (Prod.snd x1))) (Prod.snd (Prod.snd (Prod.snd x1))))) (NetV.X (v29 (Prod.fst x1) (Prod.fst (Prod.snd x1)) (Prod.fst (Prod.snd (Prod.snd x1))) (Prod.snd (Prod.snd (Prod.snd x1))))) (NetV.C (v29 (Prod.fst x1) (Prod.fst (Prod.snd x1)) (Prod.fst (Prod.snd (Prod.snd x1))) (Prod.snd (Prod.snd (Prod.snd x1))))) (NetV.N (v30 (Prod.fst x1) (Prod.fst (Prod.snd x1)) (Prod.fst (Prod.snd (Prod.snd x1))) (Prod.snd (Prod.snd (Prod.snd x1))))) (NetV.T (v30 (Prod.fst x1) (Prod.fst (Prod.snd x1)) (Prod.fst (Prod.snd (Prod.snd x1))) (Prod.snd (Prod.snd (Prod.snd x1))))) (NetV.X (v30 (Prod.fst x1) (Prod.fst (Prod.snd x1)) (Prod.fst (Prod.snd (Prod.snd x1))) (Prod.snd (Prod.snd (Prod.snd x1))))) (NetV.C (v30 (Prod.fst x1) (Prod.fst (Prod.snd x1)) (Prod.fst (Prod.snd (Prod.snd x1))) (Prod.snd (Prod.snd (Prod.snd x1))))) then
                    some (.ret (CV.bool Bool.false))
                   else
                    bif Decidable.decide ((↑(List.length (Prod.fst (Prod.snd x1))) : Int) = (0 : Int)) then
                     some (a5_5 i3 (IntKind.wrap IntKind.i64 (i10 + (1 : Int))) mM0)
                    else
                     bif ok22 i3 (↑(List.length (Prod.fst (Prod.snd x1))) : Int) then
                      bif ok31 (Prod.fst x1) (Prod.fst (Prod.snd x1)) (Prod.fst (Prod.snd (Prod.snd x1))) (Prod.snd (Prod.snd (Prod.snd x1))) (v22 i3 (↑(List.length (Prod.fst (Prod.snd x1))) : Int)) then
                       bif ok32 (Prod.fst x1) (Prod.fst (Prod.snd x1)) (Prod.fst (Prod.snd (Prod.snd x1))) (Prod.snd (Prod.snd (Prod.snd x1))) (v22 i3 (↑(List.length (Prod.fst (Prod.snd x1))) : Int)) then
                        bif !Decidable.decide (v31 (Prod.fst x1) (Prod.fst (Prod.snd x1)) (Prod.fst (Prod.snd (Prod.snd x1))) (Prod.snd (Prod.snd (Prod.snd x1))) (v22 i3 (↑(List.length (Prod.fst (Prod.snd x1))) : Int)) = v32 (Prod.fst x1) (Prod.fst (Prod.snd x1)) (Prod.fst (Prod.snd (Prod.snd x1))) (Prod.snd (Prod.snd (Prod.snd x1))) (v22 i3 (↑(List.length (Prod.fst (Prod.snd x1))) : Int))) then
                         some (.ret (CV.bool Bool.false))
                        else
                         bif ok33 (Prod.fst x1) (Prod.fst (Prod.snd x1)) (Prod.fst (Prod.snd (Prod.snd x1))) (Prod.snd (Prod.snd (Prod.snd x1))) (v22 i3 (↑(List.length (Prod.fst (Prod.snd x1))) : Int)) then
                          bif ok34 (Prod.fst x1) (Prod.fst (Prod.snd x1)) (Prod.fst (Prod.snd (Prod.snd x1))) (Prod.snd (Prod.snd (Prod.snd x1))) (v22 i3 (↑(List.length (Prod.fst (Prod.snd x1))) : Int)) then
                           bif ok27 (v33 (Prod.fst x1) (Prod.fst (Prod.snd x1)) (Prod.fst (Prod.snd (Prod.snd x1))) (Prod.snd (Prod.snd (Prod.snd x1))) (v22 i3 (↑(List.length (Prod.fst (Prod.snd x1))) : Int))) (v34 (Prod.fst x1) (Prod.fst (Prod.snd x1)) (Prod.fst (Prod.snd (Prod.snd x1))) (Prod.snd (Prod.snd (Prod.snd x1))) (v22 i3 (↑(List.length (Prod.fst (Prod.snd x1))) : Int))) then
                            bif !v27 (v33 (Prod.fst x1) (Prod.fst (Prod.snd x1)) (Prod.fst (Prod.snd (Prod.snd x1))) (Prod.snd (Prod.snd (Prod.snd x1))) (v22 i3 (↑(List.length (Prod.fst (Prod.snd x1))) : Int))) (v34 (Prod.fst x1) (Prod.fst (Prod.snd x1)) (Prod.fst (Prod.snd (Prod.snd x1))) (Prod.snd (Prod.snd (Prod.snd x1))) (v22 i3 (↑(List.length (Prod.fst (Prod.snd x1))) : Int))) then
                             some (.ret (CV.bool Bool.false))
                            else
                             bif ok35 (Prod.fst x1) (Prod.fst (Prod.snd x1)) (Prod.fst (Prod.snd (Prod.snd x1))) (Prod.snd (Prod.snd (Prod.snd x1))) (v22 i3 (↑(List.length (Prod.fst (Prod.snd x1))) : Int)) then
                              bif ok36 (Prod.fst x1) (Prod.fst (Prod.snd x1)) (Prod.fst (Prod.snd (Prod.snd x1))) (Prod.snd (Prod.snd (Prod.snd x1))) (v22 i3 (↑(List.length (Prod.fst (Prod.snd x1))) : Int)) then
                               bif ok27 (v35 (Prod.fst x1) (Prod.fst (Prod.snd x1)) (Prod.fst (Prod.snd (Prod.snd x1))) (Prod.snd (Prod.snd (Prod.snd x1))) (v22 i3 (↑(List.length (Prod.fst (Prod.snd x1))) : Int))) (v36 (Prod.fst x1) (Prod.fst (Prod.snd x1)) (Prod.fst (Prod.snd (Prod.snd x1))) (Prod.snd (Prod.snd (Prod.snd x1))) (v22 i3 (↑(List.length (Prod.fst (Prod.snd x1))) : Int))) then
                                bif !v27 (v35 (Prod.fst x1) (Prod.fst (Prod.snd x1)) (Prod.fst (Prod.snd (Prod.snd x1))) (Prod.snd (Prod.snd (Prod.snd x1))) (v22 i3 (↑(List.length (Prod.fst (Prod.snd x1))) : Int))) (v36 (Prod.fst x1) (Prod.fst (Prod.snd x1)) (Prod.fst (Prod.snd (Prod.snd x1))) (Prod.snd (Prod.snd (Prod.snd x1))) (v22 i3 (↑(List.length (Prod.fst (Prod.snd x1))) : Int))) then
                                 some (.ret (CV.bool Bool.false))
                                else
                                 some (a5_5 i3 (IntKind.wrap IntKind.i64 (i10 + (1 : Int))) mM0)
                               else
                                none
                              else
                               none
                             else
                              none
                           else
                            none
                          else
                           none
                         else
                          none
                       else
                        none
                      else
                       none
                     else
                      none
                  else
                   none
                 else
                  none
                else
                 none
             else
              none
          else
           none
         else
          none
        else
         none
       else
        none
      else
       none
    else
     none
   else
    none
  else
   some (.ret (CV.bool Bool.true))
theorem c5_5 (fu : Nat) (i3 : Int) (i10 : Int) (mM0 : List (Int × List Int × List Int × List Int)) : cutL (E5 fu) kr5 K5_5 C5_5 (s5_5 i3 i10 mM0) = t5_5 i3 i10 mM0 := by kernel_rfl
theorem h5_5 (i3 : Int) (i10 : Int) (mM0 : List (Int × List Int × List Int × List Int)) (r : CV) (h : Good E5 kr5 (t5_5 i3 i10 mM0) r) : Lead E5 kr5 r (a5_5 i3 i10 mM0) := Lead.at fuel5 (fun fu => c5_5 fu i3 i10 mM0) h
noncomputable def t5 (ns : List Int) (size : Int) (ms : List Int) (d : Int) : Option Leaf :=
  bif ok18 ns then
   bif ok19 size ms then
    some (a5_5 d ((0 : Int)) ([(NetV.N (v18 ns), NetV.T (v18 ns), NetV.X (v18 ns), NetV.C (v18 ns)), (NetV.N (v19 size ms), NetV.T (v19 size ms), NetV.X (v19 size ms), NetV.C (v19 size ms))]))
   else
    none
  else
   none
theorem c5 (fu : Nat) (ns : List Int) (size : Int) (ms : List Int) (d : Int) : cutB (E5 fu) kr5 Try.f5 (⟨parT 0 [.sl .int ns, .int .i64 size, .sl .int ms, .int .i64 d], []⟩) = t5 ns size ms d := by kernel_rfl
def R5 (ns : List Int) (size : Int) (ms : List Int) (d : Int) (r : Bool) : Prop := RunF E5 true Try.f5 [.sl .int ns, .int .i64 size, .sl .int ms, .int .i64 d] (.bool r)
theorem run5 (ns : List Int) (size : Int) (ms : List Int) (d : Int) (r : Bool) (h : Good E5 kr5 (t5 ns size ms d) (.bool r)) : R5 ns size ms d r := RunF.of fuel5 (fun fu => c5 fu ns size ms d) h
noncomputable def ok5 (ns : List Int) (size : Int) (ms : List Int) (d : Int) : Bool := okP (R5 ns size ms d)
noncomputable def v5 (ns : List Int) (size : Int) (ms : List Int) (d : Int) : Bool := valP (R5 ns size ms d)
theorem sp5 (ns : List Int) (size : Int) (ms : List Int) (d : Int) (r : Bool) (h : R5 ns size ms d r) : ok5 ns size ms d = true ∧ v5 ns size ms d = r := okP_of h fun b hb => by
  have := RunF.uniq hb h
  simp_all
theorem at5 : P.funcs[5]? = some Try.f5 := by kernel_rfl
theorem callable5 : callable 5 = true := by kernel_rfl
theorem semok5 : SemOk (semOf ents5) := EntsOk.sem (.cons entok17 (.cons entok18 (.cons entok19 (.cons entok22 (.cons entok23 (.cons entok24 (.cons entok25 (.cons entok26 (.cons entok27 (.cons entok28 (.cons entok29 (.cons entok30 (.cons entok31 (.cons entok32 (.cons entok33 (.cons entok34 (.cons entok35 (.cons entok36 (.nil)))))))))))))))))))
theorem memok5 : MemOk (memOf mems5) := EntsMOk.mem (.nil)
noncomputable def ent5 : Ent := fun args => match args with
  | [.sl .int ns, .int .i64 size, .sl .int ms, .int .i64 d] => some (true, ok5 ns size ms d, .bool (v5 ns size ms d))
  | _ => none
theorem entok5 : EntOk 5 ent5 := fun args own r h => by
  unfold ent5 at h
  split at h
  · simp only [Option.some.injEq, Prod.mk.injEq] at h
    obtain ⟨rfl, h, rfl⟩ := h
    exact ⟨RunF.calls (fun _ => semok5) (fun _ => memok5) at5 rfl (Nat.le_of_ble_eq_true rfl) (fun _ => rfl) (okP_val h), callable5⟩
  · cases h
end Go.Proofs.Ytnfgfdeidkhdkaa.Eng
/- Lt: RotRows: ends, darts about, faces, pieces of any net are the document's. -/
namespace Go.Proofs.Ytnfgfdeidkhdkaa.Eng
set_option linter.unusedVariables false
set_option linter.unusedSimpArgs false
theorem l27 {a b : List Int} (hl : a.length = b.length) (ha : (a.length : Int) ≤ 4294967296) : ∀ (n : Nat) (i : Int), 0 ≤ i → i ≤ a.length → (a.length : Int) - i = n → (∀ x : Int, 0 ≤ x → x < i → gi a x = gi b x) → Lead E27 kr27 (.bool (decide (a = b))) (a27_4 a b i) := by
  intro n
  induction n with
  | zero =>
    intro i i0 i1 i2 h
    have : a = b := gi_ext hl fun x x0 x1 => h x x0 (by omega)
    refine h27_4 _ _ _ _ ?_
    unfold t27_4
    repeat (first | (refine good_pos (by omega) ?_) | (refine good_pos trivial ?_) | (refine good_neg (by omega) ?_) | (refine good_npos (by omega) ?_) | (refine good_nneg (by omega) ?_) | (refine good_gi (by omega) (by omega) ?_) | (refine good_gb (by omega) (by omega) ?_) | (refine good_ble (by omega) ?_))
    exact good_end (by simp [this])
  | succ n ih =>
    intro i i0 i1 i2 h
    refine h27_4 _ _ _ _ ?_
    unfold t27_4
    simp (disch := omega) only [wrap_in]
    by_cases c : gi a i = gi b i
    · have := ih (i + 1) (by omega) (by omega) (by omega) (fun x x0 x1 => by
        by_cases e : x = i
        · subst e; exact c
        · exact h x x0 (by omega))
      repeat (first | (refine good_pos (by omega) ?_) | (refine good_pos trivial ?_) | (refine good_neg (by omega) ?_) | (refine good_npos (by omega) ?_) | (refine good_nneg (by omega) ?_) | (refine good_gi (by omega) (by omega) ?_) | (refine good_gb (by omega) (by omega) ?_) | (refine good_ble (by omega) ?_))
      exact good_at this
    · have hne : ¬ a = b := fun e => c (by rw [e])
      repeat (first | (refine good_pos (by omega) ?_) | (refine good_pos trivial ?_) | (refine good_neg (by omega) ?_) | (refine good_npos (by omega) ?_) | (refine good_nneg (by omega) ?_) | (refine good_gi (by omega) (by omega) ?_) | (refine good_gb (by omega) (by omega) ?_) | (refine good_ble (by omega) ?_))
      exact good_end (by simp [hne])
theorem f27 {a b : List Int} (ha : (a.length : Int) ≤ 4294967296) : ok27 a b = true ∧ v27 a b = decide (a = b) :=
  sp27 _ _ _ (run27 _ _ _ (by
    unfold t27
    by_cases c : a.length = b.length
    · have := l27 c ha a.length 0 (by omega) (by omega) (by omega) (fun x _ _ => by omega)
      repeat (first | (refine good_pos (by omega) ?_) | (refine good_pos trivial ?_) | (refine good_neg (by omega) ?_) | (refine good_npos (by omega) ?_) | (refine good_nneg (by omega) ?_) | (refine good_gi (by omega) (by omega) ?_) | (refine good_gb (by omega) (by omega) ?_) | (refine good_ble (by omega) ?_))
      exact good_at this
    · have hne : ¬ a = b := fun e => c (by rw [e])
      repeat (first | (refine good_pos (by omega) ?_) | (refine good_pos trivial ?_) | (refine good_neg (by omega) ?_) | (refine good_npos (by omega) ?_) | (refine good_nneg (by omega) ?_) | (refine good_gi (by omega) (by omega) ?_) | (refine good_gb (by omega) (by omega) ?_) | (refine good_ble (by omega) ?_))
      exact good_end (by simp [hne])))
theorem f27_same {a b : List Int} (h : a = b) (ha : (a.length : Int) ≤ 4294967296) : ok27 a b = true ∧ v27 a b = true := by
  obtain ⟨x, y⟩ := f27 (b := b) ha
  exact ⟨x, by rw [y]; simp [h]⟩
theorem f28_same {m q : NetV} (h : m = q) (h1 : (m.T.length : Int) ≤ 4294967296) (h2 : (m.X.length : Int) ≤ 4294967296) (h3 : (m.C.length : Int) ≤ 4294967296) : ok28 m.N m.T m.X m.C q.N q.T q.X q.C = true ∧ v28 m.N m.T m.X m.C q.N q.T q.X q.C = true := by
  subst h
  exact sp28 _ _ _ _ _ _ _ _ _ (run28 _ _ _ _ _ _ _ _ _ (by
    obtain ⟨a1, a2⟩ := f27_same (a := m.T) rfl h1
    obtain ⟨b1, b2⟩ := f27_same (a := m.X) rfl h2
    obtain ⟨c1, c2⟩ := f27_same (a := m.C) rfl h3
    unfold t28
    simp only [a1, a2, b1, b2, c1, c2, cond_true, decide_true]
    exact good_end rfl))
theorem l30_3 {N n' : Int} {T X C a b c : List Int} (hX : (X.length : Int) ≤ 240) (hT : (T.length : Int) ≤ 240) (hC : (C.length : Int) ≤ 240) (hr : InR X X.length) (hinj : ∀ d e : Int, 0 ≤ d → d < (X.length : Int) → 0 ≤ e → e < (X.length : Int) → gi X d = gi X e → d = e) :
    ∀ (n : Nat) (i : Int) (Y : List Int), 0 ≤ i → i ≤ X.length → (X.length : Int) - i = n → Y.length = X.length → (∀ d : Int, 0 ≤ d → d < i → gi Y (gi X d) = d) →
      ∃ Z : List Int, Z.length = X.length ∧ (∀ d : Int, 0 ≤ d → d < (X.length : Int) → gi Z (gi X d) = d) ∧ Lead E30 kr30 (.agg [.int .i64 N, .sl .int T, .sl .int Z, .sl .int C]) (a30_3 i N T X C n' a b c Y) := by
  intro n
  induction n with
  | zero =>
    intro i Y i0 i1 i2 hl hy
    refine ⟨Y, hl, fun d d0 d1 => hy d d0 (by omega), h30_3 _ _ _ _ _ _ _ _ _ _ _ ?_⟩
    unfold t30_3
    repeat (first | (refine good_pos (by omega) ?_) | (refine good_pos trivial ?_) | (refine good_neg (by omega) ?_) | (refine good_npos (by omega) ?_) | (refine good_nneg (by omega) ?_) | (refine good_gi (by omega) (by omega) ?_) | (refine good_gb (by omega) (by omega) ?_) | (refine good_ble (by omega) ?_))
    exact good_end rfl
  | succ n ih =>
    intro i Y i0 i1 i2 hl hy
    have r := hr i i0 (by omega)
    obtain ⟨Z, z1, z2, z3⟩ := ih (i + 1) (Y.set (gi X i).toNat i) (by omega) (by omega) (by omega) (by rw [List.length_set]; exact hl) (fun d d0 d1 => by
      have rd := hr d d0 (by omega)
      rw [gi_set r.1 (by omega) rd.1]
      by_cases e : d = i
      · subst e; rw [if_pos rfl]
      · rw [if_neg (fun h => e (hinj d i d0 (by omega) i0 (by omega) h))]; exact hy d d0 (by omega))
    refine ⟨Z, z1, z2, h30_3 _ _ _ _ _ _ _ _ _ _ _ ?_⟩
    unfold t30_3
    simp (disch := omega) only [wrap_in]
    repeat (first | (refine good_pos (by omega) ?_) | (refine good_pos trivial ?_) | (refine good_neg (by omega) ?_) | (refine good_npos (by omega) ?_) | (refine good_nneg (by omega) ?_) | (refine good_gi (by omega) (by omega) ?_) | (refine good_gb (by omega) (by omega) ?_) | (refine good_ble (by omega) ?_))
    exact good_at z3
/-- each is the next one of some -/
theorem perm_onto {f : Int → Int} {m : Int} (hp : PermOn f m) {u : Int} (u0 : 0 ≤ u) (u1 : u < m) : ∃ d : Int, 0 ≤ d ∧ d < m ∧ f d = u := by
  obtain ⟨k, k0, -, hk⟩ := hp.period u0 u1
  obtain ⟨q, rfl⟩ : ∃ q, k = q + 1 := ⟨k - 1, by omega⟩
  have r := it_rng hp.rng u0 u1 q
  exact ⟨it f q u, r.1, r.2, hk⟩
theorem f2930 {N : Int} {T X C : List Int} (hT : (T.length : Int) ≤ 240) (hX : (X.length : Int) ≤ 240) (hC : (C.length : Int) ≤ 240) (hp : PermOn (sta X) X.length) :
    ok29 N T X C = true ∧ ok30 N T X C = true ∧ v29 N T X C = v30 N T X C ∧ (v29 N T X C).T = T ∧ (v29 N T X C).X.length = X.length ∧ (v29 N T X C).C = C := by
  obtain ⟨a1, a2⟩ := f29 (N := N) hT hX hC
  obtain ⟨Z, z1, z2, z3⟩ := l30_3 (N := N) (n' := 0) (a := []) (b := []) (c := []) hX hT hC hp.rng hp.inj X.length 0 (List.replicate (X.length : Int).toNat 0) (by omega) (by omega) (by omega) (by simp) (fun d _ _ => by omega)
  have h30 := sp30 N T X C ⟨N, T, Z, C⟩ (run30 _ _ _ _ _ (by
    unfold t30
    repeat (first | (refine good_pos (by omega) ?_) | (refine good_pos trivial ?_) | (refine good_neg (by omega) ?_) | (refine good_npos (by omega) ?_) | (refine good_nneg (by omega) ?_) | (refine good_gi (by omega) (by omega) ?_) | (refine good_gb (by omega) (by omega) ?_) | (refine good_ble (by omega) ?_))
    exact good_at z3))
  refine ⟨a1, h30.1, ?_, a2.t, a2.len, a2.c⟩
  rw [h30.2]
  have : (v29 N T X C).X = Z := gi_ext (by rw [a2.len, z1]) fun u u0 u1 => by
    rw [a2.len] at u1
    obtain ⟨d, d0, d1, rfl⟩ := perm_onto hp u0 u1
    exact (a2.inv hp.inj hp.rng d d0 d1).trans (z2 d d0 d1).symm
  have e1 := a2.n
  have e2 := a2.t
  have e3 := a2.c
  generalize v29 N T X C = q at *
  cases q
  simp_all
/-- both nets may be asked -/
structure Asked (m : NetV) : Prop where
  f : FineN m.N m.T m.X m.C
  x : (m.X.length : Int) = m.T.length
  c : (m.C.length : Int) = m.T.length
  k : (m.T.length : Int) ≤ 240
  e : (m.T.length : Int) % 2 = 0
  p : PermOn (sta m.X) m.T.length
theorem PlaneOk.asked {m : NetV} (h : PlaneOk m) : Asked m := ⟨.inl h.s, h.s.x, h.s.c, h.s.k, h.s.e, h.t.perm⟩
theorem Made.shp {m : NetV} (h : Made m) (hn : m.N ≠ 0) : Shape m.N m.T m.X m.C :=
  ⟨by have := h.n0; omega, by have := h.n1; omega, by have := h.k; omega, h.p.len, h.c, h.e, h.p.rng, h.tr⟩
theorem Made.asked {m : NetV} (h : Made m) : Asked m := by
  have h1 := h.p.len
  have h2 := h.k
  refine ⟨?_, h.p.len, h.c, by omega, h.e, ⟨fun d d0 d1 => h.p.rng d d0 (by omega), h.p.inj⟩⟩
  by_cases c : m.N = 0
  · exact .inr ⟨c, h.z c⟩
  · exact .inl (h.shp c)
/-- pieces of a net that may be asked -/
theorem parts_same {m : NetV} (h : Asked m) : ok25 m.N m.T m.X m.C = true ∧ ok26 m.N m.T m.X m.C = true ∧ v25 m.N m.T m.X m.C = v26 m.N m.T m.X m.C ∧ ((v25 m.N m.T m.X m.C).1.length : Int) ≤ 60 := by
  rcases h.f with hs | ⟨hn, ht⟩
  · obtain ⟨a1, a2⟩ := f25 hs
    obtain ⟨b1, b2⟩ := f26 hs
    obtain ⟨e1, e2⟩ := a2.uniq hs.e b2
    have := a2.len
    have := hs.n1
    exact ⟨a1, b1, Prod.ext e1 e2, by omega⟩
  · obtain ⟨c1, c2⟩ := f72 m.N m.T m.X m.C
    obtain ⟨d1, d2⟩ := f75 (v := -1) (n := m.N) (by omega) (by omega)
    have h25 := sp25 m.N m.T m.X m.C ([], 0) (run25 _ _ _ _ _ (by
      unfold t25
      rw [d2]
      refine good_true c1 (good_nfalse (c2.2 h.f) (good_true d1 ?_))
      rw [hn]
      refine good_at (h25_6 _ _ _ _ _ _ _ _ _ ?_)
      unfold t25_6
      refine good_neg (by simp) ?_
      exact good_end rfl))
    have h26 := sp26 m.N m.T m.X m.C ([], 0) (run26 _ _ _ _ _ (by
      unfold t26
      repeat (first | (refine good_pos (by omega) ?_) | (refine good_pos trivial ?_) | (refine good_neg (by omega) ?_) | (refine good_npos (by omega) ?_) | (refine good_nneg (by omega) ?_) | (refine good_gi (by omega) (by omega) ?_) | (refine good_gb (by omega) (by omega) ?_) | (refine good_ble (by omega) ?_))
      rw [hn]
      refine good_at (h26_3 _ _ _ _ _ _ _ ?_)
      unfold t26_3
      refine good_neg (by omega) ?_
      refine good_at (h26_7 _ _ _ _ _ _ _ ?_)
      unfold t26_7
      refine good_true rfl ?_
      refine good_at (h26_10 _ _ _ _ _ _ _ _ ?_)
      unfold t26_10
      refine good_neg (by omega) ?_
      refine good_at (h26_7 _ _ _ _ _ _ _ ?_)
      unfold t26_7
      refine good_false rfl ?_
      repeat (first | (refine good_pos (by omega) ?_) | (refine good_pos trivial ?_) | (refine good_neg (by omega) ?_) | (refine good_npos (by omega) ?_) | (refine good_nneg (by omega) ?_) | (refine good_gi (by omega) (by omega) ?_) | (refine good_gb (by omega) (by omega) ?_) | (refine good_ble (by omega) ?_))
      refine good_at (h26_19 _ _ _ _ _ _ _ _ _ ?_)
      unfold t26_19
      refine good_neg (by omega) ?_
      exact good_end rfl))
    exact ⟨h25.1, h26.1, by rw [h25.2, h26.2], by rw [h25.2]; simp⟩
theorem faces_same {m : NetV} (h : Asked m) : ok23 m.N m.T m.X m.C = true ∧ ok24 m.N m.T m.X m.C = true ∧ v23 m.N m.T m.X m.C = v24 m.N m.T m.X m.C ∧ ((v23 m.N m.T m.X m.C).1.length : Int) = m.T.length := by
  have hb := perm_ab' h.e h.p
  obtain ⟨a1, a2⟩ := f23 h.f h.x hb
  obtain ⟨b1, b2⟩ := f24 (N := m.N) (C := m.C) h.k h.e h.x hb
  obtain ⟨e1, e2⟩ := a2.uniq hb b2
  obtain ⟨j, hj, -⟩ := a2.ex
  exact ⟨a1, b1, Prod.ext e1 e2, hj.len⟩
/-- a round of that net -/
theorem l5_5 {x : Int} {l : List (Int × List Int × List Int × List Int)} (hl : l.length = 2) (ha : ∀ (i : Nat) (q : Int × List Int × List Int × List Int), l[i]? = some q → Asked ⟨q.1, q.2.1, q.2.2.1, q.2.2.2⟩) :
    ∀ (n : Nat) (i : Int), 0 ≤ i → 2 - i = n → Lead E5 kr5 (.bool true) (a5_5 x i l) := by
  intro n
  induction n with
  | zero =>
    intro i i0 i1
    refine h5_5 _ _ _ _ ?_
    unfold t5_5
    repeat (first | (refine good_pos (by omega) ?_) | (refine good_pos trivial ?_) | (refine good_neg (by omega) ?_) | (refine good_npos (by omega) ?_) | (refine good_nneg (by omega) ?_) | (refine good_gi (by omega) (by omega) ?_) | (refine good_gb (by omega) (by omega) ?_) | (refine good_ble (by omega) ?_))
    exact good_end rfl
  | succ n ih =>
    intro i i0 i1
    have nxt := ih (i + 1) (by omega) (by omega)
    have hi : i.toNat < l.length := by omega
    have hq := List.getElem?_eq_getElem hi
    have hA := ha _ _ hq
    generalize l[i.toNat] = q at hq hA
    obtain ⟨N, T, X, C⟩ := q
    simp only at hA
    have hx := hA.x
    have hc := hA.c
    have hk := hA.k
    have he := hA.e
    simp only at hx hc hk he
    obtain ⟨a1, a2, a3, a4⟩ := faces_same hA
    obtain ⟨b1, b2, b3, b4⟩ := parts_same hA
    simp only at a1 a2 a3 a4 b1 b2 b3 b4
    obtain ⟨c1, c2, c3, c4, c5, c6⟩ := f2930 (N := N) (T := T) (X := X) (C := C) (by omega) (by omega) (by omega) (by have := hA.p; simp only at this; rw [hx]; exact this)
    obtain ⟨d1, d2⟩ := f27_same (a := (v23 N T X C).1) (b := (v24 N T X C).1) (by rw [a3]) (by omega)
    obtain ⟨e1, e2⟩ := f27_same (a := (v25 N T X C).1) (b := (v26 N T X C).1) (by rw [b3]) (by omega)
    obtain ⟨g1, g2⟩ := f28_same c3 (by rw [c4]; omega) (by rw [c5]; omega) (by rw [c6]; omega)
    have s1 : decide ((v23 N T X C).2 = (v24 N T X C).2) = true := by rw [a3]; simp
    have s2 : decide ((v25 N T X C).2 = (v26 N T X C).2) = true := by rw [b3]; simp
    have e3 : IntKind.wrap IntKind.i64 (i + 1) = i + 1 := wrap_in (by omega) (by omega)
    refine h5_5 _ _ _ _ ?_
    unfold t5_5
    refine good_pos (by omega) (good_pos i0 (good_pos (by omega) ?_))
    rw [hq, ob_some]
    simp only [a1, a2, b1, b2, d1, d2, e1, e2, s1, s2, c1, c2, g1, g2, cond_true, cond_false, Bool.not_true, e3]
    by_cases cT : (T.length : Int) = 0
    · refine good_pos cT ?_
      exact good_at nxt
    · refine good_neg cT ?_
      have hs : Shape N T X C := by
        rcases hA.f with h | h
        · exact h
        · exact absurd h.2 cT
      obtain ⟨p1, p2, p3⟩ := f22 (a := x) (n := (T.length : Int)) (by omega) (by omega)
      generalize v22 x (T.length : Int) = y at p2 p3 ⊢
      obtain ⟨q1, q2⟩ := f31 (N := N) (X := X) (C := C) p2 p3 he (by omega)
      obtain ⟨r1, r2⟩ := f32 (N := N) (X := X) (C := C) p2 p3 he (by omega)
      have hp := hA.p
      simp only at hp
      obtain ⟨k, k1, k2⟩ := hp.per p2 p3
      obtain ⟨j, j1, j2⟩ := (perm_ab' he hp).per p2 p3
      obtain ⟨t1, t2⟩ := f33 (N := N) (T := T) (X := X) (C := C) hs p2 (by omega) k2 (by omega)
      obtain ⟨u1, u2⟩ := f34 (N := N) (T := T) (X := X) (C := C) hs.xr' (by omega) p2 (by omega) k2 (by omega)
      obtain ⟨w1, w2⟩ := f35 (N := N) (T := T) (X := X) (C := C) hs p2 (by omega) j2 (by omega)
      obtain ⟨z1, z2⟩ := f36 (N := N) (T := T) (X := X) (C := C) hs.xb (by omega) (by omega) p2 (by omega) j2 (by omega)
      have hl1 : ((rnd (sta X) y k).length : Int) ≤ 4294967296 := by rw [rnd_len]; omega
      have hl2 : ((rnd (stb X) y j).length : Int) ≤ 4294967296 := by rw [rnd_len]; omega
      obtain ⟨m1, m2⟩ := f27_same (a := rnd (sta X) y k) rfl hl1
      obtain ⟨n1, n2⟩ := f27_same (a := rnd (stb X) y j) rfl hl2
      simp only [p1, q1, q2, r1, r2, t1, t2, u1, u2, w1, w2, z1, z2, m1, m2, n1, n2, cond_true, cond_false, decide_true, Bool.not_true]
      exact good_at nxt
theorem f5 (ns : List Int) (size : Int) (ms : List Int) (d : Int) : R5 ns size ms d true := by
  obtain ⟨a1, a2, a3, a4⟩ := f18 ns
  obtain ⟨b1, b2, -⟩ := f19 size ms
  refine run5 _ _ _ _ _ ?_
  unfold t5
  refine good_true a1 (good_true b1 (good_at (l5_5 rfl (fun i q hq => ?_) 2 0 (by omega) (by omega))))
  match i, hq with
  | 0, hq => cases hq; exact a2.asked
  | 1, hq => cases hq; exact b2.asked
theorem rotRows_calls (ns : List Int) (size : Int) (ms : List Int) (d : Int) : CallsC 5 [.sl .int ns, .int .i64 size, .sl .int ms, .int .i64 d] true (.bool true) :=
  RunF.calls (fun _ => semok5) (fun _ => memok5) at5 rfl (Nat.le_of_ble_eq_true rfl) (fun _ => rfl) (f5 ns size ms d)
end Go.Proofs.Ytnfgfdeidkhdkaa.Eng
