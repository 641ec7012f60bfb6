/- RotParts: two vertices are of one piece just where darts lead from the one to the other. -/
import Derived.Test.YtnfgfdeidkhdkaaLf
import Derived.Test.YtnfgfdeidkhdkaaLh
import Derived.Test.YtnfgfdeidkhdkaaP6
namespace Go.Proofs.Ytnfgfdeidkhdkaa.Eng
set_option linter.unusedVariables false
set_option linter.unusedSimpArgs false
def falses (l : List Bool) : Nat := l.countP fun x => !x
theorem falses_set {l : List Bool} {x : Int} (h0 : 0 ≤ x) (h1 : x < (l.length : Int)) (hn : gb l x = false) : falses (l.set x.toNat true) < falses l := by
  unfold falses
  have hi : x.toNat < l.length := by omega
  have hg : l[x.toNat] = gb l x := by
    have := gb_some h0 h1
    rw [List.getElem?_eq_getElem hi] at this
    exact Option.some.inj this
  have hpos : 0 < l.countP fun x => !x := List.countP_pos_iff.2 ⟨l[x.toNat], List.getElem_mem hi, by rw [hg, hn]; rfl⟩
  rw [List.countP_set hi, hg, hn]
  simp only [Bool.not_false, if_true, Bool.not_true, Bool.false_eq_true, if_false]
  omega
theorem gb_replicate {n : Nat} {v : Bool} {x : Int} (h0 : 0 ≤ x) (h1 : x < (n : Int)) : gb (List.replicate n v) x = v := by
  simp only [gb, List.getD_eq_getElem?_getD]
  rw [List.getElem?_replicate, if_pos (by omega)]; rfl
theorem Made.shape {m : NetV} (h : Made m) (hn : m.N ≠ 0) : Shape m.N m.T m.X m.C :=
  ⟨by have := h.n0; omega, by have := h.n1; omega, by have := h.k; omega, h.p.len, h.c, h.e, h.p.rng, h.tr⟩
/-- what was got -/
structure Got (N : Int) (T : List Int) (x : Int) (g : List Bool) : Prop where
  len : (g.length : Int) = N
  self : gb g x = true
  conn : ∀ u : Int, 0 ≤ u → u < N → gb g u = true → Conn T x u
section
variable {N : Int} {T X C p : List Int} {k x y : Int}
theorem l6_23 (hs : Shape N T X C) (hp : Parted N T p k) (hx : 0 ≤ x ∧ x < N) (hy : 0 ≤ y ∧ y < N) {g : List Bool} (hg : Got N T x g) (hst : ∀ d : Int, 0 ≤ d → d < (T.length : Int) → gb g (gi T d) = true → gb g (gi T (oth d)) = true) :
    ∀ (n : Nat) (v : Int), 0 ≤ v → v ≤ N → N - v = n → Lead E6 kr6 (.bool true) (a6_23 k x y (rk T v) v N T X C p g) := by
  have hpl := hp.len
  have hgl := hg.len
  have hn60 := hs.n1
  intro n
  induction n with
  | zero =>
    intro v h0 h1 h2
    obtain rfl : v = N := by omega
    refine h6_23 _ _ _ _ _ _ _ _ _ _ _ _ ?_
    unfold t6_23
    repeat (first | (refine good_pos (by omega) ?_) | (refine good_pos trivial ?_) | (refine good_neg (by omega) ?_) | (refine good_npos (by omega) ?_) | (refine good_nneg (by omega) ?_) | (refine good_gi (by omega) (by omega) ?_) | (refine good_gb (by omega) (by omega) ?_) | (refine good_ble (by omega) ?_))
    have key : (gi p x = gi p y) ↔ gb g y = true := by
      rw [hp.eq_iff hs.e hx hy]
      constructor
      · intro hc
        have : ∀ u, Conn T x u → gb g u = true := by
          intro u hu
          induction hu with
          | refl => exact hg.self
          | @step w d _ d0 d1 d2 ih => exact hst d d0 d1 (by rw [d2]; exact ih)
        exact this y hc
      · exact hg.conn y hy.1 hy.2
    refine good_true ?_ ?_
    · by_cases c : gb g y = true
      · simp [c, key.2 c]
      · have c' : ¬ gi p x = gi p y := fun e => c (key.1 e)
        simp [c, c']
    · have hk := hp.k
      exact good_end (by simp [hk])
  | succ n ih =>
    intro v h0 h1 h2
    obtain ⟨w, w0, w1, w2, w3, w4⟩ := hp.num v h0 (by omega)
    have hle := rk_le (T := T) w0 w1
    have hw := rk_nonneg T w0
    have hself := rk_self (T := T) h0
    have := ih (v + 1) (by omega) (by omega) (by omega)
    refine h6_23 _ _ _ _ _ _ _ _ _ _ _ _ ?_
    unfold t6_23
    simp (disch := omega) only [wrap_in]
    by_cases c : Root T v
    · obtain rfl := root_uniq hs.e w0 w2 h0 c w3
      rw [rk_root h0 c] at this
      repeat (first | (refine good_pos (by omega) ?_) | (refine good_pos trivial ?_) | (refine good_neg (by omega) ?_) | (refine good_npos (by omega) ?_) | (refine good_nneg (by omega) ?_) | (refine good_gi (by omega) (by omega) ?_) | (refine good_gb (by omega) (by omega) ?_) | (refine good_ble (by omega) ?_))
      exact good_at this
    · have hlt : w < v := by
        by_cases e : w = v
        · subst e; exact absurd w2 c
        · omega
      have := rk_lt w0 w2 hlt
      rw [rk_not h0 c] at *
      repeat (first | (refine good_pos (by omega) ?_) | (refine good_pos trivial ?_) | (refine good_neg (by omega) ?_) | (refine good_npos (by omega) ?_) | (refine good_nneg (by omega) ?_) | (refine good_gi (by omega) (by omega) ?_) | (refine good_gb (by omega) (by omega) ?_) | (refine good_ble (by omega) ?_))
      exact good_at (by assumption)
theorem l6_16 {r : CV} (hs : Shape N T X C) (hx : 0 ≤ x ∧ x < N) (m : Nat)
    (hk : ∀ (b : Bool) (g : List Bool), Got N T x g → (b = false → ∀ d : Int, 0 ≤ d → d < (T.length : Int) → gb g (gi T d) = true → gb g (gi T (oth d)) = true) → (b = true → falses g < m) → Lead E6 kr6 r (a6_13 k x y b N T X C p g)) :
    ∀ (n : Nat) (d : Int) (b : Bool) (g : List Bool), 0 ≤ d → d ≤ T.length → (T.length : Int) - d = n → Got N T x g → (b = false → ∀ e : Int, 0 ≤ e → e < d → gb g (gi T e) = true → gb g (gi T (oth e)) = true) → (b = true → falses g < m) → falses g ≤ m →
      Lead E6 kr6 r (a6_16 k x y b d N T X C p g) := by
  intro n
  have hk240 := hs.k
  induction n with
  | zero =>
    intro d b g h0 h1 h2 hg hb hm hm'
    refine h6_16 _ _ _ _ _ _ _ _ _ _ _ _ ?_
    unfold t6_16
    repeat (first | (refine good_pos (by omega) ?_) | (refine good_pos trivial ?_) | (refine good_neg (by omega) ?_) | (refine good_npos (by omega) ?_) | (refine good_nneg (by omega) ?_) | (refine good_gi (by omega) (by omega) ?_) | (refine good_gb (by omega) (by omega) ?_) | (refine good_ble (by omega) ?_))
    exact good_at (hk b g hg (fun e x x0 x1 => hb e x x0 (by omega)) hm)
  | succ n ih =>
    intro d b g h0 h1 h2 hg hb hm hm'
    refine h6_16 _ _ _ _ _ _ _ _ _ _ _ _ ?_
    unfold t6_16
    rw [xor_one h0 (by omega)]
    simp (disch := omega) only [wrap_in]
    have hl := hg.len
    have ht := hs.tr d h0 (by omega)
    obtain ⟨o0, o1⟩ := oth_in h0 (show d < T.length by omega) hs.e
    have hh := hs.tr _ o0 o1
    repeat (first | (refine good_pos (by omega) ?_) | (refine good_pos trivial ?_) | (refine good_neg (by omega) ?_) | (refine good_npos (by omega) ?_) | (refine good_nneg (by omega) ?_) | (refine good_gi (by omega) (by omega) ?_) | (refine good_gb (by omega) (by omega) ?_) | (refine good_ble (by omega) ?_))
    by_cases c1 : gb g (gi T d) = true
    · refine good_true c1 ?_
      repeat (first | (refine good_pos (by omega) ?_) | (refine good_pos trivial ?_) | (refine good_neg (by omega) ?_) | (refine good_npos (by omega) ?_) | (refine good_nneg (by omega) ?_) | (refine good_gi (by omega) (by omega) ?_) | (refine good_gb (by omega) (by omega) ?_) | (refine good_ble (by omega) ?_))
      by_cases c2 : gb g (gi T (oth d)) = false
      · refine good_ntrue c2 ?_
        repeat (first | (refine good_pos (by omega) ?_) | (refine good_pos trivial ?_) | (refine good_neg (by omega) ?_) | (refine good_npos (by omega) ?_) | (refine good_nneg (by omega) ?_) | (refine good_gi (by omega) (by omega) ?_) | (refine good_gb (by omega) (by omega) ?_) | (refine good_ble (by omega) ?_))
        have hm2 := falses_set hh.1 (by omega) c2
        refine good_at (ih (d + 1) true _ (by omega) (by omega) (by omega) ⟨by rw [List.length_set]; exact hl, ?_, fun u u0 u1 hu => ?_⟩ (fun e => by cases e) (fun _ => by omega) (by omega))
        · rw [gb_set hh.1 (by omega) hx.1]
          split
          · rfl
          · exact hg.self
        · rw [gb_set hh.1 (by omega) u0] at hu
          by_cases e : u = gi T (oth d)
          · rw [e]; exact .step (hg.conn _ ht.1 ht.2 c1) h0 (by omega) rfl
          · rw [if_neg e] at hu; exact hg.conn u u0 u1 hu
      · have c2' : gb g (gi T (oth d)) = true := by simpa using c2
        refine good_nfalse c2' ?_
        refine good_at (ih (d + 1) b g (by omega) (by omega) (by omega) hg (fun e x x0 x1 hx => ?_) hm hm')
        by_cases ex : x = d
        · subst ex; exact c2'
        · exact hb e x x0 (by omega) hx
    · refine good_false (by simpa using c1) ?_
      refine good_at (ih (d + 1) b g (by omega) (by omega) (by omega) hg (fun e x x0 x1 hx => ?_) hm hm')
      by_cases ex : x = d
      · subst ex; exact absurd hx c1
      · exact hb e x x0 (by omega) hx
theorem l6_13 (hs : Shape N T X C) (hp : Parted N T p k) (hx : 0 ≤ x ∧ x < N) (hy : 0 ≤ y ∧ y < N) :
    ∀ (m : Nat) (b : Bool) (g : List Bool), Got N T x g → (b = false → ∀ d : Int, 0 ≤ d → d < (T.length : Int) → gb g (gi T d) = true → gb g (gi T (oth d)) = true) → falses g < m → Lead E6 kr6 (.bool true) (a6_13 k x y b N T X C p g) := by
  have hn0 := hs.n0
  have fin : ∀ g : List Bool, Got N T x g → (∀ d : Int, 0 ≤ d → d < (T.length : Int) → gb g (gi T d) = true → gb g (gi T (oth d)) = true) → Lead E6 kr6 (.bool true) (a6_13 k x y false N T X C p g) := by
    intro g hg hst
    refine h6_13 _ _ _ _ _ _ _ _ _ _ _ ?_
    unfold t6_13
    refine good_false rfl ?_
    have := l6_23 hs hp hx hy hg hst N.toNat 0 (by omega) (by omega) (by omega)
    rw [rk_zero] at this
    exact good_at this
  intro m
  induction m with
  | zero => intro b g _ _ h; omega
  | succ m ih =>
    intro b g hg hb hm
    cases b with
    | false => exact fin g hg (hb rfl)
    | true =>
      refine h6_13 _ _ _ _ _ _ _ _ _ _ _ ?_
      unfold t6_13
      refine good_true rfl ?_
      exact good_at (l6_16 hs hx (falses g) (fun b' g' hg' hb' hm' => by
        cases b' with
        | false => exact fin g' hg' (hb' rfl)
        | true => exact ih true g' hg' (fun e => by cases e) (by have := hm' rfl; omega)) T.length 0 false g (by omega) (by omega) (by omega) hg (fun _ e _ _ => by omega) (fun e => by cases e) (Nat.le_refl _))
end
theorem f6 (size : Int) (ms : List Int) (a b : Int) : R6 size ms a b true := by
  obtain ⟨a1, a2, a3⟩ := f22 (a := size) (n := 8) (by decide) (by decide)
  refine run6 _ _ _ _ _ ?_
  unfold t6
  simp (disch := omega) only [wrap_in]
  refine good_true a1 ?_
  obtain ⟨b1, b2, b3⟩ := f19 (1 + v22 size 8) ms
  refine good_true b1 ?_
  generalize v19 (1 + v22 size 8) ms = m at b2 b3 ⊢
  have hn0 := b2.n0
  have hn1 := b2.n1
  by_cases c : m.N = 0
  · repeat (first | (refine good_pos (by omega) ?_) | (refine good_pos trivial ?_) | (refine good_neg (by omega) ?_) | (refine good_npos (by omega) ?_) | (refine good_nneg (by omega) ?_) | (refine good_gi (by omega) (by omega) ?_) | (refine good_gb (by omega) (by omega) ?_) | (refine good_ble (by omega) ?_))
    exact good_end rfl
  · have hs := b2.shape c
    obtain ⟨c1, c2⟩ := f25 hs
    have hl := c2.len
    obtain ⟨d1, d2, d3⟩ := f22 (a := a) (n := m.N) (by omega) (by omega)
    obtain ⟨e1, e2, e3⟩ := f22 (a := b) (n := m.N) (by omega) (by omega)
    have hrl : ((List.replicate m.N.toNat false).length : Int) = m.N := by simp; omega
    repeat (first | (refine good_pos (by omega) ?_) | (refine good_pos trivial ?_) | (refine good_neg (by omega) ?_) | (refine good_npos (by omega) ?_) | (refine good_nneg (by omega) ?_) | (refine good_gi (by omega) (by omega) ?_) | (refine good_gb (by omega) (by omega) ?_) | (refine good_ble (by omega) ?_))
    refine good_true c1 ?_
    repeat (first | (refine good_pos (by omega) ?_) | (refine good_pos trivial ?_) | (refine good_neg (by omega) ?_) | (refine good_npos (by omega) ?_) | (refine good_nneg (by omega) ?_) | (refine good_gi (by omega) (by omega) ?_) | (refine good_gb (by omega) (by omega) ?_) | (refine good_ble (by omega) ?_))
    refine good_true d1 ?_
    repeat (first | (refine good_pos (by omega) ?_) | (refine good_pos trivial ?_) | (refine good_neg (by omega) ?_) | (refine good_npos (by omega) ?_) | (refine good_nneg (by omega) ?_) | (refine good_gi (by omega) (by omega) ?_) | (refine good_gb (by omega) (by omega) ?_) | (refine good_ble (by omega) ?_))
    refine good_true e1 ?_
    rw [hrl]
    repeat (first | (refine good_pos (by omega) ?_) | (refine good_pos trivial ?_) | (refine good_neg (by omega) ?_) | (refine good_npos (by omega) ?_) | (refine good_nneg (by omega) ?_) | (refine good_gi (by omega) (by omega) ?_) | (refine good_gb (by omega) (by omega) ?_) | (refine good_ble (by omega) ?_))
    have hg : Got m.N m.T (v22 a m.N) ((List.replicate m.N.toNat false).set (v22 a m.N).toNat true) := by
      refine ⟨by rw [List.length_set]; exact hrl, by rw [gb_set d2 (by omega) d2, if_pos rfl], fun u u0 u1 hu => ?_⟩
      rw [gb_set d2 (by omega) u0] at hu
      by_cases e : u = v22 a m.N
      · subst e; exact .refl
      · rw [if_neg e, gb_replicate u0 (by omega)] at hu; cases hu
    exact good_at (l6_13 hs c2 ⟨d2, d3⟩ ⟨e2, e3⟩ (falses ((List.replicate m.N.toNat false).set (v22 a m.N).toNat true) + 1) true _ hg (fun e => by cases e) (by omega))
theorem rotParts_calls (size : Int) (ms : List Int) (a b : Int) : CallsC 6 [.int .i64 size, .sl .int ms, .int .i64 a, .int .i64 b] true (.bool true) :=
  RunF.calls (fun _ => semok6) (fun _ => memok6) at6 rfl (Nat.le_of_ble_eq_true rfl) (fun _ => rfl) (f6 size ms a b)
end Go.Proofs.Ytnfgfdeidkhdkaa.Eng
