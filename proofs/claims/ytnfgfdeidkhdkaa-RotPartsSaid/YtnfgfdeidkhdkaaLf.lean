/- rot.Head, rot.Parts: pieces numbered by their least vertices. -/
import Derived.Test.YtnfgfdeidkhdkaaLe
import Derived.Test.YtnfgfdeidkhdkaaP25
namespace Go.Proofs.Ytnfgfdeidkhdkaa.Eng
set_option linter.unusedVariables false
set_option linter.unusedSimpArgs false
theorem f31 {N : Int} {T X C : List Int} {d : Int} (h0 : 0 ≤ d) (h1 : d < (T.length : Int)) (he : (T.length : Int) % 2 = 0) (hk : (T.length : Int) ≤ 4611686018427387904) : ok31 N T X C d = true ∧ v31 N T X C d = gi T (oth d) :=
  sp31 _ _ _ _ _ _ (run31 _ _ _ _ _ _ (by
    obtain ⟨a, b⟩ := f77 h0 (by omega)
    obtain ⟨c1, c2⟩ := oth_in h0 h1 he
    unfold t31
    rw [b]
    refine good_neg (by omega) (good_true a (good_neg (by omega) (good_true a ?_)))
    repeat (first | (refine good_pos (by omega) ?_) | (refine good_pos trivial ?_) | (refine good_neg (by omega) ?_) | (refine good_npos (by omega) ?_) | (refine good_nneg (by omega) ?_) | (refine good_gi (by omega) (by omega) ?_) | (refine good_gb (by omega) (by omega) ?_) | (refine good_ble (by omega) ?_))
    exact good_end rfl))
/-- on the way at v: what is numbered -/
structure PJ (N : Int) (T : List Int) (v : Int) (p : List Int) : Prop where
  len : (p.length : Int) = N
  num : ∀ u : Int, 0 ≤ u → u < N → (gi p u = -1 ∧ ∀ w, 0 ≤ w → w < v → ¬ Conn T w u) ∨ (∃ w, 0 ≤ w ∧ w < v ∧ w ≤ u ∧ Root T w ∧ Conn T w u ∧ gi p u = rk T w)
structure PK (N : Int) (T : List Int) (v : Int) (p : List Int) : Prop where
  len : (p.length : Int) = N
  num : ∀ u : Int, 0 ≤ u → u < N → (gi p u = -1 ∧ ∀ w, 0 ≤ w → w < v → ¬ Conn T w u) ∨ (∃ w, 0 ≤ w ∧ w ≤ v ∧ w ≤ u ∧ Root T w ∧ Conn T w u ∧ gi p u = rk T w)
  self : gi p v = rk T v
/-- dart d leads on to nothing new -/
def Still (T p : List Int) (c d : Int) : Prop := gi p (gi T d) = c → 0 ≤ gi p (gi T (oth d))
section
variable {N : Int} {T X C : List Int} {v : Int}
theorem still_all {p : List Int} (hs : Shape N T X C) (hv : 0 ≤ v ∧ v < N) (hr : Root T v) (h : PK N T v p) (hst : ∀ d : Int, 0 ≤ d → d < (T.length : Int) → Still T p (rk T v) d) : PJ N T (v + 1) p := by
  refine ⟨h.len, fun u h0 h1 => ?_⟩
  rcases h.num u h0 h1 with ⟨a, b⟩ | ⟨w, w0, w1, w2, w3, w4, w5⟩
  · refine .inl ⟨a, fun w w0 w1 => ?_⟩
    by_cases e : w = v
    · subst e
      intro hc
      have : ∀ x, Conn T w x → gi p x = rk T w := by
        intro x hx
        induction hx with
        | refl => exact h.self
        | @step y d hy d0 d1 d2 ih =>
          have hy' := hy.range hs.e hs.tr hv
          have hh := hs.tr _ (oth_in d0 d1 hs.e).1 (oth_in d0 d1 hs.e).2
          have h0 := hst d d0 d1 (by rw [d2]; exact ih)
          rcases h.num _ hh.1 hh.2 with ⟨a, -⟩ | ⟨z, z0, z1, z2, z3, z4, z5⟩
          · omega
          · have hc' : Conn T w (gi T (oth d)) := .step hy d0 d1 d2
            rw [z5, root_uniq hs.e z0 z3 w0 hr (z4.trans (hc'.symm hs.e))]
      have e := this u hc
      have := rk_nonneg T hv.1
      omega
    · exact b w w0 (by omega)
  · exact .inr ⟨w, w0, by omega, w2, w3, w4, w5⟩
theorem l25_14 {r : CV} (hs : Shape N T X C) (hv : 0 ≤ v ∧ v < N) (hr : Root T v) (m : Nat)
    (hk : ∀ (b : Bool) (p : List Int), PK N T v p → (b = false → ∀ d : Int, 0 ≤ d → d < (T.length : Int) → Still T p (rk T v) d) → (b = true → negs p < m) → Lead E25 kr25 r (a25_11 (rk T v) b N v N T X C p)) :
    ∀ (n : Nat) (d : Int) (b : Bool) (p : List Int), 0 ≤ d → d ≤ T.length → (T.length : Int) - d = n → PK N T v p → (b = false → ∀ e : Int, 0 ≤ e → e < d → Still T p (rk T v) e) → (b = true → negs p < m) → negs p ≤ m →
      Lead E25 kr25 r (a25_14 (rk T v) b N v T (T.length : Int) d N T X C p) := by
  intro n
  have hk240 := hs.k
  have hn60 := hs.n1
  have hrk : rk T v ≤ v := rk_self (by omega)
  have hrk0 := rk_nonneg T hv.1
  induction n with
  | zero =>
    intro d b p h0 h1 h2 hp hb hm hm'
    refine h25_14 _ _ _ _ _ _ _ _ _ _ _ _ _ ?_
    unfold t25_14
    repeat (first | (refine good_pos (by omega) ?_) | (refine good_pos trivial ?_) | (refine good_neg (by omega) ?_) | (refine good_npos (by omega) ?_) | (refine good_nneg (by omega) ?_) | (refine good_gi (by omega) (by omega) ?_) | (refine good_gb (by omega) (by omega) ?_) | (refine good_ble (by omega) ?_))
    exact good_at (hk b p hp (fun e x x0 x1 => hb e x x0 (by omega)) hm)
  | succ n ih =>
    intro d b p h0 h1 h2 hp hb hm hm'
    refine h25_14 _ _ _ _ _ _ _ _ _ _ _ _ _ ?_
    unfold t25_14
    obtain ⟨k1, k2⟩ := f31 (N := N) (T := T) (X := X) (C := C) h0 (show d < T.length by omega) hs.e (by omega)
    have hl := hp.len
    have ht := hs.tr d h0 (by omega)
    obtain ⟨o0, o1⟩ := oth_in h0 (show d < T.length by omega) hs.e
    have hh := hs.tr _ o0 o1
    rw [k2]
    repeat (first | (refine good_pos (by omega) ?_) | (refine good_pos trivial ?_) | (refine good_neg (by omega) ?_) | (refine good_npos (by omega) ?_) | (refine good_nneg (by omega) ?_) | (refine good_gi (by omega) (by omega) ?_) | (refine good_gb (by omega) (by omega) ?_) | (refine good_ble (by omega) ?_))
    refine good_true k1 ?_
    by_cases c1 : gi p (gi T d) = rk T v
    · by_cases c2 : gi p (gi T (oth d)) < 0
      · repeat (first | (refine good_pos (by omega) ?_) | (refine good_pos trivial ?_) | (refine good_neg (by omega) ?_) | (refine good_npos (by omega) ?_) | (refine good_nneg (by omega) ?_) | (refine good_gi (by omega) (by omega) ?_) | (refine good_gb (by omega) (by omega) ?_) | (refine good_ble (by omega) ?_))
        simp (disch := omega) only [wrap_in]
        refine good_at (ih (d + 1) true (p.set (gi T (oth d)).toNat (rk T v)) (by omega) (by omega) (by omega) ?_ (fun e => by cases e) (fun _ => ?_) ?_)
        · have hc : Conn T v (gi T (oth d)) := by
            refine .step ?_ h0 (by omega) rfl
            rcases hp.num _ ht.1 ht.2 with ⟨a, -⟩ | ⟨z, z0, z1, z2, z3, z4, z5⟩
            · omega
            · rw [c1] at z5
              obtain rfl := rk_inj z0 z3 hv.1 hr z5.symm
              exact z4
          refine ⟨by rw [List.length_set]; exact hl, fun u u0 u1 => ?_, ?_⟩
          · rw [gi_set hh.1 (by omega) u0]
            by_cases e : u = gi T (oth d)
            · rw [if_pos e]
              refine .inr ⟨v, hv.1, Int.le_refl v, ?_, hr, e ▸ hc, rfl⟩
              by_cases hlt : u < v
              · exact absurd ((e ▸ hc : Conn T v u).symm hs.e) (hr u u0 hlt)
              · omega
            · rw [if_neg e]; exact hp.num u u0 u1
          · rw [gi_set hh.1 (by omega) hv.1]
            split
            · rfl
            · exact hp.self
        · have := negs_set hh.1 (by omega) c2 hrk0; omega
        · have := negs_set hh.1 (by omega) c2 hrk0; omega
      · repeat (first | (refine good_pos (by omega) ?_) | (refine good_pos trivial ?_) | (refine good_neg (by omega) ?_) | (refine good_npos (by omega) ?_) | (refine good_nneg (by omega) ?_) | (refine good_gi (by omega) (by omega) ?_) | (refine good_gb (by omega) (by omega) ?_) | (refine good_ble (by omega) ?_))
        simp (disch := omega) only [wrap_in]
        refine good_at (ih (d + 1) b p (by omega) (by omega) (by omega) hp (fun e x x0 x1 => ?_) hm hm')
        by_cases ex : x = d
        · subst ex; intro _; omega
        · exact hb e x x0 (by omega)
    · repeat (first | (refine good_pos (by omega) ?_) | (refine good_pos trivial ?_) | (refine good_neg (by omega) ?_) | (refine good_npos (by omega) ?_) | (refine good_nneg (by omega) ?_) | (refine good_gi (by omega) (by omega) ?_) | (refine good_gb (by omega) (by omega) ?_) | (refine good_ble (by omega) ?_))
      simp (disch := omega) only [wrap_in]
      refine good_at (ih (d + 1) b p (by omega) (by omega) (by omega) hp (fun e x x0 x1 => ?_) hm hm')
      by_cases ex : x = d
      · subst ex; intro hh; exact absurd hh c1
      · exact hb e x x0 (by omega)
theorem l25_11 {r : CV} (hs : Shape N T X C) (hv : 0 ≤ v ∧ v < N) (hr : Root T v)
    (hk : ∀ p : List Int, PJ N T (v + 1) p → Lead E25 kr25 r (a25_6 (rk T (v + 1)) N (v + 1) N T X C p)) :
    ∀ (m : Nat) (b : Bool) (p : List Int), PK N T v p → (b = false → ∀ d : Int, 0 ≤ d → d < (T.length : Int) → Still T p (rk T v) d) → negs p < m → Lead E25 kr25 r (a25_11 (rk T v) b N v N T X C p) := by
  intro m
  have hn60 := hs.n1
  have hrk : rk T v ≤ v := rk_self (by omega)
  have hrk0 := rk_nonneg T hv.1
  induction m with
  | zero => intro b p _ _ h; omega
  | succ m ih =>
    intro b p hp hb hm
    refine h25_11 _ _ _ _ _ _ _ _ _ _ ?_
    unfold t25_11
    cases b with
    | false =>
      refine good_false rfl ?_
      simp (disch := omega) only [wrap_in]
      rw [← rk_root hv.1 hr]
      exact good_at (hk p (still_all hs hv hr hp (hb rfl)))
    | true =>
      refine good_true rfl ?_
      exact good_at (l25_14 hs hv hr (negs p) (fun b' p' hp' hb' hm' => by
        cases b' with
        | false =>
          refine h25_11 _ _ _ _ _ _ _ _ _ _ ?_
          unfold t25_11
          refine good_false rfl ?_
          simp (disch := omega) only [wrap_in]
          rw [← rk_root hv.1 hr]
          exact good_at (hk p' (still_all hs hv hr hp' (hb' rfl)))
        | true => exact ih true p' hp' hb' (by have := hm' rfl; omega)) T.length 0 false p (by omega) (by omega) (by omega) hp (fun _ e _ _ => by omega) (fun e => by cases e) (Nat.le_refl _))
theorem l25_6 (hs : Shape N T X C) {q : List Int} {k : Int} (hq : Parted N T q k) : ∀ (n : Nat) (v : Int) (p : List Int), 0 ≤ v → v ≤ N → N - v = n → PJ N T v p → Lead E25 kr25 (.tup [.sl .int q, .int .i64 k]) (a25_6 (rk T v) N v N T X C p) := by
  intro n
  have hn60 := hs.n1
  induction n with
  | zero =>
    intro v p h0 h1 h2 hp
    obtain rfl : v = N := by omega
    have hp' : Parted v T p (rk T v) := ⟨hp.len, fun u u0 u1 => by
      rcases hp.num u u0 u1 with ⟨a, b⟩ | ⟨w, w0, w1, w2, w3, w4, w5⟩
      · exact absurd .refl (b u u0 u1)
      · exact ⟨w, w0, w2, w3, w4, w5⟩, rfl⟩
    obtain ⟨rfl, rfl⟩ := hp'.uniq hs.e hq
    refine h25_6 _ _ _ _ _ _ _ _ _ ?_
    unfold t25_6
    repeat (first | (refine good_pos (by omega) ?_) | (refine good_pos trivial ?_) | (refine good_neg (by omega) ?_) | (refine good_npos (by omega) ?_) | (refine good_nneg (by omega) ?_) | (refine good_gi (by omega) (by omega) ?_) | (refine good_gb (by omega) (by omega) ?_) | (refine good_ble (by omega) ?_))
    exact good_end rfl
  | succ n ih =>
    intro v p h0 h1 h2 hp
    have hl := hp.len
    have hrk : rk T v ≤ v := rk_self h0
    have hrk0 := rk_nonneg T h0
    rcases hp.num v h0 (by omega) with ⟨a, b⟩ | ⟨w, w0, w1, w2, w3, w4, w5⟩
    · have hr : Root T v := b
      have hpk : PK N T v (p.set v.toNat (rk T v)) := by
        refine ⟨by rw [List.length_set]; exact hl, fun u u0 u1 => ?_, by rw [gi_set h0 (by omega) h0, if_pos rfl]⟩
        rw [gi_set h0 (by omega) u0]
        by_cases e : u = v
        · rw [if_pos e, e]; exact .inr ⟨v, h0, Int.le_refl v, Int.le_refl v, hr, .refl, rfl⟩
        · rw [if_neg e]
          rcases hp.num u u0 u1 with x | ⟨w, w0, w1, w2, w3, w4, w5⟩
          · exact .inl x
          · exact .inr ⟨w, w0, by omega, w2, w3, w4, w5⟩
      refine h25_6 _ _ _ _ _ _ _ _ _ ?_
      unfold t25_6
      repeat (first | (refine good_pos (by omega) ?_) | (refine good_pos trivial ?_) | (refine good_neg (by omega) ?_) | (refine good_npos (by omega) ?_) | (refine good_nneg (by omega) ?_) | (refine good_gi (by omega) (by omega) ?_) | (refine good_gb (by omega) (by omega) ?_) | (refine good_ble (by omega) ?_))
      exact good_at (l25_11 hs ⟨h0, by omega⟩ hr (fun p' hp' => ih (v + 1) p' (by omega) (by omega) (by omega) hp') (negs (p.set v.toNat (rk T v)) + 1) true _ hpk (fun e => by cases e) (by omega))
    · have hr : ¬ Root T v := fun hr => hr w w0 w1 w4
      have : PJ N T (v + 1) p := by
        refine ⟨hl, fun u u0 u1 => ?_⟩
        rcases hp.num u u0 u1 with ⟨a, b⟩ | ⟨z, z0, z1, z2, z3, z4, z5⟩
        · refine .inl ⟨a, fun z z0 z1 hc => ?_⟩
          by_cases e : z = v
          · subst e; exact b w w0 w1 (w4.trans hc)
          · exact b z z0 (by omega) hc
        · exact .inr ⟨z, z0, by omega, z2, z3, z4, z5⟩
      have h := ih (v + 1) p (by omega) (by omega) (by omega) this
      rw [rk_not h0 hr] at h
      refine h25_6 _ _ _ _ _ _ _ _ _ ?_
      have := rk_nonneg T w0
      unfold t25_6
      repeat (first | (refine good_pos (by omega) ?_) | (refine good_pos trivial ?_) | (refine good_neg (by omega) ?_) | (refine good_npos (by omega) ?_) | (refine good_nneg (by omega) ?_) | (refine good_gi (by omega) (by omega) ?_) | (refine good_gb (by omega) (by omega) ?_) | (refine good_ble (by omega) ?_))
      simp (disch := omega) only [wrap_in]
      exact good_at h
/-- the pieces -/
theorem f25 (hs : Shape N T X C) : ok25 N T X C = true ∧ Parted N T (v25 N T X C).1 (v25 N T X C).2 := by
  obtain ⟨a1, a2⟩ := f72 N T X C
  obtain ⟨b1, b2⟩ := f75 (v := -1) (n := N) (by have := hs.n0; omega) (by have := hs.n1; omega)
  have hn0 := hs.n0
  have hj : PJ N T 0 (List.replicate N.toNat (-1)) := ⟨by simp; omega, fun u u0 u1 => .inl ⟨gi_replicate u0 (by omega), fun w w0 w1 => by omega⟩⟩
  obtain ⟨q, hq⟩ := parted_ex (N := N) hs.e (by omega)
  have h := l25_6 hs hq N.toNat 0 _ (Int.le_refl 0) (by omega) (by omega) hj
  have := sp25 N T X C (q, rk T N) (run25 _ _ _ _ _ (by
    unfold t25
    rw [b2]
    refine good_true a1 (good_nfalse (a2.2 (.inl hs)) (good_true b1 ?_))
    have e : ((List.replicate N.toNat (-1 : Int)).length : Int) = N := by simp; omega
    rw [e]
    rw [rk_zero] at h
    exact good_at h))
  exact ⟨this.1, by rw [this.2]; exact hq⟩
end
end Go.Proofs.Ytnfgfdeidkhdkaa.Eng
