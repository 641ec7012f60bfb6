/- turns: each vertex's darts are one round: rot's and the document's tell the same · Plain: how many rounds there are where a dart is laid in, one is laid by itself, two steps are exchanged · watershed/rot.Parts: its run from loop to loop, as Lean printed it (a program of this session's wrote these rows). No condition · rot.Head, rot.Parts: pieces numbered by their least vertices · watershed/watershedref2.Parts: its run from loop to loop, as Lean printed it (a program of this session's wrote these rows). No condition · watershed/rot.Check: its run from loop to loop, as Lean printed it (a program of this session's wrote these rows). No condition · watershed/watershedref2.Check: its run from loop to loop, as Lean printed it (a program of this session's wrote these rows). No condition · The document's pieces; both Checks tell the same · Plain: a plane net stays plane where a vertex is hung on, an edge is laid across a face, a loop is laid · watershed/watershedlaw2.lay: its run from loop to loop, as Lean printed it (a program of this session's wrote these rows). No condition · watershed/watershedlaw2.Plane: its run from loop to loop, as Lean printed it (a program of this session's wrote these rows). No condition · Plane: whatever the numbers are, a plane net is grown · watershed/parts.lay: its run from loop to loop, as Lean printed it (a program of this session's wrote these rows). No condition · watershed/parts.Join: its run from loop to loop, as Lean printed it (a program of this session's wrote these rows). No condition · watershed/watershedref11.Join: its run from loop to loop, as Lean printed it (a program of this session's wrote these rows). No condition · parts laid together: what each dart has; lay and both Joins · watershed/watershedref1.Ints: its run from loop to lo -/
import Derived.Test.YtnfgfdeidkhdkaaNZa
/- Lm: turns: each vertex's darts are one round: rot's and the document's tell the same. -/
namespace Go.Proofs.Ytnfgfdeidkhdkaa.Eng
set_option linter.unusedVariables false
set_option linter.unusedSimpArgs false
/-- each vertex's darts are one round -/
structure TurnsOk (T X : List Int) : Prop where
  perm : PermOn (sta X) T.length
  tail : ∀ d : Int, 0 ≤ d → d < (T.length : Int) → gi T (gi X d) = gi T d
  one : ∀ d e : Int, 0 ≤ d → d < (T.length : Int) → 0 ≤ e → e < (T.length : Int) → gi T d = gi T e → Orb (sta X) d e
section
variable {N : Int} {T X C : List Int}
/-- so far -/
structure TJ (N : Int) (T X p : List Int) (i : Int) (q : List Int) : Prop where
  len : (q.length : Int) = N
  tail : ∀ d : Int, 0 ≤ d → d < i → gi T (gi X d) = gi T d
  on : ∀ d : Int, 0 ≤ d → d < i → gi q (gi T d) = gi p d
  has : ∀ v : Int, 0 ≤ v → v < N → 0 ≤ gi q v → ∃ d : Int, 0 ≤ d ∧ d < i ∧ gi T d = v
theorem l70_6 {p : List Int} {k : Int} (hs : Shape N T X C) (hp : PermOn (sta X) T.length) (hq : PartedS T.length (Orb (sta X)) p k) {b : Bool} (hb : b = true ↔ TurnsOk T X) :
    ∀ (n : Nat) (i : Int) (q : List Int), 0 ≤ i → i ≤ T.length → (T.length : Int) - i = n → TJ N T X p i q → Lead E70 kr70 (.bool b) (a70_6 T (T.length : Int) i N T X C p q) := by
  have hx := hs.x
  have hk := hs.k
  have hpl := hq.len
  have hpn : ∀ d : Int, 0 ≤ d → d < (T.length : Int) → 0 ≤ gi p d := fun d h0 h1 => by
    obtain ⟨w, w0, w1, w2, w3, w4⟩ := hq.num d h0 h1
    rw [w4]; exact cnt_nonneg _ w0
  intro n
  induction n with
  | zero =>
    intro i q i0 i1 i2 hJ
    obtain rfl : i = T.length := by omega
    have : TurnsOk T X := ⟨hp, hJ.tail, fun d e d0 d1 e0 e1 h => by
      rw [← hq.eq_iff hp.eqv ⟨d0, d1⟩ ⟨e0, e1⟩, ← hJ.on d d0 d1, ← hJ.on e e0 e1, h]⟩
    obtain rfl : b = true := hb.2 this
    refine h70_6 _ _ _ _ _ _ _ _ _ _ ?_
    unfold t70_6
    repeat (first | (refine good_pos (by omega) ?_) | (refine good_pos trivial ?_) | (refine good_neg (by omega) ?_) | (refine good_npos (by omega) ?_) | (refine good_nneg (by omega) ?_) | (refine good_gi (by omega) (by omega) ?_) | (refine good_gb (by omega) (by omega) ?_) | (refine good_ble (by omega) ?_))
    exact good_end rfl
  | succ n ih =>
    intro i q i0 i1 i2 hJ
    have hl := hJ.len
    have hxi := hs.xr i i0 (by omega)
    have hti := hs.tr i i0 (by omega)
    have hpi := hpn i i0 (by omega)
    refine h70_6 _ _ _ _ _ _ _ _ _ _ ?_
    unfold t70_6
    simp (disch := omega) only [wrap_in]
    by_cases c1 : gi T (gi X i) = gi T i
    · have nxt : (0 ≤ gi q (gi T i) → gi q (gi T i) = gi p i) → TJ N T X p (i + 1) (q.set (gi T i).toNat (gi p i)) := fun hsame => by
        refine ⟨by rw [List.length_set]; exact hl, fun d d0 d1 => ?_, fun d d0 d1 => ?_, fun v v0 v1 hv => ?_⟩
        · by_cases e : d = i
          · subst e; exact c1
          · exact hJ.tail d d0 (by omega)
        · have htd := hs.tr d d0 (by omega)
          rw [gi_set hti.1 (by omega) htd.1]
          by_cases e : d = i
          · subst e; rw [if_pos rfl]
          · have ho := hJ.on d d0 (by omega)
            have := hpn d d0 (by omega)
            split
            · rename_i e2
              rw [e2] at ho
              rw [← ho]
              exact (hsame (by omega)).symm
            · exact ho
        · rw [gi_set hti.1 (by omega) v0] at hv
          by_cases e : v = gi T i
          · exact ⟨i, i0, by omega, e.symm⟩
          · rw [if_neg e] at hv
            obtain ⟨d, d0, d1, d2⟩ := hJ.has v v0 v1 hv
            exact ⟨d, d0, by omega, d2⟩
      by_cases c2 : 0 ≤ gi q (gi T i)
      · by_cases c3 : gi q (gi T i) = gi p i
        · repeat (first | (refine good_pos (by omega) ?_) | (refine good_pos trivial ?_) | (refine good_neg (by omega) ?_) | (refine good_npos (by omega) ?_) | (refine good_nneg (by omega) ?_) | (refine good_gi (by omega) (by omega) ?_) | (refine good_gb (by omega) (by omega) ?_) | (refine good_ble (by omega) ?_))
          exact good_at (ih (i + 1) _ (by omega) (by omega) (by omega) (nxt fun _ => c3))
        · have : ¬ TurnsOk T X := fun h => by
            obtain ⟨d, d0, d1, d2⟩ := hJ.has _ hti.1 hti.2 c2
            have ho := h.one d i d0 (by omega) i0 (by omega) d2
            rw [← hq.eq_iff hp.eqv ⟨d0, by omega⟩ ⟨i0, by omega⟩, ← hJ.on d d0 d1, d2] at ho
            exact c3 ho
          obtain rfl : b = false := by
            cases b
            · rfl
            · exact absurd (hb.1 rfl) this
          repeat (first | (refine good_pos (by omega) ?_) | (refine good_pos trivial ?_) | (refine good_neg (by omega) ?_) | (refine good_npos (by omega) ?_) | (refine good_nneg (by omega) ?_) | (refine good_gi (by omega) (by omega) ?_) | (refine good_gb (by omega) (by omega) ?_) | (refine good_ble (by omega) ?_))
          exact good_end rfl
      · repeat (first | (refine good_pos (by omega) ?_) | (refine good_pos trivial ?_) | (refine good_neg (by omega) ?_) | (refine good_npos (by omega) ?_) | (refine good_nneg (by omega) ?_) | (refine good_gi (by omega) (by omega) ?_) | (refine good_gb (by omega) (by omega) ?_) | (refine good_ble (by omega) ?_))
        exact good_at (ih (i + 1) _ (by omega) (by omega) (by omega) (nxt fun h => absurd h c2))
    · have : ¬ TurnsOk T X := fun h => c1 (h.tail i i0 (by omega))
      obtain rfl : b = false := by
        cases b
        · rfl
        · exact absurd (hb.1 rfl) this
      repeat (first | (refine good_pos (by omega) ?_) | (refine good_pos trivial ?_) | (refine good_neg (by omega) ?_) | (refine good_npos (by omega) ?_) | (refine good_nneg (by omega) ?_) | (refine good_gi (by omega) (by omega) ?_) | (refine good_gb (by omega) (by omega) ?_) | (refine good_ble (by omega) ?_))
      exact good_end rfl
theorem f70 (hs : Shape N T X C) : ok70 N T X C = true ∧ (v70 N T X C = true ↔ TurnsOk T X) := by
  have hx := hs.x
  have hn0 := hs.n0
  have hn1 := hs.n1
  have hk := hs.k
  obtain ⟨a1, a2⟩ := f73a' (N := N) (T := T) (X := X) (C := C) (m := T.length) (by omega) hs.k (fun d h0 h1 => f105 h0 (by omega)) (fun d h0 h1 => hs.xr d h0 (by omega))
  obtain ⟨b1, b2⟩ := f75 (v := -1) (n := N) (by omega) (by omega)
  refine okv (p := fun r => r = true ↔ TurnsOk T X) ?_
  by_cases hp : PermOn (sta X) T.length
  · obtain ⟨c1, c2⟩ := a2.yes hp
    obtain ⟨b, hb⟩ : ∃ b : Bool, b = true ↔ TurnsOk T X := by
      by_cases h : TurnsOk T X
      · exact ⟨true, by simp [h]⟩
      · exact ⟨false, by simp [h]⟩
    refine ⟨b, sp70 _ _ _ _ _ (run70 _ _ _ _ _ ?_), hb⟩
    unfold t70
    rw [b2]
    refine good_true a1 (good_nfalse c2 (good_true b1 (good_at (l70_6 hs hp c1 hb T.length 0 _ (by omega) (by omega) (by omega) ⟨by simp; omega, fun d _ _ => by omega, fun d _ _ => by omega, fun v v0 v1 hv => ?_⟩))))
    rw [gi_replicate v0 (by omega)] at hv; omega
  · refine ⟨false, sp70 _ _ _ _ _ (run70 _ _ _ _ _ ?_), by simp; exact fun h => hp h.perm⟩
    unfold t70
    exact good_true a1 (good_ntrue (a2.no hp).2.2 (good_end rfl))
/-! ### the document's -/
/-- after so many steps the document stops -/
def KK (f : Int → Int) (m d : Int) (k : Nat) : Prop := (Per f d k ∧ (k : Int) ≤ m) ∨ ((k : Int) = m + 1 ∧ ∀ i : Nat, 0 < i → it f i d ≠ d)
theorem per_le {f : Int → Int} {m d : Int} {k : Nat} (hr : ∀ d : Int, 0 ≤ d → d < m → 0 ≤ f d ∧ f d < m) (h0 : 0 ≤ d) (h1 : d < m) (h : Per f d k) : (k : Int) ≤ m := by
  apply Classical.byContradiction
  intro hc
  obtain ⟨i, j, hij, hj, e⟩ := pigeon (m := m.toNat) (fun i => it f i d) k (fun i _ => by have := it_rng hr h0 h1 i; omega) (by omega)
  exact h.dis hij hj e
theorem kk_ex {f : Int → Int} {m d : Int} (hr : ∀ d : Int, 0 ≤ d → d < m → 0 ≤ f d ∧ f d < m) (h0 : 0 ≤ d) (h1 : d < m) : ∃ k, KK f m d k := by
  by_cases h : ∃ n, 0 < n ∧ it f n d = d
  · obtain ⟨n, n0, n1⟩ := h
    obtain ⟨k, -, hk⟩ := per_ex n n0 n1
    exact ⟨k, .inl ⟨hk, per_le hr h0 h1 hk⟩⟩
  · exact ⟨m.toNat + 1, .inr ⟨by omega, fun i i0 e => h ⟨i, i0, e⟩⟩⟩
/-- so many darts of a vertex -/
noncomputable abbrev allOf (T : List Int) (d : Int) : Int := cnt (fun e => gi T e = gi T d) T.length
theorem turns_iff (hr : InR X T.length) (hx : (X.length : Int) = T.length) (ht : ∀ d : Int, 0 ≤ d → d < (T.length : Int) → gi T (gi X d) = gi T d) : TurnsOk T X ↔ ∀ d : Int, 0 ≤ d → d < (T.length : Int) → ∀ k, KK (sta X) T.length d k → (k : Int) = allOf T d := by
  have hrs : ∀ d : Int, 0 ≤ d → d < (T.length : Int) → 0 ≤ sta X d ∧ sta X d < T.length := fun d h0 h1 => hr d h0 (by omega)
  have tl : ∀ (d : Int), 0 ≤ d → d < (T.length : Int) → ∀ i, gi T (it (sta X) i d) = gi T d := fun d h0 h1 i => by
    induction i with
    | zero => rfl
    | succ i ih =>
      have r := it_rng hrs h0 h1 i
      show gi T (gi X (it (sta X) i d)) = _
      rw [ht _ r.1 r.2, ih]
  constructor
  · intro h d d0 d1 k hk
    rcases hk with ⟨hp, hkm⟩ | ⟨-, hno⟩
    · have : allOf T d = ((rnd (sta X) d k).length : Int) := cnt_of_list (by omega) (rnd_nodup hp) fun e => by
        rw [rnd_mem hp]
        constructor
        · rintro ⟨i, rfl⟩
          have r := it_rng hrs d0 d1 i
          exact ⟨r.1, r.2, tl d d0 d1 i⟩
        · rintro ⟨e0, e1, e2⟩
          exact h.one d e d0 d1 e0 e1 e2.symm
      rw [this, rnd_len]
    · obtain ⟨k', k0, -, hk'⟩ := h.perm.period d0 d1
      exact absurd hk' (hno k' k0)
  · intro h
    have per : ∀ d : Int, 0 ≤ d → d < (T.length : Int) → ∃ k, Per (sta X) d k ∧ (k : Int) = allOf T d := fun d d0 d1 => by
      obtain ⟨k, hk⟩ := kk_ex hrs d0 d1
      have e := h d d0 d1 k hk
      rcases hk with ⟨hp, -⟩ | ⟨hk, -⟩
      · exact ⟨k, hp, e⟩
      · have : allOf T d ≤ T.length := cnt_self (by omega)
        omega
    have one : ∀ d e : Int, 0 ≤ d → d < (T.length : Int) → 0 ≤ e → e < (T.length : Int) → gi T d = gi T e → Orb (sta X) d e := fun d e d0 d1 e0 e1 he => by
      obtain ⟨k, hp, hk⟩ := per d d0 d1
      apply Classical.byContradiction
      intro hno
      obtain ⟨l, l1, l2, l3⟩ := cnt_list (fun e => gi T e = gi T d) T.length
      have hnd : (e :: rnd (sta X) d k).Nodup := by
        rw [List.nodup_cons]
        exact ⟨fun hm => hno ((rnd_mem hp).1 hm), rnd_nodup hp⟩
      have := len_le hnd (m := l) fun x hx => by
        rcases List.mem_cons.1 hx with rfl | hx
        · exact (l3 _).2 ⟨e0, e1, he.symm⟩
        · obtain ⟨i, rfl⟩ := (rnd_mem hp).1 hx
          have r := it_rng hrs d0 d1 i
          exact (l3 _).2 ⟨r.1, r.2, tl d d0 d1 i⟩
      rw [List.length_cons, rnd_len] at this
      have : (l.length : Int) = allOf T d := l2
      omega
    refine ⟨⟨hrs, fun d e d0 d1 e0 e1 hde => ?_⟩, ht, one⟩
    have h1 : gi T d = gi T e := by rw [← ht d d0 d1, ← ht e e0 e1]; exact congrArg (gi T) hde
    obtain ⟨i, rfl⟩ := one d e d0 d1 e0 e1 h1
    obtain ⟨k, hp, -⟩ := per d d0 d1
    obtain ⟨q, rfl⟩ : ∃ q, k = q + 1 := ⟨k - 1, by have := hp.pos; omega⟩
    -- a step, and q more
    have e1 : it (sta X) q (sta X d) = d := by
      have := hp.home
      rwa [it_add (sta X) 1 d q] at this
    have e2 : it (sta X) q (sta X (it (sta X) i d)) = it (sta X) i d := by
      have : it (sta X) (q + 1) (it (sta X) i d) = it (sta X) i d := it_comm hp.home
      rwa [it_add (sta X) 1 _ q] at this
    exact e1.symm.trans ((congrArg (it (sta X) q) hde).trans e2)
theorem l71_14 {r : CV} {d k : Int} (hk240 : (T.length : Int) ≤ 240) (hd : 0 ≤ d ∧ d < T.length) (hk0 : 0 ≤ k ∧ k ≤ 241)
    (h1 : k ≠ allOf T d → r = .bool false) (h2 : k = allOf T d → Lead E71 kr71 r (a71_7 (d + 1) N T X C)) : ∀ (n : Nat) (i : Int), 0 ≤ i → i ≤ T.length → (T.length : Int) - i = n → Lead E71 kr71 r (a71_14 d k (cnt (fun e => gi T e = gi T d) i) i N T X C) := by
  intro n
  induction n with
  | zero =>
    intro i i0 i1 i2
    obtain rfl : i = T.length := by omega
    refine h71_14 _ _ _ _ _ _ _ _ _ ?_
    unfold t71_14
    simp (disch := omega) only [wrap_in]
    by_cases c : k = allOf T d
    · repeat (first | (refine good_pos (by omega) ?_) | (refine good_pos trivial ?_) | (refine good_neg (by omega) ?_) | (refine good_npos (by omega) ?_) | (refine good_nneg (by omega) ?_) | (refine good_gi (by omega) (by omega) ?_) | (refine good_gb (by omega) (by omega) ?_) | (refine good_ble (by omega) ?_))
      exact good_at (h2 c)
    · obtain rfl := h1 c
      repeat (first | (refine good_pos (by omega) ?_) | (refine good_pos trivial ?_) | (refine good_neg (by omega) ?_) | (refine good_npos (by omega) ?_) | (refine good_nneg (by omega) ?_) | (refine good_gi (by omega) (by omega) ?_) | (refine good_gb (by omega) (by omega) ?_) | (refine good_ble (by omega) ?_))
      exact good_end rfl
  | succ n ih =>
    intro i i0 i1 i2
    have hc : cnt (fun e => gi T e = gi T d) i ≤ i := cnt_self i0
    have hc0 := cnt_nonneg (fun e => gi T e = gi T d) i0
    have := ih (i + 1) (by omega) (by omega) (by omega)
    refine h71_14 _ _ _ _ _ _ _ _ _ ?_
    unfold t71_14
    simp (disch := omega) only [wrap_in]
    by_cases c : gi T i = gi T d
    · rw [cnt_yes i0 c] at this
      repeat (first | (refine good_pos (by omega) ?_) | (refine good_pos trivial ?_) | (refine good_neg (by omega) ?_) | (refine good_npos (by omega) ?_) | (refine good_nneg (by omega) ?_) | (refine good_gi (by omega) (by omega) ?_) | (refine good_gb (by omega) (by omega) ?_) | (refine good_ble (by omega) ?_))
      exact good_at this
    · rw [cnt_no i0 c] at this
      repeat (first | (refine good_pos (by omega) ?_) | (refine good_pos trivial ?_) | (refine good_neg (by omega) ?_) | (refine good_npos (by omega) ?_) | (refine good_nneg (by omega) ?_) | (refine good_gi (by omega) (by omega) ?_) | (refine good_gb (by omega) (by omega) ?_) | (refine good_ble (by omega) ?_))
      exact good_at this
theorem l71_10 {r : CV} {d : Int} {k : Nat} (hr : InR X T.length) (hx : (X.length : Int) = T.length) (hk240 : (T.length : Int) ≤ 240) (hd : 0 ≤ d ∧ d < T.length) (hK : KK (sta X) T.length d k)
    (h : Lead E71 kr71 r (a71_14 d (k : Int) 0 0 N T X C)) : ∀ (n j : Nat), j ≤ k → k - j = n → Lead E71 kr71 r (a71_10 d (it (sta X) j d) (j : Int) 0 N T X C) := by
  have hrs : ∀ d : Int, 0 ≤ d → d < (T.length : Int) → 0 ≤ sta X d ∧ sta X d < T.length := fun d h0 h1 => hr d h0 (by omega)
  have hpos : 0 < k := by
    rcases hK with ⟨hp, -⟩ | ⟨hk, -⟩
    · exact hp.pos
    · omega
  have hle : (k : Int) ≤ T.length + 1 := by
    rcases hK with ⟨-, hk⟩ | ⟨hk, -⟩ <;> omega
  intro n
  induction n with
  | zero =>
    intro j j1 j2
    obtain rfl : j = k := by omega
    refine h71_10 _ _ _ _ _ _ _ _ _ ?_
    unfold t71_10
    rcases hK with ⟨hp, hkm⟩ | ⟨hk, hno⟩
    · rw [hp.home]
      repeat (first | (refine good_pos (by omega) ?_) | (refine good_pos trivial ?_) | (refine good_neg (by omega) ?_) | (refine good_npos (by omega) ?_) | (refine good_nneg (by omega) ?_) | (refine good_gi (by omega) (by omega) ?_) | (refine good_gb (by omega) (by omega) ?_) | (refine good_ble (by omega) ?_))
      exact good_at h
    · have := hno j hpos
      repeat (first | (refine good_pos (by omega) ?_) | (refine good_pos trivial ?_) | (refine good_neg (by omega) ?_) | (refine good_npos (by omega) ?_) | (refine good_nneg (by omega) ?_) | (refine good_gi (by omega) (by omega) ?_) | (refine good_gb (by omega) (by omega) ?_) | (refine good_ble (by omega) ?_))
      exact good_at h
  | succ n ih =>
    intro j j1 j2
    have r := it_rng hrs hd.1 hd.2 j
    have := ih (j + 1) (by omega) (by omega)
    have e : ((j + 1 : Nat) : Int) = (j : Int) + 1 := by omega
    rw [e] at this
    refine h71_10 _ _ _ _ _ _ _ _ _ ?_
    unfold t71_10
    simp (disch := omega) only [wrap_in]
    by_cases c : j = 0
    · repeat (first | (refine good_pos (by omega) ?_) | (refine good_pos trivial ?_) | (refine good_neg (by omega) ?_) | (refine good_npos (by omega) ?_) | (refine good_nneg (by omega) ?_) | (refine good_gi (by omega) (by omega) ?_) | (refine good_gb (by omega) (by omega) ?_) | (refine good_ble (by omega) ?_))
      exact good_at this
    · have hne : it (sta X) j d ≠ d := by
        rcases hK with ⟨hp, -⟩ | ⟨-, hno⟩
        · exact hp.least j (by omega) (by omega)
        · exact hno j (by omega)
      repeat (first | (refine good_pos (by omega) ?_) | (refine good_pos trivial ?_) | (refine good_neg (by omega) ?_) | (refine good_npos (by omega) ?_) | (refine good_nneg (by omega) ?_) | (refine good_gi (by omega) (by omega) ?_) | (refine good_gb (by omega) (by omega) ?_) | (refine good_ble (by omega) ?_))
      exact good_at this
theorem l71_7 {b : Bool} (hr : InR X T.length) (hx : (X.length : Int) = T.length) (hk240 : (T.length : Int) ≤ 240) (hb : b = true ↔ ∀ d : Int, 0 ≤ d → d < (T.length : Int) → ∀ k, KK (sta X) T.length d k → (k : Int) = allOf T d) :
    ∀ (n : Nat) (i : Int), 0 ≤ i → i ≤ T.length → (T.length : Int) - i = n → (∀ d : Int, 0 ≤ d → d < i → ∀ k, KK (sta X) T.length d k → (k : Int) = allOf T d) → Lead E71 kr71 (.bool b) (a71_7 i N T X C) := by
  have hrs : ∀ d : Int, 0 ≤ d → d < (T.length : Int) → 0 ≤ sta X d ∧ sta X d < T.length := fun d h0 h1 => hr d h0 (by omega)
  intro n
  induction n with
  | zero =>
    intro i i0 i1 i2 h
    obtain rfl : b = true := hb.2 fun d d0 d1 => h d d0 (by omega)
    refine h71_7 _ _ _ _ _ _ ?_
    unfold t71_7
    repeat (first | (refine good_pos (by omega) ?_) | (refine good_pos trivial ?_) | (refine good_neg (by omega) ?_) | (refine good_npos (by omega) ?_) | (refine good_nneg (by omega) ?_) | (refine good_gi (by omega) (by omega) ?_) | (refine good_gb (by omega) (by omega) ?_) | (refine good_ble (by omega) ?_))
    exact good_end rfl
  | succ n ih =>
    intro i i0 i1 i2 h
    obtain ⟨k, hK⟩ := kk_ex hrs i0 (show i < T.length by omega)
    have hle : (k : Int) ≤ T.length + 1 := by
      rcases hK with ⟨-, hk⟩ | ⟨hk, -⟩ <;> omega
    have huniq : ∀ j, KK (sta X) T.length i j → j = k := fun j hj => by
      rcases hK with ⟨hp, -⟩ | ⟨hk, hno⟩ <;> rcases hj with ⟨hp', -⟩ | ⟨hk', hno'⟩
      · exact hp'.uniq hp
      · exact absurd hp.home (hno' k hp.pos)
      · exact absurd hp'.home (hno j hp'.pos)
      · omega
    have := l71_10 (N := N) (C := C) (r := .bool b) hr hx hk240 ⟨i0, by omega⟩ hK (l71_14 hk240 ⟨i0, by omega⟩ (by omega) (fun c => by
      have : b = false := by
        cases b
        · rfl
        · exact absurd (hb.1 rfl i i0 (by omega) k hK) c
      rw [this]) (fun c => ih (i + 1) (by omega) (by omega) (by omega) fun d d0 d1 k' hk' => by
        by_cases e : d = i
        · subst e; rw [huniq k' hk']; exact c
        · exact h d d0 (by omega) k' hk') T.length 0 (by omega) (by omega) (by omega)) k 0 (by omega) rfl
    refine h71_7 _ _ _ _ _ _ ?_
    unfold t71_7
    repeat (first | (refine good_pos (by omega) ?_) | (refine good_pos trivial ?_) | (refine good_neg (by omega) ?_) | (refine good_npos (by omega) ?_) | (refine good_nneg (by omega) ?_) | (refine good_gi (by omega) (by omega) ?_) | (refine good_gb (by omega) (by omega) ?_) | (refine good_ble (by omega) ?_))
    exact good_at this
theorem l71_2 {b : Bool} (hr : InR X T.length) (hx : (X.length : Int) = T.length) (hk240 : (T.length : Int) ≤ 240) (hb : b = true ↔ TurnsOk T X) :
    ∀ (n : Nat) (i : Int), 0 ≤ i → i ≤ T.length → (T.length : Int) - i = n → (∀ d : Int, 0 ≤ d → d < i → gi T (gi X d) = gi T d) → Lead E71 kr71 (.bool b) (a71_2 i N T X C) := by
  intro n
  induction n with
  | zero =>
    intro i i0 i1 i2 h
    have ht : ∀ d : Int, 0 ≤ d → d < (T.length : Int) → gi T (gi X d) = gi T d := fun d d0 d1 => h d d0 (by omega)
    rw [turns_iff hr hx ht] at hb
    have := l71_7 (N := N) (C := C) hr hx hk240 hb T.length 0 (by omega) (by omega) (by omega) (fun d _ _ => by omega)
    refine h71_2 _ _ _ _ _ _ ?_
    unfold t71_2
    repeat (first | (refine good_pos (by omega) ?_) | (refine good_pos trivial ?_) | (refine good_neg (by omega) ?_) | (refine good_npos (by omega) ?_) | (refine good_nneg (by omega) ?_) | (refine good_gi (by omega) (by omega) ?_) | (refine good_gb (by omega) (by omega) ?_) | (refine good_ble (by omega) ?_))
    exact good_at this
  | succ n ih =>
    intro i i0 i1 i2 h
    have hxi := hr i i0 (by omega)
    refine h71_2 _ _ _ _ _ _ ?_
    unfold t71_2
    simp (disch := omega) only [wrap_in]
    by_cases c : gi T (gi X i) = gi T i
    · repeat (first | (refine good_pos (by omega) ?_) | (refine good_pos trivial ?_) | (refine good_neg (by omega) ?_) | (refine good_npos (by omega) ?_) | (refine good_nneg (by omega) ?_) | (refine good_gi (by omega) (by omega) ?_) | (refine good_gb (by omega) (by omega) ?_) | (refine good_ble (by omega) ?_))
      exact good_at (ih (i + 1) (by omega) (by omega) (by omega) fun d d0 d1 => by
        by_cases e : d = i
        · subst e; exact c
        · exact h d d0 (by omega))
    · have : ¬ TurnsOk T X := fun h => c (h.tail i i0 (by omega))
      obtain rfl : b = false := by
        cases b
        · rfl
        · exact absurd (hb.1 rfl) this
      repeat (first | (refine good_pos (by omega) ?_) | (refine good_pos trivial ?_) | (refine good_neg (by omega) ?_) | (refine good_npos (by omega) ?_) | (refine good_nneg (by omega) ?_) | (refine good_gi (by omega) (by omega) ?_) | (refine good_gb (by omega) (by omega) ?_) | (refine good_ble (by omega) ?_))
      exact good_end rfl
theorem f71 (hr : InR X T.length) (hx : (X.length : Int) = T.length) (hk240 : (T.length : Int) ≤ 240) : ok71 N T X C = true ∧ (v71 N T X C = true ↔ TurnsOk T X) := by
  refine okv (p := fun r => r = true ↔ TurnsOk T X) ?_
  obtain ⟨b, hb⟩ : ∃ b : Bool, b = true ↔ TurnsOk T X := by
    by_cases h : TurnsOk T X
    · exact ⟨true, by simp [h]⟩
    · exact ⟨false, by simp [h]⟩
  refine ⟨b, sp71 _ _ _ _ _ (run71 _ _ _ _ _ ?_), hb⟩
  unfold t71
  exact good_at (l71_2 hr hx hk240 hb T.length 0 (by omega) (by omega) (by omega) (fun d _ _ => by omega))
end
end Go.Proofs.Ytnfgfdeidkhdkaa.Eng
/- Lp: Plain: how many rounds there are where a dart is laid in, one is laid by itself, two steps are exchanged. -/
namespace Go.Proofs.Ytnfgfdeidkhdkaa.Eng
set_option linter.unusedVariables false
set_option linter.unusedSimpArgs false
/-- how many rounds -/
noncomputable abbrev NC (f : Int → Int) (m : Int) : Int := rkS (Orb f) m
theorem it_congr {f g : Int → Int} {m : Int} (hr : ∀ d : Int, 0 ≤ d → d < m → 0 ≤ f d ∧ f d < m) (h : ∀ d : Int, 0 ≤ d → d < m → f d = g d) {d : Int} (h0 : 0 ≤ d) (h1 : d < m) : ∀ n : Nat, it f n d = it g n d
  | 0 => rfl
  | n + 1 => by
    have r := it_rng hr h0 h1 n
    show f (it f n d) = g (it g n d)
    rw [← it_congr hr h h0 h1 n, h _ r.1 r.2]
theorem orb_congr {f g : Int → Int} {m : Int} (hr : ∀ d : Int, 0 ≤ d → d < m → 0 ≤ f d ∧ f d < m) (h : ∀ d : Int, 0 ≤ d → d < m → f d = g d) {d e : Int} (h0 : 0 ≤ d) (h1 : d < m) : Orb f d e ↔ Orb g d e := by
  constructor
  · rintro ⟨n, rfl⟩; exact ⟨n, (it_congr hr h h0 h1 n).symm⟩
  · rintro ⟨n, rfl⟩; exact ⟨n, it_congr hr h h0 h1 n⟩
theorem PermOn.congr {f g : Int → Int} {m : Int} (hp : PermOn f m) (h : ∀ d : Int, 0 ≤ d → d < m → f d = g d) : PermOn g m :=
  ⟨fun d h0 h1 => by rw [← h d h0 h1]; exact hp.rng d h0 h1, fun d e d0 d1 e0 e1 x => by rw [← h d d0 d1, ← h e e0 e1] at x; exact hp.inj d e d0 d1 e0 e1 x⟩
theorem root_congr {S S' : Int → Int → Prop} {m v : Int} (h : ∀ u w : Int, 0 ≤ u → u < m → 0 ≤ w → w < m → (S u w ↔ S' u w)) (h0 : 0 ≤ v) (h1 : v < m) : RootS S v ↔ RootS S' v :=
  ⟨fun hr u u0 u1 hs => hr u u0 u1 ((h u v u0 (by omega) h0 h1).2 hs), fun hr u u0 u1 hs => hr u u0 u1 ((h u v u0 (by omega) h0 h1).1 hs)⟩
theorem nc_congr {S S' : Int → Int → Prop} {m : Int} (hm : 0 ≤ m) (h : ∀ u w : Int, 0 ≤ u → u < m → 0 ≤ w → w < m → (S u w ↔ S' u w)) : rkS S m = rkS S' m :=
  cnt_congr (fun x x0 x1 => root_congr h x0 x1) hm
/-- a new one, laid in behind x -/
structure Ins (f g : Int → Int) (m x : Int) : Prop where
  x0 : 0 ≤ x
  x1 : x < m
  at_x : g x = m
  at_m : g m = f x
  other : ∀ d : Int, 0 ≤ d → d < m → d ≠ x → g d = f d
section
variable {f g : Int → Int} {m x : Int}
theorem Ins.perm (h : Ins f g m x) (hp : PermOn f m) : PermOn g (m + 1) := by
  have hx := hp.rng x h.x0 h.x1
  have x1 := h.x1
  have cs : ∀ d : Int, 0 ≤ d → d < m + 1 → (d = x ∧ g d = m) ∨ (d = m ∧ g d = f x) ∨ (d < m ∧ d ≠ x ∧ g d = f d ∧ 0 ≤ f d ∧ f d < m) := fun d d0 d1 => by
    by_cases e : d = x
    · exact .inl ⟨e, by rw [e]; exact h.at_x⟩
    by_cases e' : d = m
    · exact .inr (.inl ⟨e', by rw [e']; exact h.at_m⟩)
    · exact .inr (.inr ⟨by omega, e, h.other d d0 (by omega) e, hp.rng d d0 (by omega)⟩)
  refine ⟨fun d d0 d1 => ?_, fun d e d0 d1 e0 e1 he => ?_⟩
  · rcases cs d d0 d1 with ⟨a, b⟩ | ⟨a, b⟩ | ⟨a, b, c, k⟩ <;> omega
  · rcases cs d d0 d1 with ⟨a, b⟩ | ⟨a, b⟩ | ⟨a, b, c, k⟩ <;> rcases cs e e0 e1 with ⟨a', b'⟩ | ⟨a', b'⟩ | ⟨a', b', c', k'⟩
    · omega
    · omega
    · omega
    · omega
    · omega
    · rw [b, c'] at he
      exact absurd (hp.inj x e h.x0 h.x1 e0 a' he).symm b'
    · omega
    · rw [c, b'] at he
      exact absurd (hp.inj d x d0 a h.x0 h.x1 he) b
    · rw [c, c'] at he
      exact hp.inj d e d0 a e0 a' he
theorem Ins.orb (h : Ins f g m x) (hp : PermOn f m) {u v : Int} (u0 : 0 ≤ u) (u1 : u < m) (v1 : v < m) : Orb g u v ↔ Orb f u v := by
  constructor
  · rintro ⟨n, hn⟩
    have key : ∀ n, (it g n u = m ∧ Orb f u x) ∨ (0 ≤ it g n u ∧ it g n u < m ∧ Orb f u (it g n u)) := by
      intro n
      induction n with
      | zero => exact .inr ⟨u0, u1, .refl f u⟩
      | succ n ih =>
        rcases ih with ⟨a, b⟩ | ⟨a, b, c⟩
        · right
          have hx := hp.rng x h.x0 h.x1
          show 0 ≤ g (it g n u) ∧ g (it g n u) < m ∧ Orb f u (g (it g n u))
          rw [a, h.at_m]
          exact ⟨hx.1, hx.2, b.trans (.step f x)⟩
        · by_cases e : it g n u = x
          · left
            show g (it g n u) = m ∧ _
            rw [e] at c ⊢
            exact ⟨h.at_x, c⟩
          · right
            have r := hp.rng _ a b
            show 0 ≤ g (it g n u) ∧ g (it g n u) < m ∧ Orb f u (g (it g n u))
            rw [h.other _ a b e]
            exact ⟨r.1, r.2, c.trans (.step f _)⟩
    rcases key n with ⟨a, -⟩ | ⟨-, -, c⟩
    · omega
    · rw [hn] at c; exact c
  · rintro ⟨n, rfl⟩
    have : ∀ n, Orb g u (it f n u) := by
      intro n
      induction n with
      | zero => exact .refl g u
      | succ n ih =>
        have r := it_rng hp.rng u0 u1 n
        refine ih.trans ?_
        by_cases e : it f n u = x
        · refine ⟨2, ?_⟩
          show g (g (it f n u)) = f (it f n u)
          rw [e, h.at_x, h.at_m]
        · refine ⟨1, ?_⟩
          exact h.other _ r.1 r.2 e
    exact this n
theorem Ins.orb_new (h : Ins f g m x) : Orb g x m := ⟨1, h.at_x⟩
theorem Ins.nc (h : Ins f g m x) (hp : PermOn f m) : NC g (m + 1) = NC f m := by
  have hm : 0 ≤ m := by have := h.x0; have := h.x1; omega
  have hnr : ¬ RootS (Orb g) m := fun hr => hr x h.x0 h.x1 h.orb_new
  rw [NC, NC, rkS, cnt_no hm hnr]
  exact nc_congr hm fun u w u0 u1 w0 w1 => h.orb hp u0 u1 w1
/-- a new one, by itself -/
structure Fix (f g : Int → Int) (m : Int) : Prop where
  at_m : g m = m
  other : ∀ d : Int, 0 ≤ d → d < m → g d = f d
theorem Fix.perm (h : Fix f g m) (hp : PermOn f m) : PermOn g (m + 1) := by
  have cs : ∀ d : Int, 0 ≤ d → d < m + 1 → (d = m ∧ g d = m) ∨ (d < m ∧ g d = f d ∧ 0 ≤ f d ∧ f d < m) := fun d d0 d1 => by
    by_cases e : d = m
    · exact .inl ⟨e, by rw [e]; exact h.at_m⟩
    · exact .inr ⟨by omega, h.other d d0 (by omega), hp.rng d d0 (by omega)⟩
  refine ⟨fun d d0 d1 => ?_, fun d e d0 d1 e0 e1 he => ?_⟩
  · rcases cs d d0 d1 with ⟨a, b⟩ | ⟨a, b, c⟩ <;> omega
  · rcases cs d d0 d1 with ⟨a, b⟩ | ⟨a, b, c⟩ <;> rcases cs e e0 e1 with ⟨a', b'⟩ | ⟨a', b', c'⟩
    · omega
    · omega
    · omega
    · rw [b, b'] at he
      exact hp.inj d e d0 a e0 a' he
theorem Fix.orb (h : Fix f g m) (hp : PermOn f m) {u v : Int} (u0 : 0 ≤ u) (u1 : u < m) : Orb g u v ↔ Orb f u v :=
  (orb_congr hp.rng (fun d d0 d1 => (h.other d d0 d1).symm) u0 u1).symm
theorem Fix.nc (h : Fix f g m) (hp : PermOn f m) (hm : 0 ≤ m) : NC g (m + 1) = NC f m + 1 := by
  have hr : RootS (Orb g) m := fun u u0 u1 ho => by
    rw [h.orb hp u0 u1] at ho
    have := ho.rng hp.rng u0 u1
    omega
  rw [NC, NC, rkS, cnt_yes hm hr]
  have this : cnt (RootS (Orb g)) m = cnt (RootS (Orb f)) m := nc_congr hm (S := Orb g) (S' := Orb f) fun u w u0 u1 w0 w1 => h.orb hp u0 u1
  rw [this]
end
/-- one class parted in two -/
theorem nc_split {S S' : Int → Int → Prop} {m x y : Int} (h : EqvOn S m) (h' : EqvOn S' m) (hf : ∀ u v : Int, 0 ≤ u → u < m → S' u v → S u v) (hx : 0 ≤ x ∧ x < m) (hy : 0 ≤ y ∧ y < m) (hxy : S x y) (hno : ¬ S' x y)
    (hc : ∀ u v : Int, 0 ≤ u → u < m → 0 ≤ v → v < m → S u v → S' u v ∨ (S' u x ∧ S' v y) ∨ (S' u y ∧ S' v x)) : rkS S' m = rkS S m + 1 := by
  obtain ⟨a, a0, a1, a2, a3⟩ := h'.has_root x.toNat x hx.1 (by omega) hx.2
  obtain ⟨b, b0, b1, b2, b3⟩ := h'.has_root y.toNat y hy.1 (by omega) hy.2
  have hab : a ≠ b := fun e => by
    subst e
    exact hno (h'.trans _ _ _ (h'.symm _ _ a0 (by omega) a3) b3)
  have hS : S a b := h.trans _ _ _ (h.trans _ _ _ (hf _ _ a0 (by omega) a3) hxy) (h.symm _ _ b0 (by omega) (hf _ _ b0 (by omega) b3))
  -- the greater of both is the new one
  have key : ∀ c e : Int, 0 ≤ c → c < e → e < m → S c e → RootS S' c → RootS S' e → (∀ u v : Int, 0 ≤ u → u < v → v < m → S u v → ¬ S' u v → RootS S' v → v = e ∨ (v = c ∧ S' u e)) → rkS S' m = rkS S m + 1 := by
    intro c e c0 ce em hce hc' he' hall
    have hiff : ∀ v : Int, 0 ≤ v → v < m → (RootS S' v ↔ (RootS S v ∨ v = e)) := by
      intro v v0 v1
      constructor
      · intro hr
        by_cases hrs : RootS S v
        · exact .inl hrs
        · unfold RootS at hrs
          simp only [Classical.not_forall, Classical.not_not] at hrs
          obtain ⟨u, u0, u1, hu⟩ := hrs
          rcases hall u v u0 u1 v1 hu (hr u u0 u1) hr with h1 | ⟨rfl, h1⟩
          · exact .inr h1
          · exact absurd h1 (he' u u0 (by omega))
      · rintro (hr | rfl)
        · exact fun u u0 u1 hs => hr u u0 u1 (hf u v u0 (by omega) hs)
        · exact he'
    have hne : ¬ RootS S e := fun hr => hr c c0 ce hce
    -- counting: up to e, and behind
    have h1 : cnt (RootS S') e = cnt (RootS S) e := cnt_congr (fun v v0 v1 => by
      rw [hiff v v0 (by omega)]
      exact ⟨fun h => h.resolve_right (by omega), .inl⟩) (by omega)
    have h2 : ∀ n : Nat, e + 1 + (n : Int) ≤ m → cnt (RootS S') (e + 1 + n) = cnt (RootS S) (e + 1 + n) + 1 := by
      intro n
      induction n with
      | zero =>
        intro hn
        rw [show e + 1 + ((0 : Nat) : Int) = e + 1 by omega, cnt_yes (by omega) he', cnt_no (by omega) hne, h1]
      | succ n ih =>
        intro hn
        have ih := ih (by omega)
        have e2 : e + 1 + ((n + 1 : Nat) : Int) = (e + 1 + n) + 1 := by omega
        rw [e2]
        by_cases hr : RootS S (e + 1 + n)
        · rw [cnt_yes (by omega) hr, cnt_yes (by omega) ((hiff _ (by omega) (by omega)).2 (.inl hr))]; omega
        · rw [cnt_no (by omega) hr, cnt_no (by omega) (fun hr' => ((hiff _ (by omega) (by omega)).1 hr').elim hr (by omega))]; omega
    have := h2 (m - e - 1).toNat (by omega)
    rwa [show e + 1 + ((m - e - 1).toNat : Int) = m by omega] at this
  have hSx : ∀ u, 0 ≤ u → u < m → S' u x → RootS S' u → u = a := fun u u0 u1 hs hr => h'.root_uniq u0 u1 hr a0 a2 (h'.trans _ _ _ hs (h'.symm _ _ a0 (by omega) a3))
  have hSy : ∀ u, 0 ≤ u → u < m → S' u y → RootS S' u → u = b := fun u u0 u1 hs hr => h'.root_uniq u0 u1 hr b0 b2 (h'.trans _ _ _ hs (h'.symm _ _ b0 (by omega) b3))
  by_cases hlt : a < b
  · refine key a b a0 hlt (by omega) hS a2 b2 fun u v u0 uv v1 hs hns hr => ?_
    rcases hc u v u0 (by omega) (by omega) v1 hs with h1 | ⟨h1, h2⟩ | ⟨h1, h2⟩
    · exact absurd h1 hns
    · exact .inl (hSy v (by omega) v1 h2 hr)
    · exact .inr ⟨hSx v (by omega) v1 h2 hr, h'.trans _ _ _ h1 (h'.symm _ _ b0 (by omega) b3)⟩
  · refine key b a b0 (by omega) (by omega) (h.symm _ _ a0 (by omega) hS) b2 a2 fun u v u0 uv v1 hs hns hr => ?_
    rcases hc u v u0 (by omega) (by omega) v1 hs with h1 | ⟨h1, h2⟩ | ⟨h1, h2⟩
    · exact absurd h1 hns
    · exact .inr ⟨hSy v (by omega) v1 h2 hr, h'.trans _ _ _ h1 (h'.symm _ _ a0 (by omega) a3)⟩
    · exact .inl (hSx v (by omega) v1 h2 hr)
/-- two steps exchanged -/
structure Swp (f g : Int → Int) (m x y : Int) : Prop where
  x0 : 0 ≤ x ∧ x < m
  y0 : 0 ≤ y ∧ y < m
  ne : x ≠ y
  at_x : g x = f y
  at_y : g y = f x
  other : ∀ d : Int, 0 ≤ d → d < m → d ≠ x → d ≠ y → g d = f d
section
variable {f g : Int → Int} {m x y : Int}
theorem Swp.perm (h : Swp f g m x y) (hp : PermOn f m) : PermOn g m := by
  have hx := hp.rng x h.x0.1 h.x0.2
  have hy := hp.rng y h.y0.1 h.y0.2
  have cs : ∀ d : Int, 0 ≤ d → d < m → ∃ e, 0 ≤ e ∧ e < m ∧ g d = f e ∧ ((d = x ∧ e = y) ∨ (d = y ∧ e = x) ∨ (d ≠ x ∧ d ≠ y ∧ e = d)) := fun d d0 d1 => by
    by_cases e : d = x
    · exact ⟨y, h.y0.1, h.y0.2, by rw [e]; exact h.at_x, .inl ⟨e, rfl⟩⟩
    by_cases e' : d = y
    · exact ⟨x, h.x0.1, h.x0.2, by rw [e']; exact h.at_y, .inr (.inl ⟨e', rfl⟩)⟩
    · exact ⟨d, d0, d1, h.other d d0 d1 e e', .inr (.inr ⟨e, e', rfl⟩)⟩
  refine ⟨fun d d0 d1 => ?_, fun d e d0 d1 e0 e1 he => ?_⟩
  · obtain ⟨e, e0, e1, e2, -⟩ := cs d d0 d1
    rw [e2]; exact hp.rng e e0 e1
  · obtain ⟨a, a0, a1, a2, a3⟩ := cs d d0 d1
    obtain ⟨b, b0, b1, b2, b3⟩ := cs e e0 e1
    rw [a2, b2] at he
    have := hp.inj a b a0 a1 b0 b1 he
    have := h.ne
    omega
theorem Swp.nc (h : Swp f g m x y) (hp : PermOn f m) (hxy : Orb f x y) : NC g m = NC f m + 1 := by
  have hg := h.perm hp
  obtain ⟨k, -, hk⟩ := hp.per h.x0.1 h.x0.2
  have hr := fun i => it_rng hp.rng h.x0.1 h.x0.2 i
  obtain ⟨p, hpk, hpy⟩ : ∃ p, p < k ∧ it f p x = y := by
    have := (rnd_mem hk).2 hxy
    unfold rnd at this
    obtain ⟨i, hi, e⟩ := List.mem_map.1 this
    exact ⟨i, List.mem_range.1 hi, e⟩
  have hp0 : 0 < p := by
    cases p with
    | zero => exact absurd hpy h.ne
    | succ p => omega
  have stp : ∀ i, 0 < i → i < k → i ≠ p → g (it f i x) = it f (i + 1) x := fun i i0 i1 i2 => by
    refine h.other _ (hr i).1 (hr i).2 (hk.least i i0 i1) fun e => ?_
    rw [← hpy] at e
    by_cases c : i < p
    · exact hk.dis c hpk e
    · exact hk.dis (show p < i by omega) i1 e.symm
  -- from x: those behind y, and x
  have ox : ∀ i, p < i → i ≤ k → Orb g x (it f i x) := by
    intro i
    induction i with
    | zero => intro a; omega
    | succ i ih =>
      intro a b
      by_cases c : i = p
      · subst c
        refine ⟨1, ?_⟩
        show g x = f (it f i x)
        rw [h.at_x, hpy]
      · refine (ih (by omega) (by omega)).trans ⟨1, ?_⟩
        exact stp i (by omega) (by omega) c
  -- from y: those up to y
  have oy : ∀ i, 0 < i → i ≤ p → Orb g y (it f i x) := by
    intro i
    induction i with
    | zero => intro a; omega
    | succ i ih =>
      intro a b
      by_cases c : i = 0
      · subst c
        exact ⟨1, h.at_y⟩
      · refine (ih (by omega) (by omega)).trans ⟨1, ?_⟩
        exact stp i (by omega) (by omega) (by omega)
  have cx : ∀ w, Orb g x w → ∃ i, p < i ∧ i ≤ k ∧ w = it f i x := by
    rintro w ⟨n, rfl⟩
    induction n with
    | zero => exact ⟨k, hpk, Nat.le_refl k, hk.home.symm⟩
    | succ n ih =>
      obtain ⟨i, i0, i1, e⟩ := ih
      show ∃ i, p < i ∧ i ≤ k ∧ g (it g n x) = it f i x
      rw [e]
      by_cases c : i = k
      · subst c
        refine ⟨p + 1, by omega, by omega, ?_⟩
        rw [hk.home, h.at_x, ← hpy]; rfl
      · exact ⟨i + 1, by omega, by omega, stp i (by omega) (by omega) (by omega)⟩
  have hno : ¬ Orb g x y := fun ho => by
    obtain ⟨i, i0, i1, e⟩ := cx y ho
    rw [← hpy] at e
    by_cases c : i = k
    · subst c
      rw [hk.home] at e
      exact hk.least p hp0 hpk e
    · exact hk.dis i0 (by omega) e
  have mem : ∀ u, Orb f x u → Orb g x u ∨ Orb g y u := fun u hu => by
    have := (rnd_mem hk).2 hu
    unfold rnd at this
    obtain ⟨i, hi, rfl⟩ := List.mem_map.1 this
    have hi := List.mem_range.1 hi
    by_cases c : i = 0
    · subst c; exact .inl (.refl g x)
    by_cases c' : i ≤ p
    · exact .inr (oy i (by omega) c')
    · exact .inl (ox i (by omega) (by omega))
  have fg : ∀ u v : Int, 0 ≤ u → u < m → Orb g u v → Orb f u v := by
    rintro u v u0 u1 ⟨n, rfl⟩
    induction n with
    | zero => exact .refl f u
    | succ n ih =>
      have r := it_rng hg.rng u0 u1 n
      refine ih.trans ?_
      show Orb f (it g n u) (g (it g n u))
      by_cases e : it g n u = x
      · rw [e, h.at_x]; exact hxy.trans (.step f y)
      by_cases e' : it g n u = y
      · rw [e', h.at_y]; exact (hp.symm h.x0.1 h.x0.2 hxy).trans (.step f x)
      · rw [h.other _ r.1 r.2 e e']; exact .step f _
  have gs : ∀ u v : Int, 0 ≤ u → u < m → Orb g u v → Orb g v u := fun u v u0 u1 => hg.symm u0 u1
  refine nc_split hp.eqv hg.eqv fg h.x0 h.y0 hxy hno fun u v u0 u1 v0 v1 huv => ?_
  by_cases c : Orb f x u
  · have hu := mem u c
    have hv := mem v (c.trans huv)
    rcases hu with hu | hu <;> rcases hv with hv | hv
    · exact .inl ((gs _ _ h.x0.1 h.x0.2 hu).trans hv)
    · exact .inr (.inl ⟨gs _ _ h.x0.1 h.x0.2 hu, gs _ _ h.y0.1 h.y0.2 hv⟩)
    · exact .inr (.inr ⟨gs _ _ h.y0.1 h.y0.2 hu, gs _ _ h.x0.1 h.x0.2 hv⟩)
    · exact .inl ((gs _ _ h.y0.1 h.y0.2 hu).trans hv)
  · left
    obtain ⟨n, rfl⟩ := huv
    have : ∀ n, it g n u = it f n u := by
      intro n
      induction n with
      | zero => rfl
      | succ n ih =>
        have r := it_rng hp.rng u0 u1 n
        show g (it g n u) = f (it f n u)
        rw [ih]
        refine h.other _ r.1 r.2 (fun e => c ?_) (fun e => c ?_)
        · exact hp.symm u0 u1 ⟨n, e⟩
        · exact hxy.trans (hp.symm u0 u1 ⟨n, e⟩)
    exact ⟨n, this n⟩
end
end Go.Proofs.Ytnfgfdeidkhdkaa.Eng
/- P25: watershed/rot.Parts: its run from loop to loop, as Lean printed it (a program of this session's wrote these rows). No condition. -/
namespace Go.Proofs.Ytnfgfdeidkhdkaa.Eng
set_option linter.unusedVariables false
set_option maxRecDepth 100000
noncomputable def ents25 : List (Nat × Ent) := [(31, ent31), (72, ent72), (75, ent75)]
noncomputable def mems25 : List (Nat × EntM) := []
noncomputable def E25 (fu : Nat) : Env := ⟨67, 0, semOf ents25, [], memOf mems25, [], [(100006, ⟨[], [(1, none), (1, some 0), (1, some 1), (1, some 2), (1, some 3), (4, none), (5, none), (19, none), (20, none)], [1, 4, 5, 19, 20]⟩), (100011, ⟨[], [(1, none), (1, some 0), (1, some 1), (1, some 2), (1, some 3), (4, none), (5, none), (7, none), (19, none), (20, none)], [1, 4, 5, 7, 19, 20]⟩), (100014, ⟨[], [(1, none), (1, some 0), (1, some 1), (1, some 2), (1, some 3), (4, none), (5, none), (7, none), (19, none), (20, none), (34, none), (35, none), (36, none)], [1, 4, 5, 7, 19, 20, 34, 35, 36]⟩)], fu⟩
theorem fuel25 : Fuel E25 := fun _ => rfl
noncomputable def kr25 : St → Option CV := endK true Try.f25.results.toList
noncomputable def K25_6 : List Fr := theK Try.f25 100006
noncomputable def C25_6 : Code := theC Try.f25 100006
def s25_6 (i5 : Int) (i19 : Int) (i20 : Int) (iM0_0 : Int) (lM0_1 : List Int) (lM0_2 : List Int) (lM0_3 : List Int) (mM1 : List Int) : St := ⟨[(1, .ptr 8000 0), (4, .ref 8001), (5, .int .i64 i5), (19, .int .i64 i19), (20, .int .i64 i20)], [(8000, some (.cells 25 [.int .i64 iM0_0, .sl .int lM0_1, .sl .int lM0_2, .sl .int lM0_3])), (8001, some (.arr false .int mM1))]⟩
noncomputable def a25_6 (i5 : Int) (i19 : Int) (i20 : Int) (iM0_0 : Int) (lM0_1 : List Int) (lM0_2 : List Int) (lM0_3 : List Int) (mM1 : List Int) : Leaf := .at K25_6 C25_6 (s25_6 i5 i19 i20 iM0_0 lM0_1 lM0_2 lM0_3 mM1)
noncomputable def K25_11 : List Fr := theK Try.f25 100011
noncomputable def C25_11 : Code := theC Try.f25 100011
def s25_11 (i5 : Int) (b7 : Bool) (i19 : Int) (i20 : Int) (iM0_0 : Int) (lM0_1 : List Int) (lM0_2 : List Int) (lM0_3 : List Int) (mM1 : List Int) : St := ⟨[(1, .ptr 8000 0), (4, .ref 8001), (5, .int .i64 i5), (7, .bool b7), (19, .int .i64 i19), (20, .int .i64 i20)], [(8000, some (.cells 25 [.int .i64 iM0_0, .sl .int lM0_1, .sl .int lM0_2, .sl .int lM0_3])), (8001, some (.arr false .int mM1))]⟩
noncomputable def a25_11 (i5 : Int) (b7 : Bool) (i19 : Int) (i20 : Int) (iM0_0 : Int) (lM0_1 : List Int) (lM0_2 : List Int) (lM0_3 : List Int) (mM1 : List Int) : Leaf := .at K25_11 C25_11 (s25_11 i5 b7 i19 i20 iM0_0 lM0_1 lM0_2 lM0_3 mM1)
noncomputable def K25_14 : List Fr := theK Try.f25 100014
noncomputable def C25_14 : Code := theC Try.f25 100014
def s25_14 (i5 : Int) (b7 : Bool) (i19 : Int) (i20 : Int) (l34 : List Int) (i35 : Int) (i36 : Int) (iM0_0 : Int) (lM0_1 : List Int) (lM0_2 : List Int) (lM0_3 : List Int) (mM1 : List Int) : St := ⟨[(1, .ptr 8000 0), (4, .ref 8001), (5, .int .i64 i5), (7, .bool b7), (19, .int .i64 i19), (20, .int .i64 i20), (34, .sl .int l34), (35, .int .i64 i35), (36, .int .i64 i36)], [(8000, some (.cells 25 [.int .i64 iM0_0, .sl .int lM0_1, .sl .int lM0_2, .sl .int lM0_3])), (8001, some (.arr false .int mM1))]⟩
noncomputable def a25_14 (i5 : Int) (b7 : Bool) (i19 : Int) (i20 : Int) (l34 : List Int) (i35 : Int) (i36 : Int) (iM0_0 : Int) (lM0_1 : List Int) (lM0_2 : List Int) (lM0_3 : List Int) (mM1 : List Int) : Leaf := .at K25_14 C25_14 (s25_14 i5 b7 i19 i20 l34 i35 i36 iM0_0 lM0_1 lM0_2 lM0_3 mM1)
noncomputable def t25_6 (i5 : Int) (i19 : Int) (i20 : Int) (iM0_0 : Int) (lM0_1 : List Int) (lM0_2 : List Int) (lM0_3 : List Int) (mM1 : List Int) : Option Leaf :=
  bif Decidable.decide (i20 < i19) then
   bif Decidable.decide ((0 : Int) ≤ i20) then
    bif Decidable.decide (i20 < (↑(List.length mM1) : Int)) then
     ob (mM1[Int.toNat i20]?) fun x1 =>
      bif Decidable.decide ((0 : Int) ≤ x1) then
       some (a25_6 i5 i19 (IntKind.wrap IntKind.i64 (i20 + (1 : Int))) iM0_0 lM0_1 lM0_2 lM0_3 mM1)
      else
       bif Decidable.decide ((0 : Int) ≤ i20) then
        bif Decidable.decide (i20 < (↑(List.length mM1) : Int)) then
         ob (mM1[Int.toNat i20]?) fun x2 =>
          some (a25_11 i5 Bool.true i19 i20 iM0_0 lM0_1 lM0_2 lM0_3 (List.set mM1 (Int.toNat i20) i5))
        else
         none
       else
        none
    else
     none
   else
    none
  else
   some (.ret (CV.tup [CV.sl SK.int mM1, CV.int IntKind.i64 i5]))
theorem c25_6 (fu : Nat) (i5 : Int) (i19 : Int) (i20 : Int) (iM0_0 : Int) (lM0_1 : List Int) (lM0_2 : List Int) (lM0_3 : List Int) (mM1 : List Int) : cutL (E25 fu) kr25 K25_6 C25_6 (s25_6 i5 i19 i20 iM0_0 lM0_1 lM0_2 lM0_3 mM1) = t25_6 i5 i19 i20 iM0_0 lM0_1 lM0_2 lM0_3 mM1 := by kernel_rfl
theorem h25_6 (i5 : Int) (i19 : Int) (i20 : Int) (iM0_0 : Int) (lM0_1 : List Int) (lM0_2 : List Int) (lM0_3 : List Int) (mM1 : List Int) (r : CV) (h : Good E25 kr25 (t25_6 i5 i19 i20 iM0_0 lM0_1 lM0_2 lM0_3 mM1) r) : Lead E25 kr25 r (a25_6 i5 i19 i20 iM0_0 lM0_1 lM0_2 lM0_3 mM1) := Lead.at fuel25 (fun fu => c25_6 fu i5 i19 i20 iM0_0 lM0_1 lM0_2 lM0_3 mM1) h
noncomputable def t25_11 (i5 : Int) (b7 : Bool) (i19 : Int) (i20 : Int) (iM0_0 : Int) (lM0_1 : List Int) (lM0_2 : List Int) (lM0_3 : List Int) (mM1 : List Int) : Option Leaf :=
  bif b7 then
   some (a25_14 i5 Bool.false i19 i20 lM0_1 ((↑(List.length lM0_1) : Int)) ((0 : Int)) iM0_0 lM0_1 lM0_2 lM0_3 mM1)
  else
   some (a25_6 (IntKind.wrap IntKind.i64 (i5 + (1 : Int))) i19 (IntKind.wrap IntKind.i64 (i20 + (1 : Int))) iM0_0 lM0_1 lM0_2 lM0_3 mM1)
theorem c25_11 (fu : Nat) (i5 : Int) (b7 : Bool) (i19 : Int) (i20 : Int) (iM0_0 : Int) (lM0_1 : List Int) (lM0_2 : List Int) (lM0_3 : List Int) (mM1 : List Int) : cutL (E25 fu) kr25 K25_11 C25_11 (s25_11 i5 b7 i19 i20 iM0_0 lM0_1 lM0_2 lM0_3 mM1) = t25_11 i5 b7 i19 i20 iM0_0 lM0_1 lM0_2 lM0_3 mM1 := by kernel_rfl
theorem h25_11 (i5 : Int) (b7 : Bool) (i19 : Int) (i20 : Int) (iM0_0 : Int) (lM0_1 : List Int) (lM0_2 : List Int) (lM0_3 : List Int) (mM1 : List Int) (r : CV) (h : Good E25 kr25 (t25_11 i5 b7 i19 i20 iM0_0 lM0_1 lM0_2 lM0_3 mM1) r) : Lead E25 kr25 r (a25_11 i5 b7 i19 i20 iM0_0 lM0_1 lM0_2 lM0_3 mM1) := Lead.at fuel25 (fun fu => c25_11 fu i5 b7 i19 i20 iM0_0 lM0_1 lM0_2 lM0_3 mM1) h
noncomputable def t25_14 (i5 : Int) (b7 : Bool) (i19 : Int) (i20 : Int) (l34 : List Int) (i35 : Int) (i36 : Int) (iM0_0 : Int) (lM0_1 : List Int) (lM0_2 : List Int) (lM0_3 : List Int) (mM1 : List Int) : Option Leaf :=
  bif Decidable.decide (i36 < i35) then
   bif Decidable.decide ((0 : Int) ≤ i36) then
    ob (l34[Int.toNat i36]?) fun x3 =>
     bif ok31 iM0_0 lM0_1 lM0_2 lM0_3 i36 then
      bif Decidable.decide ((0 : Int) ≤ x3) then
       bif Decidable.decide (x3 < (↑(List.length mM1) : Int)) then
        ob (mM1[Int.toNat x3]?) fun x4 =>
         bif Decidable.decide (x4 = i5) then
          bif Decidable.decide ((0 : Int) ≤ v31 iM0_0 lM0_1 lM0_2 lM0_3 i36) then
           bif Decidable.decide (v31 iM0_0 lM0_1 lM0_2 lM0_3 i36 < (↑(List.length mM1) : Int)) then
            ob (mM1[Int.toNat (v31 iM0_0 lM0_1 lM0_2 lM0_3 i36)]?) fun x5 =>
             bif Decidable.decide (x5 < (0 : Int)) then
              bif Decidable.decide ((0 : Int) ≤ v31 iM0_0 lM0_1 lM0_2 lM0_3 i36) then
               bif Decidable.decide (v31 iM0_0 lM0_1 lM0_2 lM0_3 i36 < (↑(List.length mM1) : Int)) then
                ob (mM1[Int.toNat (v31 iM0_0 lM0_1 lM0_2 lM0_3 i36)]?) fun x6 =>
                 some (a25_14 i5 Bool.true i19 i20 l34 i35 (IntKind.wrap IntKind.i64 (i36 + (1 : Int))) iM0_0 lM0_1 lM0_2 lM0_3 (List.set mM1 (Int.toNat (v31 iM0_0 lM0_1 lM0_2 lM0_3 i36)) i5))
               else
                none
              else
               none
             else
              some (a25_14 i5 b7 i19 i20 l34 i35 (IntKind.wrap IntKind.i64 (i36 + (1 : Int))) iM0_0 lM0_1 lM0_2 lM0_3 mM1)
           else
            none
          else
           none
         else
          some (a25_14 i5 b7 i19 i20 l34 i35 (IntKind.wrap IntKind.i64 (i36 + (1 : Int))) iM0_0 lM0_1 lM0_2 lM0_3 mM1)
       else
        none
      else
       none
     else
      none
   else
    none
  else
   some (a25_11 i5 b7 i19 i20 iM0_0 lM0_1 lM0_2 lM0_3 mM1)
theorem c25_14 (fu : Nat) (i5 : Int) (b7 : Bool) (i19 : Int) (i20 : Int) (l34 : List Int) (i35 : Int) (i36 : Int) (iM0_0 : Int) (lM0_1 : List Int) (lM0_2 : List Int) (lM0_3 : List Int) (mM1 : List Int) : cutL (E25 fu) kr25 K25_14 C25_14 (s25_14 i5 b7 i19 i20 l34 i35 i36 iM0_0 lM0_1 lM0_2 lM0_3 mM1) = t25_14 i5 b7 i19 i20 l34 i35 i36 iM0_0 lM0_1 lM0_2 lM0_3 mM1 := by kernel_rfl
theorem h25_14 (i5 : Int) (b7 : Bool) (i19 : Int) (i20 : Int) (l34 : List Int) (i35 : Int) (i36 : Int) (iM0_0 : Int) (lM0_1 : List Int) (lM0_2 : List Int) (lM0_3 : List Int) (mM1 : List Int) (r : CV) (h : Good E25 kr25 (t25_14 i5 b7 i19 i20 l34 i35 i36 iM0_0 lM0_1 lM0_2 lM0_3 mM1) r) : Lead E25 kr25 r (a25_14 i5 b7 i19 i20 l34 i35 i36 iM0_0 lM0_1 lM0_2 lM0_3 mM1) := Lead.at fuel25 (fun fu => c25_14 fu i5 b7 i19 i20 l34 i35 i36 iM0_0 lM0_1 lM0_2 lM0_3 mM1) h
noncomputable def t25 (gN : Int) (gT : List Int) (gX : List Int) (gC : List Int) : Option Leaf :=
  bif ok72 gN gT gX gC then
   bif !v72 gN gT gX gC then
    some (.ret (CV.tup [CV.sl SK.int [], CV.int IntKind.i64 (0 : Int)]))
   else
    bif ok75 [(-1 : Int)] gN then
     some (a25_6 ((0 : Int)) ((↑(List.length (v75 [(-1 : Int)] gN)) : Int)) ((0 : Int)) gN gT gX gC (v75 [(-1 : Int)] gN))
    else
     none
  else
   none
theorem c25 (fu : Nat) (gN : Int) (gT : List Int) (gX : List Int) (gC : List Int) : cutB (E25 fu) kr25 Try.f25 (⟨parT 0 [.agg [.int .i64 gN, .sl .int gT, .sl .int gX, .sl .int gC]], []⟩) = t25 gN gT gX gC := by kernel_rfl
def R25 (gN : Int) (gT : List Int) (gX : List Int) (gC : List Int) (r : List Int × Int) : Prop := RunF E25 true Try.f25 [.agg [.int .i64 gN, .sl .int gT, .sl .int gX, .sl .int gC]] (.tup [.sl .int r.1, .int .i64 r.2])
theorem run25 (gN : Int) (gT : List Int) (gX : List Int) (gC : List Int) (r : List Int × Int) (h : Good E25 kr25 (t25 gN gT gX gC) (.tup [.sl .int r.1, .int .i64 r.2])) : R25 gN gT gX gC r := RunF.of fuel25 (fun fu => c25 fu gN gT gX gC) h
noncomputable def ok25 (gN : Int) (gT : List Int) (gX : List Int) (gC : List Int) : Bool := okP (R25 gN gT gX gC)
noncomputable def v25 (gN : Int) (gT : List Int) (gX : List Int) (gC : List Int) : List Int × Int := valP (R25 gN gT gX gC)
theorem sp25 (gN : Int) (gT : List Int) (gX : List Int) (gC : List Int) (r : List Int × Int) (h : R25 gN gT gX gC r) : ok25 gN gT gX gC = true ∧ v25 gN gT gX gC = r := okP_of h fun b hb => by
  have := RunF.uniq hb h
  rcases b with ⟨_, _⟩; rcases r with ⟨_, _⟩; simp_all
theorem at25 : P.funcs[25]? = some Try.f25 := by kernel_rfl
theorem callable25 : callable 25 = true := by kernel_rfl
theorem semok25 : SemOk (semOf ents25) := EntsOk.sem (.cons entok31 (.cons entok72 (.cons entok75 (.nil))))
theorem memok25 : MemOk (memOf mems25) := EntsMOk.mem (.nil)
noncomputable def ent25 : Ent := fun args => match args with
  | [.agg [.int .i64 gN, .sl .int gT, .sl .int gX, .sl .int gC]] => some (true, ok25 gN gT gX gC, .tup [.sl .int (v25 gN gT gX gC).1, .int .i64 (v25 gN gT gX gC).2])
  | _ => none
theorem entok25 : EntOk 25 ent25 := fun args own r h => by
  unfold ent25 at h
  split at h
  · simp only [Option.some.injEq, Prod.mk.injEq] at h
    obtain ⟨rfl, h, rfl⟩ := h
    exact ⟨RunF.calls (fun _ => semok25) (fun _ => memok25) at25 rfl (Nat.le_of_ble_eq_true rfl) (fun _ => rfl) (okP_val h), callable25⟩
  · cases h
end Go.Proofs.Ytnfgfdeidkhdkaa.Eng
/- Lf: rot.Head, rot.Parts: pieces numbered by their least vertices. -/
namespace Go.Proofs.Ytnfgfdeidkhdkaa.Eng
set_option linter.unusedVariables false
set_option linter.unusedSimpArgs false
theorem f31 {N : Int} {T X C : List Int} {d : Int} (h0 : 0 ≤ d) (h1 : d < (T.length : Int)) (he : (T.length : Int) % 2 = 0) (hk : (T.length : Int) ≤ 4611686018427387904) : ok31 N T X C d = true ∧ v31 N T X C d = gi T (oth d) :=
  sp31 _ _ _ _ _ _ (run31 _ _ _ _ _ _ (by
    obtain ⟨a, b⟩ := f77 h0 (by omega)
    obtain ⟨c1, c2⟩ := oth_in h0 h1 he
    unfold t31
    rw [b]
    refine good_neg (by omega) (good_true a (good_neg (by omega) (good_true a ?_)))
    repeat (first | (refine good_pos (by omega) ?_) | (refine good_pos trivial ?_) | (refine good_neg (by omega) ?_) | (refine good_npos (by omega) ?_) | (refine good_nneg (by omega) ?_) | (refine good_gi (by omega) (by omega) ?_) | (refine good_gb (by omega) (by omega) ?_) | (refine good_ble (by omega) ?_))
    exact good_end rfl))
/-- on the way at v: what is numbered -/
structure PJ (N : Int) (T : List Int) (v : Int) (p : List Int) : Prop where
  len : (p.length : Int) = N
  num : ∀ u : Int, 0 ≤ u → u < N → (gi p u = -1 ∧ ∀ w, 0 ≤ w → w < v → ¬ Conn T w u) ∨ (∃ w, 0 ≤ w ∧ w < v ∧ w ≤ u ∧ Root T w ∧ Conn T w u ∧ gi p u = rk T w)
structure PK (N : Int) (T : List Int) (v : Int) (p : List Int) : Prop where
  len : (p.length : Int) = N
  num : ∀ u : Int, 0 ≤ u → u < N → (gi p u = -1 ∧ ∀ w, 0 ≤ w → w < v → ¬ Conn T w u) ∨ (∃ w, 0 ≤ w ∧ w ≤ v ∧ w ≤ u ∧ Root T w ∧ Conn T w u ∧ gi p u = rk T w)
  self : gi p v = rk T v
/-- dart d leads on to nothing new -/
def Still (T p : List Int) (c d : Int) : Prop := gi p (gi T d) = c → 0 ≤ gi p (gi T (oth d))
section
variable {N : Int} {T X C : List Int} {v : Int}
theorem still_all {p : List Int} (hs : Shape N T X C) (hv : 0 ≤ v ∧ v < N) (hr : Root T v) (h : PK N T v p) (hst : ∀ d : Int, 0 ≤ d → d < (T.length : Int) → Still T p (rk T v) d) : PJ N T (v + 1) p := by
  refine ⟨h.len, fun u h0 h1 => ?_⟩
  rcases h.num u h0 h1 with ⟨a, b⟩ | ⟨w, w0, w1, w2, w3, w4, w5⟩
  · refine .inl ⟨a, fun w w0 w1 => ?_⟩
    by_cases e : w = v
    · subst e
      intro hc
      have : ∀ x, Conn T w x → gi p x = rk T w := by
        intro x hx
        induction hx with
        | refl => exact h.self
        | @step y d hy d0 d1 d2 ih =>
          have hy' := hy.range hs.e hs.tr hv
          have hh := hs.tr _ (oth_in d0 d1 hs.e).1 (oth_in d0 d1 hs.e).2
          have h0 := hst d d0 d1 (by rw [d2]; exact ih)
          rcases h.num _ hh.1 hh.2 with ⟨a, -⟩ | ⟨z, z0, z1, z2, z3, z4, z5⟩
          · omega
          · have hc' : Conn T w (gi T (oth d)) := .step hy d0 d1 d2
            rw [z5, root_uniq hs.e z0 z3 w0 hr (z4.trans (hc'.symm hs.e))]
      have e := this u hc
      have := rk_nonneg T hv.1
      omega
    · exact b w w0 (by omega)
  · exact .inr ⟨w, w0, by omega, w2, w3, w4, w5⟩
theorem l25_14 {r : CV} (hs : Shape N T X C) (hv : 0 ≤ v ∧ v < N) (hr : Root T v) (m : Nat)
    (hk : ∀ (b : Bool) (p : List Int), PK N T v p → (b = false → ∀ d : Int, 0 ≤ d → d < (T.length : Int) → Still T p (rk T v) d) → (b = true → negs p < m) → Lead E25 kr25 r (a25_11 (rk T v) b N v N T X C p)) :
    ∀ (n : Nat) (d : Int) (b : Bool) (p : List Int), 0 ≤ d → d ≤ T.length → (T.length : Int) - d = n → PK N T v p → (b = false → ∀ e : Int, 0 ≤ e → e < d → Still T p (rk T v) e) → (b = true → negs p < m) → negs p ≤ m →
      Lead E25 kr25 r (a25_14 (rk T v) b N v T (T.length : Int) d N T X C p) := by
  intro n
  have hk240 := hs.k
  have hn60 := hs.n1
  have hrk : rk T v ≤ v := rk_self (by omega)
  have hrk0 := rk_nonneg T hv.1
  induction n with
  | zero =>
    intro d b p h0 h1 h2 hp hb hm hm'
    refine h25_14 _ _ _ _ _ _ _ _ _ _ _ _ _ ?_
    unfold t25_14
    repeat (first | (refine good_pos (by omega) ?_) | (refine good_pos trivial ?_) | (refine good_neg (by omega) ?_) | (refine good_npos (by omega) ?_) | (refine good_nneg (by omega) ?_) | (refine good_gi (by omega) (by omega) ?_) | (refine good_gb (by omega) (by omega) ?_) | (refine good_ble (by omega) ?_))
    exact good_at (hk b p hp (fun e x x0 x1 => hb e x x0 (by omega)) hm)
  | succ n ih =>
    intro d b p h0 h1 h2 hp hb hm hm'
    refine h25_14 _ _ _ _ _ _ _ _ _ _ _ _ _ ?_
    unfold t25_14
    obtain ⟨k1, k2⟩ := f31 (N := N) (T := T) (X := X) (C := C) h0 (show d < T.length by omega) hs.e (by omega)
    have hl := hp.len
    have ht := hs.tr d h0 (by omega)
    obtain ⟨o0, o1⟩ := oth_in h0 (show d < T.length by omega) hs.e
    have hh := hs.tr _ o0 o1
    rw [k2]
    repeat (first | (refine good_pos (by omega) ?_) | (refine good_pos trivial ?_) | (refine good_neg (by omega) ?_) | (refine good_npos (by omega) ?_) | (refine good_nneg (by omega) ?_) | (refine good_gi (by omega) (by omega) ?_) | (refine good_gb (by omega) (by omega) ?_) | (refine good_ble (by omega) ?_))
    refine good_true k1 ?_
    by_cases c1 : gi p (gi T d) = rk T v
    · by_cases c2 : gi p (gi T (oth d)) < 0
      · repeat (first | (refine good_pos (by omega) ?_) | (refine good_pos trivial ?_) | (refine good_neg (by omega) ?_) | (refine good_npos (by omega) ?_) | (refine good_nneg (by omega) ?_) | (refine good_gi (by omega) (by omega) ?_) | (refine good_gb (by omega) (by omega) ?_) | (refine good_ble (by omega) ?_))
        simp (disch := omega) only [wrap_in]
        refine good_at (ih (d + 1) true (p.set (gi T (oth d)).toNat (rk T v)) (by omega) (by omega) (by omega) ?_ (fun e => by cases e) (fun _ => ?_) ?_)
        · have hc : Conn T v (gi T (oth d)) := by
            refine .step ?_ h0 (by omega) rfl
            rcases hp.num _ ht.1 ht.2 with ⟨a, -⟩ | ⟨z, z0, z1, z2, z3, z4, z5⟩
            · omega
            · rw [c1] at z5
              obtain rfl := rk_inj z0 z3 hv.1 hr z5.symm
              exact z4
          refine ⟨by rw [List.length_set]; exact hl, fun u u0 u1 => ?_, ?_⟩
          · rw [gi_set hh.1 (by omega) u0]
            by_cases e : u = gi T (oth d)
            · rw [if_pos e]
              refine .inr ⟨v, hv.1, Int.le_refl v, ?_, hr, e ▸ hc, rfl⟩
              by_cases hlt : u < v
              · exact absurd ((e ▸ hc : Conn T v u).symm hs.e) (hr u u0 hlt)
              · omega
            · rw [if_neg e]; exact hp.num u u0 u1
          · rw [gi_set hh.1 (by omega) hv.1]
            split
            · rfl
            · exact hp.self
        · have := negs_set hh.1 (by omega) c2 hrk0; omega
        · have := negs_set hh.1 (by omega) c2 hrk0; omega
      · repeat (first | (refine good_pos (by omega) ?_) | (refine good_pos trivial ?_) | (refine good_neg (by omega) ?_) | (refine good_npos (by omega) ?_) | (refine good_nneg (by omega) ?_) | (refine good_gi (by omega) (by omega) ?_) | (refine good_gb (by omega) (by omega) ?_) | (refine good_ble (by omega) ?_))
        simp (disch := omega) only [wrap_in]
        refine good_at (ih (d + 1) b p (by omega) (by omega) (by omega) hp (fun e x x0 x1 => ?_) hm hm')
        by_cases ex : x = d
        · subst ex; intro _; omega
        · exact hb e x x0 (by omega)
    · repeat (first | (refine good_pos (by omega) ?_) | (refine good_pos trivial ?_) | (refine good_neg (by omega) ?_) | (refine good_npos (by omega) ?_) | (refine good_nneg (by omega) ?_) | (refine good_gi (by omega) (by omega) ?_) | (refine good_gb (by omega) (by omega) ?_) | (refine good_ble (by omega) ?_))
      simp (disch := omega) only [wrap_in]
      refine good_at (ih (d + 1) b p (by omega) (by omega) (by omega) hp (fun e x x0 x1 => ?_) hm hm')
      by_cases ex : x = d
      · subst ex; intro hh; exact absurd hh c1
      · exact hb e x x0 (by omega)
theorem l25_11 {r : CV} (hs : Shape N T X C) (hv : 0 ≤ v ∧ v < N) (hr : Root T v)
    (hk : ∀ p : List Int, PJ N T (v + 1) p → Lead E25 kr25 r (a25_6 (rk T (v + 1)) N (v + 1) N T X C p)) :
    ∀ (m : Nat) (b : Bool) (p : List Int), PK N T v p → (b = false → ∀ d : Int, 0 ≤ d → d < (T.length : Int) → Still T p (rk T v) d) → negs p < m → Lead E25 kr25 r (a25_11 (rk T v) b N v N T X C p) := by
  intro m
  have hn60 := hs.n1
  have hrk : rk T v ≤ v := rk_self (by omega)
  have hrk0 := rk_nonneg T hv.1
  induction m with
  | zero => intro b p _ _ h; omega
  | succ m ih =>
    intro b p hp hb hm
    refine h25_11 _ _ _ _ _ _ _ _ _ _ ?_
    unfold t25_11
    cases b with
    | false =>
      refine good_false rfl ?_
      simp (disch := omega) only [wrap_in]
      rw [← rk_root hv.1 hr]
      exact good_at (hk p (still_all hs hv hr hp (hb rfl)))
    | true =>
      refine good_true rfl ?_
      exact good_at (l25_14 hs hv hr (negs p) (fun b' p' hp' hb' hm' => by
        cases b' with
        | false =>
          refine h25_11 _ _ _ _ _ _ _ _ _ _ ?_
          unfold t25_11
          refine good_false rfl ?_
          simp (disch := omega) only [wrap_in]
          rw [← rk_root hv.1 hr]
          exact good_at (hk p' (still_all hs hv hr hp' (hb' rfl)))
        | true => exact ih true p' hp' hb' (by have := hm' rfl; omega)) T.length 0 false p (by omega) (by omega) (by omega) hp (fun _ e _ _ => by omega) (fun e => by cases e) (Nat.le_refl _))
theorem l25_6 (hs : Shape N T X C) {q : List Int} {k : Int} (hq : Parted N T q k) : ∀ (n : Nat) (v : Int) (p : List Int), 0 ≤ v → v ≤ N → N - v = n → PJ N T v p → Lead E25 kr25 (.tup [.sl .int q, .int .i64 k]) (a25_6 (rk T v) N v N T X C p) := by
  intro n
  have hn60 := hs.n1
  induction n with
  | zero =>
    intro v p h0 h1 h2 hp
    obtain rfl : v = N := by omega
    have hp' : Parted v T p (rk T v) := ⟨hp.len, fun u u0 u1 => by
      rcases hp.num u u0 u1 with ⟨a, b⟩ | ⟨w, w0, w1, w2, w3, w4, w5⟩
      · exact absurd .refl (b u u0 u1)
      · exact ⟨w, w0, w2, w3, w4, w5⟩, rfl⟩
    obtain ⟨rfl, rfl⟩ := hp'.uniq hs.e hq
    refine h25_6 _ _ _ _ _ _ _ _ _ ?_
    unfold t25_6
    repeat (first | (refine good_pos (by omega) ?_) | (refine good_pos trivial ?_) | (refine good_neg (by omega) ?_) | (refine good_npos (by omega) ?_) | (refine good_nneg (by omega) ?_) | (refine good_gi (by omega) (by omega) ?_) | (refine good_gb (by omega) (by omega) ?_) | (refine good_ble (by omega) ?_))
    exact good_end rfl
  | succ n ih =>
    intro v p h0 h1 h2 hp
    have hl := hp.len
    have hrk : rk T v ≤ v := rk_self h0
    have hrk0 := rk_nonneg T h0
    rcases hp.num v h0 (by omega) with ⟨a, b⟩ | ⟨w, w0, w1, w2, w3, w4, w5⟩
    · have hr : Root T v := b
      have hpk : PK N T v (p.set v.toNat (rk T v)) := by
        refine ⟨by rw [List.length_set]; exact hl, fun u u0 u1 => ?_, by rw [gi_set h0 (by omega) h0, if_pos rfl]⟩
        rw [gi_set h0 (by omega) u0]
        by_cases e : u = v
        · rw [if_pos e, e]; exact .inr ⟨v, h0, Int.le_refl v, Int.le_refl v, hr, .refl, rfl⟩
        · rw [if_neg e]
          rcases hp.num u u0 u1 with x | ⟨w, w0, w1, w2, w3, w4, w5⟩
          · exact .inl x
          · exact .inr ⟨w, w0, by omega, w2, w3, w4, w5⟩
      refine h25_6 _ _ _ _ _ _ _ _ _ ?_
      unfold t25_6
      repeat (first | (refine good_pos (by omega) ?_) | (refine good_pos trivial ?_) | (refine good_neg (by omega) ?_) | (refine good_npos (by omega) ?_) | (refine good_nneg (by omega) ?_) | (refine good_gi (by omega) (by omega) ?_) | (refine good_gb (by omega) (by omega) ?_) | (refine good_ble (by omega) ?_))
      exact good_at (l25_11 hs ⟨h0, by omega⟩ hr (fun p' hp' => ih (v + 1) p' (by omega) (by omega) (by omega) hp') (negs (p.set v.toNat (rk T v)) + 1) true _ hpk (fun e => by cases e) (by omega))
    · have hr : ¬ Root T v := fun hr => hr w w0 w1 w4
      have : PJ N T (v + 1) p := by
        refine ⟨hl, fun u u0 u1 => ?_⟩
        rcases hp.num u u0 u1 with ⟨a, b⟩ | ⟨z, z0, z1, z2, z3, z4, z5⟩
        · refine .inl ⟨a, fun z z0 z1 hc => ?_⟩
          by_cases e : z = v
          · subst e; exact b w w0 w1 (w4.trans hc)
          · exact b z z0 (by omega) hc
        · exact .inr ⟨z, z0, by omega, z2, z3, z4, z5⟩
      have h := ih (v + 1) p (by omega) (by omega) (by omega) this
      rw [rk_not h0 hr] at h
      refine h25_6 _ _ _ _ _ _ _ _ _ ?_
      have := rk_nonneg T w0
      unfold t25_6
      repeat (first | (refine good_pos (by omega) ?_) | (refine good_pos trivial ?_) | (refine good_neg (by omega) ?_) | (refine good_npos (by omega) ?_) | (refine good_nneg (by omega) ?_) | (refine good_gi (by omega) (by omega) ?_) | (refine good_gb (by omega) (by omega) ?_) | (refine good_ble (by omega) ?_))
      simp (disch := omega) only [wrap_in]
      exact good_at h
/-- the pieces -/
theorem f25 (hs : Shape N T X C) : ok25 N T X C = true ∧ Parted N T (v25 N T X C).1 (v25 N T X C).2 := by
  obtain ⟨a1, a2⟩ := f72 N T X C
  obtain ⟨b1, b2⟩ := f75 (v := -1) (n := N) (by have := hs.n0; omega) (by have := hs.n1; omega)
  have hn0 := hs.n0
  have hj : PJ N T 0 (List.replicate N.toNat (-1)) := ⟨by simp; omega, fun u u0 u1 => .inl ⟨gi_replicate u0 (by omega), fun w w0 w1 => by omega⟩⟩
  obtain ⟨q, hq⟩ := parted_ex (N := N) hs.e (by omega)
  have h := l25_6 hs hq N.toNat 0 _ (Int.le_refl 0) (by omega) (by omega) hj
  have := sp25 N T X C (q, rk T N) (run25 _ _ _ _ _ (by
    unfold t25
    rw [b2]
    refine good_true a1 (good_nfalse (a2.2 (.inl hs)) (good_true b1 ?_))
    have e : ((List.replicate N.toNat (-1 : Int)).length : Int) = N := by simp; omega
    rw [e]
    rw [rk_zero] at h
    exact good_at h))
  exact ⟨this.1, by rw [this.2]; exact hq⟩
end
end Go.Proofs.Ytnfgfdeidkhdkaa.Eng
/- P26: watershed/watershedref2.Parts: its run from loop to loop, as Lean printed it (a program of this session's wrote these rows). No condition. -/
namespace Go.Proofs.Ytnfgfdeidkhdkaa.Eng
set_option linter.unusedVariables false
set_option maxRecDepth 100000
noncomputable def ents26 : List (Nat × Ent) := [(32, ent32)]
noncomputable def mems26 : List (Nat × EntM) := []
noncomputable def E26 (fu : Nat) : Env := ⟨91, 0, semOf ents26, [], memOf mems26, [], [(100003, ⟨[], [(1, none), (1, some 0), (1, some 1), (1, some 2), (1, some 3), (4, none), (5, none)], [1, 4, 5]⟩), (100007, ⟨[], [(1, none), (1, some 0), (1, some 1), (1, some 2), (1, some 3), (4, none), (6, none)], [1, 4, 6]⟩), (100010, ⟨[], [(1, none), (1, some 0), (1, some 1), (1, some 2), (1, some 3), (4, none), (6, none), (7, none)], [1, 4, 6, 7]⟩), (100019, ⟨[], [(1, none), (1, some 0), (1, some 1), (1, some 2), (1, some 3), (4, none), (10, none), (11, none), (12, none)], [1, 4, 10, 11, 12]⟩)], fu⟩
theorem fuel26 : Fuel E26 := fun _ => rfl
noncomputable def kr26 : St → Option CV := endK true Try.f26.results.toList
noncomputable def K26_3 : List Fr := theK Try.f26 100003
noncomputable def C26_3 : Code := theC Try.f26 100003
def s26_3 (i5 : Int) (iM0_0 : Int) (lM0_1 : List Int) (lM0_2 : List Int) (lM0_3 : List Int) (mM1 : List Int) : St := ⟨[(1, .ptr 8000 0), (4, .ref 8001), (5, .int .i64 i5)], [(8000, some (.cells 25 [.int .i64 iM0_0, .sl .int lM0_1, .sl .int lM0_2, .sl .int lM0_3])), (8001, some (.arr true .int mM1))]⟩
noncomputable def a26_3 (i5 : Int) (iM0_0 : Int) (lM0_1 : List Int) (lM0_2 : List Int) (lM0_3 : List Int) (mM1 : List Int) : Leaf := .at K26_3 C26_3 (s26_3 i5 iM0_0 lM0_1 lM0_2 lM0_3 mM1)
noncomputable def K26_7 : List Fr := theK Try.f26 100007
noncomputable def C26_7 : Code := theC Try.f26 100007
def s26_7 (b6 : Bool) (iM0_0 : Int) (lM0_1 : List Int) (lM0_2 : List Int) (lM0_3 : List Int) (mM1 : List Int) : St := ⟨[(1, .ptr 8000 0), (4, .ref 8001), (6, .bool b6)], [(8000, some (.cells 25 [.int .i64 iM0_0, .sl .int lM0_1, .sl .int lM0_2, .sl .int lM0_3])), (8001, some (.arr true .int mM1))]⟩
noncomputable def a26_7 (b6 : Bool) (iM0_0 : Int) (lM0_1 : List Int) (lM0_2 : List Int) (lM0_3 : List Int) (mM1 : List Int) : Leaf := .at K26_7 C26_7 (s26_7 b6 iM0_0 lM0_1 lM0_2 lM0_3 mM1)
noncomputable def K26_10 : List Fr := theK Try.f26 100010
noncomputable def C26_10 : Code := theC Try.f26 100010
def s26_10 (b6 : Bool) (i7 : Int) (iM0_0 : Int) (lM0_1 : List Int) (lM0_2 : List Int) (lM0_3 : List Int) (mM1 : List Int) : St := ⟨[(1, .ptr 8000 0), (4, .ref 8001), (6, .bool b6), (7, .int .i64 i7)], [(8000, some (.cells 25 [.int .i64 iM0_0, .sl .int lM0_1, .sl .int lM0_2, .sl .int lM0_3])), (8001, some (.arr true .int mM1))]⟩
noncomputable def a26_10 (b6 : Bool) (i7 : Int) (iM0_0 : Int) (lM0_1 : List Int) (lM0_2 : List Int) (lM0_3 : List Int) (mM1 : List Int) : Leaf := .at K26_10 C26_10 (s26_10 b6 i7 iM0_0 lM0_1 lM0_2 lM0_3 mM1)
noncomputable def K26_19 : List Fr := theK Try.f26 100019
noncomputable def C26_19 : Code := theC Try.f26 100019
def s26_19 (i10 : Int) (i12 : Int) (iM0_0 : Int) (lM0_1 : List Int) (lM0_2 : List Int) (lM0_3 : List Int) (mM1 : List Int) (mM2 : List Int) : St := ⟨[(1, .ptr 8000 0), (4, .ref 8001), (10, .int .i64 i10), (11, .ref 8002), (12, .int .i64 i12)], [(8000, some (.cells 25 [.int .i64 iM0_0, .sl .int lM0_1, .sl .int lM0_2, .sl .int lM0_3])), (8001, some (.arr true .int mM1)), (8002, some (.arr true .int mM2))]⟩
noncomputable def a26_19 (i10 : Int) (i12 : Int) (iM0_0 : Int) (lM0_1 : List Int) (lM0_2 : List Int) (lM0_3 : List Int) (mM1 : List Int) (mM2 : List Int) : Leaf := .at K26_19 C26_19 (s26_19 i10 i12 iM0_0 lM0_1 lM0_2 lM0_3 mM1 mM2)
noncomputable def t26_3 (i5 : Int) (iM0_0 : Int) (lM0_1 : List Int) (lM0_2 : List Int) (lM0_3 : List Int) (mM1 : List Int) : Option Leaf :=
  bif Decidable.decide (i5 < iM0_0) then
   bif Decidable.decide ((0 : Int) ≤ i5) then
    bif Decidable.decide (i5 < (↑(List.length mM1) : Int)) then
     ob (mM1[Int.toNat i5]?) fun x1 =>
      some (a26_3 (IntKind.wrap IntKind.i64 (i5 + (1 : Int))) iM0_0 lM0_1 lM0_2 lM0_3 (List.set mM1 (Int.toNat i5) i5))
    else
     none
   else
    none
  else
   some (a26_7 Bool.true iM0_0 lM0_1 lM0_2 lM0_3 mM1)
theorem c26_3 (fu : Nat) (i5 : Int) (iM0_0 : Int) (lM0_1 : List Int) (lM0_2 : List Int) (lM0_3 : List Int) (mM1 : List Int) : cutL (E26 fu) kr26 K26_3 C26_3 (s26_3 i5 iM0_0 lM0_1 lM0_2 lM0_3 mM1) = t26_3 i5 iM0_0 lM0_1 lM0_2 lM0_3 mM1 := by kernel_rfl
theorem h26_3 (i5 : Int) (iM0_0 : Int) (lM0_1 : List Int) (lM0_2 : List Int) (lM0_3 : List Int) (mM1 : List Int) (r : CV) (h : Good E26 kr26 (t26_3 i5 iM0_0 lM0_1 lM0_2 lM0_3 mM1) r) : Lead E26 kr26 r (a26_3 i5 iM0_0 lM0_1 lM0_2 lM0_3 mM1) := Lead.at fuel26 (fun fu => c26_3 fu i5 iM0_0 lM0_1 lM0_2 lM0_3 mM1) h
noncomputable def t26_7 (b6 : Bool) (iM0_0 : Int) (lM0_1 : List Int) (lM0_2 : List Int) (lM0_3 : List Int) (mM1 : List Int) : Option Leaf :=
  bif b6 then
   some (a26_10 Bool.false ((0 : Int)) iM0_0 lM0_1 lM0_2 lM0_3 mM1)
  else
   bif Decidable.decide (iM0_0 = iM0_0) then
    bif Decidable.decide ((0 : Int) ≤ iM0_0) then
     bif Decidable.decide (iM0_0 ≤ (4294967296 : Int)) then
      some (a26_19 ((0 : Int)) ((0 : Int)) iM0_0 lM0_1 lM0_2 lM0_3 mM1 (List.replicate (Int.toNat iM0_0) (0 : SK.T SK.int)))
     else
      none
    else
     none
   else
    none
theorem c26_7 (fu : Nat) (b6 : Bool) (iM0_0 : Int) (lM0_1 : List Int) (lM0_2 : List Int) (lM0_3 : List Int) (mM1 : List Int) : cutL (E26 fu) kr26 K26_7 C26_7 (s26_7 b6 iM0_0 lM0_1 lM0_2 lM0_3 mM1) = t26_7 b6 iM0_0 lM0_1 lM0_2 lM0_3 mM1 := by kernel_rfl
theorem h26_7 (b6 : Bool) (iM0_0 : Int) (lM0_1 : List Int) (lM0_2 : List Int) (lM0_3 : List Int) (mM1 : List Int) (r : CV) (h : Good E26 kr26 (t26_7 b6 iM0_0 lM0_1 lM0_2 lM0_3 mM1) r) : Lead E26 kr26 r (a26_7 b6 iM0_0 lM0_1 lM0_2 lM0_3 mM1) := Lead.at fuel26 (fun fu => c26_7 fu b6 iM0_0 lM0_1 lM0_2 lM0_3 mM1) h
noncomputable def t26_10 (b6 : Bool) (i7 : Int) (iM0_0 : Int) (lM0_1 : List Int) (lM0_2 : List Int) (lM0_3 : List Int) (mM1 : List Int) : Option Leaf :=
  bif Decidable.decide (i7 < (↑(List.length lM0_1) : Int)) then
   bif Decidable.decide ((0 : Int) ≤ i7) then
    ob (lM0_1[Int.toNat i7]?) fun x2 =>
     bif ok32 iM0_0 lM0_1 lM0_2 lM0_3 i7 then
      bif Decidable.decide ((0 : Int) ≤ v32 iM0_0 lM0_1 lM0_2 lM0_3 i7) then
       bif Decidable.decide (v32 iM0_0 lM0_1 lM0_2 lM0_3 i7 < (↑(List.length mM1) : Int)) then
        ob (mM1[Int.toNat (v32 iM0_0 lM0_1 lM0_2 lM0_3 i7)]?) fun x3 =>
         bif Decidable.decide ((0 : Int) ≤ x2) then
          bif Decidable.decide (x2 < (↑(List.length mM1) : Int)) then
           ob (mM1[Int.toNat x2]?) fun x4 =>
            bif Decidable.decide (x4 < x3) then
             bif Decidable.decide ((0 : Int) ≤ x2) then
              bif Decidable.decide (x2 < (↑(List.length mM1) : Int)) then
               ob (mM1[Int.toNat x2]?) fun x5 =>
                bif Decidable.decide ((0 : Int) ≤ v32 iM0_0 lM0_1 lM0_2 lM0_3 i7) then
                 bif Decidable.decide (v32 iM0_0 lM0_1 lM0_2 lM0_3 i7 < (↑(List.length mM1) : Int)) then
                  ob (mM1[Int.toNat (v32 iM0_0 lM0_1 lM0_2 lM0_3 i7)]?) fun x6 =>
                   some (a26_10 Bool.true (IntKind.wrap IntKind.i64 (i7 + (1 : Int))) iM0_0 lM0_1 lM0_2 lM0_3 (List.set mM1 (Int.toNat (v32 iM0_0 lM0_1 lM0_2 lM0_3 i7)) x5))
                 else
                  none
                else
                 none
              else
               none
             else
              none
            else
             some (a26_10 b6 (IntKind.wrap IntKind.i64 (i7 + (1 : Int))) iM0_0 lM0_1 lM0_2 lM0_3 mM1)
          else
           none
         else
          none
       else
        none
      else
       none
     else
      none
   else
    none
  else
   some (a26_7 b6 iM0_0 lM0_1 lM0_2 lM0_3 mM1)
theorem c26_10 (fu : Nat) (b6 : Bool) (i7 : Int) (iM0_0 : Int) (lM0_1 : List Int) (lM0_2 : List Int) (lM0_3 : List Int) (mM1 : List Int) : cutL (E26 fu) kr26 K26_10 C26_10 (s26_10 b6 i7 iM0_0 lM0_1 lM0_2 lM0_3 mM1) = t26_10 b6 i7 iM0_0 lM0_1 lM0_2 lM0_3 mM1 := by kernel_rfl
theorem h26_10 (b6 : Bool) (i7 : Int) (iM0_0 : Int) (lM0_1 : List Int) (lM0_2 : List Int) (lM0_3 : List Int) (mM1 : List Int) (r : CV) (h : Good E26 kr26 (t26_10 b6 i7 iM0_0 lM0_1 lM0_2 lM0_3 mM1) r) : Lead E26 kr26 r (a26_10 b6 i7 iM0_0 lM0_1 lM0_2 lM0_3 mM1) := Lead.at fuel26 (fun fu => c26_10 fu b6 i7 iM0_0 lM0_1 lM0_2 lM0_3 mM1) h
noncomputable def t26_19 (i10 : Int) (i12 : Int) (iM0_0 : Int) (lM0_1 : List Int) (lM0_2 : List Int) (lM0_3 : List Int) (mM1 : List Int) (mM2 : List Int) : Option Leaf :=
  bif Decidable.decide (i12 < iM0_0) then
   bif Decidable.decide ((0 : Int) ≤ i12) then
    bif Decidable.decide (i12 < (↑(List.length mM1) : Int)) then
     ob (mM1[Int.toNat i12]?) fun x7 =>
      bif Decidable.decide (x7 = i12) then
       bif Decidable.decide ((0 : Int) ≤ i12) then
        bif Decidable.decide (i12 < (↑(List.length mM2) : Int)) then
         ob (mM2[Int.toNat i12]?) fun x8 =>
          some (a26_19 (IntKind.wrap IntKind.i64 (i10 + (1 : Int))) (IntKind.wrap IntKind.i64 (i12 + (1 : Int))) iM0_0 lM0_1 lM0_2 lM0_3 mM1 (List.set mM2 (Int.toNat i12) i10))
        else
         none
       else
        none
      else
       bif Decidable.decide ((0 : Int) ≤ i12) then
        bif Decidable.decide (i12 < (↑(List.length mM1) : Int)) then
         ob (mM1[Int.toNat i12]?) fun x9 =>
          bif Decidable.decide ((0 : Int) ≤ x9) then
           bif Decidable.decide (x9 < (↑(List.length mM2) : Int)) then
            ob (mM2[Int.toNat x9]?) fun x10 =>
             bif Decidable.decide ((0 : Int) ≤ i12) then
              bif Decidable.decide (i12 < (↑(List.length mM2) : Int)) then
               ob (mM2[Int.toNat i12]?) fun x11 =>
                some (a26_19 i10 (IntKind.wrap IntKind.i64 (i12 + (1 : Int))) iM0_0 lM0_1 lM0_2 lM0_3 mM1 (List.set mM2 (Int.toNat i12) x10))
              else
               none
             else
              none
           else
            none
          else
           none
        else
         none
       else
        none
    else
     none
   else
    none
  else
   some (.ret (CV.tup [CV.sl SK.int mM2, CV.int IntKind.i64 i10]))
theorem c26_19 (fu : Nat) (i10 : Int) (i12 : Int) (iM0_0 : Int) (lM0_1 : List Int) (lM0_2 : List Int) (lM0_3 : List Int) (mM1 : List Int) (mM2 : List Int) : cutL (E26 fu) kr26 K26_19 C26_19 (s26_19 i10 i12 iM0_0 lM0_1 lM0_2 lM0_3 mM1 mM2) = t26_19 i10 i12 iM0_0 lM0_1 lM0_2 lM0_3 mM1 mM2 := by kernel_rfl
theorem h26_19 (i10 : Int) (i12 : Int) (iM0_0 : Int) (lM0_1 : List Int) (lM0_2 : List Int) (lM0_3 : List Int) (mM1 : List Int) (mM2 : List Int) (r : CV) (h : Good E26 kr26 (t26_19 i10 i12 iM0_0 lM0_1 lM0_2 lM0_3 mM1 mM2) r) : Lead E26 kr26 r (a26_19 i10 i12 iM0_0 lM0_1 lM0_2 lM0_3 mM1 mM2) := Lead.at fuel26 (fun fu => c26_19 fu i10 i12 iM0_0 lM0_1 lM0_2 lM0_3 mM1 mM2) h
noncomputable def t26 (gN : Int) (gT : List Int) (gX : List Int) (gC : List Int) : Option Leaf :=
  bif Decidable.decide (gN = gN) then
   bif Decidable.decide ((0 : Int) ≤ gN) then
    bif Decidable.decide (gN ≤ (4294967296 : Int)) then
     some (a26_3 ((0 : Int)) gN gT gX gC (List.replicate (Int.toNat gN) (0 : SK.T SK.int)))
    else
     none
   else
    none
  else
   none
theorem c26 (fu : Nat) (gN : Int) (gT : List Int) (gX : List Int) (gC : List Int) : cutB (E26 fu) kr26 Try.f26 (⟨parT 0 [.agg [.int .i64 gN, .sl .int gT, .sl .int gX, .sl .int gC]], []⟩) = t26 gN gT gX gC := by kernel_rfl
def R26 (gN : Int) (gT : List Int) (gX : List Int) (gC : List Int) (r : List Int × Int) : Prop := RunF E26 true Try.f26 [.agg [.int .i64 gN, .sl .int gT, .sl .int gX, .sl .int gC]] (.tup [.sl .int r.1, .int .i64 r.2])
theorem run26 (gN : Int) (gT : List Int) (gX : List Int) (gC : List Int) (r : List Int × Int) (h : Good E26 kr26 (t26 gN gT gX gC) (.tup [.sl .int r.1, .int .i64 r.2])) : R26 gN gT gX gC r := RunF.of fuel26 (fun fu => c26 fu gN gT gX gC) h
noncomputable def ok26 (gN : Int) (gT : List Int) (gX : List Int) (gC : List Int) : Bool := okP (R26 gN gT gX gC)
noncomputable def v26 (gN : Int) (gT : List Int) (gX : List Int) (gC : List Int) : List Int × Int := valP (R26 gN gT gX gC)
theorem sp26 (gN : Int) (gT : List Int) (gX : List Int) (gC : List Int) (r : List Int × Int) (h : R26 gN gT gX gC r) : ok26 gN gT gX gC = true ∧ v26 gN gT gX gC = r := okP_of h fun b hb => by
  have := RunF.uniq hb h
  rcases b with ⟨_, _⟩; rcases r with ⟨_, _⟩; simp_all
theorem at26 : P.funcs[26]? = some Try.f26 := by kernel_rfl
theorem callable26 : callable 26 = true := by kernel_rfl
theorem semok26 : SemOk (semOf ents26) := EntsOk.sem (.cons entok32 (.nil))
theorem memok26 : MemOk (memOf mems26) := EntsMOk.mem (.nil)
noncomputable def ent26 : Ent := fun args => match args with
  | [.agg [.int .i64 gN, .sl .int gT, .sl .int gX, .sl .int gC]] => some (true, ok26 gN gT gX gC, .tup [.sl .int (v26 gN gT gX gC).1, .int .i64 (v26 gN gT gX gC).2])
  | _ => none
theorem entok26 : EntOk 26 ent26 := fun args own r h => by
  unfold ent26 at h
  split at h
  · simp only [Option.some.injEq, Prod.mk.injEq] at h
    obtain ⟨rfl, h, rfl⟩ := h
    exact ⟨RunF.calls (fun _ => semok26) (fun _ => memok26) at26 rfl (Nat.le_of_ble_eq_true rfl) (fun _ => rfl) (okP_val h), callable26⟩
  · cases h
end Go.Proofs.Ytnfgfdeidkhdkaa.Eng
/- P20: watershed/rot.Check: its run from loop to loop, as Lean printed it (a program of this session's wrote these rows). No condition. -/
namespace Go.Proofs.Ytnfgfdeidkhdkaa.Eng
set_option linter.unusedVariables false
set_option maxRecDepth 100000
noncomputable def ents20 : List (Nat × Ent) := [(23, ent23), (25, ent25), (69, ent69), (70, ent70)]
noncomputable def mems20 : List (Nat × EntM) := []
noncomputable def E20 (fu : Nat) : Env := ⟨54, 0, semOf ents20, [], memOf mems20, [], [(100007, ⟨[], [(1, none), (1, some 0), (1, some 1), (1, some 2), (1, some 3), (19, none), (20, none), (21, none)], [1, 19, 20, 21]⟩)], fu⟩
theorem fuel20 : Fuel E20 := fun _ => rfl
noncomputable def kr20 : St → Option CV := endK true Try.f20.results.toList
noncomputable def K20_7 : List Fr := theK Try.f20 100007
noncomputable def C20_7 : Code := theC Try.f20 100007
def s20_7 (l19 : List Int) (i20 : Int) (i21 : Int) (iM0_0 : Int) (lM0_1 : List Int) (lM0_2 : List Int) (lM0_3 : List Int) : St := ⟨[(1, .ptr 8000 0), (19, .sl .int l19), (20, .int .i64 i20), (21, .int .i64 i21)], [(8000, some (.cells 25 [.int .i64 iM0_0, .sl .int lM0_1, .sl .int lM0_2, .sl .int lM0_3]))]⟩
noncomputable def a20_7 (l19 : List Int) (i20 : Int) (i21 : Int) (iM0_0 : Int) (lM0_1 : List Int) (lM0_2 : List Int) (lM0_3 : List Int) : Leaf := .at K20_7 C20_7 (s20_7 l19 i20 i21 iM0_0 lM0_1 lM0_2 lM0_3)
noncomputable def t20_7 (l19 : List Int) (i20 : Int) (i21 : Int) (iM0_0 : Int) (lM0_1 : List Int) (lM0_2 : List Int) (lM0_3 : List Int) : Option Leaf :=
  bif Decidable.decide (i21 < i20) then
   bif Decidable.decide ((0 : Int) ≤ i21) then
    ob (l19[Int.toNat i21]?) fun x1 =>
     bif Decidable.decide (x1 < (0 : Int)) then
      some (.ret (CV.int IntKind.i64 (4 : Int)))
     else
      bif Decidable.decide ((2147483648 : Int) < x1) then
       some (.ret (CV.int IntKind.i64 (4 : Int)))
      else
       some (a20_7 l19 i20 (IntKind.wrap IntKind.i64 (i21 + (1 : Int))) iM0_0 lM0_1 lM0_2 lM0_3)
   else
    none
  else
   bif ok25 iM0_0 lM0_1 lM0_2 lM0_3 then
    bif !Decidable.decide (Prod.snd (v25 iM0_0 lM0_1 lM0_2 lM0_3) = (1 : Int)) then
     some (.ret (CV.int IntKind.i64 (7 : Int)))
    else
     bif ok23 iM0_0 lM0_1 lM0_2 lM0_3 then
      bif !Decidable.decide (IntKind.wrap IntKind.i64 (IntKind.wrap IntKind.i64 (iM0_0 - IntKind.wrap IntKind.i64 (Int.tdiv (↑(List.length lM0_1) : Int) (2 : Int))) + Prod.snd (v23 iM0_0 lM0_1 lM0_2 lM0_3)) = (2 : Int)) then
       some (.ret (CV.int IntKind.i64 (8 : Int)))
      else
       some (.ret (CV.int IntKind.i64 (0 : Int)))
     else
      none
   else
    none
theorem c20_7 (fu : Nat) (l19 : List Int) (i20 : Int) (i21 : Int) (iM0_0 : Int) (lM0_1 : List Int) (lM0_2 : List Int) (lM0_3 : List Int) : cutL (E20 fu) kr20 K20_7 C20_7 (s20_7 l19 i20 i21 iM0_0 lM0_1 lM0_2 lM0_3) = t20_7 l19 i20 i21 iM0_0 lM0_1 lM0_2 lM0_3 := by kernel_rfl
theorem h20_7 (l19 : List Int) (i20 : Int) (i21 : Int) (iM0_0 : Int) (lM0_1 : List Int) (lM0_2 : List Int) (lM0_3 : List Int) (r : CV) (h : Good E20 kr20 (t20_7 l19 i20 i21 iM0_0 lM0_1 lM0_2 lM0_3) r) : Lead E20 kr20 r (a20_7 l19 i20 i21 iM0_0 lM0_1 lM0_2 lM0_3) := Lead.at fuel20 (fun fu => c20_7 fu l19 i20 i21 iM0_0 lM0_1 lM0_2 lM0_3) h
noncomputable def t20 (gN : Int) (gT : List Int) (gX : List Int) (gC : List Int) : Option Leaf :=
  bif ok69 gN gT gX gC then
   bif !Decidable.decide (v69 gN gT gX gC = (0 : Int)) then
    some (.ret (CV.int IntKind.i64 (v69 gN gT gX gC)))
   else
    bif ok70 gN gT gX gC then
     bif !v70 gN gT gX gC then
      some (.ret (CV.int IntKind.i64 (6 : Int)))
     else
      some (a20_7 gC ((↑(List.length gC) : Int)) ((0 : Int)) gN gT gX gC)
    else
     none
  else
   none
theorem c20 (fu : Nat) (gN : Int) (gT : List Int) (gX : List Int) (gC : List Int) : cutB (E20 fu) kr20 Try.f20 (⟨parT 0 [.agg [.int .i64 gN, .sl .int gT, .sl .int gX, .sl .int gC]], []⟩) = t20 gN gT gX gC := by kernel_rfl
def R20 (gN : Int) (gT : List Int) (gX : List Int) (gC : List Int) (r : Int) : Prop := RunF E20 true Try.f20 [.agg [.int .i64 gN, .sl .int gT, .sl .int gX, .sl .int gC]] (.int .i64 r)
theorem run20 (gN : Int) (gT : List Int) (gX : List Int) (gC : List Int) (r : Int) (h : Good E20 kr20 (t20 gN gT gX gC) (.int .i64 r)) : R20 gN gT gX gC r := RunF.of fuel20 (fun fu => c20 fu gN gT gX gC) h
noncomputable def ok20 (gN : Int) (gT : List Int) (gX : List Int) (gC : List Int) : Bool := okP (R20 gN gT gX gC)
noncomputable def v20 (gN : Int) (gT : List Int) (gX : List Int) (gC : List Int) : Int := valP (R20 gN gT gX gC)
theorem sp20 (gN : Int) (gT : List Int) (gX : List Int) (gC : List Int) (r : Int) (h : R20 gN gT gX gC r) : ok20 gN gT gX gC = true ∧ v20 gN gT gX gC = r := okP_of h fun b hb => by
  have := RunF.uniq hb h
  simp_all
theorem at20 : P.funcs[20]? = some Try.f20 := by kernel_rfl
theorem callable20 : callable 20 = true := by kernel_rfl
theorem semok20 : SemOk (semOf ents20) := EntsOk.sem (.cons entok23 (.cons entok25 (.cons entok69 (.cons entok70 (.nil)))))
theorem memok20 : MemOk (memOf mems20) := EntsMOk.mem (.nil)
noncomputable def ent20 : Ent := fun args => match args with
  | [.agg [.int .i64 gN, .sl .int gT, .sl .int gX, .sl .int gC]] => some (true, ok20 gN gT gX gC, .int .i64 (v20 gN gT gX gC))
  | _ => none
theorem entok20 : EntOk 20 ent20 := fun args own r h => by
  unfold ent20 at h
  split at h
  · simp only [Option.some.injEq, Prod.mk.injEq] at h
    obtain ⟨rfl, h, rfl⟩ := h
    exact ⟨RunF.calls (fun _ => semok20) (fun _ => memok20) at20 rfl (Nat.le_of_ble_eq_true rfl) (fun _ => rfl) (okP_val h), callable20⟩
  · cases h
end Go.Proofs.Ytnfgfdeidkhdkaa.Eng
/- P21: watershed/watershedref2.Check: its run from loop to loop, as Lean printed it (a program of this session's wrote these rows). No condition. -/
namespace Go.Proofs.Ytnfgfdeidkhdkaa.Eng
set_option linter.unusedVariables false
set_option maxRecDepth 100000
noncomputable def ents21 : List (Nat × Ent) := [(24, ent24), (26, ent26), (71, ent71)]
noncomputable def mems21 : List (Nat × EntM) := []
noncomputable def E21 (fu : Nat) : Env := ⟨124, 0, semOf ents21, [], memOf mems21, [], [(100007, ⟨[], [(1, none), (1, some 0), (1, some 1), (1, some 2), (1, some 3), (3, none), (4, none)], [1, 3, 4]⟩), (100014, ⟨[], [(1, none), (1, some 0), (1, some 1), (1, some 2), (1, some 3), (3, none), (5, none)], [1, 3, 5]⟩), (100021, ⟨[], [(1, none), (1, some 0), (1, some 1), (1, some 2), (1, some 3), (3, none), (6, none)], [1, 3, 6]⟩)], fu⟩
theorem fuel21 : Fuel E21 := fun _ => rfl
noncomputable def kr21 : St → Option CV := endK true Try.f21.results.toList
noncomputable def K21_7 : List Fr := theK Try.f21 100007
noncomputable def C21_7 : Code := theC Try.f21 100007
def s21_7 (i3 : Int) (i4 : Int) (iM0_0 : Int) (lM0_1 : List Int) (lM0_2 : List Int) (lM0_3 : List Int) : St := ⟨[(1, .ptr 8000 0), (3, .int .i64 i3), (4, .int .i64 i4)], [(8000, some (.cells 25 [.int .i64 iM0_0, .sl .int lM0_1, .sl .int lM0_2, .sl .int lM0_3]))]⟩
noncomputable def a21_7 (i3 : Int) (i4 : Int) (iM0_0 : Int) (lM0_1 : List Int) (lM0_2 : List Int) (lM0_3 : List Int) : Leaf := .at K21_7 C21_7 (s21_7 i3 i4 iM0_0 lM0_1 lM0_2 lM0_3)
noncomputable def K21_14 : List Fr := theK Try.f21 100014
noncomputable def C21_14 : Code := theC Try.f21 100014
def s21_14 (i3 : Int) (i5 : Int) (iM0_0 : Int) (lM0_1 : List Int) (lM0_2 : List Int) (lM0_3 : List Int) : St := ⟨[(1, .ptr 8000 0), (3, .int .i64 i3), (5, .int .i64 i5)], [(8000, some (.cells 25 [.int .i64 iM0_0, .sl .int lM0_1, .sl .int lM0_2, .sl .int lM0_3]))]⟩
noncomputable def a21_14 (i3 : Int) (i5 : Int) (iM0_0 : Int) (lM0_1 : List Int) (lM0_2 : List Int) (lM0_3 : List Int) : Leaf := .at K21_14 C21_14 (s21_14 i3 i5 iM0_0 lM0_1 lM0_2 lM0_3)
noncomputable def K21_21 : List Fr := theK Try.f21 100021
noncomputable def C21_21 : Code := theC Try.f21 100021
def s21_21 (i3 : Int) (i6 : Int) (iM0_0 : Int) (lM0_1 : List Int) (lM0_2 : List Int) (lM0_3 : List Int) : St := ⟨[(1, .ptr 8000 0), (3, .int .i64 i3), (6, .int .i64 i6)], [(8000, some (.cells 25 [.int .i64 iM0_0, .sl .int lM0_1, .sl .int lM0_2, .sl .int lM0_3]))]⟩
noncomputable def a21_21 (i3 : Int) (i6 : Int) (iM0_0 : Int) (lM0_1 : List Int) (lM0_2 : List Int) (lM0_3 : List Int) : Leaf := .at K21_21 C21_21 (s21_21 i3 i6 iM0_0 lM0_1 lM0_2 lM0_3)
noncomputable def t21_7 (i3 : Int) (i4 : Int) (iM0_0 : Int) (lM0_1 : List Int) (lM0_2 : List Int) (lM0_3 : List Int) : Option Leaf :=
  bif Decidable.decide (i4 < i3) then
   bif Decidable.decide ((0 : Int) ≤ i4) then
    ob (lM0_2[Int.toNat i4]?) fun x1 =>
     bif Decidable.decide (x1 < (0 : Int)) then
      some (.ret (CV.int IntKind.i64 (5 : Int)))
     else
      bif Decidable.decide ((0 : Int) ≤ i4) then
       ob (lM0_2[Int.toNat i4]?) fun x2 =>
        bif Decidable.decide (i3 ≤ x2) then
         some (.ret (CV.int IntKind.i64 (5 : Int)))
        else
         some (a21_7 i3 (IntKind.wrap IntKind.i64 (i4 + (1 : Int))) iM0_0 lM0_1 lM0_2 lM0_3)
      else
       none
   else
    none
  else
   bif Decidable.decide (iM0_0 < (1 : Int)) then
    some (.ret (CV.int IntKind.i64 (3 : Int)))
   else
    some (a21_14 i3 ((0 : Int)) iM0_0 lM0_1 lM0_2 lM0_3)
theorem c21_7 (fu : Nat) (i3 : Int) (i4 : Int) (iM0_0 : Int) (lM0_1 : List Int) (lM0_2 : List Int) (lM0_3 : List Int) : cutL (E21 fu) kr21 K21_7 C21_7 (s21_7 i3 i4 iM0_0 lM0_1 lM0_2 lM0_3) = t21_7 i3 i4 iM0_0 lM0_1 lM0_2 lM0_3 := by kernel_rfl
theorem h21_7 (i3 : Int) (i4 : Int) (iM0_0 : Int) (lM0_1 : List Int) (lM0_2 : List Int) (lM0_3 : List Int) (r : CV) (h : Good E21 kr21 (t21_7 i3 i4 iM0_0 lM0_1 lM0_2 lM0_3) r) : Lead E21 kr21 r (a21_7 i3 i4 iM0_0 lM0_1 lM0_2 lM0_3) := Lead.at fuel21 (fun fu => c21_7 fu i3 i4 iM0_0 lM0_1 lM0_2 lM0_3) h
noncomputable def t21_14 (i3 : Int) (i5 : Int) (iM0_0 : Int) (lM0_1 : List Int) (lM0_2 : List Int) (lM0_3 : List Int) : Option Leaf :=
  bif Decidable.decide (i5 < i3) then
   bif Decidable.decide ((0 : Int) ≤ i5) then
    ob (lM0_1[Int.toNat i5]?) fun x3 =>
     bif Decidable.decide (x3 < (0 : Int)) then
      some (.ret (CV.int IntKind.i64 (3 : Int)))
     else
      bif Decidable.decide ((0 : Int) ≤ i5) then
       ob (lM0_1[Int.toNat i5]?) fun x4 =>
        bif Decidable.decide (iM0_0 ≤ x4) then
         some (.ret (CV.int IntKind.i64 (3 : Int)))
        else
         some (a21_14 i3 (IntKind.wrap IntKind.i64 (i5 + (1 : Int))) iM0_0 lM0_1 lM0_2 lM0_3)
      else
       none
   else
    none
  else
   bif ok71 iM0_0 lM0_1 lM0_2 lM0_3 then
    bif !v71 iM0_0 lM0_1 lM0_2 lM0_3 then
     some (.ret (CV.int IntKind.i64 (6 : Int)))
    else
     some (a21_21 i3 ((0 : Int)) iM0_0 lM0_1 lM0_2 lM0_3)
   else
    none
theorem c21_14 (fu : Nat) (i3 : Int) (i5 : Int) (iM0_0 : Int) (lM0_1 : List Int) (lM0_2 : List Int) (lM0_3 : List Int) : cutL (E21 fu) kr21 K21_14 C21_14 (s21_14 i3 i5 iM0_0 lM0_1 lM0_2 lM0_3) = t21_14 i3 i5 iM0_0 lM0_1 lM0_2 lM0_3 := by kernel_rfl
theorem h21_14 (i3 : Int) (i5 : Int) (iM0_0 : Int) (lM0_1 : List Int) (lM0_2 : List Int) (lM0_3 : List Int) (r : CV) (h : Good E21 kr21 (t21_14 i3 i5 iM0_0 lM0_1 lM0_2 lM0_3) r) : Lead E21 kr21 r (a21_14 i3 i5 iM0_0 lM0_1 lM0_2 lM0_3) := Lead.at fuel21 (fun fu => c21_14 fu i3 i5 iM0_0 lM0_1 lM0_2 lM0_3) h
noncomputable def t21_21 (i3 : Int) (i6 : Int) (iM0_0 : Int) (lM0_1 : List Int) (lM0_2 : List Int) (lM0_3 : List Int) : Option Leaf :=
  bif Decidable.decide (i6 < i3) then
   bif Decidable.decide ((0 : Int) ≤ i6) then
    ob (lM0_3[Int.toNat i6]?) fun x5 =>
     bif Decidable.decide (x5 < (0 : Int)) then
      some (.ret (CV.int IntKind.i64 (4 : Int)))
     else
      bif Decidable.decide ((0 : Int) ≤ i6) then
       ob (lM0_3[Int.toNat i6]?) fun x6 =>
        bif Decidable.decide ((2147483648 : Int) < x6) then
         some (.ret (CV.int IntKind.i64 (4 : Int)))
        else
         some (a21_21 i3 (IntKind.wrap IntKind.i64 (i6 + (1 : Int))) iM0_0 lM0_1 lM0_2 lM0_3)
      else
       none
   else
    none
  else
   bif ok26 iM0_0 lM0_1 lM0_2 lM0_3 then
    bif !Decidable.decide (Prod.snd (v26 iM0_0 lM0_1 lM0_2 lM0_3) = (1 : Int)) then
     some (.ret (CV.int IntKind.i64 (7 : Int)))
    else
     bif ok24 iM0_0 lM0_1 lM0_2 lM0_3 then
      bif !Decidable.decide (IntKind.wrap IntKind.i64 (IntKind.wrap IntKind.i64 (iM0_0 - IntKind.wrap IntKind.i64 (Int.tdiv i3 (2 : Int))) + Prod.snd (v24 iM0_0 lM0_1 lM0_2 lM0_3)) = (2 : Int)) then
       some (.ret (CV.int IntKind.i64 (8 : Int)))
      else
       some (.ret (CV.int IntKind.i64 (0 : Int)))
     else
      none
   else
    none
theorem c21_21 (fu : Nat) (i3 : Int) (i6 : Int) (iM0_0 : Int) (lM0_1 : List Int) (lM0_2 : List Int) (lM0_3 : List Int) : cutL (E21 fu) kr21 K21_21 C21_21 (s21_21 i3 i6 iM0_0 lM0_1 lM0_2 lM0_3) = t21_21 i3 i6 iM0_0 lM0_1 lM0_2 lM0_3 := by kernel_rfl
theorem h21_21 (i3 : Int) (i6 : Int) (iM0_0 : Int) (lM0_1 : List Int) (lM0_2 : List Int) (lM0_3 : List Int) (r : CV) (h : Good E21 kr21 (t21_21 i3 i6 iM0_0 lM0_1 lM0_2 lM0_3) r) : Lead E21 kr21 r (a21_21 i3 i6 iM0_0 lM0_1 lM0_2 lM0_3) := Lead.at fuel21 (fun fu => c21_21 fu i3 i6 iM0_0 lM0_1 lM0_2 lM0_3) h
noncomputable def t21 (gN : Int) (gT : List Int) (gX : List Int) (gC : List Int) : Option Leaf :=
  bif Decidable.decide ((60 : Int) < gN) then
   some (.ret (CV.int IntKind.i64 (2 : Int)))
  else
   bif Decidable.decide ((240 : Int) < (↑(List.length gT) : Int)) then
    some (.ret (CV.int IntKind.i64 (2 : Int)))
   else
    bif !Decidable.decide ((↑(List.length gX) : Int) = (↑(List.length gT) : Int)) then
     some (.ret (CV.int IntKind.i64 (5 : Int)))
    else
     bif !Decidable.decide ((↑(List.length gC) : Int) = (↑(List.length gT) : Int)) then
      some (.ret (CV.int IntKind.i64 (5 : Int)))
     else
      bif Decidable.decide (Int.tmod (↑(List.length gT) : Int) (2 : Int) = (1 : Int)) then
       some (.ret (CV.int IntKind.i64 (5 : Int)))
      else
       some (a21_7 ((↑(List.length gT) : Int)) ((0 : Int)) gN gT gX gC)
theorem c21 (fu : Nat) (gN : Int) (gT : List Int) (gX : List Int) (gC : List Int) : cutB (E21 fu) kr21 Try.f21 (⟨parT 0 [.agg [.int .i64 gN, .sl .int gT, .sl .int gX, .sl .int gC]], []⟩) = t21 gN gT gX gC := by kernel_rfl
def R21 (gN : Int) (gT : List Int) (gX : List Int) (gC : List Int) (r : Int) : Prop := RunF E21 true Try.f21 [.agg [.int .i64 gN, .sl .int gT, .sl .int gX, .sl .int gC]] (.int .i64 r)
theorem run21 (gN : Int) (gT : List Int) (gX : List Int) (gC : List Int) (r : Int) (h : Good E21 kr21 (t21 gN gT gX gC) (.int .i64 r)) : R21 gN gT gX gC r := RunF.of fuel21 (fun fu => c21 fu gN gT gX gC) h
noncomputable def ok21 (gN : Int) (gT : List Int) (gX : List Int) (gC : List Int) : Bool := okP (R21 gN gT gX gC)
noncomputable def v21 (gN : Int) (gT : List Int) (gX : List Int) (gC : List Int) : Int := valP (R21 gN gT gX gC)
theorem sp21 (gN : Int) (gT : List Int) (gX : List Int) (gC : List Int) (r : Int) (h : R21 gN gT gX gC r) : ok21 gN gT gX gC = true ∧ v21 gN gT gX gC = r := okP_of h fun b hb => by
  have := RunF.uniq hb h
  simp_all
theorem at21 : P.funcs[21]? = some Try.f21 := by kernel_rfl
theorem callable21 : callable 21 = true := by kernel_rfl
theorem semok21 : SemOk (semOf ents21) := EntsOk.sem (.cons entok24 (.cons entok26 (.cons entok71 (.nil))))
theorem memok21 : MemOk (memOf mems21) := EntsMOk.mem (.nil)
noncomputable def ent21 : Ent := fun args => match args with
  | [.agg [.int .i64 gN, .sl .int gT, .sl .int gX, .sl .int gC]] => some (true, ok21 gN gT gX gC, .int .i64 (v21 gN gT gX gC))
  | _ => none
theorem entok21 : EntOk 21 ent21 := fun args own r h => by
  unfold ent21 at h
  split at h
  · simp only [Option.some.injEq, Prod.mk.injEq] at h
    obtain ⟨rfl, h, rfl⟩ := h
    exact ⟨RunF.calls (fun _ => semok21) (fun _ => memok21) at21 rfl (Nat.le_of_ble_eq_true rfl) (fun _ => rfl) (okP_val h), callable21⟩
  · cases h
end Go.Proofs.Ytnfgfdeidkhdkaa.Eng
/- Ln: The document's pieces; both Checks tell the same. -/
namespace Go.Proofs.Ytnfgfdeidkhdkaa.Eng
set_option linter.unusedVariables false
set_option linter.unusedSimpArgs false
theorem f32 {N : Int} {T X C : List Int} {d : Int} (h0 : 0 ≤ d) (h1 : d < (T.length : Int)) (he : (T.length : Int) % 2 = 0) (hk : (T.length : Int) ≤ 4611686018427387904) : ok32 N T X C d = true ∧ v32 N T X C d = gi T (oth d) :=
  sp32 _ _ _ _ _ _ (run32 _ _ _ _ _ _ (by
    obtain ⟨c1, c2⟩ := oth_in h0 h1 he
    unfold t32
    rw [xor_one h0 (by omega)]
    repeat (first | (refine good_pos (by omega) ?_) | (refine good_pos trivial ?_) | (refine good_neg (by omega) ?_) | (refine good_npos (by omega) ?_) | (refine good_nneg (by omega) ?_) | (refine good_gi (by omega) (by omega) ?_) | (refine good_gb (by omega) (by omega) ?_) | (refine good_ble (by omega) ?_))
    exact good_end rfl))
theorem perm_ab' {X : List Int} {m : Int} (he : m % 2 = 0) (h : PermOn (sta X) m) : PermOn (stb X) m :=
  ⟨fun d h0 h1 => h.rng _ (oth_in h0 h1 he).1 (oth_in h0 h1 he).2, fun d e d0 d1 e0 e1 x => by
    have := h.inj _ _ (oth_in d0 d1 he).1 (oth_in d0 d1 he).2 (oth_in e0 e1 he).1 (oth_in e0 e1 he).2 x
    rw [← oth_oth d, this, oth_oth]⟩
/-- a row's sum, of what is not below nought -/
def tot : List Int → Nat
  | [] => 0
  | a :: l => a.toNat + tot l
theorem tot_set : ∀ {l : List Int} {i : Nat} {v : Int} (h : i < l.length), v.toNat < l[i].toNat → tot (l.set i v) < tot l
  | a :: l, 0, v, h, hv => by
    simp only [List.getElem_cons_zero] at hv
    simp only [List.set_cons_zero, tot]; omega
  | a :: l, i + 1, v, h, hv => by
    simp only [List.length_cons] at h
    have := tot_set (l := l) (i := i) (v := v) (by omega) (by simpa using hv)
    simp only [List.set_cons_succ, tot]; omega
section
variable {N : Int} {T X C : List Int}
/-- each vertex has one of its piece, no greater -/
structure QJ (N : Int) (T : List Int) (p : List Int) : Prop where
  len : (p.length : Int) = N
  low : ∀ v : Int, 0 ≤ v → v < N → 0 ≤ gi p v ∧ gi p v ≤ v ∧ Conn T (gi p v) v
def Calm (T p : List Int) (d : Int) : Prop := gi p (gi T (oth d)) ≤ gi p (gi T d)
theorem QJ.root {p : List Int} (hs : Shape N T X C) (hJ : QJ N T p) (hc : ∀ d : Int, 0 ≤ d → d < (T.length : Int) → Calm T p d) {v : Int} (v0 : 0 ≤ v) (v1 : v < N) : Root T (gi p v) := by
  have same : ∀ {u w : Int}, Conn T u w → gi p w = gi p u := by
    intro u w h
    induction h with
    | refl => rfl
    | @step w d _ d0 d1 d2 ih =>
      have o := oth_in d0 d1 hs.e
      have a := hc d d0 d1
      have b := hc (oth d) o.1 o.2
      unfold Calm at a b
      rw [oth_oth, d2] at b
      rw [d2] at a
      omega
  obtain ⟨l0, l1, l2⟩ := hJ.low v v0 v1
  intro u u0 u1 huc
  have h1 := same (huc.trans l2)
  have := hJ.low u u0 (by omega)
  omega
theorem l26_19 {q p : List Int} {k : Int} (hs : Shape N T X C) (hJ : QJ N T p) (hc : ∀ d : Int, 0 ≤ d → d < (T.length : Int) → Calm T p d) (hq : Parted N T q k) :
    ∀ (n : Nat) (i : Int) (z : List Int), 0 ≤ i → i ≤ N → N - i = n → (z.length : Int) = N → (∀ u : Int, 0 ≤ u → u < i → gi z u = rk T (gi p u)) → Lead E26 kr26 (.tup [.sl .int q, .int .i64 k]) (a26_19 (rk T i) i N T X C p z) := by
  have hn1 := hs.n1
  have hl := hJ.len
  intro n
  induction n with
  | zero =>
    intro i z i0 i1 i2 hz hzu
    obtain rfl : i = N := by omega
    have : Parted i T z (rk T i) := ⟨hz, fun u u0 u1 => by
      have := hJ.low u u0 u1
      exact ⟨gi p u, this.1, this.2.1, hJ.root hs hc u0 u1, this.2.2, hzu u u0 u1⟩, rfl⟩
    obtain ⟨rfl, rfl⟩ := this.uniq hs.e hq
    refine h26_19 _ _ _ _ _ _ _ _ _ ?_
    unfold t26_19
    repeat (first | (refine good_pos (by omega) ?_) | (refine good_pos trivial ?_) | (refine good_neg (by omega) ?_) | (refine good_npos (by omega) ?_) | (refine good_nneg (by omega) ?_) | (refine good_gi (by omega) (by omega) ?_) | (refine good_gb (by omega) (by omega) ?_) | (refine good_ble (by omega) ?_))
    exact good_end rfl
  | succ n ih =>
    intro i z i0 i1 i2 hz hzu
    have hlo := hJ.low i i0 (by omega)
    have hself := rk_self (T := T) i0
    have hnn := rk_nonneg T i0
    have hroot := hJ.root hs hc i0 (show i < N by omega)
    refine h26_19 _ _ _ _ _ _ _ _ _ ?_
    unfold t26_19
    simp (disch := omega) only [wrap_in]
    by_cases c : gi p i = i
    · have hr : Root T i := by rw [c] at hroot; exact hroot
      have := ih (i + 1) (z.set i.toNat (rk T i)) (by omega) (by omega) (by omega) (by rw [List.length_set]; exact hz) (fun u u0 u1 => by
        rw [gi_set i0 (by omega) u0]
        by_cases e : u = i
        · subst e; rw [if_pos rfl, c]
        · rw [if_neg e]; exact hzu u u0 (by omega))
      rw [rk_root i0 hr] at this
      repeat (first | (refine good_pos (by omega) ?_) | (refine good_pos trivial ?_) | (refine good_neg (by omega) ?_) | (refine good_npos (by omega) ?_) | (refine good_nneg (by omega) ?_) | (refine good_gi (by omega) (by omega) ?_) | (refine good_gb (by omega) (by omega) ?_) | (refine good_ble (by omega) ?_))
      exact good_at this
    · have hnr : ¬ Root T i := fun hr => hr (gi p i) hlo.1 (by omega) hlo.2.2
      have hlo2 := hJ.low (gi p i) hlo.1 (by omega)
      have hsame : gi p (gi p i) = gi p i := by
        have := hroot (gi p (gi p i)) hlo2.1
        by_cases e : gi p (gi p i) < gi p i
        · exact absurd hlo2.2.2 (this e)
        · omega
      have := ih (i + 1) (z.set i.toNat (gi z (gi p i))) (by omega) (by omega) (by omega) (by rw [List.length_set]; exact hz) (fun u u0 u1 => by
        rw [gi_set i0 (by omega) u0]
        by_cases e : u = i
        · subst e; rw [if_pos rfl, hzu _ hlo.1 (by omega), hsame]
        · rw [if_neg e]; exact hzu u u0 (by omega))
      rw [rk_not i0 hnr] at this
      repeat (first | (refine good_pos (by omega) ?_) | (refine good_pos trivial ?_) | (refine good_neg (by omega) ?_) | (refine good_npos (by omega) ?_) | (refine good_nneg (by omega) ?_) | (refine good_gi (by omega) (by omega) ?_) | (refine good_gb (by omega) (by omega) ?_) | (refine good_ble (by omega) ?_))
      exact good_at this
theorem l26_10 {r : CV} (hs : Shape N T X C) (m : Nat)
    (hk : ∀ (b : Bool) (p : List Int), QJ N T p → (b = false → ∀ d : Int, 0 ≤ d → d < (T.length : Int) → Calm T p d) → (b = true → tot p < m) → Lead E26 kr26 r (a26_7 b N T X C p)) :
    ∀ (n : Nat) (d : Int) (b : Bool) (p : List Int), 0 ≤ d → d ≤ T.length → (T.length : Int) - d = n → QJ N T p → (b = false → ∀ e : Int, 0 ≤ e → e < d → Calm T p e) → (b = true → tot p < m) → tot p ≤ m → Lead E26 kr26 r (a26_10 b d N T X C p) := by
  have hk240 := hs.k
  intro n
  induction n with
  | zero =>
    intro d b p d0 d1 d2 hJ hb hm hm'
    have := hk b p hJ (fun e x x0 x1 => hb e x x0 (by omega)) hm
    refine h26_10 _ _ _ _ _ _ _ _ ?_
    unfold t26_10
    repeat (first | (refine good_pos (by omega) ?_) | (refine good_pos trivial ?_) | (refine good_neg (by omega) ?_) | (refine good_npos (by omega) ?_) | (refine good_nneg (by omega) ?_) | (refine good_gi (by omega) (by omega) ?_) | (refine good_gb (by omega) (by omega) ?_) | (refine good_ble (by omega) ?_))
    exact good_at this
  | succ n ih =>
    intro d b p d0 d1 d2 hJ hb hm hm'
    have hl := hJ.len
    obtain ⟨k1, k2⟩ := f32 (N := N) (T := T) (X := X) (C := C) d0 (show d < T.length by omega) hs.e (by omega)
    have ht := hs.tr d d0 (by omega)
    obtain ⟨o0, o1⟩ := oth_in d0 (show d < T.length by omega) hs.e
    have hh := hs.tr _ o0 o1
    have lt := hJ.low _ ht.1 ht.2
    have lh := hJ.low _ hh.1 hh.2
    refine h26_10 _ _ _ _ _ _ _ _ ?_
    unfold t26_10
    rw [k2]
    simp (disch := omega) only [wrap_in]
    by_cases c : gi p (gi T d) < gi p (gi T (oth d))
    · have hi : (gi T (oth d)).toNat < p.length := by omega
      have hg : p[(gi T (oth d)).toNat] = gi p (gi T (oth d)) := by rw [← gi_get hi]; congr 1; omega
      have htot := tot_set (l := p) (v := gi p (gi T d)) hi (by rw [hg]; omega)
      have hJ' : QJ N T (p.set (gi T (oth d)).toNat (gi p (gi T d))) := by
        refine ⟨by rw [List.length_set]; exact hl, fun v v0 v1 => ?_⟩
        rw [gi_set hh.1 (by omega) v0]
        by_cases e : v = gi T (oth d)
        · rw [if_pos e, e]
          exact ⟨lt.1, by omega, lt.2.2.trans (.step .refl d0 (by omega) rfl)⟩
        · rw [if_neg e]; exact hJ.low v v0 v1
      have := ih (d + 1) true _ (by omega) (by omega) (by omega) hJ' (fun e => by cases e) (fun _ => by omega) (by omega)
      repeat (first | (refine good_pos (by omega) ?_) | (refine good_pos trivial ?_) | (refine good_neg (by omega) ?_) | (refine good_npos (by omega) ?_) | (refine good_nneg (by omega) ?_) | (refine good_gi (by omega) (by omega) ?_) | (refine good_gb (by omega) (by omega) ?_) | (refine good_ble (by omega) ?_))
      refine good_true k1 ?_
      repeat (first | (refine good_pos (by omega) ?_) | (refine good_pos trivial ?_) | (refine good_neg (by omega) ?_) | (refine good_npos (by omega) ?_) | (refine good_nneg (by omega) ?_) | (refine good_gi (by omega) (by omega) ?_) | (refine good_gb (by omega) (by omega) ?_) | (refine good_ble (by omega) ?_))
      exact good_at this
    · have := ih (d + 1) b p (by omega) (by omega) (by omega) hJ (fun e x x0 x1 => by
        by_cases ex : x = d
        · subst ex; unfold Calm; omega
        · exact hb e x x0 (by omega)) hm hm'
      repeat (first | (refine good_pos (by omega) ?_) | (refine good_pos trivial ?_) | (refine good_neg (by omega) ?_) | (refine good_npos (by omega) ?_) | (refine good_nneg (by omega) ?_) | (refine good_gi (by omega) (by omega) ?_) | (refine good_gb (by omega) (by omega) ?_) | (refine good_ble (by omega) ?_))
      refine good_true k1 ?_
      repeat (first | (refine good_pos (by omega) ?_) | (refine good_pos trivial ?_) | (refine good_neg (by omega) ?_) | (refine good_npos (by omega) ?_) | (refine good_nneg (by omega) ?_) | (refine good_gi (by omega) (by omega) ?_) | (refine good_gb (by omega) (by omega) ?_) | (refine good_ble (by omega) ?_))
      exact good_at this
theorem l26_7 {q : List Int} {k : Int} (hs : Shape N T X C) (hq : Parted N T q k) :
    ∀ (m : Nat) (b : Bool) (p : List Int), QJ N T p → (b = false → ∀ d : Int, 0 ≤ d → d < (T.length : Int) → Calm T p d) → tot p < m → Lead E26 kr26 (.tup [.sl .int q, .int .i64 k]) (a26_7 b N T X C p) := by
  have hn0 := hs.n0
  have hn1 := hs.n1
  have fin : ∀ p : List Int, QJ N T p → (∀ d : Int, 0 ≤ d → d < (T.length : Int) → Calm T p d) → Lead E26 kr26 (.tup [.sl .int q, .int .i64 k]) (a26_7 false N T X C p) := by
    intro p hJ hc
    have := l26_19 hs hJ hc hq N.toNat 0 (List.replicate N.toNat 0) (by omega) (by omega) (by omega) (by simp; omega) (fun u _ _ => by omega)
    rw [rk_zero] at this
    refine h26_7 _ _ _ _ _ _ _ ?_
    unfold t26_7
    refine good_false rfl ?_
    repeat (first | (refine good_pos (by omega) ?_) | (refine good_pos trivial ?_) | (refine good_neg (by omega) ?_) | (refine good_npos (by omega) ?_) | (refine good_nneg (by omega) ?_) | (refine good_gi (by omega) (by omega) ?_) | (refine good_gb (by omega) (by omega) ?_) | (refine good_ble (by omega) ?_))
    exact good_at this
  intro m
  induction m with
  | zero => intro b p _ _ h; omega
  | succ m ih =>
    intro b p hJ hb hm
    cases b with
    | false => exact fin p hJ (hb rfl)
    | true =>
      have := l26_10 (r := .tup [.sl .int q, .int .i64 k]) hs (tot p) (fun b' p' hJ' hb' hm' => by
        cases b' with
        | false => exact fin p' hJ' (hb' rfl)
        | true => exact ih true p' hJ' hb' (by have := hm' rfl; omega)) T.length 0 false p (by omega) (by omega) (by omega) hJ (fun _ e _ _ => by omega) (fun e => by cases e) (Nat.le_refl _)
      refine h26_7 _ _ _ _ _ _ _ ?_
      unfold t26_7
      exact good_true rfl (good_at this)
theorem l26_3 {q : List Int} {k : Int} (hs : Shape N T X C) (hq : Parted N T q k) :
    ∀ (n : Nat) (i : Int) (p : List Int), 0 ≤ i → i ≤ N → N - i = n → (p.length : Int) = N → (∀ u : Int, 0 ≤ u → u < i → gi p u = u) → Lead E26 kr26 (.tup [.sl .int q, .int .i64 k]) (a26_3 i N T X C p) := by
  have hn1 := hs.n1
  intro n
  induction n with
  | zero =>
    intro i p i0 i1 i2 hl hp
    have := l26_7 hs hq (tot p + 1) true p ⟨hl, fun v v0 v1 => by rw [hp v v0 (by omega)]; exact ⟨v0, Int.le_refl v, .refl⟩⟩ (fun e => by cases e) (by omega)
    refine h26_3 _ _ _ _ _ _ _ ?_
    unfold t26_3
    repeat (first | (refine good_pos (by omega) ?_) | (refine good_pos trivial ?_) | (refine good_neg (by omega) ?_) | (refine good_npos (by omega) ?_) | (refine good_nneg (by omega) ?_) | (refine good_gi (by omega) (by omega) ?_) | (refine good_gb (by omega) (by omega) ?_) | (refine good_ble (by omega) ?_))
    exact good_at this
  | succ n ih =>
    intro i p i0 i1 i2 hl hp
    have := ih (i + 1) (p.set i.toNat i) (by omega) (by omega) (by omega) (by rw [List.length_set]; exact hl) (fun u u0 u1 => by
      rw [gi_set i0 (by omega) u0]
      split
      · omega
      · exact hp u u0 (by omega))
    refine h26_3 _ _ _ _ _ _ _ ?_
    unfold t26_3
    simp (disch := omega) only [wrap_in]
    repeat (first | (refine good_pos (by omega) ?_) | (refine good_pos trivial ?_) | (refine good_neg (by omega) ?_) | (refine good_npos (by omega) ?_) | (refine good_nneg (by omega) ?_) | (refine good_gi (by omega) (by omega) ?_) | (refine good_gb (by omega) (by omega) ?_) | (refine good_ble (by omega) ?_))
    exact good_at this
theorem f26 (hs : Shape N T X C) : ok26 N T X C = true ∧ Parted N T (v26 N T X C).1 (v26 N T X C).2 := by
  have hn0 := hs.n0
  have hn1 := hs.n1
  obtain ⟨q, hq⟩ := parted_ex (N := N) hs.e (by omega)
  have := sp26 N T X C (q, rk T N) (run26 _ _ _ _ _ (by
    have := l26_3 hs hq N.toNat 0 (List.replicate N.toNat 0) (by omega) (by omega) (by omega) (by simp; omega) (fun u _ _ => by omega)
    unfold t26
    repeat (first | (refine good_pos (by omega) ?_) | (refine good_pos trivial ?_) | (refine good_neg (by omega) ?_) | (refine good_npos (by omega) ?_) | (refine good_nneg (by omega) ?_) | (refine good_gi (by omega) (by omega) ?_) | (refine good_gb (by omega) (by omega) ?_) | (refine good_ble (by omega) ?_))
    exact good_at this))
  exact ⟨this.1, by rw [this.2]; exact hq⟩
/-! ### Check -/
def CapOk (C : List Int) : Prop := ∀ d : Int, 0 ≤ d → d < (C.length : Int) → 0 ≤ gi C d ∧ gi C d ≤ 2147483648
/-- how many faces there are -/
noncomputable def nf (X : List Int) : Int := maxI (rkS (Orb (stb X)) X.length) 1
end
noncomputable section
open Classical
def checkE (N : Int) (T X C : List Int) : Int :=
  if shapeE N T X C ≠ 0 then shapeE N T X C else if ¬ TurnsOk T X then 6 else if ¬ CapOk C then 4 else if rk T N ≠ 1 then 7
  else if N - (T.length : Int) / 2 + nf X ≠ 2 then 8 else 0
end
section
variable {N : Int} {T X C : List Int}
/-- behind the caps -/
noncomputable def tailE (N : Int) (T X : List Int) : Int := if rk T N ≠ 1 then 7 else if N - (T.length : Int) / 2 + nf X ≠ 2 then 8 else 0
theorem maxI_le {k m : Int} (h : k ≤ m) (hm : 1 ≤ m ∨ 0 ≤ m) : maxI k 1 ≤ m + 1 := by unfold maxI; split <;> omega
theorem maxI_ge (k : Int) : 1 ≤ maxI k 1 := by unfold maxI; split <;> omega
theorem nf_bounds (X : List Int) : 1 ≤ nf X ∧ nf X ≤ X.length + 1 := by
  have : rkS (Orb (stb X)) X.length ≤ X.length := cnt_self (by omega)
  exact ⟨maxI_ge _, maxI_le this (by omega)⟩
theorem FacesR.k {p : List Int} {k : Int} (h : FacesR X.length X p k) : k = nf X := by
  obtain ⟨j, hj, rfl⟩ := h.ex
  rw [hj.k]; rfl
theorem l20_7 (hs : Shape N T X C) (ht : TurnsOk T X) : ∀ (n : Nat) (i : Int), 0 ≤ i → i ≤ C.length → (C.length : Int) - i = n → (∀ d : Int, 0 ≤ d → d < i → 0 ≤ gi C d ∧ gi C d ≤ 2147483648) →
    ∀ b : Int, (CapOk C → b = tailE N T X) → (¬ CapOk C → b = 4) → Lead E20 kr20 (.int .i64 b) (a20_7 C (C.length : Int) i N T X C) := by
  have hx := hs.x
  have hc := hs.c
  have hk := hs.k
  have he := hs.e
  have hn0 := hs.n0
  have hn1 := hs.n1
  intro n
  induction n with
  | zero =>
    intro i i0 i1 i2 h b hb1 hb2
    have hb := hb1 fun d d0 d1 => h d d0 (by omega)
    obtain ⟨a1, a2⟩ := f25 hs
    obtain ⟨c1, c2⟩ := f23 (.inl hs) hx (perm_ab' he ht.perm)
    rw [← hx] at c2
    have ek := c2.k
    have hnf := nf_bounds X
    have e2 : Int.tdiv (T.length : Int) 2 = (T.length : Int) / 2 := Int.tdiv_eq_ediv_of_nonneg (by omega)
    refine h20_7 _ _ _ _ _ _ _ _ ?_
    unfold t20_7
    rw [ek, a2.k, e2]
    simp (disch := omega) only [wrap_in]
    unfold tailE at hb
    refine good_neg (by omega) (good_true a1 ?_)
    by_cases c : rk T N = 1
    · rw [if_neg (by omega)] at hb
      by_cases c' : N - (T.length : Int) / 2 + nf X = 2
      · rw [if_neg (by omega)] at hb
        subst hb
        exact good_nneg c (good_true c1 (good_nneg c' (good_end rfl)))
      · rw [if_pos c'] at hb
        subst hb
        exact good_nneg c (good_true c1 (good_npos c' (good_end rfl)))
    · rw [if_pos c] at hb
      subst hb
      exact good_npos c (good_end rfl)
  | succ n ih =>
    intro i i0 i1 i2 h b hb1 hb2
    refine h20_7 _ _ _ _ _ _ _ _ ?_
    unfold t20_7
    simp (disch := omega) only [wrap_in]
    by_cases c : 0 ≤ gi C i ∧ gi C i ≤ 2147483648
    · have := ih (i + 1) (by omega) (by omega) (by omega) (fun d d0 d1 => by
        by_cases e : d = i
        · subst e; exact c
        · exact h d d0 (by omega)) b hb1 hb2
      repeat (first | (refine good_pos (by omega) ?_) | (refine good_pos trivial ?_) | (refine good_neg (by omega) ?_) | (refine good_npos (by omega) ?_) | (refine good_nneg (by omega) ?_) | (refine good_gi (by omega) (by omega) ?_) | (refine good_gb (by omega) (by omega) ?_) | (refine good_ble (by omega) ?_))
      exact good_at this
    · obtain rfl := hb2 fun hh => c (hh i i0 (by omega))
      by_cases c' : gi C i < 0
      · repeat (first | (refine good_pos (by omega) ?_) | (refine good_pos trivial ?_) | (refine good_neg (by omega) ?_) | (refine good_npos (by omega) ?_) | (refine good_nneg (by omega) ?_) | (refine good_gi (by omega) (by omega) ?_) | (refine good_gb (by omega) (by omega) ?_) | (refine good_ble (by omega) ?_))
        exact good_end rfl
      · repeat (first | (refine good_pos (by omega) ?_) | (refine good_pos trivial ?_) | (refine good_neg (by omega) ?_) | (refine good_npos (by omega) ?_) | (refine good_nneg (by omega) ?_) | (refine good_gi (by omega) (by omega) ?_) | (refine good_gb (by omega) (by omega) ?_) | (refine good_ble (by omega) ?_))
        exact good_end rfl
/-- what is told, behind the shape -/
theorem checkE_cases (b : Int) (hs : Shape N T X C) (ht : TurnsOk T X) (hb : b = checkE N T X C) : (CapOk C → b = tailE N T X) ∧ (¬ CapOk C → b = 4) := by
  have h0 : ¬ shapeE N T X C ≠ 0 := fun h => h (shape_iff.2 hs)
  unfold checkE at hb
  rw [if_neg h0, if_neg (fun h => h ht)] at hb
  exact ⟨fun h => by rw [if_neg (fun h' => h' h)] at hb; exact hb, fun h => by rw [if_pos h] at hb; exact hb⟩
theorem f20 (N : Int) (T X C : List Int) : ok20 N T X C = true ∧ v20 N T X C = checkE N T X C :=
  sp20 _ _ _ _ _ (run20 _ _ _ _ _ (by
    obtain ⟨a1, a2⟩ := f69 N T X C
    unfold t20
    rw [a2]
    refine good_true a1 ?_
    by_cases c : shapeE N T X C = 0
    · have hs := shape_iff.1 c
      obtain ⟨b1, b2⟩ := f70 hs
      refine good_nneg c (good_true b1 ?_)
      by_cases ht : TurnsOk T X
      · have hc := hs.c
        obtain ⟨h1, h2⟩ := checkE_cases (checkE N T X C) hs ht rfl
        exact good_nfalse (b2.2 ht) (good_at (l20_7 hs ht C.length 0 (by omega) (by omega) (by omega) (fun d _ _ => by omega) _ h1 h2))
      · have : v70 N T X C = false := by simpa using fun h => ht (b2.1 h)
        refine good_ntrue this (good_end ?_)
        unfold checkE
        rw [if_neg (fun h => h c), if_pos ht]
    · refine good_npos c (good_end ?_)
      unfold checkE
      rw [if_pos c]))
/-! ### the document's Check -/
theorem l21_21 (hs : Shape N T X C) (ht : TurnsOk T X) : ∀ (n : Nat) (i : Int), 0 ≤ i → i ≤ T.length → (T.length : Int) - i = n → (∀ d : Int, 0 ≤ d → d < i → 0 ≤ gi C d ∧ gi C d ≤ 2147483648) →
    ∀ b : Int, (CapOk C → b = tailE N T X) → (¬ CapOk C → b = 4) → Lead E21 kr21 (.int .i64 b) (a21_21 (T.length : Int) i N T X C) := by
  have hx := hs.x
  have hc := hs.c
  have hk := hs.k
  have he := hs.e
  have hn0 := hs.n0
  have hn1 := hs.n1
  intro n
  induction n with
  | zero =>
    intro i i0 i1 i2 h b hb1 hb2
    have hb := hb1 fun d d0 d1 => h d d0 (by omega)
    obtain ⟨a1, a2⟩ := f26 hs
    obtain ⟨c1, c2⟩ := f24 (N := N) (C := C) hk he hx (perm_ab' he ht.perm)
    rw [← hx] at c2
    have ek := c2.k
    have hnf := nf_bounds X
    have e2 : Int.tdiv (T.length : Int) 2 = (T.length : Int) / 2 := Int.tdiv_eq_ediv_of_nonneg (by omega)
    refine h21_21 _ _ _ _ _ _ _ ?_
    unfold t21_21
    rw [ek, a2.k, e2]
    simp (disch := omega) only [wrap_in]
    unfold tailE at hb
    refine good_neg (by omega) (good_true a1 ?_)
    by_cases c : rk T N = 1
    · rw [if_neg (by omega)] at hb
      by_cases c' : N - (T.length : Int) / 2 + nf X = 2
      · rw [if_neg (by omega)] at hb
        subst hb
        exact good_nneg c (good_true c1 (good_nneg c' (good_end rfl)))
      · rw [if_pos c'] at hb
        subst hb
        exact good_nneg c (good_true c1 (good_npos c' (good_end rfl)))
    · rw [if_pos c] at hb
      subst hb
      exact good_npos c (good_end rfl)
  | succ n ih =>
    intro i i0 i1 i2 h b hb1 hb2
    refine h21_21 _ _ _ _ _ _ _ ?_
    unfold t21_21
    simp (disch := omega) only [wrap_in]
    by_cases c : 0 ≤ gi C i ∧ gi C i ≤ 2147483648
    · have := ih (i + 1) (by omega) (by omega) (by omega) (fun d d0 d1 => by
        by_cases e : d = i
        · subst e; exact c
        · exact h d d0 (by omega)) b hb1 hb2
      repeat (first | (refine good_pos (by omega) ?_) | (refine good_pos trivial ?_) | (refine good_neg (by omega) ?_) | (refine good_npos (by omega) ?_) | (refine good_nneg (by omega) ?_) | (refine good_gi (by omega) (by omega) ?_) | (refine good_gb (by omega) (by omega) ?_) | (refine good_ble (by omega) ?_))
      exact good_at this
    · obtain rfl := hb2 fun hh => c (hh i i0 (by omega))
      by_cases c' : gi C i < 0
      · repeat (first | (refine good_pos (by omega) ?_) | (refine good_pos trivial ?_) | (refine good_neg (by omega) ?_) | (refine good_npos (by omega) ?_) | (refine good_nneg (by omega) ?_) | (refine good_gi (by omega) (by omega) ?_) | (refine good_gb (by omega) (by omega) ?_) | (refine good_ble (by omega) ?_))
        exact good_end rfl
      · repeat (first | (refine good_pos (by omega) ?_) | (refine good_pos trivial ?_) | (refine good_neg (by omega) ?_) | (refine good_npos (by omega) ?_) | (refine good_nneg (by omega) ?_) | (refine good_gi (by omega) (by omega) ?_) | (refine good_gb (by omega) (by omega) ?_) | (refine good_ble (by omega) ?_))
        exact good_end rfl
open Classical in
theorem l21_14 {b : Int} (hN : N ≤ 60) (hN0 : 1 ≤ N) (hk : (T.length : Int) ≤ 240) (hx : (X.length : Int) = T.length) (hc : (C.length : Int) = T.length) (he : (T.length : Int) % 2 = 0) (hr : InR X T.length) (hb : b = checkE N T X C) :
    ∀ (n : Nat) (i : Int), 0 ≤ i → i ≤ T.length → (T.length : Int) - i = n → (∀ d : Int, 0 ≤ d → d < i → 0 ≤ gi T d ∧ gi T d < N) → Lead E21 kr21 (.int .i64 b) (a21_14 (T.length : Int) i N T X C) := by
  have hE : shapeE N T X C = if InR T N then 0 else 3 := by
    unfold shapeE
    rw [if_neg (by omega), if_neg (by omega), if_pos hr, if_neg (by omega)]
  intro n
  induction n with
  | zero =>
    intro i i0 i1 i2 h
    have hT : InR T N := fun d d0 d1 => h d d0 (by omega)
    have hs : Shape N T X C := ⟨hN0, hN, hk, hx, hc, he, hr, hT⟩
    obtain ⟨b1, b2⟩ := f71 (N := N) (C := C) hr hx hk
    refine h21_14 _ _ _ _ _ _ _ ?_
    unfold t21_14
    refine good_neg (by omega) (good_true b1 ?_)
    by_cases ht : TurnsOk T X
    · obtain ⟨h1, h2⟩ := checkE_cases b hs ht hb
      exact good_nfalse (b2.2 ht) (good_at (l21_21 hs ht T.length 0 (by omega) (by omega) (by omega) (fun d _ _ => by omega) _ h1 h2))
    · have hf : v71 N T X C = false := by simpa using fun h => ht (b2.1 h)
      refine good_ntrue hf (good_end ?_)
      rw [hb]
      unfold checkE
      rw [if_neg (fun h => h (shape_iff.2 hs)), if_pos ht]
  | succ n ih =>
    intro i i0 i1 i2 h
    refine h21_14 _ _ _ _ _ _ _ ?_
    unfold t21_14
    simp (disch := omega) only [wrap_in]
    by_cases c : 0 ≤ gi T i ∧ gi T i < N
    · have := ih (i + 1) (by omega) (by omega) (by omega) (inR_step h c)
      repeat (first | (refine good_pos (by omega) ?_) | (refine good_pos trivial ?_) | (refine good_neg (by omega) ?_) | (refine good_npos (by omega) ?_) | (refine good_nneg (by omega) ?_) | (refine good_gi (by omega) (by omega) ?_) | (refine good_gb (by omega) (by omega) ?_) | (refine good_ble (by omega) ?_))
      exact good_at this
    · have hb3 : b = 3 := by
        rw [if_neg (fun hh => c (hh i i0 (by omega)))] at hE
        rw [hb]
        unfold checkE
        rw [hE, if_pos (by omega)]
      subst hb3
      by_cases c' : gi T i < 0
      · repeat (first | (refine good_pos (by omega) ?_) | (refine good_pos trivial ?_) | (refine good_neg (by omega) ?_) | (refine good_npos (by omega) ?_) | (refine good_nneg (by omega) ?_) | (refine good_gi (by omega) (by omega) ?_) | (refine good_gb (by omega) (by omega) ?_) | (refine good_ble (by omega) ?_))
        exact good_end rfl
      · repeat (first | (refine good_pos (by omega) ?_) | (refine good_pos trivial ?_) | (refine good_neg (by omega) ?_) | (refine good_npos (by omega) ?_) | (refine good_nneg (by omega) ?_) | (refine good_gi (by omega) (by omega) ?_) | (refine good_gb (by omega) (by omega) ?_) | (refine good_ble (by omega) ?_))
        exact good_end rfl
theorem l21_7 {b : Int} (hN : N ≤ 60) (hk : (T.length : Int) ≤ 240) (hx : (X.length : Int) = T.length) (hc : (C.length : Int) = T.length) (he : (T.length : Int) % 2 = 0) (hb : b = checkE N T X C) :
    ∀ (n : Nat) (i : Int), 0 ≤ i → i ≤ T.length → (T.length : Int) - i = n → (∀ d : Int, 0 ≤ d → d < i → 0 ≤ gi X d ∧ gi X d < T.length) → Lead E21 kr21 (.int .i64 b) (a21_7 (T.length : Int) i N T X C) := by
  intro n
  induction n with
  | zero =>
    intro i i0 i1 i2 h
    have hr : InR X T.length := fun d d0 d1 => h d d0 (by omega)
    refine h21_7 _ _ _ _ _ _ _ ?_
    unfold t21_7
    by_cases c : N < 1
    · have hE : shapeE N T X C = 3 := by
        unfold shapeE
        rw [if_neg (by omega), if_neg (by omega), if_pos hr, if_pos c]
      have hb3 : b = 3 := by
        rw [hb]
        unfold checkE
        rw [hE, if_pos (by omega)]
      subst hb3
      repeat (first | (refine good_pos (by omega) ?_) | (refine good_pos trivial ?_) | (refine good_neg (by omega) ?_) | (refine good_npos (by omega) ?_) | (refine good_nneg (by omega) ?_) | (refine good_gi (by omega) (by omega) ?_) | (refine good_gb (by omega) (by omega) ?_) | (refine good_ble (by omega) ?_))
      exact good_end rfl
    · have := l21_14 hN (by omega) hk hx hc he hr hb T.length 0 (by omega) (by omega) (by omega) (fun d _ _ => by omega)
      repeat (first | (refine good_pos (by omega) ?_) | (refine good_pos trivial ?_) | (refine good_neg (by omega) ?_) | (refine good_npos (by omega) ?_) | (refine good_nneg (by omega) ?_) | (refine good_gi (by omega) (by omega) ?_) | (refine good_gb (by omega) (by omega) ?_) | (refine good_ble (by omega) ?_))
      exact good_at this
  | succ n ih =>
    intro i i0 i1 i2 h
    refine h21_7 _ _ _ _ _ _ _ ?_
    unfold t21_7
    simp (disch := omega) only [wrap_in]
    by_cases c : 0 ≤ gi X i ∧ gi X i < T.length
    · have := ih (i + 1) (by omega) (by omega) (by omega) (inR_step h c)
      repeat (first | (refine good_pos (by omega) ?_) | (refine good_pos trivial ?_) | (refine good_neg (by omega) ?_) | (refine good_npos (by omega) ?_) | (refine good_nneg (by omega) ?_) | (refine good_gi (by omega) (by omega) ?_) | (refine good_gb (by omega) (by omega) ?_) | (refine good_ble (by omega) ?_))
      exact good_at this
    · have hE : shapeE N T X C = 5 := by
        unfold shapeE
        rw [if_neg (by omega), if_neg (by omega), if_neg (fun hh => c (hh i i0 (by omega)))]
      have hb5 : b = 5 := by
        rw [hb]
        unfold checkE
        rw [hE, if_pos (by omega)]
      subst hb5
      by_cases c' : gi X i < 0
      · repeat (first | (refine good_pos (by omega) ?_) | (refine good_pos trivial ?_) | (refine good_neg (by omega) ?_) | (refine good_npos (by omega) ?_) | (refine good_nneg (by omega) ?_) | (refine good_gi (by omega) (by omega) ?_) | (refine good_gb (by omega) (by omega) ?_) | (refine good_ble (by omega) ?_))
        exact good_end rfl
      · repeat (first | (refine good_pos (by omega) ?_) | (refine good_pos trivial ?_) | (refine good_neg (by omega) ?_) | (refine good_npos (by omega) ?_) | (refine good_nneg (by omega) ?_) | (refine good_gi (by omega) (by omega) ?_) | (refine good_gb (by omega) (by omega) ?_) | (refine good_ble (by omega) ?_))
        exact good_end rfl
theorem f21 (N : Int) (T X C : List Int) : ok21 N T X C = true ∧ v21 N T X C = checkE N T X C :=
  sp21 _ _ _ _ _ (run21 _ _ _ _ _ (by
    have et : Int.tmod (T.length : Int) 2 = (T.length : Int) % 2 := Int.tmod_eq_emod_of_nonneg (by omega)
    unfold t21
    rw [et]
    have two : (60 < N ∨ 240 < (T.length : Int)) → checkE N T X C = 2 := fun h => by
      have hE : shapeE N T X C = 2 := by unfold shapeE; rw [if_pos h]
      unfold checkE
      rw [hE, if_pos (by omega)]
    have five : ¬ (60 < N ∨ 240 < (T.length : Int)) → ¬ ((X.length : Int) = T.length ∧ (C.length : Int) = T.length ∧ (T.length : Int) % 2 = 0) → checkE N T X C = 5 := fun h h' => by
      have hE : shapeE N T X C = 5 := by unfold shapeE; rw [if_neg h, if_pos h']
      unfold checkE
      rw [hE, if_pos (by omega)]
    by_cases c1 : 60 < N
    · rw [two (.inl c1)]
      repeat (first | (refine good_pos (by omega) ?_) | (refine good_pos trivial ?_) | (refine good_neg (by omega) ?_) | (refine good_npos (by omega) ?_) | (refine good_nneg (by omega) ?_) | (refine good_gi (by omega) (by omega) ?_) | (refine good_gb (by omega) (by omega) ?_) | (refine good_ble (by omega) ?_))
      exact good_end rfl
    by_cases c2 : 240 < (T.length : Int)
    · rw [two (.inr c2)]
      repeat (first | (refine good_pos (by omega) ?_) | (refine good_pos trivial ?_) | (refine good_neg (by omega) ?_) | (refine good_npos (by omega) ?_) | (refine good_nneg (by omega) ?_) | (refine good_gi (by omega) (by omega) ?_) | (refine good_gb (by omega) (by omega) ?_) | (refine good_ble (by omega) ?_))
      exact good_end rfl
    by_cases c3 : (X.length : Int) = T.length
    · by_cases c4 : (C.length : Int) = T.length
      · by_cases c5 : (T.length : Int) % 2 = 1
        · rw [five (by omega) (by omega)]
          repeat (first | (refine good_pos (by omega) ?_) | (refine good_pos trivial ?_) | (refine good_neg (by omega) ?_) | (refine good_npos (by omega) ?_) | (refine good_nneg (by omega) ?_) | (refine good_gi (by omega) (by omega) ?_) | (refine good_gb (by omega) (by omega) ?_) | (refine good_ble (by omega) ?_))
          exact good_end rfl
        · repeat (first | (refine good_pos (by omega) ?_) | (refine good_pos trivial ?_) | (refine good_neg (by omega) ?_) | (refine good_npos (by omega) ?_) | (refine good_nneg (by omega) ?_) | (refine good_gi (by omega) (by omega) ?_) | (refine good_gb (by omega) (by omega) ?_) | (refine good_ble (by omega) ?_))
          exact good_at (l21_7 (by omega) (by omega) c3 c4 (by omega) rfl T.length 0 (by omega) (by omega) (by omega) (fun d _ _ => by omega))
      · rw [five (by omega) (by omega)]
        repeat (first | (refine good_pos (by omega) ?_) | (refine good_pos trivial ?_) | (refine good_neg (by omega) ?_) | (refine good_npos (by omega) ?_) | (refine good_nneg (by omega) ?_) | (refine good_gi (by omega) (by omega) ?_) | (refine good_gb (by omega) (by omega) ?_) | (refine good_ble (by omega) ?_))
        exact good_end rfl
    · rw [five (by omega) (by omega)]
      repeat (first | (refine good_pos (by omega) ?_) | (refine good_pos trivial ?_) | (refine good_neg (by omega) ?_) | (refine good_npos (by omega) ?_) | (refine good_nneg (by omega) ?_) | (refine good_gi (by omega) (by omega) ?_) | (refine good_gb (by omega) (by omega) ?_) | (refine good_ble (by omega) ?_))
      exact good_end rfl))
end
end Go.Proofs.Ytnfgfdeidkhdkaa.Eng
/- Lq: Plain: a plane net stays plane where a vertex is hung on, an edge is laid across a face, a loop is laid. -/
namespace Go.Proofs.Ytnfgfdeidkhdkaa.Eng
set_option linter.unusedVariables false
set_option linter.unusedSimpArgs false
/-- a plane net that is one thing -/
structure PlaneOk (m : NetV) : Prop where
  s : Shape m.N m.T m.X m.C
  t : TurnsOk m.T m.X
  c : CapOk m.C
  con : ∀ v : Int, 0 ≤ v → v < m.N → Conn m.T 0 v
  eul : m.N - (m.T.length : Int) / 2 + nf m.X = 2
theorem rk_one {T : List Int} {N : Int} (hN : 1 ≤ N) (h : ∀ v : Int, 0 ≤ v → v < N → Conn T 0 v) : rk T N = 1 := by
  have key : ∀ n : Nat, 1 + (n : Int) ≤ N → rk T (1 + n) = 1 := by
    intro n
    induction n with
    | zero =>
      intro _
      rw [show (1 : Int) + ((0 : Nat) : Int) = 0 + 1 by omega, rk_root (Int.le_refl 0) (fun u u0 u1 => by omega), rk_zero]; omega
    | succ n ih =>
      intro hn
      rw [show (1 : Int) + ((n + 1 : Nat) : Int) = (1 + n) + 1 by omega, rk_not (by omega) (fun hr => hr 0 (Int.le_refl 0) (by omega) (h _ (by omega) (by omega)))]
      exact ih (by omega)
  have := key (N - 1).toNat (by omega)
  rwa [show 1 + ((N - 1).toNat : Int) = N by omega] at this
theorem PlaneOk.check {m : NetV} (h : PlaneOk m) : checkE m.N m.T m.X m.C = 0 := by
  unfold checkE
  rw [if_neg (fun hh => hh (shape_iff.2 h.s)), if_neg (fun hh => hh h.t), if_neg (fun hh => hh h.c), if_neg (fun hh => hh (rk_one h.s.n0 h.con)), if_neg (fun hh => hh h.eul)]
theorem nc_pos {f : Int → Int} {m : Int} (hm : 0 < m) : 1 ≤ NC f m := by
  have := cnt_lt (p := RootS (Orb f)) (Int.le_refl 0) (fun u u0 u1 => by omega) hm
  rw [cnt_zero] at this
  show 1 ≤ cnt _ m
  omega
theorem nf_nc {X : List Int} (hm : 0 < (X.length : Int)) : nf X = NC (stb X) X.length := by
  have := nc_pos (f := stb X) hm
  have e : rkS (Orb (stb X)) X.length = NC (stb X) X.length := rfl
  unfold nf maxI
  split
  · omega
  · rfl
/-- a row, where d was laid behind b -/
def layR (row : List Int) (b d : Int) : List Int := (row.set d.toNat (gi row b)).set b.toNat d
theorem layR_len (row : List Int) (b d : Int) : (layR row b d).length = row.length := by simp [layR]
theorem layR_gi {row : List Int} {b d x : Int} (b0 : 0 ≤ b) (b1 : b < row.length) (d0 : 0 ≤ d) (d1 : d < row.length) (x0 : 0 ≤ x) : gi (layR row b d) x = if x = b then d else if x = d then gi row b else gi row x := by
  unfold layR
  rw [gi_set b0 (by rw [List.length_set]; exact b1) x0]
  split
  · rfl
  · rw [gi_set d0 d1 x0]
section
variable {N : Int} {T X C : List Int}
theorem ext_gi {l : List Int} {p q x : Int} (x0 : 0 ≤ x) (x1 : x < (l.length : Int) + 2) : gi (l ++ [p, q]) x = if x < l.length then gi l x else if x = l.length then p else q := by
  split
  · rename_i c
    exact gi_append_left c x0
  · rw [gi_append_right (by omega)]
    split
    · rename_i h c
      rw [c, Int.sub_self]; rfl
    · have : x - l.length = 1 := by omega
      rw [this]; rfl
/-- what a dart's tail, its next one come to where a was laid behind e -/
theorem x1_gi {e : Int} {a : Int} (ha : (X.length : Int) = a) (e0 : 0 ≤ e) (e1 : e < a) {x : Int} (x0 : 0 ≤ x) (x1 : x < a + 2) :
    gi (layR (X ++ [a, a + 1]) e a) x = if x = e then a else if x = a then gi X e else if x = a + 1 then a + 1 else gi X x := by
  rw [layR_gi e0 (by simp; omega) (by omega) (by simp; omega) x0, ext_gi (l := X) x0 (by omega), ext_gi (l := X) e0 (by omega)]
  split
  · rfl
  · split
    · rw [if_pos (by omega)]
    · split
      · rw [if_neg (by omega)]
      · rw [if_neg (by omega), if_pos (by omega)]
theorem x2_gi {e g : Int} {a : Int} (ha : (X.length : Int) = a) (e0 : 0 ≤ e) (e1 : e < a) (g0 : 0 ≤ g) (g1 : g < a + 1) {x : Int} (x0 : 0 ≤ x) (x1 : x < a + 2) :
    gi (layR (layR (X ++ [a, a + 1]) e a) g (a + 1)) x = if x = g then a + 1 else if x = a + 1 then gi (layR (X ++ [a, a + 1]) e a) g else gi (layR (X ++ [a, a + 1]) e a) x := by
  rw [layR_gi g0 (by rw [layR_len]; simp; omega) (by omega) (by rw [layR_len]; simp; omega) x0]
theorem oth_old {a d : Int} (ha : a % 2 = 0) (d0 : 0 ≤ d) (d1 : d < a) : 0 ≤ oth d ∧ oth d < a := oth_in d0 d1 ha
theorem oth_a {a : Int} (ha : a % 2 = 0) : oth a = a + 1 := by unfold oth; rw [if_pos ha]
theorem oth_a1 {a : Int} (ha : a % 2 = 0) : oth (a + 1) = a := by unfold oth; rw [if_neg (by omega)]; omega
theorem oth_inj {d e : Int} (h : oth d = oth e) : d = e := by rw [← oth_oth d, h, oth_oth]
/-- the step about a face, where a was laid behind e and its other one is not there yet -/
def half (X : List Int) (e a : Int) (d : Int) : Int := if d = oth e then a else if d = a then gi X e else stb X d
theorem half_ins {e a : Int} (ha : a % 2 = 0) (e0 : 0 ≤ e) (e1 : e < a) : Ins (stb X) (half X e a) a (oth e) := by
  have o := oth_old ha e0 e1
  refine ⟨o.1, o.2, by unfold half; rw [if_pos rfl], ?_, fun d d0 d1 hd => ?_⟩
  · unfold half
    rw [if_neg (by omega), if_pos rfl]
    unfold stb
    rw [oth_oth]
  · unfold half
    rw [if_neg hd, if_neg (by omega)]
/-- the vertices' rounds, where two darts were laid in -/
theorem turns_step {T' X' : List Int} {a e : Int} {b : Int → Int} (hp : PermOn (sta X') (a + 2)) (ht : TurnsOk T X) (haT : (T.length : Int) = a) (hl : (T'.length : Int) = a + 2)
    (htail : ∀ d : Int, 0 ≤ d → d < a + 2 → gi T' (gi X' d) = gi T' d)
    (hold : ∀ d v : Int, 0 ≤ d → d < a → 0 ≤ v → v < a → Orb (sta X) d v → Orb (sta X') d v)
    (hb : ∀ d : Int, 0 ≤ d → d < a + 2 → (0 ≤ b d ∧ b d < a ∧ gi T' d = gi T (b d) ∧ Orb (sta X') (b d) d) ∨ (d = a + 1 ∧ ∀ v : Int, 0 ≤ v → v < a + 2 → gi T' v = gi T' d → v = d)) : TurnsOk T' X' := by
  have hp' : PermOn (sta X') T'.length := by rw [hl]; exact hp
  refine ⟨hp', fun d d0 d1 => htail d d0 (by omega), fun d v d0 d1 v0 v1 hdv => ?_⟩
  rcases hb d d0 (by omega) with ⟨h1, h2, h3, h4⟩ | ⟨-, h⟩
  · rcases hb v v0 (by omega) with ⟨k1, k2, k3, k4⟩ | ⟨-, k⟩
    · rw [h3, k3] at hdv
      have := hold _ _ h1 h2 k1 k2 (ht.one _ _ h1 (by omega) k1 (by omega) hdv)
      exact ((hp.symm h1 (by omega) h4).trans this).trans k4
    · rw [k d d0 (by omega) hdv]; exact .refl _ _
  · rw [h v v0 (by omega) hdv.symm]; exact .refl _ _
theorem conn_ext {p q : Int} (he : (T.length : Int) % 2 = 0) {u v : Int} (h : Conn T u v) : Conn (T ++ [p, q]) u v := by
  induction h with
  | refl => exact .refl
  | @step w d _ d0 d1 d2 ih =>
    have o := oth_in d0 d1 he
    have := ih.step (d := d) d0 (by simp; omega) (by rw [ext_gi d0 (by omega), if_pos d1, d2])
    rwa [ext_gi o.1 (by omega), if_pos o.2] at this
theorem cap_ext {p q : Int} (h : CapOk C) (hp : 0 ≤ p ∧ p ≤ 2147483648) (hq : 0 ≤ q ∧ q ≤ 2147483648) : CapOk (C ++ [p, q]) := by
  intro d d0 d1
  have d1 : d < (C.length : Int) + 2 := by simpa using d1
  rw [ext_gi d0 d1]
  split
  · rename_i c; exact h d d0 c
  · split
    · exact hp
    · exact hq
theorem inr_ext {m p q : Int} (h : InR T m) (hp : 0 ≤ p ∧ p < m) (hq : 0 ≤ q ∧ q < m) : InR (T ++ [p, q]) m := by
  intro d d0 d1
  have d1 : d < (T.length : Int) + 2 := by simpa using d1
  rw [ext_gi d0 d1]
  split
  · rename_i c; exact h d d0 c
  · split
    · exact hp
    · exact hq
/-- a dart laid in behind e, its other one by itself, at a new vertex -/
theorem step_pend {e p q : Int} (h : PlaneOk ⟨N, T, X, C⟩) (e0 : 0 ≤ e) (e1 : e < (T.length : Int)) (hN : N ≤ 59) (hT : (T.length : Int) ≤ 238) (hp : 0 ≤ p ∧ p ≤ 2147483648) (hq : 0 ≤ q ∧ q ≤ 2147483648) :
    PlaneOk ⟨N + 1, T ++ [gi T e, N], layR (X ++ [(T.length : Int), (T.length : Int) + 1]) e T.length, C ++ [p, q]⟩ := by
  obtain ⟨hs, ht, hc, hcon, heul⟩ := h
  simp only at hs ht hc hcon heul
  have hx := hs.x
  have hcl := hs.c
  have he := hs.e
  have hn0 := hs.n0
  generalize ha : (T.length : Int) = a at *
  have hte := hs.tr e e0 (by omega)
  have lX : ((layR (X ++ [a, a + 1]) e a).length : Int) = a + 2 := by rw [layR_len]; simp; omega
  have lT : ((T ++ [gi T e, N]).length : Int) = a + 2 := by simp; omega
  have gx : ∀ x : Int, 0 ≤ x → x < a + 2 → _ := fun x x0 x1 => x1_gi (X := X) hx e0 e1 x0 x1
  have gt : ∀ x : Int, 0 ≤ x → x < a + 2 → _ := fun x x0 x1 => ext_gi (l := T) (p := gi T e) (q := N) x0 (show x < (T.length : Int) + 2 by omega)
  -- about the vertices
  have i1 : Ins (sta X) (sta (layR (X ++ [a, a + 1]) e a)) a e := ⟨e0, e1, by unfold sta; rw [gx e e0 (by omega), if_pos rfl], by unfold sta; rw [gx a (by omega) (by omega), if_neg (by omega), if_pos rfl], fun d d0 d1 hd => by
    unfold sta
    rw [gx d d0 (by omega), if_neg hd, if_neg (by omega), if_neg (by omega)]⟩
  have hpx : PermOn (sta X) a := by have := ht.perm; rwa [ha] at this
  have p1 := i1.perm hpx
  have i2 : Fix (sta (layR (X ++ [a, a + 1]) e a)) (sta (layR (X ++ [a, a + 1]) e a)) (a + 1) := ⟨by unfold sta; rw [gx (a + 1) (by omega) (by omega), if_neg (by omega), if_neg (by omega), if_pos rfl], fun d _ _ => rfl⟩
  have p2 : PermOn (sta (layR (X ++ [a, a + 1]) e a)) (a + 2) := by have := i2.perm p1; rwa [show a + 1 + 1 = a + 2 by omega] at this
  have htail : ∀ d : Int, 0 ≤ d → d < a + 2 → gi (T ++ [gi T e, N]) (gi (layR (X ++ [a, a + 1]) e a) d) = gi (T ++ [gi T e, N]) d := by
    intro d d0 d1
    have hxe := hpx.rng e e0 e1
    unfold sta at hxe
    rw [gx d d0 d1]
    by_cases c1 : d = e
    · rw [if_pos c1, gt a (by omega) (by omega), gt d d0 d1, if_neg (by omega), if_pos (by omega), if_pos (by omega), c1]
    by_cases c2 : d = a
    · rw [if_neg c1, if_pos c2, gt _ hxe.1 (by omega), gt d d0 d1, if_pos (by omega), if_neg (by omega), if_pos (by omega)]
      exact ht.tail e e0 (by omega)
    by_cases c3 : d = a + 1
    · rw [if_neg c1, if_neg c2, if_pos c3, c3]
    · have hxd := hpx.rng d d0 (by omega)
      unfold sta at hxd
      rw [if_neg c1, if_neg c2, if_neg c3, gt _ hxd.1 (by omega), gt d d0 d1, if_pos (by omega), if_pos (by omega)]
      exact ht.tail d d0 (by omega)
  have ht' : TurnsOk (T ++ [gi T e, N]) (layR (X ++ [a, a + 1]) e a) := by
    refine turns_step (a := a) (e := e) (b := fun d => if d < a then d else e) p2 ht ha lT htail (fun d v d0 d1 v0 v1 ho => (i1.orb hpx d0 d1 v1).2 ho) fun d d0 d1 => ?_
    by_cases c1 : d < a
    · left
      simp only [c1, if_true]
      exact ⟨d0, trivial, by rw [gt d d0 d1, if_pos (by omega)], .refl _ _⟩
    · simp only [c1, if_false]
      by_cases c2 : d = a
      · left
        exact ⟨e0, e1, by rw [gt d d0 d1, if_neg (by omega), if_pos (by omega)], by rw [c2]; exact i1.orb_new⟩
      · right
        refine ⟨by omega, fun v v0 v1 hv => ?_⟩
        rw [gt v v0 v1, gt d d0 d1, if_neg (show ¬ d < (T.length : Int) by omega), if_neg (show ¬ d = (T.length : Int) by omega)] at hv
        by_cases c3 : v < (T.length : Int)
        · rw [if_pos c3] at hv
          have := hs.tr v v0 c3
          omega
        · rw [if_neg c3] at hv
          by_cases c4 : v = (T.length : Int)
          · rw [if_pos c4] at hv; omega
          · omega
  -- about the faces
  have ho := oth_old he e0 e1
  have oa := oth_a he
  have oa1 := oth_a1 he
  have hpb : PermOn (stb X) a := perm_ab' he hpx
  have j1 := half_ins (X := X) he e0 e1
  have q1 := j1.perm hpb
  have hold : ∀ d : Int, 0 ≤ d → d < a → stb (layR (X ++ [a, a + 1]) e a) d = half X e a d := fun d d0 d1 => by
    have od := oth_old he d0 d1
    unfold stb half
    rw [gx (oth d) od.1 (by omega)]
    by_cases c : oth d = e
    · rw [if_pos c, if_pos (by rw [← c, oth_oth])]
    · rw [if_neg c, if_neg (by omega), if_neg (by omega), if_neg (fun c' => c (by rw [c', oth_oth])), if_neg (by omega)]; rfl
  have j2 : Ins (half X e a) (stb (layR (X ++ [a, a + 1]) e a)) (a + 1) a := by
    refine ⟨by omega, by omega, ?_, ?_, fun d d0 d1 hd => hold d d0 (by omega)⟩
    · unfold stb
      rw [oa, gx (a + 1) (by omega) (by omega), if_neg (by omega), if_neg (by omega), if_pos rfl]
    · unfold stb half
      rw [oa1, gx a (by omega) (by omega), if_neg (by omega), if_pos rfl, if_neg (by omega), if_pos rfl]
  have hnc : NC (stb (layR (X ++ [a, a + 1]) e a)) (a + 2) = NC (stb X) a := by
    have := j2.nc q1
    rw [j1.nc hpb, show a + 1 + 1 = a + 2 by omega] at this
    exact this
  refine ⟨⟨by simp only; omega, by simp only; omega, by rw [lT]; omega, by rw [lX, lT], by simp only [List.length_append, List.length_cons, List.length_nil]; omega, by rw [lT]; omega, fun d d0 d1 => ?_, ?_⟩, ht', cap_ext hc hp hq, fun v v0 v1 => ?_, ?_⟩
  · rw [lT]; exact p2.rng d d0 (by rw [lX] at d1; exact d1)
  · show InR (T ++ [gi T e, N]) (N + 1)
    exact inr_ext (fun d d0 d1 => by have := hs.tr d d0 d1; omega) (by omega) (by omega)
  · simp only at v1
    by_cases c : v < N
    · exact conn_ext (by omega) (hcon v v0 c)
    · have hv : v = N := by omega
      have := (conn_ext (T := T) (p := gi T e) (q := N) (by omega) (hcon _ hte.1 hte.2)).step (d := a) (by omega) (by rw [lT]; omega) (by rw [gt a (by omega) (by omega), if_neg (by omega), if_pos (by omega)])
      rw [oa, gt (a + 1) (by omega) (by omega), if_neg (by omega), if_neg (by omega)] at this
      rw [hv]; exact this
  · simp only
    rw [lT, nf_nc (by rw [lX]; omega), lX, hnc]
    rw [nf_nc (by omega), hx] at heul
    omega
/-- the vertices' rounds, where an edge was laid: behind e, behind g (an old dart, or the new one) -/
theorem edge_turns {e g w a : Int} (hs : Shape N T X C) (ht : TurnsOk T X) (ha : (T.length : Int) = a) (e0 : 0 ≤ e) (e1 : e < a) (g0 : 0 ≤ g) (g1 : g < a + 1) (hne : g ≠ e) (hw : w = if g < a then gi T g else gi T e) :
    PermOn (sta (layR (layR (X ++ [a, a + 1]) e a) g (a + 1))) (a + 2) ∧ TurnsOk (T ++ [gi T e, w]) (layR (layR (X ++ [a, a + 1]) e a) g (a + 1)) := by
  have hx := hs.x
  have he := hs.e
  rw [ha] at hx he
  have lT : ((T ++ [gi T e, w]).length : Int) = a + 2 := by simp; omega
  have gx1 : ∀ x : Int, 0 ≤ x → x < a + 2 → _ := fun x x0 x1 => x1_gi (X := X) hx e0 e1 x0 x1
  have gx : ∀ x : Int, 0 ≤ x → x < a + 2 → _ := fun x x0 x1 => x2_gi (X := X) hx e0 e1 g0 g1 x0 x1
  have gt : ∀ x : Int, 0 ≤ x → x < a + 2 → _ := fun x x0 x1 => ext_gi (l := T) (p := gi T e) (q := w) x0 (show x < (T.length : Int) + 2 by omega)
  have i1 : Ins (sta X) (sta (layR (X ++ [a, a + 1]) e a)) a e := ⟨e0, e1, by unfold sta; rw [gx1 e e0 (by omega), if_pos rfl], by unfold sta; rw [gx1 a (by omega) (by omega), if_neg (by omega), if_pos rfl], fun d d0 d1 hd => by
    unfold sta
    rw [gx1 d d0 (by omega), if_neg hd, if_neg (by omega), if_neg (by omega)]⟩
  have hpx : PermOn (sta X) a := by have := ht.perm; rwa [ha] at this
  have p1 := i1.perm hpx
  have i2 : Ins (sta (layR (X ++ [a, a + 1]) e a)) (sta (layR (layR (X ++ [a, a + 1]) e a) g (a + 1))) (a + 1) g := ⟨g0, g1, by unfold sta; rw [gx g g0 (by omega), if_pos rfl], by unfold sta; rw [gx (a + 1) (by omega) (by omega), if_neg (by omega), if_pos rfl], fun d d0 d1 hd => by
    unfold sta
    rw [gx d d0 (by omega), if_neg hd, if_neg (by omega)]⟩
  have p2 : PermOn (sta (layR (layR (X ++ [a, a + 1]) e a) g (a + 1))) (a + 2) := by have := i2.perm p1; rwa [show a + 1 + 1 = a + 2 by omega] at this
  have o1 : ∀ d v : Int, 0 ≤ d → d < a → 0 ≤ v → v < a → Orb (sta X) d v → Orb (sta (layR (layR (X ++ [a, a + 1]) e a) g (a + 1))) d v := fun d v d0 d1 v0 v1 ho =>
    (i2.orb p1 d0 (by omega) (by omega)).2 ((i1.orb hpx d0 d1 v1).2 ho)
  have oea : Orb (sta (layR (layR (X ++ [a, a + 1]) e a) g (a + 1))) e a := (i2.orb p1 e0 (by omega) (by omega)).2 i1.orb_new
  have oga := i2.orb_new
  -- the tails
  have t1 : ∀ d : Int, 0 ≤ d → d < a → gi (T ++ [gi T e, w]) (gi X d) = gi T d ∧ 0 ≤ gi X d ∧ gi X d < a := fun d d0 d1 => by
    have r := hpx.rng d d0 d1
    unfold sta at r
    rw [gt _ r.1 (by omega), if_pos (by omega)]
    exact ⟨ht.tail d d0 (by omega), r⟩
  have t2 : ∀ d : Int, 0 ≤ d → d < a + 1 → gi (T ++ [gi T e, w]) (gi (layR (X ++ [a, a + 1]) e a) d) = gi (T ++ [gi T e, w]) d ∧ 0 ≤ gi (layR (X ++ [a, a + 1]) e a) d ∧ gi (layR (X ++ [a, a + 1]) e a) d < a + 2 := fun d d0 d1 => by
    rw [gx1 d d0 (by omega)]
    by_cases c1 : d = e
    · rw [if_pos c1, gt a (by omega) (by omega), gt d d0 (by omega), if_neg (by omega), if_pos (by omega), if_pos (by omega), c1]
      exact ⟨rfl, by omega, by omega⟩
    by_cases c2 : d = a
    · obtain ⟨h1, h2, h3⟩ := t1 e e0 e1
      rw [if_neg c1, if_pos c2, h1, gt d d0 (by omega), if_neg (by omega), if_pos (by omega)]
      exact ⟨rfl, h2, by omega⟩
    · obtain ⟨h1, h2, h3⟩ := t1 d d0 (by omega)
      rw [if_neg c1, if_neg c2, if_neg (by omega), h1, gt d d0 (by omega), if_pos (by omega)]
      exact ⟨rfl, h2, by omega⟩
  have tg : gi (T ++ [gi T e, w]) g = w := by
    rw [gt g g0 (by omega), hw]
    by_cases c : g < a
    · rw [if_pos (by omega), if_pos c]
    · rw [if_neg (by omega), if_pos (by omega), if_neg c]
  have ta1 : gi (T ++ [gi T e, w]) (a + 1) = w := by rw [gt (a + 1) (by omega) (by omega), if_neg (by omega), if_neg (by omega)]
  have htail : ∀ d : Int, 0 ≤ d → d < a + 2 → gi (T ++ [gi T e, w]) (gi (layR (layR (X ++ [a, a + 1]) e a) g (a + 1)) d) = gi (T ++ [gi T e, w]) d := by
    intro d d0 d1
    rw [gx d d0 d1]
    by_cases c1 : d = g
    · rw [if_pos c1, ta1, c1, tg]
    by_cases c2 : d = a + 1
    · rw [if_neg c1, if_pos c2, (t2 g g0 g1).1, tg, c2, ta1]
    · rw [if_neg c1, if_neg c2, (t2 d d0 (by omega)).1]
  refine ⟨p2, turns_step (a := a) (e := e) (b := fun d => if d < a then d else if d = a then e else if g < a then g else e) p2 ht ha lT htail o1 fun d d0 d1 => .inl ?_⟩
  by_cases c1 : d < a
  · simp only [c1, if_true]
    exact ⟨d0, trivial, by rw [gt d d0 d1, if_pos (by omega)], .refl _ _⟩
  · simp only [c1, if_false]
    by_cases c2 : d = a
    · simp only [c2, if_true]
      exact ⟨e0, e1, by rw [gt a (by omega) (by omega), if_neg (by omega), if_pos (by omega)], oea⟩
    · have c3 : d = a + 1 := by omega
      simp only [c2, if_false]
      rw [c3, ta1]
      by_cases c4 : g < a
      · simp only [c4, if_true]
        exact ⟨g0, trivial, by rw [hw, if_pos c4], oga⟩
      · simp only [c4, if_false]
        have : g = a := by omega
        exact ⟨e0, e1, by rw [hw, if_neg c4], oea.trans (this ▸ oga)⟩
/-- what is left for an edge: the faces -/
theorem edge_rest {e g w p q a : Int} (h : PlaneOk ⟨N, T, X, C⟩) (ha : (T.length : Int) = a) (e0 : 0 ≤ e) (e1 : e < a) (g0 : 0 ≤ g) (g1 : g < a + 1) (hne : g ≠ e) (hw : w = if g < a then gi T g else gi T e) (hT : a ≤ 238) (hp : 0 ≤ p ∧ p ≤ 2147483648) (hq : 0 ≤ q ∧ q ≤ 2147483648)
    (hnc : PermOn (stb X) a → NC (stb (layR (layR (X ++ [a, a + 1]) e a) g (a + 1))) (a + 2) = NC (stb X) a + 1) :
    PlaneOk ⟨N, T ++ [gi T e, w], layR (layR (X ++ [a, a + 1]) e a) g (a + 1), C ++ [p, q]⟩ := by
  obtain ⟨hs, ht, hc, hcon, heul⟩ := h
  simp only at hs ht hc hcon heul
  have hx := hs.x
  have hcl := hs.c
  have he := hs.e
  have hn0 := hs.n0
  have hn1 := hs.n1
  rw [ha] at hx hcl he heul
  obtain ⟨p2, ht'⟩ := edge_turns hs ht ha e0 e1 g0 g1 hne hw
  have hpx : PermOn (sta X) a := by have := ht.perm; rwa [ha] at this
  have lX : ((layR (layR (X ++ [a, a + 1]) e a) g (a + 1)).length : Int) = a + 2 := by rw [layR_len, layR_len]; simp; omega
  have lT : ((T ++ [gi T e, w]).length : Int) = a + 2 := by simp; omega
  have hte := hs.tr e e0 (by omega)
  have htw : 0 ≤ w ∧ w < N := by
    rw [hw]
    by_cases c : g < a
    · rw [if_pos c]; exact hs.tr g g0 (by omega)
    · rw [if_neg c]; exact hte
  refine ⟨⟨hn0, hn1, by rw [lT]; omega, by rw [lX, lT], by simp only [List.length_append, List.length_cons, List.length_nil]; omega, by rw [lT]; omega, fun d d0 d1 => ?_, inr_ext hs.tr hte htw⟩, ht', cap_ext hc hp hq, fun v v0 v1 => conn_ext (by omega) (hcon v v0 v1), ?_⟩
  · rw [lT]; exact p2.rng d d0 (by rw [lX] at d1; exact d1)
  · simp only
    rw [lT, nf_nc (by rw [lX]; omega), lX, hnc (perm_ab' he hpx)]
    rw [nf_nc (by omega), hx] at heul
    omega
theorem step_loop {e p q : Int} (h : PlaneOk ⟨N, T, X, C⟩) (e0 : 0 ≤ e) (e1 : e < (T.length : Int)) (hT : (T.length : Int) ≤ 238) (hp : 0 ≤ p ∧ p ≤ 2147483648) (hq : 0 ≤ q ∧ q ≤ 2147483648) :
    PlaneOk ⟨N, T ++ [gi T e, gi T e], layR (layR (X ++ [(T.length : Int), (T.length : Int) + 1]) e T.length) T.length ((T.length : Int) + 1), C ++ [p, q]⟩ := by
  have hx := h.s.x
  have he := h.s.e
  simp only at hx he
  generalize ha : (T.length : Int) = a at *
  have gx1 : ∀ x : Int, 0 ≤ x → x < a + 2 → _ := fun x x0 x1 => x1_gi (X := X) hx e0 e1 x0 x1
  have gx : ∀ x : Int, 0 ≤ x → x < a + 2 → _ := fun x x0 x1 => x2_gi (X := X) (g := a) hx e0 e1 (by omega) (by omega) x0 x1
  refine edge_rest h ha e0 e1 (g := a) (by omega) (by omega) (by omega) (by rw [if_neg (by omega)]) (by omega) hp hq fun hpb => ?_
  have oa := oth_a he
  have oa1 := oth_a1 he
  have j1 := half_ins (X := X) he e0 e1
  have q1 := j1.perm hpb
  have j2 : Fix (half X e a) (stb (layR (layR (X ++ [a, a + 1]) e a) a (a + 1))) (a + 1) := by
    refine ⟨?_, fun d d0 d1 => ?_⟩
    · unfold stb
      rw [oa1, gx a (by omega) (by omega), if_pos rfl]
    · by_cases c : d = a
      · subst c
        have ho := oth_old he e0 e1
        unfold stb half
        rw [oa, gx (d + 1) (by omega) (by omega), if_neg (by omega), if_pos rfl, gx1 d (by omega) (by omega), if_neg (by omega), if_pos rfl, if_neg (by omega), if_pos rfl]
      · have od := oth_old he d0 (show d < a by omega)
        unfold stb half
        rw [gx (oth d) od.1 (by omega), if_neg (by omega), if_neg (by omega), gx1 (oth d) od.1 (by omega)]
        by_cases c' : oth d = e
        · rw [if_pos c', if_pos (by rw [← c', oth_oth])]
        · rw [if_neg c', if_neg (by omega), if_neg (by omega), if_neg (fun c'' => c' (by rw [c'', oth_oth])), if_neg c]; rfl
  have := j2.nc q1 (by omega)
  rw [j1.nc hpb, show a + 1 + 1 = a + 2 by omega] at this
  exact this
theorem step_edge {e g p q : Int} (h : PlaneOk ⟨N, T, X, C⟩) (e0 : 0 ≤ e) (e1 : e < (T.length : Int)) (g0 : 0 ≤ g) (g1 : g < (T.length : Int)) (hne : g ≠ e) (hface : Orb (stb X) (gi X e) (gi X g)) (hT : (T.length : Int) ≤ 238) (hp : 0 ≤ p ∧ p ≤ 2147483648) (hq : 0 ≤ q ∧ q ≤ 2147483648) :
    PlaneOk ⟨N, T ++ [gi T e, gi T g], layR (layR (X ++ [(T.length : Int), (T.length : Int) + 1]) e T.length) g ((T.length : Int) + 1), C ++ [p, q]⟩ := by
  have hx := h.s.x
  have he := h.s.e
  have hxr := h.s.xr
  simp only at hx he hxr
  generalize ha : (T.length : Int) = a at *
  have gx1 : ∀ x : Int, 0 ≤ x → x < a + 2 → _ := fun x x0 x1 => x1_gi (X := X) hx e0 e1 x0 x1
  have gx : ∀ x : Int, 0 ≤ x → x < a + 2 → _ := fun x x0 x1 => x2_gi (X := X) (g := g) hx e0 e1 g0 (by omega) x0 x1
  refine edge_rest h ha e0 e1 g0 (by omega) hne (by rw [if_pos g1]) (by omega) hp hq fun hpb => ?_
  have oa := oth_a he
  have oa1 := oth_a1 he
  have oe := oth_old he e0 e1
  have og := oth_old he g0 g1
  have hxe := hxr e e0 (by omega)
  have hxg := hxr g g0 (by omega)
  have hneo : oth g ≠ oth e := fun c => hne (oth_inj c)
  have j1 := half_ins (X := X) he e0 e1
  have q1 := j1.perm hpb
  -- the other one laid in behind g's other one
  have j2 : Ins (half X e a) (fun d => if d = oth g then a + 1 else if d = a + 1 then half X e a (oth g) else half X e a d) (a + 1) (oth g) :=
    ⟨og.1, by omega, by simp, by simp only [if_neg (show ¬ a + 1 = oth g by omega), if_true], fun d d0 d1 hd => by simp only [if_neg hd, if_neg (show ¬ d = a + 1 by omega)]⟩
  have q2 := j2.perm q1
  have hag : half X e a (oth g) = gi X g := by
    unfold half
    rw [if_neg hneo, if_neg (by omega)]
    unfold stb
    rw [oth_oth]
  have haa : half X e a a = gi X e := by
    unfold half
    rw [if_neg (by omega), if_pos rfl]
  have j3 : Swp (fun d => if d = oth g then a + 1 else if d = a + 1 then half X e a (oth g) else half X e a d) (stb (layR (layR (X ++ [a, a + 1]) e a) g (a + 1))) (a + 2) a (a + 1) := by
    refine ⟨by omega, by omega, by omega, ?_, ?_, fun d d0 d1 hd hd' => ?_⟩
    · simp only [if_neg (show ¬ a + 1 = oth g by omega), if_true, hag]
      unfold stb
      rw [oa, gx (a + 1) (by omega) (by omega), if_neg (by omega), if_pos rfl, gx1 g g0 (by omega), if_neg hne, if_neg (by omega), if_neg (by omega)]
    · simp only [if_neg (show ¬ a = oth g by omega), if_neg (show ¬ a = a + 1 by omega), haa]
      unfold stb
      rw [oa1, gx a (by omega) (by omega), if_neg (by omega), if_neg (by omega), gx1 a (by omega) (by omega), if_neg (by omega), if_pos rfl]
    · have od := oth_old he d0 (show d < a by omega)
      simp only [if_neg hd']
      unfold stb
      rw [gx (oth d) od.1 (by omega)]
      by_cases c : oth d = g
      · rw [if_pos c, if_pos (by rw [← c, oth_oth])]
      · rw [if_neg c, if_neg (by omega), if_neg (fun c' => c (by rw [c', oth_oth])), gx1 (oth d) od.1 (by omega)]
        unfold half
        by_cases c' : oth d = e
        · rw [if_pos c', if_pos (by rw [← c', oth_oth])]
        · rw [if_neg c', if_neg (by omega), if_neg (by omega), if_neg (fun c'' => c' (by rw [c'', oth_oth])), if_neg hd]; rfl
  have q2' : PermOn (fun d => if d = oth g then a + 1 else if d = a + 1 then half X e a (oth g) else half X e a d) (a + 2) := by rwa [show a + 1 + 1 = a + 2 by omega] at q2
  have horb : Orb (fun d => if d = oth g then a + 1 else if d = a + 1 then half X e a (oth g) else half X e a d) a (a + 1) := by
    have s1 : Orb (stb X) (oth g) (gi X g) := ⟨1, by show stb X (oth g) = _; unfold stb; rw [oth_oth]⟩
    have s2 := hface.trans (hpb.symm og.1 og.2 s1)
    have s3 := (j1.orb hpb hxe.1 (by omega) og.2).2 s2
    have s4 := (j2.orb q1 hxe.1 (by omega) (by omega)).2 s3
    refine Orb.trans ⟨1, ?_⟩ (s4.trans j2.orb_new)
    show (if a = oth g then a + 1 else if a = a + 1 then half X e a (oth g) else half X e a a) = gi X e
    rw [if_neg (by omega), if_neg (by omega), haa]
  have := j3.nc q2' horb
  have h2 := j2.nc q1
  rw [j1.nc hpb, show a + 1 + 1 = a + 2 by omega] at h2
  rw [this, h2]
end
end Go.Proofs.Ytnfgfdeidkhdkaa.Eng
/- P65: watershed/watershedlaw2.lay: its run from loop to loop, as Lean printed it (a program of this session's wrote these rows). No condition. -/
namespace Go.Proofs.Ytnfgfdeidkhdkaa.Eng
set_option linter.unusedVariables false
set_option maxRecDepth 100000
noncomputable def ents65 : List (Nat × Ent) := []
noncomputable def mems65 : List (Nat × EntM) := []
noncomputable def E65 (fu : Nat) : Env := ⟨17, 1, semOf ents65, [], memOf mems65, [], [], fu⟩
theorem fuel65 : Fuel E65 := fun _ => rfl
noncomputable def kr65 : St → Option CV := endR
noncomputable def t65 (row : List Int) (b : Int) (d : Int) : Option Leaf :=
  bif Decidable.decide ((0 : Int) ≤ b) then
   bif Decidable.decide (b < (↑(List.length row) : Int)) then
    ob (row[Int.toNat b]?) fun x1 =>
     bif Decidable.decide ((0 : Int) ≤ d) then
      bif Decidable.decide (d < (↑(List.length row) : Int)) then
       ob (row[Int.toNat d]?) fun x2 =>
        bif Decidable.decide ((0 : Int) ≤ b) then
         bif Decidable.decide (b < (↑(List.length (List.set row (Int.toNat d) x1)) : Int)) then
          ob ((List.set row (Int.toNat d) x1)[Int.toNat b]?) fun x3 =>
           some (.ret (CV.sl SK.int (List.set (List.set row (Int.toNat d) x1) (Int.toNat b) d)))
         else
          none
        else
         none
      else
       none
     else
      none
   else
    none
  else
   none
theorem c65 (fu : Nat) (row : List Int) (b : Int) (d : Int) : cutB (E65 fu) kr65 Try.f65 (⟨parT 0 (.ref 90000 :: [.int .i64 b, .int .i64 d]), [(90000, some (.arr true .int row))]⟩) = t65 row b d := by kernel_rfl
def R65 (row : List Int) (b : Int) (d : Int) (r : List Int) : Prop := RunM E65 Try.f65 row [.int .i64 b, .int .i64 d] r
theorem run65 (row : List Int) (b : Int) (d : Int) (r : List Int) (h : Good E65 kr65 (t65 row b d) (.sl .int r)) : R65 row b d r := RunM.of fuel65 (fun fu => c65 fu row b d) h
noncomputable def ok65 (row : List Int) (b : Int) (d : Int) : Bool := okP (R65 row b d)
noncomputable def v65 (row : List Int) (b : Int) (d : Int) : List Int := valP (R65 row b d)
theorem sp65 (row : List Int) (b : Int) (d : Int) (r : List Int) (h : R65 row b d r) : ok65 row b d = true ∧ v65 row b d = r := okP_of h fun b hb => RunM.uniq hb h
theorem at65 : P.funcs[65]? = some Try.f65 := by kernel_rfl
theorem callable65 : callable 65 = true := by kernel_rfl
theorem semok65 : SemOk (semOf ents65) := EntsOk.sem (.nil)
theorem memok65 : MemOk (memOf mems65) := EntsMOk.mem (.nil)
noncomputable def ent65 : EntM := fun row args => match args with
  | [.int .i64 b, .int .i64 d] => some (ok65 row b d, v65 row b d)
  | _ => none
theorem entok65 : EntMOk 65 ent65 := fun l args l' h => by
  unfold ent65 at h
  split at h
  · simp only [Option.some.injEq, Prod.mk.injEq] at h
    obtain ⟨h, rfl⟩ := h
    exact ⟨RunM.calls (fun _ => semok65) (fun _ => memok65) (fun _ => rfl) (fun _ => Nat.one_pos) at65 rfl rfl (Nat.le_of_ble_eq_true rfl) (fun _ => rfl) (okP_val h), callable65⟩
  · cases h
end Go.Proofs.Ytnfgfdeidkhdkaa.Eng
/- P18: watershed/watershedlaw2.Plane: its run from loop to loop, as Lean printed it (a program of this session's wrote these rows). No condition. -/
namespace Go.Proofs.Ytnfgfdeidkhdkaa.Eng
set_option linter.unusedVariables false
set_option maxRecDepth 100000
noncomputable def ents18 : List (Nat × Ent) := [(22, ent22), (24, ent24), (64, ent64)]
noncomputable def mems18 : List (Nat × EntM) := [(65, ent65)]
noncomputable def E18 (fu : Nat) : Env := ⟨166, 0, semOf ents18, [], memOf mems18, [65], [(100003, ⟨[(3, some 1, .int), (3, some 2, .int), (3, some 3, .int)], [(0, none), (2, none), (2, some 0), (2, some 1), (2, some 2), (2, some 3), (3, none), (3, some 0), (3, some 1), (3, some 2), (3, some 3), (4, none)], [0, 2, 3, 4]⟩), (100016, ⟨[(12, none, .int), (3, some 1, .int), (3, some 2, .int), (3, some 3, .int)], [(0, none), (2, none), (2, some 0), (2, some 1), (2, some 2), (2, some 3), (3, none), (3, some 0), (3, some 1), (3, some 2), (3, some 3), (4, none), (5, none), (6, none), (7, none), (8, none), (9, none), (10, none), (12, none), (13, none)], [0, 2, 3, 4, 5, 6, 7, 8, 9, 10, 12, 13]⟩)], fu⟩
theorem fuel18 : Fuel E18 := fun _ => rfl
noncomputable def kr18 : St → Option CV := endK true Try.f18.results.toList
noncomputable def K18_3 : List Fr := theK Try.f18 100003
noncomputable def C18_3 : Code := theC Try.f18 100003
def s18_3 (l0 : List Int) (i4 : Int) (iM0_0 : Int) (lM0_1 : List Int) (lM0_2 : List Int) (lM0_3 : List Int) (iM1_0 : Int) (mM2 : List Int) (mM3 : List Int) (mM4 : List Int) : St := ⟨[(0, .sl .int l0), (2, .ptr 8000 0), (3, .ptr 8001 0), (4, .int .i64 i4)], [(8000, some (.cells 25 [.int .i64 iM0_0, .sl .int lM0_1, .sl .int lM0_2, .sl .int lM0_3])), (8001, some (.cells 25 [.int .i64 iM1_0, .ref 8002, .ref 8003, .ref 8004])), (8002, some (.arr true .int mM2)), (8003, some (.arr true .int mM3)), (8004, some (.arr true .int mM4))]⟩
noncomputable def a18_3 (l0 : List Int) (i4 : Int) (iM0_0 : Int) (lM0_1 : List Int) (lM0_2 : List Int) (lM0_3 : List Int) (iM1_0 : Int) (mM2 : List Int) (mM3 : List Int) (mM4 : List Int) : Leaf := .at K18_3 C18_3 (s18_3 l0 i4 iM0_0 lM0_1 lM0_2 lM0_3 iM1_0 mM2 mM3 mM4)
noncomputable def K18_16 : List Fr := theK Try.f18 100016
noncomputable def C18_16 : Code := theC Try.f18 100016
def s18_16 (l0 : List Int) (i4 : Int) (i5 : Int) (i6 : Int) (i7 : Int) (i8 : Int) (i9 : Int) (i13 : Int) (iM0_0 : Int) (lM0_1 : List Int) (lM0_2 : List Int) (lM0_3 : List Int) (iM1_0 : Int) (mM2 : List Int) (mM3 : List Int) (mM4 : List Int) (mM5 : List Int) (mM6 : List Int) : St := ⟨[(0, .sl .int l0), (2, .ptr 8000 0), (3, .ptr 8001 0), (4, .int .i64 i4), (5, .int .i64 i5), (6, .int .i64 i6), (7, .int .i64 i7), (8, .int .i64 i8), (9, .int .i64 i9), (10, .ref 8005), (12, .ref 8006), (13, .int .i64 i13)], [(8000, some (.cells 25 [.int .i64 iM0_0, .sl .int lM0_1, .sl .int lM0_2, .sl .int lM0_3])), (8001, some (.cells 25 [.int .i64 iM1_0, .ref 8002, .ref 8003, .ref 8004])), (8002, some (.arr true .int mM2)), (8003, some (.arr true .int mM3)), (8004, some (.arr true .int mM4)), (8005, some (.arr false .int mM5)), (8006, some (.arr true .int mM6))]⟩
noncomputable def a18_16 (l0 : List Int) (i4 : Int) (i5 : Int) (i6 : Int) (i7 : Int) (i8 : Int) (i9 : Int) (i13 : Int) (iM0_0 : Int) (lM0_1 : List Int) (lM0_2 : List Int) (lM0_3 : List Int) (iM1_0 : Int) (mM2 : List Int) (mM3 : List Int) (mM4 : List Int) (mM5 : List Int) (mM6 : List Int) : Leaf := .at K18_16 C18_16 (s18_16 l0 i4 i5 i6 i7 i8 i9 i13 iM0_0 lM0_1 lM0_2 lM0_3 iM1_0 mM2 mM3 mM4 mM5 mM6)
noncomputable def t18_3 (l0 : List Int) (i4 : Int) (iM0_0 : Int) (lM0_1 : List Int) (lM0_2 : List Int) (lM0_3 : List Int) (iM1_0 : Int) (mM2 : List Int) (mM3 : List Int) (mM4 : List Int) : Option Leaf :=
  bif Decidable.decide (i4 < (↑(List.length l0) : Int)) then
   bif Decidable.decide (i4 < (24 : Int)) then
    bif Decidable.decide ((0 : Int) ≤ i4) then
     ob (l0[Int.toNat i4]?) fun x1 =>
      bif ok22 x1 (1125899906842624 : Int) then
       bif ok64 (IntKind.wrap IntKind.i64 (Int.tdiv (v22 x1 (1125899906842624 : Int)) (30 : Int))) then
        bif ok64 (IntKind.wrap IntKind.i64 (Int.tdiv (v22 x1 (1125899906842624 : Int)) (7000 : Int))) then
         bif Decidable.decide ((↑(List.length mM2) : Int) = (0 : Int)) then
          bif Decidable.decide (Int.tmod (v22 x1 (1125899906842624 : Int)) (5 : Int) = (0 : Int)) then
           some (a18_3 l0 (IntKind.wrap IntKind.i64 (i4 + (1 : Int))) iM0_0 lM0_1 lM0_2 lM0_3 ((1 : Int)) ([(0 : Int), (0 : Int)]) ([(1 : Int), (0 : Int)]) ([v64 (IntKind.wrap IntKind.i64 (Int.tdiv (v22 x1 (1125899906842624 : Int)) (30 : Int))), v64 (IntKind.wrap IntKind.i64 (Int.tdiv (v22 x1 (1125899906842624 : Int)) (7000 : Int)))]))
          else
           some (a18_3 l0 (IntKind.wrap IntKind.i64 (i4 + (1 : Int))) iM0_0 lM0_1 lM0_2 lM0_3 ((2 : Int)) ([(0 : Int), (1 : Int)]) ([(0 : Int), (1 : Int)]) ([v64 (IntKind.wrap IntKind.i64 (Int.tdiv (v22 x1 (1125899906842624 : Int)) (30 : Int))), v64 (IntKind.wrap IntKind.i64 (Int.tdiv (v22 x1 (1125899906842624 : Int)) (7000 : Int)))]))
         else
          bif Decidable.decide ((↑(List.length mM2) : Int) = (0 : Int)) then
           none
          else
           bif ok24 iM1_0 mM2 mM3 mM4 then
            some (a18_16 l0 i4 (v22 x1 (1125899906842624 : Int)) ((↑(List.length mM2) : Int)) (v64 (IntKind.wrap IntKind.i64 (Int.tdiv (v22 x1 (1125899906842624 : Int)) (30 : Int)))) (v64 (IntKind.wrap IntKind.i64 (Int.tdiv (v22 x1 (1125899906842624 : Int)) (7000 : Int)))) (Int.tmod (IntKind.wrap IntKind.i64 (Int.tdiv (v22 x1 (1125899906842624 : Int)) (5 : Int))) (↑(List.length mM2) : Int)) ((0 : Int)) iM0_0 lM0_1 lM0_2 lM0_3 iM1_0 mM2 mM3 mM4 (Prod.fst (v24 iM1_0 mM2 mM3 mM4)) [])
           else
            none
        else
         none
       else
        none
      else
       none
    else
     none
   else
    some (.ret (CV.agg [CV.int IntKind.i64 iM1_0, CV.sl SK.int mM2, CV.sl SK.int mM3, CV.sl SK.int mM4]))
  else
   some (.ret (CV.agg [CV.int IntKind.i64 iM1_0, CV.sl SK.int mM2, CV.sl SK.int mM3, CV.sl SK.int mM4]))
theorem c18_3 (fu : Nat) (l0 : List Int) (i4 : Int) (iM0_0 : Int) (lM0_1 : List Int) (lM0_2 : List Int) (lM0_3 : List Int) (iM1_0 : Int) (mM2 : List Int) (mM3 : List Int) (mM4 : List Int) : cutL (E18 fu) kr18 K18_3 C18_3 (s18_3 l0 i4 iM0_0 lM0_1 lM0_2 lM0_3 iM1_0 mM2 mM3 mM4) = t18_3 l0 i4 iM0_0 lM0_1 lM0_2 lM0_3 iM1_0 mM2 mM3 mM4 := by kernel_rfl
theorem h18_3 (l0 : List Int) (i4 : Int) (iM0_0 : Int) (lM0_1 : List Int) (lM0_2 : List Int) (lM0_3 : List Int) (iM1_0 : Int) (mM2 : List Int) (mM3 : List Int) (mM4 : List Int) (r : CV) (h : Good E18 kr18 (t18_3 l0 i4 iM0_0 lM0_1 lM0_2 lM0_3 iM1_0 mM2 mM3 mM4) r) : Lead E18 kr18 r (a18_3 l0 i4 iM0_0 lM0_1 lM0_2 lM0_3 iM1_0 mM2 mM3 mM4) := Lead.at fuel18 (fun fu => c18_3 fu l0 i4 iM0_0 lM0_1 lM0_2 lM0_3 iM1_0 mM2 mM3 mM4) h
noncomputable def t18_16 (l0 : List Int) (i4 : Int) (i5 : Int) (i6 : Int) (i7 : Int) (i8 : Int) (i9 : Int) (i13 : Int) (iM0_0 : Int) (lM0_1 : List Int) (lM0_2 : List Int) (lM0_3 : List Int) (iM1_0 : Int) (mM2 : List Int) (mM3 : List Int) (mM4 : List Int) (mM5 : List Int) (mM6 : List Int) : Option Leaf :=
  bif Decidable.decide (i13 < i6) then
   bif Decidable.decide ((0 : Int) ≤ i13) then
    bif Decidable.decide (i13 < (↑(List.length mM3) : Int)) then
     ob (mM3[Int.toNat i13]?) fun x2 =>
      bif Decidable.decide ((0 : Int) ≤ x2) then
       bif Decidable.decide (x2 < (↑(List.length mM5) : Int)) then
        ob (mM5[Int.toNat x2]?) fun x3 =>
         bif Decidable.decide ((0 : Int) ≤ i9) then
          bif Decidable.decide (i9 < (↑(List.length mM3) : Int)) then
           ob (mM3[Int.toNat i9]?) fun x4 =>
            bif Decidable.decide ((0 : Int) ≤ x4) then
             bif Decidable.decide (x4 < (↑(List.length mM5) : Int)) then
              ob (mM5[Int.toNat x4]?) fun x5 =>
               bif Decidable.decide (x3 = x5) then
                bif Nat.ble (List.length mM6 + List.length [i13]) (4294967296 : Nat) then
                 some (a18_16 l0 i4 i5 i6 i7 i8 i9 (IntKind.wrap IntKind.i64 (i13 + (1 : Int))) iM0_0 lM0_1 lM0_2 lM0_3 iM1_0 mM2 mM3 mM4 mM5 (mM6 ++ [i13]))
                else
                 none
               else
                some (a18_16 l0 i4 i5 i6 i7 i8 i9 (IntKind.wrap IntKind.i64 (i13 + (1 : Int))) iM0_0 lM0_1 lM0_2 lM0_3 iM1_0 mM2 mM3 mM4 mM5 mM6)
             else
              none
            else
             none
          else
           none
         else
          none
       else
        none
      else
       none
    else
     none
   else
    none
  else
   bif Decidable.decide ((↑(List.length mM6) : Int) = (0 : Int)) then
    none
   else
    bif Decidable.decide ((0 : Int) ≤ Int.tmod (IntKind.wrap IntKind.i64 (Int.tdiv i5 (1200 : Int))) (↑(List.length mM6) : Int)) then
     bif Decidable.decide (Int.tmod (IntKind.wrap IntKind.i64 (Int.tdiv i5 (1200 : Int))) (↑(List.length mM6) : Int) < (↑(List.length mM6) : Int)) then
      ob (mM6[Int.toNat (Int.tmod (IntKind.wrap IntKind.i64 (Int.tdiv i5 (1200 : Int))) (↑(List.length mM6) : Int))]?) fun x6 =>
       bif Decidable.decide ((0 : Int) ≤ x6) then
        bif Decidable.decide (x6 < (↑(List.length mM2) : Int)) then
         ob (mM2[Int.toNat x6]?) fun x7 =>
          bif Decidable.decide (Int.tmod i5 (5 : Int) < (2 : Int)) then
           bif Nat.ble (List.length mM2) (4294967296 : Nat) then
            bif Decidable.decide ((0 : Int) ≤ i9) then
             bif Decidable.decide (i9 < (↑(List.length mM2) : Int)) then
              ob (mM2[Int.toNat i9]?) fun x8 =>
               bif Nat.ble (List.length mM2 + List.length [x8, iM1_0]) (4294967296 : Nat) then
                bif Nat.ble (List.length mM3) (4294967296 : Nat) then
                 bif Nat.ble (List.length mM3 + List.length [i6, IntKind.wrap IntKind.i64 (i6 + (1 : Int))]) (4294967296 : Nat) then
                  bif Nat.ble (List.length mM4) (4294967296 : Nat) then
                   bif Nat.ble (List.length mM4 + List.length [i7, i8]) (4294967296 : Nat) then
                    bif ok65 (mM3 ++ [i6, IntKind.wrap IntKind.i64 (i6 + (1 : Int))]) i9 i6 && Decidable.decide (List.length (v65 (mM3 ++ [i6, IntKind.wrap IntKind.i64 (i6 + (1 : Int))]) i9 i6) = List.length (mM3 ++ [i6, IntKind.wrap IntKind.i64 (i6 + (1 : Int))])) then
                     bif Decidable.decide ((2 : Int) ≤ Int.tmod i5 (5 : Int)) then
                      bif Decidable.decide (x6 = i9) then
                       bif ok65 (v65 (mM3 ++ [i6, IntKind.wrap IntKind.i64 (i6 + (1 : Int))]) i9 i6) i6 (IntKind.wrap IntKind.i64 (i6 + (1 : Int))) && Decidable.decide (List.length (v65 (v65 (mM3 ++ [i6, IntKind.wrap IntKind.i64 (i6 + (1 : Int))]) i9 i6) i6 (IntKind.wrap IntKind.i64 (i6 + (1 : Int)))) = List.length (v65 (mM3 ++ [i6, IntKind.wrap IntKind.i64 (i6 + (1 : Int))]) i9 i6)) then
                        some (a18_3 l0 (IntKind.wrap IntKind.i64 (i4 + (1 : Int))) iM0_0 lM0_1 lM0_2 lM0_3 (IntKind.wrap IntKind.i64 (iM1_0 + (1 : Int))) (mM2 ++ [x8, iM1_0]) (v65 (v65 (mM3 ++ [i6, IntKind.wrap IntKind.i64 (i6 + (1 : Int))]) i9 i6) i6 (IntKind.wrap IntKind.i64 (i6 + (1 : Int)))) (mM4 ++ [i7, i8]))
                       else
                        none
                      else
                       bif ok65 (v65 (mM3 ++ [i6, IntKind.wrap IntKind.i64 (i6 + (1 : Int))]) i9 i6) x6 (IntKind.wrap IntKind.i64 (i6 + (1 : Int))) && Decidable.decide (List.length (v65 (v65 (mM3 ++ [i6, IntKind.wrap IntKind.i64 (i6 + (1 : Int))]) i9 i6) x6 (IntKind.wrap IntKind.i64 (i6 + (1 : Int)))) = List.length (v65 (mM3 ++ [i6, IntKind.wrap IntKind.i64 (i6 + (1 : Int))]) i9 i6)) then
                        some (a18_3 l0 (IntKind.wrap IntKind.i64 (i4 + (1 : Int))) iM0_0 lM0_1 lM0_2 lM0_3 (IntKind.wrap IntKind.i64 (iM1_0 + (1 : Int))) (mM2 ++ [x8, iM1_0]) (v65 (v65 (mM3 ++ [i6, IntKind.wrap IntKind.i64 (i6 + (1 : Int))]) i9 i6) x6 (IntKind.wrap IntKind.i64 (i6 + (1 : Int)))) (mM4 ++ [i7, i8]))
                       else
                        none
                     else
                      some (a18_3 l0 (IntKind.wrap IntKind.i64 (i4 + (1 : Int))) iM0_0 lM0_1 lM0_2 lM0_3 (IntKind.wrap IntKind.i64 (iM1_0 + (1 : Int))) (mM2 ++ [x8, iM1_0]) (v65 (mM3 ++ [i6, IntKind.wrap IntKind.i64 (i6 + (1 : Int))]) i9 i6) (mM4 ++ [i7, i8]))
                    else
                     none
                   else
                    none
                  else
                   none
                 else
                  none
                else
                 none
               else
                none
             else
              none
            else
             none
           else
            none
          else
           bif Nat.ble (List.length mM2) (4294967296 : Nat) then
            bif Decidable.decide ((0 : Int) ≤ i9) then
             bif Decidable.decide (i9 < (↑(List.length mM2) : Int)) then
              ob (mM2[Int.toNat i9]?) fun x9 =>
               bif Nat.ble (List.length mM2 + List.length [x9, x7]) (4294967296 : Nat) then
                bif Nat.ble (List.length mM3) (4294967296 : Nat) then
                 bif Nat.ble (List.length mM3 + List.length [i6, IntKind.wrap IntKind.i64 (i6 + (1 : Int))]) (4294967296 : Nat) then
                  bif Nat.ble (List.length mM4) (4294967296 : Nat) then
                   bif Nat.ble (List.length mM4 + List.length [i7, i8]) (4294967296 : Nat) then
                    bif ok65 (mM3 ++ [i6, IntKind.wrap IntKind.i64 (i6 + (1 : Int))]) i9 i6 && Decidable.decide (List.length (v65 (mM3 ++ [i6, IntKind.wrap IntKind.i64 (i6 + (1 : Int))]) i9 i6) = List.length (mM3 ++ [i6, IntKind.wrap IntKind.i64 (i6 + (1 : Int))])) then
                     bif Decidable.decide ((2 : Int) ≤ Int.tmod i5 (5 : Int)) then
                      bif Decidable.decide (x6 = i9) then
                       bif ok65 (v65 (mM3 ++ [i6, IntKind.wrap IntKind.i64 (i6 + (1 : Int))]) i9 i6) i6 (IntKind.wrap IntKind.i64 (i6 + (1 : Int))) && Decidable.decide (List.length (v65 (v65 (mM3 ++ [i6, IntKind.wrap IntKind.i64 (i6 + (1 : Int))]) i9 i6) i6 (IntKind.wrap IntKind.i64 (i6 + (1 : Int)))) = List.length (v65 (mM3 ++ [i6, IntKind.wrap IntKind.i64 (i6 + (1 : Int))]) i9 i6)) then
                        some (a18_3 l0 (IntKind.wrap IntKind.i64 (i4 + (1 : Int))) iM0_0 lM0_1 lM0_2 lM0_3 iM1_0 (mM2 ++ [x9, x7]) (v65 (v65 (mM3 ++ [i6, IntKind.wrap IntKind.i64 (i6 + (1 : Int))]) i9 i6) i6 (IntKind.wrap IntKind.i64 (i6 + (1 : Int)))) (mM4 ++ [i7, i8]))
                       else
                        none
                      else
                       bif ok65 (v65 (mM3 ++ [i6, IntKind.wrap IntKind.i64 (i6 + (1 : Int))]) i9 i6) x6 (IntKind.wrap IntKind.i64 (i6 + (1 : Int))) && Decidable.decide (List.length (v65 (v65 (mM3 ++ [i6, IntKind.wrap IntKind.i64 (i6 + (1 : Int))]) i9 i6) x6 (IntKind.wrap IntKind.i64 (i6 + (1 : Int)))) = List.length (v65 (mM3 ++ [i6, IntKind.wrap IntKind.i64 (i6 + (1 : Int))]) i9 i6)) then
                        some (a18_3 l0 (IntKind.wrap IntKind.i64 (i4 + (1 : Int))) iM0_0 lM0_1 lM0_2 lM0_3 iM1_0 (mM2 ++ [x9, x7]) (v65 (v65 (mM3 ++ [i6, IntKind.wrap IntKind.i64 (i6 + (1 : Int))]) i9 i6) x6 (IntKind.wrap IntKind.i64 (i6 + (1 : Int)))) (mM4 ++ [i7, i8]))
                       else
                        none
                     else
                      some (a18_3 l0 (IntKind.wrap IntKind.i64 (i4 + (1 : Int))) iM0_0 lM0_1 lM0_2 lM0_3 iM1_0 (mM2 ++ [x9, x7]) (v65 (mM3 ++ [i6, IntKind.wrap IntKind.i64 (i6 + (1 : Int))]) i9 i6) (mM4 ++ [i7, i8]))
                    else
                     none
                   else
                    none
                  else
                   none
                 else
                  none
                else
                 none
               else
                none
             else
              none
            else
             none
           else
            none
        else
         none
       else
        none
     else
      none
    else
     none
theorem c18_16 (fu : Nat) (l0 : List Int) (i4 : Int) (i5 : Int) (i6 : Int) (i7 : Int) (i8 : Int) (i9 : Int) (i13 : Int) (iM0_0 : Int) (lM0_1 : List Int) (lM0_2 : List Int) (lM0_3 : List Int) (iM1_0 : Int) (mM2 : List Int) (mM3 : List Int) (mM4 : List Int) (mM5 : List Int) (mM6 : List Int) : cutL (E18 fu) kr18 K18_16 C18_16 (s18_16 l0 i4 i5 i6 i7 i8 i9 i13 iM0_0 lM0_1 lM0_2 lM0_3 iM1_0 mM2 mM3 mM4 mM5 mM6) = t18_16 l0 i4 i5 i6 i7 i8 i9 i13 iM0_0 lM0_1 lM0_2 lM0_3 iM1_0 mM2 mM3 mM4 mM5 mM6 := by kernel_rfl
theorem h18_16 (l0 : List Int) (i4 : Int) (i5 : Int) (i6 : Int) (i7 : Int) (i8 : Int) (i9 : Int) (i13 : Int) (iM0_0 : Int) (lM0_1 : List Int) (lM0_2 : List Int) (lM0_3 : List Int) (iM1_0 : Int) (mM2 : List Int) (mM3 : List Int) (mM4 : List Int) (mM5 : List Int) (mM6 : List Int) (r : CV) (h : Good E18 kr18 (t18_16 l0 i4 i5 i6 i7 i8 i9 i13 iM0_0 lM0_1 lM0_2 lM0_3 iM1_0 mM2 mM3 mM4 mM5 mM6) r) : Lead E18 kr18 r (a18_16 l0 i4 i5 i6 i7 i8 i9 i13 iM0_0 lM0_1 lM0_2 lM0_3 iM1_0 mM2 mM3 mM4 mM5 mM6) := Lead.at fuel18 (fun fu => c18_16 fu l0 i4 i5 i6 i7 i8 i9 i13 iM0_0 lM0_1 lM0_2 lM0_3 iM1_0 mM2 mM3 mM4 mM5 mM6) h
noncomputable def t18 (ns : List Int) : Option Leaf :=
  some (a18_3 ns ((0 : Int)) ((0 : Int)) [] [] [] ((1 : Int)) [] [] [])
theorem c18 (fu : Nat) (ns : List Int) : cutB (E18 fu) kr18 Try.f18 (⟨parT 0 [.sl .int ns], []⟩) = t18 ns := by kernel_rfl
def R18 (ns : List Int) (r : NetV) : Prop := RunF E18 true Try.f18 [.sl .int ns] (.agg [.int .i64 r.N, .sl .int r.T, .sl .int r.X, .sl .int r.C])
theorem run18 (ns : List Int) (r : NetV) (h : Good E18 kr18 (t18 ns) (.agg [.int .i64 r.N, .sl .int r.T, .sl .int r.X, .sl .int r.C])) : R18 ns r := RunF.of fuel18 (fun fu => c18 fu ns) h
noncomputable def ok18 (ns : List Int) : Bool := okP (R18 ns)
noncomputable def v18 (ns : List Int) : NetV := valP (R18 ns)
theorem sp18 (ns : List Int) (r : NetV) (h : R18 ns r) : ok18 ns = true ∧ v18 ns = r := okP_of h fun b hb => by
  have := RunF.uniq hb h
  cases b; cases r; simp_all
theorem at18 : P.funcs[18]? = some Try.f18 := by kernel_rfl
theorem callable18 : callable 18 = true := by kernel_rfl
theorem semok18 : SemOk (semOf ents18) := EntsOk.sem (.cons entok22 (.cons entok24 (.cons entok64 (.nil))))
theorem memok18 : MemOk (memOf mems18) := EntsMOk.mem (.cons entok65 (.nil))
noncomputable def ent18 : Ent := fun args => match args with
  | [.sl .int ns] => some (true, ok18 ns, .agg [.int .i64 (v18 ns).N, .sl .int (v18 ns).T, .sl .int (v18 ns).X, .sl .int (v18 ns).C])
  | _ => none
theorem entok18 : EntOk 18 ent18 := fun args own r h => by
  unfold ent18 at h
  split at h
  · simp only [Option.some.injEq, Prod.mk.injEq] at h
    obtain ⟨rfl, h, rfl⟩ := h
    exact ⟨RunF.calls (fun _ => semok18) (fun _ => memok18) at18 rfl (Nat.le_of_ble_eq_true rfl) (fun _ => rfl) (okP_val h), callable18⟩
  · cases h
end Go.Proofs.Ytnfgfdeidkhdkaa.Eng
/- Lr: Plane: whatever the numbers are, a plane net is grown. -/
namespace Go.Proofs.Ytnfgfdeidkhdkaa.Eng
set_option linter.unusedVariables false
set_option linter.unusedSimpArgs false
theorem f65 {row : List Int} {b d : Int} (b0 : 0 ≤ b) (b1 : b < (row.length : Int)) (d0 : 0 ≤ d) (d1 : d < (row.length : Int)) : ok65 row b d = true ∧ v65 row b d = layR row b d :=
  sp65 _ _ _ _ (run65 _ _ _ _ (by
    unfold t65
    simp only [List.length_set]
    refine good_pos (by omega) (good_pos (by omega) (good_gi b0 b1 ?_))
    refine good_pos (by omega) (good_pos (by omega) (good_gi d0 d1 ?_))
    refine good_pos (by omega) (good_pos (by omega) (good_gi b0 (by rw [List.length_set]; exact b1) ?_))
    exact good_end rfl))
/-- the net without darts, with an edge, with a loop -/
theorem plane_none : PlaneOk ⟨1, [], [], []⟩ := by
  refine ⟨⟨by simp, by simp, by simp, by simp, by simp, by simp, fun d d0 d1 => by simp at d1; omega, fun d d0 d1 => by simp at d1; omega⟩, ⟨⟨fun d d0 d1 => by simp at d1; omega, fun d e d0 d1 => by simp at d1; omega⟩, fun d d0 d1 => by simp at d1; omega, fun d e d0 d1 => by simp at d1; omega⟩, fun d d0 d1 => by simp at d1; omega, fun v v0 v1 => ?_, ?_⟩
  · simp only at v1
    obtain rfl : v = 0 := by omega
    exact .refl
  · have : nf [] = 1 := rfl
    simp only [this]; rfl
theorem two_cases {d : Int} {l : List Int} (hl : (l.length : Int) = 2) (d0 : 0 ≤ d) (d1 : d < (l.length : Int)) : d = 0 ∨ d = 1 := by omega
theorem plane_edge {p q : Int} (hp : 0 ≤ p ∧ p ≤ 2147483648) (hq : 0 ≤ q ∧ q ≤ 2147483648) : PlaneOk ⟨2, [0, 1], [0, 1], [p, q]⟩ := by
  have hnf : nf [0, 1] = 1 := by
    rw [nf_nc (by simp)]
    show cnt (RootS (Orb (stb [0, 1]))) 2 = 1
    rw [show (2 : Int) = 1 + 1 by omega, cnt_no (by omega) (fun hr => hr 0 (by omega) (by omega) ⟨1, rfl⟩), show (1 : Int) = 0 + 1 by omega, cnt_yes (by omega) (fun u u0 u1 => by omega), cnt_zero]
  refine ⟨⟨by simp, by simp, by simp, by simp, by simp, by simp, fun d d0 d1 => ?_, fun d d0 d1 => ?_⟩, ⟨⟨fun d d0 d1 => ?_, fun d e d0 d1 e0 e1 => ?_⟩, fun d d0 d1 => ?_, fun d e d0 d1 e0 e1 => ?_⟩, fun d d0 d1 => ?_, fun v v0 v1 => ?_, ?_⟩
  · rcases two_cases (l := [0, 1]) rfl d0 d1 with rfl | rfl <;> (simp only; decide)
  · rcases two_cases (l := [0, 1]) rfl d0 d1 with rfl | rfl <;> (simp only; decide)
  · rcases two_cases (l := [0, 1]) rfl d0 d1 with rfl | rfl <;> (simp only; decide)
  · rcases two_cases (l := [0, 1]) rfl d0 d1 with rfl | rfl <;> rcases two_cases (l := [0, 1]) rfl e0 e1 with rfl | rfl <;> (simp only; decide)
  · rcases two_cases (l := [0, 1]) rfl d0 d1 with rfl | rfl <;> (simp only; decide)
  · rcases two_cases (l := [0, 1]) rfl d0 d1 with rfl | rfl <;> rcases two_cases (l := [0, 1]) rfl e0 e1 with rfl | rfl
    · exact fun _ => .refl _ _
    · intro h; exact absurd h (by simp only; decide)
    · intro h; exact absurd h (by simp only; decide)
    · exact fun _ => .refl _ _
  · rcases two_cases (l := [p, q]) rfl d0 d1 with rfl | rfl
    · exact hp
    · exact hq
  · simp only at v1
    have : v = 0 ∨ v = 1 := by omega
    rcases this with rfl | rfl
    · exact .refl
    · exact (Conn.refl (T := [0, 1]) (u := 0)).step (d := 0) (by omega) (by simp) rfl
  · simp only [hnf]; rfl
theorem plane_loop {p q : Int} (hp : 0 ≤ p ∧ p ≤ 2147483648) (hq : 0 ≤ q ∧ q ≤ 2147483648) : PlaneOk ⟨1, [0, 0], [1, 0], [p, q]⟩ := by
  have hfix : ∀ n, it (stb [1, 0]) n 0 = 0 := fun n => by
    induction n with
    | zero => rfl
    | succ n ih => show stb [1, 0] (it (stb [1, 0]) n 0) = 0; rw [ih]; rfl
  have hnf : nf [1, 0] = 2 := by
    rw [nf_nc (by simp)]
    show cnt (RootS (Orb (stb [1, 0]))) 2 = 2
    rw [show (2 : Int) = 1 + 1 by omega, cnt_yes (by omega) (fun u u0 u1 ho => by
      obtain rfl : u = 0 := by omega
      obtain ⟨n, hn⟩ := ho
      rw [hfix n] at hn; omega), show cnt (RootS (Orb (stb [1, 0]))) 1 = 1 from by rw [show (1 : Int) = 0 + 1 by omega, cnt_yes (by omega) (fun u u0 u1 => by omega), cnt_zero]]
  refine ⟨⟨by simp, by simp, by simp, by simp, by simp, by simp, fun d d0 d1 => ?_, fun d d0 d1 => ?_⟩, ⟨⟨fun d d0 d1 => ?_, fun d e d0 d1 e0 e1 => ?_⟩, fun d d0 d1 => ?_, fun d e d0 d1 e0 e1 => ?_⟩, fun d d0 d1 => ?_, fun v v0 v1 => ?_, ?_⟩
  · rcases two_cases (l := [1, 0]) rfl d0 d1 with rfl | rfl <;> (simp only; decide)
  · rcases two_cases (l := [0, 0]) rfl d0 d1 with rfl | rfl <;> (simp only; decide)
  · rcases two_cases (l := [0, 0]) rfl d0 d1 with rfl | rfl <;> (simp only; decide)
  · rcases two_cases (l := [0, 0]) rfl d0 d1 with rfl | rfl <;> rcases two_cases (l := [0, 0]) rfl e0 e1 with rfl | rfl <;> (simp only; decide)
  · rcases two_cases (l := [0, 0]) rfl d0 d1 with rfl | rfl <;> (simp only; decide)
  · rcases two_cases (l := [0, 0]) rfl d0 d1 with rfl | rfl <;> rcases two_cases (l := [0, 0]) rfl e0 e1 with rfl | rfl
    · exact fun _ => .refl _ _
    · exact fun _ => ⟨1, rfl⟩
    · exact fun _ => ⟨1, rfl⟩
    · exact fun _ => .refl _ _
  · rcases two_cases (l := [p, q]) rfl d0 d1 with rfl | rfl
    · exact hp
    · exact hq
  · simp only at v1
    obtain rfl : v = 0 := by omega
    exact .refl
  · simp only [hnf]; rfl
/-- how far it has grown -/
structure Grown (m : NetV) (i : Int) : Prop where
  ok : PlaneOk m
  t : (m.T.length : Int) ≤ 2 * i
  n : m.N ≤ i + 1
section
variable {ns : List Int} {n' : Int} {a b c : List Int}
/-- darts whose corners are of one face -/
structure SameF (X : List Int) (e i : Int) (l : List Int) : Prop where
  mem : ∀ j : Int, 0 ≤ j → j < (l.length : Int) → 0 ≤ gi l j ∧ gi l j < i ∧ Orb (stb X) (gi X e) (gi X (gi l j))
  some : e < i → 0 < (l.length : Int)
  len : (l.length : Int) ≤ i
set_option maxHeartbeats 2000000 in
theorem l18_16 {i k p q e : Int} {m : NetV} (hm : Grown m i) (hi : 0 ≤ i ∧ i < 24) (hk : 0 ≤ k ∧ k < 1125899906842624) (hp : 0 ≤ p ∧ p ≤ 2147483648) (hq : 0 ≤ q ∧ q ≤ 2147483648) (he : 0 ≤ e ∧ e < (m.T.length : Int)) {F : List Int} {j : Int} (hF : PartedS m.X.length (Orb (stb m.X)) F j)
    (nxt : ∀ m', Grown m' (i + 1) → ∃ r, PlaneOk r ∧ (r.T.length : Int) ≤ 48 ∧ r.N ≤ 25 ∧ Lead E18 kr18 (.agg [.int .i64 r.N, .sl .int r.T, .sl .int r.X, .sl .int r.C]) (a18_3 ns (i + 1) n' a b c m'.N m'.T m'.X m'.C)) :
    ∀ (n : Nat) (x : Int) (l : List Int), 0 ≤ x → x ≤ m.T.length → (m.T.length : Int) - x = n → SameF m.X e x l →
      ∃ r, PlaneOk r ∧ (r.T.length : Int) ≤ 48 ∧ r.N ≤ 25 ∧ Lead E18 kr18 (.agg [.int .i64 r.N, .sl .int r.T, .sl .int r.X, .sl .int r.C]) (a18_16 ns i k (m.T.length : Int) p q e x n' a b c m.N m.T m.X m.C F l) := by
  have ok := hm.ok
  have hs := ok.s
  have hx := hs.x
  have hc := hs.c
  have hT := hm.t
  have hN := hm.n
  have hev := hs.e
  have hpb : PermOn (stb m.X) m.X.length := by rw [hx]; exact perm_ab' hev ok.t.perm
  have hxr := hs.xr
  have hfl := hF.len
  have hn0 := hs.n0
  intro n
  induction n with
  | zero =>
    intro x l x0 x1 x2 hl
    obtain rfl : x = m.T.length := by omega
    have hlen := hl.len
    have hpos := hl.some he.2
    have et : Int.tdiv k 1200 = k / 1200 := Int.tdiv_eq_ediv_of_nonneg hk.1
    have em : Int.tmod (k / 1200) (l.length : Int) = k / 1200 % l.length := Int.tmod_eq_emod_of_nonneg (by omega)
    have e5 : Int.tmod k 5 = k % 5 := Int.tmod_eq_emod_of_nonneg hk.1
    have r0 : 0 ≤ k / 1200 % (l.length : Int) := Int.emod_nonneg _ (by omega)
    have r1 : k / 1200 % (l.length : Int) < l.length := Int.emod_lt_of_pos _ (by omega)
    obtain ⟨g0, g1, g2⟩ := hl.mem _ r0 r1
    generalize hg : gi l (k / 1200 % (l.length : Int)) = g at g0 g1 g2
    have lX1 : ((m.X ++ [(m.T.length : Int), (m.T.length : Int) + 1]).length : Int) = m.T.length + 2 := by simp; omega
    obtain ⟨a1, a2⟩ := f65 (row := m.X ++ [(m.T.length : Int), (m.T.length : Int) + 1]) (b := e) (d := m.T.length) he.1 (by omega) (by omega) (by omega)
    have lX2 : (layR (m.X ++ [(m.T.length : Int), (m.T.length : Int) + 1]) e m.T.length).length = (m.X ++ [(m.T.length : Int), (m.T.length : Int) + 1]).length := layR_len _ _ _
    have len2 : ∀ x y : Int, ([x, y] : List Int).length = 2 := fun _ _ => rfl
    have pok := ok
    by_cases c5 : k % 5 < 2
    · have hok := step_pend (p := p) (q := q) (N := m.N) (T := m.T) (X := m.X) (C := m.C) ok he.1 he.2 (by omega) (by omega) hp hq
      obtain ⟨r, q1, q2, q3, q4⟩ := nxt _ ⟨hok, by simp only [List.length_append, List.length_cons, List.length_nil]; omega, by simp only; omega⟩
      refine ⟨r, q1, q2, q3, h18_16 _ _ _ _ _ _ _ _ _ _ _ _ _ _ _ _ _ _ _ ?_⟩
      unfold t18_16
      simp (disch := omega) only [wrap_in, et]
      rw [em, e5]
      repeat (first | (refine good_pos (by omega) ?_) | (refine good_pos trivial ?_) | (refine good_neg (by omega) ?_) | (refine good_npos (by omega) ?_) | (refine good_nneg (by omega) ?_) | (refine good_gi (by omega) (by omega) ?_) | (refine good_gb (by omega) (by omega) ?_) | (refine good_ble (by omega) ?_))
      rw [hg]
      simp only [len2]
      repeat (first | (refine good_pos (by omega) ?_) | (refine good_pos trivial ?_) | (refine good_neg (by omega) ?_) | (refine good_npos (by omega) ?_) | (refine good_nneg (by omega) ?_) | (refine good_gi (by omega) (by omega) ?_) | (refine good_gb (by omega) (by omega) ?_) | (refine good_ble (by omega) ?_))
      refine good_true (by rw [a1, a2, lX2]; simp) ?_
      repeat (first | (refine good_pos (by omega) ?_) | (refine good_pos trivial ?_) | (refine good_neg (by omega) ?_) | (refine good_npos (by omega) ?_) | (refine good_nneg (by omega) ?_) | (refine good_gi (by omega) (by omega) ?_) | (refine good_gb (by omega) (by omega) ?_) | (refine good_ble (by omega) ?_))
      rw [a2]
      exact good_at q4
    · by_cases cg : g = e
      · subst cg
        obtain ⟨b1, b2⟩ := f65 (row := layR (m.X ++ [(m.T.length : Int), (m.T.length : Int) + 1]) g m.T.length) (b := m.T.length) (d := (m.T.length : Int) + 1) (by omega) (by omega) (by omega) (by omega)
        have hok := step_loop (p := p) (q := q) (N := m.N) (T := m.T) (X := m.X) (C := m.C) ok he.1 he.2 (by omega) hp hq
        obtain ⟨r, q1, q2, q3, q4⟩ := nxt _ ⟨hok, by simp only [List.length_append, List.length_cons, List.length_nil]; omega, by simp only; omega⟩
        refine ⟨r, q1, q2, q3, h18_16 _ _ _ _ _ _ _ _ _ _ _ _ _ _ _ _ _ _ _ ?_⟩
        unfold t18_16
        simp (disch := omega) only [wrap_in, et]
        rw [em, e5]
        repeat (first | (refine good_pos (by omega) ?_) | (refine good_pos trivial ?_) | (refine good_neg (by omega) ?_) | (refine good_npos (by omega) ?_) | (refine good_nneg (by omega) ?_) | (refine good_gi (by omega) (by omega) ?_) | (refine good_gb (by omega) (by omega) ?_) | (refine good_ble (by omega) ?_))
        rw [hg]
        simp only [len2]
        repeat (first | (refine good_pos (by omega) ?_) | (refine good_pos trivial ?_) | (refine good_neg (by omega) ?_) | (refine good_npos (by omega) ?_) | (refine good_nneg (by omega) ?_) | (refine good_gi (by omega) (by omega) ?_) | (refine good_gb (by omega) (by omega) ?_) | (refine good_ble (by omega) ?_))
        refine good_true (by rw [a1, a2, lX2]; simp) ?_
        rw [a2]
        repeat (first | (refine good_pos (by omega) ?_) | (refine good_pos trivial ?_) | (refine good_neg (by omega) ?_) | (refine good_npos (by omega) ?_) | (refine good_nneg (by omega) ?_) | (refine good_gi (by omega) (by omega) ?_) | (refine good_gb (by omega) (by omega) ?_) | (refine good_ble (by omega) ?_))
        refine good_true (by rw [b1, b2, layR_len]; simp) ?_
        rw [b2]
        exact good_at q4
      · obtain ⟨b1, b2⟩ := f65 (row := layR (m.X ++ [(m.T.length : Int), (m.T.length : Int) + 1]) e m.T.length) (b := g) (d := (m.T.length : Int) + 1) (by omega) (by omega) (by omega) (by omega)
        have hok := step_edge (p := p) (q := q) (N := m.N) (T := m.T) (X := m.X) (C := m.C) ok he.1 he.2 g0 g1 cg g2 (by omega) hp hq
        obtain ⟨r, q1, q2, q3, q4⟩ := nxt _ ⟨hok, by simp only [List.length_append, List.length_cons, List.length_nil]; omega, by simp only; omega⟩
        refine ⟨r, q1, q2, q3, h18_16 _ _ _ _ _ _ _ _ _ _ _ _ _ _ _ _ _ _ _ ?_⟩
        unfold t18_16
        simp (disch := omega) only [wrap_in, et]
        rw [em, e5]
        repeat (first | (refine good_pos (by omega) ?_) | (refine good_pos trivial ?_) | (refine good_neg (by omega) ?_) | (refine good_npos (by omega) ?_) | (refine good_nneg (by omega) ?_) | (refine good_gi (by omega) (by omega) ?_) | (refine good_gb (by omega) (by omega) ?_) | (refine good_ble (by omega) ?_))
        rw [hg]
        simp only [len2]
        repeat (first | (refine good_pos (by omega) ?_) | (refine good_pos trivial ?_) | (refine good_neg (by omega) ?_) | (refine good_npos (by omega) ?_) | (refine good_nneg (by omega) ?_) | (refine good_gi (by omega) (by omega) ?_) | (refine good_gb (by omega) (by omega) ?_) | (refine good_ble (by omega) ?_))
        refine good_true (by rw [a1, a2, lX2]; simp) ?_
        rw [a2]
        repeat (first | (refine good_pos (by omega) ?_) | (refine good_pos trivial ?_) | (refine good_neg (by omega) ?_) | (refine good_npos (by omega) ?_) | (refine good_nneg (by omega) ?_) | (refine good_gi (by omega) (by omega) ?_) | (refine good_gb (by omega) (by omega) ?_) | (refine good_ble (by omega) ?_))
        refine good_true (by rw [b1, b2, layR_len]; simp) ?_
        rw [b2]
        exact good_at q4
  | succ n ih =>
    intro x l x0 x1 x2 hl
    have hxx := hxr x x0 (by omega)
    have hxe := hxr e he.1 (by omega)
    have hlen := hl.len
    have hiff : gi F (gi m.X x) = gi F (gi m.X e) ↔ Orb (stb m.X) (gi m.X x) (gi m.X e) := hF.eq_iff hpb.eqv ⟨hxx.1, by omega⟩ ⟨hxe.1, by omega⟩
    by_cases cf : gi F (gi m.X x) = gi F (gi m.X e)
    · have ho := hpb.symm hxx.1 (by omega) (hiff.1 cf)
      have hl' : SameF m.X e (x + 1) (l ++ [x]) := by
        refine ⟨fun j j0 j1 => ?_, fun _ => by simp <;> omega, by simp <;> omega⟩
        have j1' : j < (l.length : Int) + 1 := by simpa using j1
        by_cases cj : j < l.length
        · rw [gi_append_left cj j0]
          have := hl.mem j j0 cj
          exact ⟨this.1, by omega, this.2.2⟩
        · have : j - l.length = 0 := by omega
          rw [gi_append_right (by omega), this]
          exact ⟨x0, by show x < x + 1; omega, ho⟩
      obtain ⟨r, q1, q2, q3, q4⟩ := ih (x + 1) _ (by omega) (by omega) (by omega) hl'
      refine ⟨r, q1, q2, q3, h18_16 _ _ _ _ _ _ _ _ _ _ _ _ _ _ _ _ _ _ _ ?_⟩
      unfold t18_16
      simp (disch := omega) only [wrap_in]
      simp only [List.length_singleton]
      repeat (first | (refine good_pos (by omega) ?_) | (refine good_pos trivial ?_) | (refine good_neg (by omega) ?_) | (refine good_npos (by omega) ?_) | (refine good_nneg (by omega) ?_) | (refine good_gi (by omega) (by omega) ?_) | (refine good_gb (by omega) (by omega) ?_) | (refine good_ble (by omega) ?_))
      exact good_at q4
    · have hne : x ≠ e := fun h => cf (by rw [h])
      have hl' : SameF m.X e (x + 1) l := ⟨fun j j0 j1 => by have := hl.mem j j0 j1; exact ⟨this.1, by omega, this.2.2⟩, fun h => hl.some (by omega), by omega⟩
      obtain ⟨r, q1, q2, q3, q4⟩ := ih (x + 1) _ (by omega) (by omega) (by omega) hl'
      refine ⟨r, q1, q2, q3, h18_16 _ _ _ _ _ _ _ _ _ _ _ _ _ _ _ _ _ _ _ ?_⟩
      unfold t18_16
      simp (disch := omega) only [wrap_in]
      repeat (first | (refine good_pos (by omega) ?_) | (refine good_pos trivial ?_) | (refine good_neg (by omega) ?_) | (refine good_npos (by omega) ?_) | (refine good_nneg (by omega) ?_) | (refine good_gi (by omega) (by omega) ?_) | (refine good_gb (by omega) (by omega) ?_) | (refine good_ble (by omega) ?_))
      exact good_at q4
set_option maxHeartbeats 1000000 in
theorem l18_3 : ∀ (n : Nat) (i : Int) (m : NetV), 0 ≤ i → i ≤ 24 → 24 - i = n → Grown m i →
    ∃ r, PlaneOk r ∧ (r.T.length : Int) ≤ 48 ∧ r.N ≤ 25 ∧ Lead E18 kr18 (.agg [.int .i64 r.N, .sl .int r.T, .sl .int r.X, .sl .int r.C]) (a18_3 ns i n' a b c m.N m.T m.X m.C) := by
  intro n
  induction n with
  | zero =>
    intro i m i0 i1 i2 hm
    have hT := hm.t
    have hN := hm.n
    refine ⟨m, hm.ok, by omega, by omega, h18_3 _ _ _ _ _ _ _ _ _ _ _ ?_⟩
    unfold t18_3
    by_cases c1 : i < (ns.length : Int)
    · repeat (first | (refine good_pos (by omega) ?_) | (refine good_pos trivial ?_) | (refine good_neg (by omega) ?_) | (refine good_npos (by omega) ?_) | (refine good_nneg (by omega) ?_) | (refine good_gi (by omega) (by omega) ?_) | (refine good_gb (by omega) (by omega) ?_) | (refine good_ble (by omega) ?_))
      exact good_end rfl
    · repeat (first | (refine good_pos (by omega) ?_) | (refine good_pos trivial ?_) | (refine good_neg (by omega) ?_) | (refine good_npos (by omega) ?_) | (refine good_nneg (by omega) ?_) | (refine good_gi (by omega) (by omega) ?_) | (refine good_gb (by omega) (by omega) ?_) | (refine good_ble (by omega) ?_))
      exact good_end rfl
  | succ n ih =>
    intro i m i0 i1 i2 hm
    have hT := hm.t
    have hN := hm.n
    by_cases c1 : i < (ns.length : Int)
    · obtain ⟨k1, k2, k3⟩ := f22 (a := gi ns i) (n := 1125899906842624) (by decide) (by decide)
      have d1 : Int.tdiv (v22 (gi ns i) 1125899906842624) 30 = v22 (gi ns i) 1125899906842624 / 30 := Int.tdiv_eq_ediv_of_nonneg k2
      have d2 : Int.tdiv (v22 (gi ns i) 1125899906842624) 7000 = v22 (gi ns i) 1125899906842624 / 7000 := Int.tdiv_eq_ediv_of_nonneg k2
      have d3 : Int.tdiv (v22 (gi ns i) 1125899906842624) 5 = v22 (gi ns i) 1125899906842624 / 5 := Int.tdiv_eq_ediv_of_nonneg k2
      obtain ⟨p1, p2, p3⟩ := f64 (v22 (gi ns i) 1125899906842624 / 30)
      obtain ⟨q1, q2, q3⟩ := f64 (v22 (gi ns i) 1125899906842624 / 7000)
      by_cases c0 : (m.T.length : Int) = 0
      · by_cases c5 : Int.tmod (v22 (gi ns i) 1125899906842624) 5 = 0
        · obtain ⟨r, r1, r2, r3, r4⟩ := ih (i + 1) ⟨1, [0, 0], [1, 0], _⟩ (by omega) (by omega) (by omega) ⟨plane_loop ⟨p2, p3⟩ ⟨q2, q3⟩, by simp; omega, by simp only; omega⟩
          refine ⟨r, r1, r2, r3, h18_3 _ _ _ _ _ _ _ _ _ _ _ ?_⟩
          unfold t18_3
          repeat (first | (refine good_pos (by omega) ?_) | (refine good_pos trivial ?_) | (refine good_neg (by omega) ?_) | (refine good_npos (by omega) ?_) | (refine good_nneg (by omega) ?_) | (refine good_gi (by omega) (by omega) ?_) | (refine good_gb (by omega) (by omega) ?_) | (refine good_ble (by omega) ?_))
          refine good_true k1 ?_
          simp (disch := omega) only [wrap_in, d1, d2, d3]
          refine good_true p1 (good_true q1 ?_)
          repeat (first | (refine good_pos (by omega) ?_) | (refine good_pos trivial ?_) | (refine good_neg (by omega) ?_) | (refine good_npos (by omega) ?_) | (refine good_nneg (by omega) ?_) | (refine good_gi (by omega) (by omega) ?_) | (refine good_gb (by omega) (by omega) ?_) | (refine good_ble (by omega) ?_))
          exact good_at r4
        · obtain ⟨r, r1, r2, r3, r4⟩ := ih (i + 1) ⟨2, [0, 1], [0, 1], _⟩ (by omega) (by omega) (by omega) ⟨plane_edge ⟨p2, p3⟩ ⟨q2, q3⟩, by simp; omega, by simp only; omega⟩
          refine ⟨r, r1, r2, r3, h18_3 _ _ _ _ _ _ _ _ _ _ _ ?_⟩
          unfold t18_3
          repeat (first | (refine good_pos (by omega) ?_) | (refine good_pos trivial ?_) | (refine good_neg (by omega) ?_) | (refine good_npos (by omega) ?_) | (refine good_nneg (by omega) ?_) | (refine good_gi (by omega) (by omega) ?_) | (refine good_gb (by omega) (by omega) ?_) | (refine good_ble (by omega) ?_))
          refine good_true k1 ?_
          simp (disch := omega) only [wrap_in, d1, d2, d3]
          refine good_true p1 (good_true q1 ?_)
          repeat (first | (refine good_pos (by omega) ?_) | (refine good_pos trivial ?_) | (refine good_neg (by omega) ?_) | (refine good_npos (by omega) ?_) | (refine good_nneg (by omega) ?_) | (refine good_gi (by omega) (by omega) ?_) | (refine good_gb (by omega) (by omega) ?_) | (refine good_ble (by omega) ?_))
          exact good_at r4
      · have hs := hm.ok.s
        obtain ⟨f1, f2⟩ := f24 (N := m.N) (C := m.C) hs.k hs.e hs.x (perm_ab' hs.e hm.ok.t.perm)
        obtain ⟨j, hj, -⟩ := f2.ex
        have em : Int.tmod (v22 (gi ns i) 1125899906842624 / 5) (m.T.length : Int) = v22 (gi ns i) 1125899906842624 / 5 % m.T.length := Int.tmod_eq_emod_of_nonneg (by omega)
        have r0 : 0 ≤ v22 (gi ns i) 1125899906842624 / 5 % (m.T.length : Int) := Int.emod_nonneg _ (by omega)
        have r1 : v22 (gi ns i) 1125899906842624 / 5 % (m.T.length : Int) < m.T.length := Int.emod_lt_of_pos _ (by omega)
        have hj' : PartedS m.X.length (Orb (stb m.X)) (v24 m.N m.T m.X m.C).1 j := by rw [hs.x]; exact hj
        obtain ⟨r, s1, s2, s3, s4⟩ := l18_16 (ns := ns) (n' := n') (a := a) (b := b) (c := c) hm ⟨i0, by omega⟩ ⟨k2, k3⟩ ⟨p2, p3⟩ ⟨q2, q3⟩ ⟨r0, r1⟩ hj' (fun m' hm' => ih (i + 1) m' (by omega) (by omega) (by omega) hm') m.T.length 0 [] (by omega) (by omega) (by omega) ⟨fun j j0 j1 => by simp at j1; omega, fun h => by omega, by simp⟩
        refine ⟨r, s1, s2, s3, h18_3 _ _ _ _ _ _ _ _ _ _ _ ?_⟩
        unfold t18_3
        repeat (first | (refine good_pos (by omega) ?_) | (refine good_pos trivial ?_) | (refine good_neg (by omega) ?_) | (refine good_npos (by omega) ?_) | (refine good_nneg (by omega) ?_) | (refine good_gi (by omega) (by omega) ?_) | (refine good_gb (by omega) (by omega) ?_) | (refine good_ble (by omega) ?_))
        refine good_true k1 ?_
        simp (disch := omega) only [wrap_in, d1, d2, d3]
        rw [em]
        refine good_true p1 (good_true q1 ?_)
        repeat (first | (refine good_pos (by omega) ?_) | (refine good_pos trivial ?_) | (refine good_neg (by omega) ?_) | (refine good_npos (by omega) ?_) | (refine good_nneg (by omega) ?_) | (refine good_gi (by omega) (by omega) ?_) | (refine good_gb (by omega) (by omega) ?_) | (refine good_ble (by omega) ?_))
        exact good_true f1 (good_at s4)
    · refine ⟨m, hm.ok, by omega, by omega, h18_3 _ _ _ _ _ _ _ _ _ _ _ ?_⟩
      unfold t18_3
      repeat (first | (refine good_pos (by omega) ?_) | (refine good_pos trivial ?_) | (refine good_neg (by omega) ?_) | (refine good_npos (by omega) ?_) | (refine good_nneg (by omega) ?_) | (refine good_gi (by omega) (by omega) ?_) | (refine good_gb (by omega) (by omega) ?_) | (refine good_ble (by omega) ?_))
      exact good_end rfl
theorem f18 (ns : List Int) : ok18 ns = true ∧ PlaneOk (v18 ns) ∧ ((v18 ns).T.length : Int) ≤ 48 ∧ (v18 ns).N ≤ 25 := by
  obtain ⟨r, r1, r2, r3, r4⟩ := l18_3 (ns := ns) (n' := 0) (a := []) (b := []) (c := []) 24 0 ⟨1, [], [], []⟩ (by omega) (by omega) (by omega) ⟨plane_none, by simp, by simp⟩
  have := sp18 ns r (run18 _ _ (by
    unfold t18
    exact good_at r4))
  exact ⟨this.1, by rw [this.2]; exact ⟨r1, r2, r3⟩⟩
end
end Go.Proofs.Ytnfgfdeidkhdkaa.Eng
/- P82: watershed/parts.lay: its run from loop to loop, as Lean printed it (a program of this session's wrote these rows). No condition. -/
namespace Go.Proofs.Ytnfgfdeidkhdkaa.Eng
set_option linter.unusedVariables false
set_option maxRecDepth 100000
noncomputable def ents82 : List (Nat × Ent) := []
noncomputable def mems82 : List (Nat × EntM) := []
noncomputable def E82 (fu : Nat) : Env := ⟨52, 1, semOf ents82, [], memOf mems82, [], [(100002, ⟨[], [(0, none), (2, none), (4, none), (4, some 0), (4, some 1), (4, some 2), (9, none), (10, none), (11, none)], [0, 2, 4, 9, 10, 11]⟩)], fu⟩
theorem fuel82 : Fuel E82 := fun _ => rfl
noncomputable def kr82 : St → Option CV := endR
noncomputable def K82_2 : List Fr := theK Try.f82 100002
noncomputable def C82_2 : Code := theC Try.f82 100002
def s82_2 (i2 : Int) (l9 : List Int) (i10 : Int) (i11 : Int) (mM0 : List Int) (bM1_0 : Bool) (iM1_1 : Int) (lM1_2 : List Int) : St := ⟨[(0, .ref 8000), (2, .int .i64 i2), (4, .ptr 8001 0), (9, .sl .int l9), (10, .int .i64 i10), (11, .int .i64 i11)], [(8000, some (.arr true .int mM0)), (8001, some (.cells 57 [.bool bM1_0, .int .i64 iM1_1, .sl .int lM1_2]))]⟩
noncomputable def a82_2 (i2 : Int) (l9 : List Int) (i10 : Int) (i11 : Int) (mM0 : List Int) (bM1_0 : Bool) (iM1_1 : Int) (lM1_2 : List Int) : Leaf := .at K82_2 C82_2 (s82_2 i2 l9 i10 i11 mM0 bM1_0 iM1_1 lM1_2)
noncomputable def t82_2 (i2 : Int) (l9 : List Int) (i10 : Int) (i11 : Int) (mM0 : List Int) (bM1_0 : Bool) (iM1_1 : Int) (lM1_2 : List Int) : Option Leaf :=
  bif Decidable.decide (i11 < i10) then
   bif Decidable.decide ((0 : Int) ≤ i11) then
    ob (l9[Int.toNat i11]?) fun x1 =>
     bif Decidable.decide ((0 : Int) ≤ x1) then
      bif Decidable.decide (x1 < (↑(List.length mM0) : Int)) then
       bif Decidable.decide (bitsI BinOp.xor IntKind.i64 x1 (1 : Int) < (↑(List.length mM0) : Int)) then
        bif Decidable.decide ((0 : Int) ≤ x1) then
         bif Decidable.decide (x1 < (↑(List.length mM0) : Int)) then
          ob (mM0[Int.toNat x1]?) fun x2 =>
           bif Decidable.decide ((0 : Int) ≤ x1) then
            bif Decidable.decide (x1 < (↑(List.length mM0) : Int)) then
             ob (mM0[Int.toNat x1]?) fun x3 =>
              bif Decidable.decide ((0 : Int) ≤ bitsI BinOp.xor IntKind.i64 x1 (1 : Int)) then
               bif Decidable.decide (bitsI BinOp.xor IntKind.i64 x1 (1 : Int) < (↑(List.length (List.set mM0 (Int.toNat x1) (IntKind.wrap IntKind.i64 (x2 + IntKind.wrap IntKind.i64 (i2 * iM1_1))))) : Int)) then
                ob ((List.set mM0 (Int.toNat x1) (IntKind.wrap IntKind.i64 (x2 + IntKind.wrap IntKind.i64 (i2 * iM1_1))))[Int.toNat (bitsI BinOp.xor IntKind.i64 x1 (1 : Int))]?) fun x4 =>
                 bif Decidable.decide ((0 : Int) ≤ bitsI BinOp.xor IntKind.i64 x1 (1 : Int)) then
                  bif Decidable.decide (bitsI BinOp.xor IntKind.i64 x1 (1 : Int) < (↑(List.length (List.set mM0 (Int.toNat x1) (IntKind.wrap IntKind.i64 (x2 + IntKind.wrap IntKind.i64 (i2 * iM1_1))))) : Int)) then
                   ob ((List.set mM0 (Int.toNat x1) (IntKind.wrap IntKind.i64 (x2 + IntKind.wrap IntKind.i64 (i2 * iM1_1))))[Int.toNat (bitsI BinOp.xor IntKind.i64 x1 (1 : Int))]?) fun x5 =>
                    some (a82_2 i2 l9 i10 (IntKind.wrap IntKind.i64 (i11 + (1 : Int))) (List.set (List.set mM0 (Int.toNat x1) (IntKind.wrap IntKind.i64 (x2 + IntKind.wrap IntKind.i64 (i2 * iM1_1)))) (Int.toNat (bitsI BinOp.xor IntKind.i64 x1 (1 : Int))) (IntKind.wrap IntKind.i64 (x4 - IntKind.wrap IntKind.i64 (i2 * iM1_1)))) bM1_0 iM1_1 lM1_2)
                  else
                   none
                 else
                  none
               else
                none
              else
               none
            else
             none
           else
            none
         else
          none
        else
         none
       else
        some (a82_2 i2 l9 i10 (IntKind.wrap IntKind.i64 (i11 + (1 : Int))) mM0 bM1_0 iM1_1 lM1_2)
      else
       some (a82_2 i2 l9 i10 (IntKind.wrap IntKind.i64 (i11 + (1 : Int))) mM0 bM1_0 iM1_1 lM1_2)
     else
      some (a82_2 i2 l9 i10 (IntKind.wrap IntKind.i64 (i11 + (1 : Int))) mM0 bM1_0 iM1_1 lM1_2)
   else
    none
  else
   some (.ret (CV.sl SK.int mM0))
theorem c82_2 (fu : Nat) (i2 : Int) (l9 : List Int) (i10 : Int) (i11 : Int) (mM0 : List Int) (bM1_0 : Bool) (iM1_1 : Int) (lM1_2 : List Int) : cutL (E82 fu) kr82 K82_2 C82_2 (s82_2 i2 l9 i10 i11 mM0 bM1_0 iM1_1 lM1_2) = t82_2 i2 l9 i10 i11 mM0 bM1_0 iM1_1 lM1_2 := by kernel_rfl
theorem h82_2 (i2 : Int) (l9 : List Int) (i10 : Int) (i11 : Int) (mM0 : List Int) (bM1_0 : Bool) (iM1_1 : Int) (lM1_2 : List Int) (r : CV) (h : Good E82 kr82 (t82_2 i2 l9 i10 i11 mM0 bM1_0 iM1_1 lM1_2) r) : Lead E82 kr82 r (a82_2 i2 l9 i10 i11 mM0 bM1_0 iM1_1 lM1_2) := Lead.at fuel82 (fun fu => c82_2 fu i2 l9 i10 i11 mM0 bM1_0 iM1_1 lM1_2) h
noncomputable def t82 (row : List Int) (pR : Bool) (pA : Int) (pD : List Int) (often : Int) : Option Leaf :=
  some (a82_2 often pD ((↑(List.length pD) : Int)) ((0 : Int)) row pR pA pD)
theorem c82 (fu : Nat) (row : List Int) (pR : Bool) (pA : Int) (pD : List Int) (often : Int) : cutB (E82 fu) kr82 Try.f82 (⟨parT 0 (.ref 90000 :: [.agg [.bool pR, .int .i64 pA, .sl .int pD], .int .i64 often]), [(90000, some (.arr true .int row))]⟩) = t82 row pR pA pD often := by kernel_rfl
def R82 (row : List Int) (pR : Bool) (pA : Int) (pD : List Int) (often : Int) (r : List Int) : Prop := RunM E82 Try.f82 row [.agg [.bool pR, .int .i64 pA, .sl .int pD], .int .i64 often] r
theorem run82 (row : List Int) (pR : Bool) (pA : Int) (pD : List Int) (often : Int) (r : List Int) (h : Good E82 kr82 (t82 row pR pA pD often) (.sl .int r)) : R82 row pR pA pD often r := RunM.of fuel82 (fun fu => c82 fu row pR pA pD often) h
noncomputable def ok82 (row : List Int) (pR : Bool) (pA : Int) (pD : List Int) (often : Int) : Bool := okP (R82 row pR pA pD often)
noncomputable def v82 (row : List Int) (pR : Bool) (pA : Int) (pD : List Int) (often : Int) : List Int := valP (R82 row pR pA pD often)
theorem sp82 (row : List Int) (pR : Bool) (pA : Int) (pD : List Int) (often : Int) (r : List Int) (h : R82 row pR pA pD often r) : ok82 row pR pA pD often = true ∧ v82 row pR pA pD often = r := okP_of h fun b hb => RunM.uniq hb h
theorem at82 : P.funcs[82]? = some Try.f82 := by kernel_rfl
theorem callable82 : callable 82 = true := by kernel_rfl
theorem semok82 : SemOk (semOf ents82) := EntsOk.sem (.nil)
theorem memok82 : MemOk (memOf mems82) := EntsMOk.mem (.nil)
noncomputable def ent82 : EntM := fun row args => match args with
  | [.agg [.bool pR, .int .i64 pA, .sl .int pD], .int .i64 often] => some (ok82 row pR pA pD often, v82 row pR pA pD often)
  | _ => none
theorem entok82 : EntMOk 82 ent82 := fun l args l' h => by
  unfold ent82 at h
  split at h
  · simp only [Option.some.injEq, Prod.mk.injEq] at h
    obtain ⟨h, rfl⟩ := h
    exact ⟨RunM.calls (fun _ => semok82) (fun _ => memok82) (fun _ => rfl) (fun _ => Nat.one_pos) at82 rfl rfl (Nat.le_of_ble_eq_true rfl) (fun _ => rfl) (okP_val h), callable82⟩
  · cases h
end Go.Proofs.Ytnfgfdeidkhdkaa.Eng
/- P43: watershed/parts.Join: its run from loop to loop, as Lean printed it (a program of this session's wrote these rows). No condition. -/
namespace Go.Proofs.Ytnfgfdeidkhdkaa.Eng
set_option linter.unusedVariables false
set_option maxRecDepth 100000
noncomputable def ents43 : List (Nat × Ent) := []
noncomputable def mems43 : List (Nat × EntM) := [(82, ent82)]
noncomputable def E43 (fu : Nat) : Env := ⟨23, 0, semOf ents43, [], memOf mems43, [82], [(100003, ⟨[], [(5, none), (12, none), (13, none), (14, none)], [5, 12, 13, 14]⟩)], fu⟩
theorem fuel43 : Fuel E43 := fun _ => rfl
noncomputable def kr43 : St → Option CV := endK true Try.f43.results.toList
noncomputable def K43_3 : List Fr := theK Try.f43 100003
noncomputable def C43_3 : Code := theC Try.f43 100003
def s43_3 (l12 : List (Bool × Int × List Int)) (i13 : Int) (i14 : Int) (mM0 : List Int) : St := ⟨[(5, .ref 8000), (12, .sl .part l12), (13, .int .i64 i13), (14, .int .i64 i14)], [(8000, some (.arr true .int mM0))]⟩
noncomputable def a43_3 (l12 : List (Bool × Int × List Int)) (i13 : Int) (i14 : Int) (mM0 : List Int) : Leaf := .at K43_3 C43_3 (s43_3 l12 i13 i14 mM0)
noncomputable def t43_3 (l12 : List (Bool × Int × List Int)) (i13 : Int) (i14 : Int) (mM0 : List Int) : Option Leaf :=
  bif Decidable.decide (i14 < i13) then
   bif Decidable.decide ((0 : Int) ≤ i14) then
    ob (l12[Int.toNat i14]?) fun x1 =>
     bif ok82 mM0 (Prod.fst x1) (Prod.fst (Prod.snd x1)) (Prod.snd (Prod.snd x1)) (1 : Int) && Decidable.decide (List.length (v82 mM0 (Prod.fst x1) (Prod.fst (Prod.snd x1)) (Prod.snd (Prod.snd x1)) (1 : Int)) = List.length mM0) then
      some (a43_3 l12 i13 (IntKind.wrap IntKind.i64 (i14 + (1 : Int))) (v82 mM0 (Prod.fst x1) (Prod.fst (Prod.snd x1)) (Prod.snd (Prod.snd x1)) (1 : Int)))
     else
      none
   else
    none
  else
   some (.ret (CV.sl SK.int mM0))
theorem c43_3 (fu : Nat) (l12 : List (Bool × Int × List Int)) (i13 : Int) (i14 : Int) (mM0 : List Int) : cutL (E43 fu) kr43 K43_3 C43_3 (s43_3 l12 i13 i14 mM0) = t43_3 l12 i13 i14 mM0 := by kernel_rfl
theorem h43_3 (l12 : List (Bool × Int × List Int)) (i13 : Int) (i14 : Int) (mM0 : List Int) (r : CV) (h : Good E43 kr43 (t43_3 l12 i13 i14 mM0) r) : Lead E43 kr43 r (a43_3 l12 i13 i14 mM0) := Lead.at fuel43 (fun fu => c43_3 fu l12 i13 i14 mM0) h
noncomputable def t43 (gN : Int) (gT : List Int) (gX : List Int) (gC : List Int) (l : List (Bool × Int × List Int)) : Option Leaf :=
  bif Decidable.decide ((↑(List.length gT) : Int) = (↑(List.length gT) : Int)) then
   bif Decidable.decide ((↑(List.length gT) : Int) ≤ (4294967296 : Int)) then
    some (a43_3 l ((↑(List.length l) : Int)) ((0 : Int)) (List.replicate (Int.toNat (↑(List.length gT) : Int)) (0 : SK.T SK.int)))
   else
    none
  else
   none
theorem c43 (fu : Nat) (gN : Int) (gT : List Int) (gX : List Int) (gC : List Int) (l : List (Bool × Int × List Int)) : cutB (E43 fu) kr43 Try.f43 (⟨parT 0 [.agg [.int .i64 gN, .sl .int gT, .sl .int gX, .sl .int gC], .sl .part l], []⟩) = t43 gN gT gX gC l := by kernel_rfl
def R43 (gN : Int) (gT : List Int) (gX : List Int) (gC : List Int) (l : List (Bool × Int × List Int)) (r : List Int) : Prop := RunF E43 true Try.f43 [.agg [.int .i64 gN, .sl .int gT, .sl .int gX, .sl .int gC], .sl .part l] (.sl .int r)
theorem run43 (gN : Int) (gT : List Int) (gX : List Int) (gC : List Int) (l : List (Bool × Int × List Int)) (r : List Int) (h : Good E43 kr43 (t43 gN gT gX gC l) (.sl .int r)) : R43 gN gT gX gC l r := RunF.of fuel43 (fun fu => c43 fu gN gT gX gC l) h
noncomputable def ok43 (gN : Int) (gT : List Int) (gX : List Int) (gC : List Int) (l : List (Bool × Int × List Int)) : Bool := okP (R43 gN gT gX gC l)
noncomputable def v43 (gN : Int) (gT : List Int) (gX : List Int) (gC : List Int) (l : List (Bool × Int × List Int)) : List Int := valP (R43 gN gT gX gC l)
theorem sp43 (gN : Int) (gT : List Int) (gX : List Int) (gC : List Int) (l : List (Bool × Int × List Int)) (r : List Int) (h : R43 gN gT gX gC l r) : ok43 gN gT gX gC l = true ∧ v43 gN gT gX gC l = r := okP_of h fun b hb => by
  have := RunF.uniq hb h
  simp_all
theorem at43 : P.funcs[43]? = some Try.f43 := by kernel_rfl
theorem callable43 : callable 43 = true := by kernel_rfl
theorem semok43 : SemOk (semOf ents43) := EntsOk.sem (.nil)
theorem memok43 : MemOk (memOf mems43) := EntsMOk.mem (.cons entok82 (.nil))
noncomputable def ent43 : Ent := fun args => match args with
  | [.agg [.int .i64 gN, .sl .int gT, .sl .int gX, .sl .int gC], .sl .part l] => some (true, ok43 gN gT gX gC l, .sl .int (v43 gN gT gX gC l))
  | _ => none
theorem entok43 : EntOk 43 ent43 := fun args own r h => by
  unfold ent43 at h
  split at h
  · simp only [Option.some.injEq, Prod.mk.injEq] at h
    obtain ⟨rfl, h, rfl⟩ := h
    exact ⟨RunF.calls (fun _ => semok43) (fun _ => memok43) at43 rfl (Nat.le_of_ble_eq_true rfl) (fun _ => rfl) (okP_val h), callable43⟩
  · cases h
end Go.Proofs.Ytnfgfdeidkhdkaa.Eng
/- P46: watershed/watershedref11.Join: its run from loop to loop, as Lean printed it (a program of this session's wrote these rows). No condition. -/
namespace Go.Proofs.Ytnfgfdeidkhdkaa.Eng
set_option linter.unusedVariables false
set_option maxRecDepth 100000
noncomputable def ents46 : List (Nat × Ent) := []
noncomputable def mems46 : List (Nat × EntM) := []
noncomputable def E46 (fu : Nat) : Env := ⟨66, 0, semOf ents46, [], memOf mems46, [], [(100003, ⟨[], [(1, none), (5, none), (6, none)], [1, 5, 6]⟩), (100006, ⟨[], [(1, none), (5, none), (6, none), (7, none)], [1, 5, 6, 7]⟩)], fu⟩
theorem fuel46 : Fuel E46 := fun _ => rfl
noncomputable def kr46 : St → Option CV := endK true Try.f46.results.toList
noncomputable def K46_3 : List Fr := theK Try.f46 100003
noncomputable def C46_3 : Code := theC Try.f46 100003
def s46_3 (l1 : List (Bool × Int × List Int)) (i6 : Int) (mM0 : List Int) : St := ⟨[(1, .sl .part l1), (5, .ref 8000), (6, .int .i64 i6)], [(8000, some (.arr true .int mM0))]⟩
noncomputable def a46_3 (l1 : List (Bool × Int × List Int)) (i6 : Int) (mM0 : List Int) : Leaf := .at K46_3 C46_3 (s46_3 l1 i6 mM0)
noncomputable def K46_6 : List Fr := theK Try.f46 100006
noncomputable def C46_6 : Code := theC Try.f46 100006
def s46_6 (l1 : List (Bool × Int × List Int)) (i6 : Int) (i7 : Int) (mM0 : List Int) : St := ⟨[(1, .sl .part l1), (5, .ref 8000), (6, .int .i64 i6), (7, .int .i64 i7)], [(8000, some (.arr true .int mM0))]⟩
noncomputable def a46_6 (l1 : List (Bool × Int × List Int)) (i6 : Int) (i7 : Int) (mM0 : List Int) : Leaf := .at K46_6 C46_6 (s46_6 l1 i6 i7 mM0)
noncomputable def t46_3 (l1 : List (Bool × Int × List Int)) (i6 : Int) (mM0 : List Int) : Option Leaf :=
  bif Decidable.decide (i6 < (↑(List.length l1) : Int)) then
   some (a46_6 l1 i6 ((0 : Int)) mM0)
  else
   some (.ret (CV.sl SK.int mM0))
theorem c46_3 (fu : Nat) (l1 : List (Bool × Int × List Int)) (i6 : Int) (mM0 : List Int) : cutL (E46 fu) kr46 K46_3 C46_3 (s46_3 l1 i6 mM0) = t46_3 l1 i6 mM0 := by kernel_rfl
theorem h46_3 (l1 : List (Bool × Int × List Int)) (i6 : Int) (mM0 : List Int) (r : CV) (h : Good E46 kr46 (t46_3 l1 i6 mM0) r) : Lead E46 kr46 r (a46_3 l1 i6 mM0) := Lead.at fuel46 (fun fu => c46_3 fu l1 i6 mM0) h
noncomputable def t46_6 (l1 : List (Bool × Int × List Int)) (i6 : Int) (i7 : Int) (mM0 : List Int) : Option Leaf :=
  bif Decidable.decide ((0 : Int) ≤ i6) then
   ob (l1[Int.toNat i6]?) fun x1 =>
    bif Decidable.decide (i7 < (↑(List.length (Prod.snd (Prod.snd x1))) : Int)) then
     bif Decidable.decide ((0 : Int) ≤ i6) then
      ob (l1[Int.toNat i6]?) fun x2 =>
       bif Decidable.decide ((0 : Int) ≤ i7) then
        ob ((Prod.snd (Prod.snd x2))[Int.toNat i7]?) fun x3 =>
         bif Decidable.decide ((0 : Int) ≤ x3) then
          bif Decidable.decide (x3 < (↑(List.length mM0) : Int)) then
           ob (mM0[Int.toNat x3]?) fun x4 =>
            bif Decidable.decide ((0 : Int) ≤ i6) then
             ob (l1[Int.toNat i6]?) fun x5 =>
              bif Decidable.decide ((0 : Int) ≤ x3) then
               bif Decidable.decide (x3 < (↑(List.length mM0) : Int)) then
                ob (mM0[Int.toNat x3]?) fun x6 =>
                 bif Decidable.decide ((0 : Int) ≤ bitsI BinOp.xor IntKind.i64 x3 (1 : Int)) then
                  bif Decidable.decide (bitsI BinOp.xor IntKind.i64 x3 (1 : Int) < (↑(List.length (List.set mM0 (Int.toNat x3) (IntKind.wrap IntKind.i64 (x4 + Prod.fst (Prod.snd x5))))) : Int)) then
                   ob ((List.set mM0 (Int.toNat x3) (IntKind.wrap IntKind.i64 (x4 + Prod.fst (Prod.snd x5))))[Int.toNat (bitsI BinOp.xor IntKind.i64 x3 (1 : Int))]?) fun x7 =>
                    bif Decidable.decide ((0 : Int) ≤ i6) then
                     ob (l1[Int.toNat i6]?) fun x8 =>
                      bif Decidable.decide ((0 : Int) ≤ bitsI BinOp.xor IntKind.i64 x3 (1 : Int)) then
                       bif Decidable.decide (bitsI BinOp.xor IntKind.i64 x3 (1 : Int) < (↑(List.length (List.set mM0 (Int.toNat x3) (IntKind.wrap IntKind.i64 (x4 + Prod.fst (Prod.snd x5))))) : Int)) then
                        ob ((List.set mM0 (Int.toNat x3) (IntKind.wrap IntKind.i64 (x4 + Prod.fst (Prod.snd x5))))[Int.toNat (bitsI BinOp.xor IntKind.i64 x3 (1 : Int))]?) fun x9 =>
                         some (a46_6 l1 i6 (IntKind.wrap IntKind.i64 (i7 + (1 : Int))) (List.set (List.set mM0 (Int.toNat x3) (IntKind.wrap IntKind.i64 (x4 + Prod.fst (Prod.snd x5)))) (Int.toNat (bitsI BinOp.xor IntKind.i64 x3 (1 : Int))) (IntKind.wrap IntKind.i64 (x7 - Prod.fst (Prod.snd x8)))))
                       else
                        none
                      else
                       none
                    else
                     none
                  else
                   none
                 else
                  none
               else
                none
              else
               none
            else
             none
          else
           none
         else
          none
       else
        none
     else
      none
    else
     some (a46_3 l1 (IntKind.wrap IntKind.i64 (i6 + (1 : Int))) mM0)
  else
   none
theorem c46_6 (fu : Nat) (l1 : List (Bool × Int × List Int)) (i6 : Int) (i7 : Int) (mM0 : List Int) : cutL (E46 fu) kr46 K46_6 C46_6 (s46_6 l1 i6 i7 mM0) = t46_6 l1 i6 i7 mM0 := by kernel_rfl
theorem h46_6 (l1 : List (Bool × Int × List Int)) (i6 : Int) (i7 : Int) (mM0 : List Int) (r : CV) (h : Good E46 kr46 (t46_6 l1 i6 i7 mM0) r) : Lead E46 kr46 r (a46_6 l1 i6 i7 mM0) := Lead.at fuel46 (fun fu => c46_6 fu l1 i6 i7 mM0) h
noncomputable def t46 (gN : Int) (gT : List Int) (gX : List Int) (gC : List Int) (l : List (Bool × Int × List Int)) : Option Leaf :=
  bif Decidable.decide ((↑(List.length gT) : Int) = (↑(List.length gT) : Int)) then
   bif Decidable.decide ((↑(List.length gT) : Int) ≤ (4294967296 : Int)) then
    some (a46_3 l ((0 : Int)) (List.replicate (Int.toNat (↑(List.length gT) : Int)) (0 : SK.T SK.int)))
   else
    none
  else
   none
theorem c46 (fu : Nat) (gN : Int) (gT : List Int) (gX : List Int) (gC : List Int) (l : List (Bool × Int × List Int)) : cutB (E46 fu) kr46 Try.f46 (⟨parT 0 [.agg [.int .i64 gN, .sl .int gT, .sl .int gX, .sl .int gC], .sl .part l], []⟩) = t46 gN gT gX gC l := by kernel_rfl
def R46 (gN : Int) (gT : List Int) (gX : List Int) (gC : List Int) (l : List (Bool × Int × List Int)) (r : List Int) : Prop := RunF E46 true Try.f46 [.agg [.int .i64 gN, .sl .int gT, .sl .int gX, .sl .int gC], .sl .part l] (.sl .int r)
theorem run46 (gN : Int) (gT : List Int) (gX : List Int) (gC : List Int) (l : List (Bool × Int × List Int)) (r : List Int) (h : Good E46 kr46 (t46 gN gT gX gC l) (.sl .int r)) : R46 gN gT gX gC l r := RunF.of fuel46 (fun fu => c46 fu gN gT gX gC l) h
noncomputable def ok46 (gN : Int) (gT : List Int) (gX : List Int) (gC : List Int) (l : List (Bool × Int × List Int)) : Bool := okP (R46 gN gT gX gC l)
noncomputable def v46 (gN : Int) (gT : List Int) (gX : List Int) (gC : List Int) (l : List (Bool × Int × List Int)) : List Int := valP (R46 gN gT gX gC l)
theorem sp46 (gN : Int) (gT : List Int) (gX : List Int) (gC : List Int) (l : List (Bool × Int × List Int)) (r : List Int) (h : R46 gN gT gX gC l r) : ok46 gN gT gX gC l = true ∧ v46 gN gT gX gC l = r := okP_of h fun b hb => by
  have := RunF.uniq hb h
  simp_all
theorem at46 : P.funcs[46]? = some Try.f46 := by kernel_rfl
theorem callable46 : callable 46 = true := by kernel_rfl
theorem semok46 : SemOk (semOf ents46) := EntsOk.sem (.nil)
theorem memok46 : MemOk (memOf mems46) := EntsMOk.mem (.nil)
noncomputable def ent46 : Ent := fun args => match args with
  | [.agg [.int .i64 gN, .sl .int gT, .sl .int gX, .sl .int gC], .sl .part l] => some (true, ok46 gN gT gX gC l, .sl .int (v46 gN gT gX gC l))
  | _ => none
theorem entok46 : EntOk 46 ent46 := fun args own r h => by
  unfold ent46 at h
  split at h
  · simp only [Option.some.injEq, Prod.mk.injEq] at h
    obtain ⟨rfl, h, rfl⟩ := h
    exact ⟨RunF.calls (fun _ => semok46) (fun _ => memok46) at46 rfl (Nat.le_of_ble_eq_true rfl) (fun _ => rfl) (okP_val h), callable46⟩
  · cases h
end Go.Proofs.Ytnfgfdeidkhdkaa.Eng
/- Lu: parts laid together: what each dart has; lay and both Joins. -/
namespace Go.Proofs.Ytnfgfdeidkhdkaa.Eng
set_option linter.unusedVariables false
set_option linter.unusedSimpArgs false
/-- how often a dart goes along e, less its other one -/
def sg (d e : Int) : Int := if e = d then 1 else if e = oth d then -1 else 0
def cD : List Int → Int → Int
  | [], _ => 0
  | d :: D, e => sg d e + cD D e
/-- what a row of parts lays upon e -/
def jP : List (Bool × Int × List Int) → Int → Int
  | [], _ => 0
  | p :: l, e => p.2.1 * cD p.2.2 e + jP l e
theorem sg_bound (d e : Int) : -1 ≤ sg d e ∧ sg d e ≤ 1 := by unfold sg; split <;> (try split) <;> omega
theorem cD_bound (e : Int) : ∀ D : List Int, -(D.length : Int) ≤ cD D e ∧ cD D e ≤ D.length
  | [] => by simp [cD]
  | d :: D => by
    have := cD_bound e D
    have := sg_bound d e
    simp only [cD, List.length_cons]
    omega
theorem mul_bound {a c A B : Int} (ha : -A ≤ a ∧ a ≤ A) (hc : -B ≤ c ∧ c ≤ B) : -(A * B) ≤ a * c ∧ a * c ≤ A * B := by
  have h1 : (a * c).natAbs ≤ A.natAbs * B.natAbs := by
    rw [Int.natAbs_mul]
    exact Nat.mul_le_mul (by omega) (by omega)
  have h2 : ((A.natAbs * B.natAbs : Nat) : Int) = A * B := by
    rw [Int.natCast_mul, Int.natAbs_of_nonneg (by omega), Int.natAbs_of_nonneg (by omega)]
  omega
/-- parts of a net's darts, none too large -/
def PartOk (m : Int) (p : Bool × Int × List Int) : Prop := (-1099511627776 ≤ p.2.1 ∧ p.2.1 ≤ 1099511627776) ∧ p.2.2.length ≤ 300 ∧ ∀ d, d ∈ p.2.2 → 0 ≤ d ∧ d < m
theorem part_bound {m : Int} {p : Bool × Int × List Int} (h : PartOk m p) (e : Int) : -329853488332800 ≤ p.2.1 * cD p.2.2 e ∧ p.2.1 * cD p.2.2 e ≤ 329853488332800 := by
  have hc := cD_bound e p.2.2
  have hl := h.2.1
  have := mul_bound (A := 1099511627776) (B := 300) h.1 (c := cD p.2.2 e) (by omega)
  omega
theorem jP_bound {m : Int} (e : Int) : ∀ {l : List (Bool × Int × List Int)}, (∀ p, p ∈ l → PartOk m p) → -(329853488332800 * (l.length : Int)) ≤ jP l e ∧ jP l e ≤ 329853488332800 * (l.length : Int)
  | [], _ => by simp [jP]
  | p :: l, h => by
    have h1 := jP_bound e (l := l) fun q hq => h q (List.mem_cons_of_mem _ hq)
    have h2 := part_bound (h p (List.mem_cons_self ..)) e
    simp only [jP, List.length_cons]
    omega
theorem jP_append (e : Int) : ∀ l k : List (Bool × Int × List Int), jP (l ++ k) e = jP l e + jP k e
  | [], k => by simp [jP]
  | p :: l, k => by simp only [List.cons_append, jP, jP_append e l k]; omega
/-- a laid upon d, taken from its other one -/
def bump (row : List Int) (d a : Int) : List Int := (row.set d.toNat (gi row d + a)).set (oth d).toNat (gi (row.set d.toNat (gi row d + a)) (oth d) - a)
theorem bump_len (row : List Int) (d a : Int) : (bump row d a).length = row.length := by simp [bump]
theorem bump_gi {row : List Int} {d a e : Int} (he : (row.length : Int) % 2 = 0) (d0 : 0 ≤ d) (d1 : d < row.length) (e0 : 0 ≤ e) : gi (bump row d a) e = gi row e + a * sg d e := by
  have o := oth_in d0 d1 he
  have hne := oth_ne d
  unfold bump sg
  rw [gi_set o.1 (by rw [List.length_set]; exact o.2) e0]
  by_cases c : e = oth d
  · subst c
    rw [if_pos rfl, if_neg hne, if_pos rfl, gi_set d0 d1 o.1, if_neg hne]
    omega
  · rw [if_neg c, gi_set d0 d1 e0]
    by_cases c2 : e = d
    · subst c2; rw [if_pos rfl, if_pos rfl]; omega
    · rw [if_neg c2, if_neg c2, if_neg c]; omega
theorem mul_sg (a d e : Int) : a * sg d e = if e = d then a else if e = oth d then -a else 0 := by
  unfold sg
  split
  · omega
  · split <;> omega
/-- darts gone along, from a place on -/
theorem drop_cons {l : List Int} {i : Int} (i0 : 0 ≤ i) (i1 : i < (l.length : Int)) : l.drop i.toNat = gi l i :: l.drop (i + 1).toNat := by
  have h : i.toNat < l.length := by omega
  rw [List.drop_eq_getElem_cons h]
  have e : l[i.toNat] = gi l i := by rw [← gi_get h]; congr 1; omega
  rw [e]
  congr 2
  omega
theorem l82_2 {a : Int} {D : List Int} {R : Bool} {A often : Int} {D' : List Int} (hA : often * A = a) (ha : -1099511627776 ≤ a ∧ a ≤ 1099511627776) (hD : D.length ≤ 300) {m : Int} (hm : m % 2 = 0) (hm2 : m ≤ 240) (hr : ∀ d, d ∈ D → 0 ≤ d ∧ d < m) {row0 : List Int} (hl0 : (row0.length : Int) = m) (hb : ∀ e : Int, 0 ≤ e → e < m → -1152921504606846976 ≤ gi row0 e ∧ gi row0 e ≤ 1152921504606846976) :
    ∀ (n : Nat) (i : Int) (row : List Int), 0 ≤ i → i ≤ D.length → (D.length : Int) - i = n → (row.length : Int) = m → (∀ e : Int, 0 ≤ e → e < m → gi row e = gi row0 e + a * cD (D.take i.toNat) e) →
      ∃ r : List Int, (r.length : Int) = m ∧ (∀ e : Int, 0 ≤ e → e < m → gi r e = gi row0 e + a * cD D e) ∧ Lead E82 kr82 (.sl .int r) (a82_2 often D (D.length : Int) i row R A D') := by
  intro n
  induction n with
  | zero =>
    intro i row i0 i1 i2 hl h
    refine ⟨row, hl, fun e e0 e1 => ?_, h82_2 _ _ _ _ _ _ _ _ _ ?_⟩
    · rw [h e e0 e1, List.take_of_length_le (by omega)]
    · unfold t82_2
      repeat (first | (refine good_pos (by omega) ?_) | (refine good_pos trivial ?_) | (refine good_neg (by omega) ?_) | (refine good_npos (by omega) ?_) | (refine good_nneg (by omega) ?_) | (refine good_gi (by omega) (by omega) ?_) | (refine good_gb (by omega) (by omega) ?_) | (refine good_ble (by omega) ?_))
      exact good_end rfl
  | succ n ih =>
    intro i row i0 i1 i2 hl h
    have hd := hr (gi D i) (gi_mem i0 (by omega))
    have o := oth_in hd.1 hd.2 hm
    have take : ∀ e, cD (D.take (i + 1).toNat) e = cD (D.take i.toNat) e + sg (gi D i) e := by
      intro e
      have hi : i.toNat < D.length := by omega
      have e1 : (i + 1).toNat = i.toNat + 1 := by omega
      rw [e1, List.take_add_one, List.getElem?_eq_getElem hi]
      have e2 : D[i.toNat] = gi D i := by rw [← gi_get hi]; congr 1; omega
      have app : ∀ l : List Int, cD (l ++ [gi D i]) e = cD l e + sg (gi D i) e := by
        intro l
        induction l with
        | nil => simp [cD]
        | cons x l ihl => simp only [List.cons_append, cD, ihl]; omega
      rw [Option.toList_some, e2]
      exact app _
    have bd : ∀ e : Int, 0 ≤ e → e < m → -1153300000000000000 ≤ gi row e ∧ gi row e ≤ 1153300000000000000 := fun e e0 e1 => by
      have h1 := h e e0 e1
      have h2 := hb e e0 e1
      have hc := cD_bound e (D.take i.toNat)
      have hlen : (D.take i.toNat).length ≤ 300 := by rw [List.length_take]; omega
      have := mul_bound (A := 1099511627776) (B := 300) ha (c := cD (D.take i.toNat) e) (by omega)
      omega
    have b1 := bd (gi D i) hd.1 hd.2
    have b2 := bd (oth (gi D i)) o.1 o.2
    obtain ⟨r, r1, r2, r3⟩ := ih (i + 1) (bump row (gi D i) a) (by omega) (by omega) (by omega) (by rw [bump_len]; exact hl) (fun e e0 e1 => by
      rw [bump_gi (by omega) hd.1 (by omega) e0, h e e0 e1, take e, Int.mul_add]; omega)
    refine ⟨r, r1, r2, h82_2 _ _ _ _ _ _ _ _ _ ?_⟩
    unfold t82_2
    rw [hA]
    refine good_pos (by omega) (good_pos i0 (good_gi i0 (by omega) ?_))
    rw [xor_one hd.1 (by omega)]
    have hg : gi (row.set (gi D i).toNat (gi row (gi D i) + a)) (oth (gi D i)) = gi row (oth (gi D i)) := by
      rw [gi_set hd.1 (by omega) o.1, if_neg (oth_ne _)]
    refine good_pos (by omega) (good_pos (by omega) (good_pos (by omega) ?_))
    refine good_pos (by omega) (good_pos (by omega) (good_gi hd.1 (by omega) ?_))
    refine good_pos (by omega) (good_pos (by omega) (good_gi hd.1 (by omega) ?_))
    have e1 : IntKind.wrap IntKind.i64 a = a := wrap_in (by omega) (by omega)
    have e2 : IntKind.wrap IntKind.i64 (gi row (gi D i) + a) = gi row (gi D i) + a := wrap_in (by omega) (by omega)
    rw [e1, e2]
    simp only [List.length_set]
    refine good_pos (by omega) (good_pos (by omega) (good_gi o.1 (by rw [List.length_set]; omega) ?_))
    refine good_pos (by omega) (good_pos (by omega) (good_gi o.1 (by rw [List.length_set]; omega) ?_))
    have e3 : IntKind.wrap IntKind.i64 (gi (row.set (gi D i).toNat (gi row (gi D i) + a)) (oth (gi D i)) - a) = gi (row.set (gi D i).toNat (gi row (gi D i) + a)) (oth (gi D i)) - a := wrap_in (by rw [hg]; omega) (by rw [hg]; omega)
    have e4 : IntKind.wrap IntKind.i64 (i + 1) = i + 1 := wrap_in (by omega) (by omega)
    rw [e3, e4]
    exact good_at r3
theorem f82 {row : List Int} {R : Bool} {A : Int} {D : List Int} {often a m : Int} (hA : often * A = a) (ha : -1099511627776 ≤ a ∧ a ≤ 1099511627776) (hD : D.length ≤ 300) (hm : m % 2 = 0) (hm2 : m ≤ 240) (hr : ∀ d, d ∈ D → 0 ≤ d ∧ d < m) (hl : (row.length : Int) = m)
    (hb : ∀ e : Int, 0 ≤ e → e < m → -1152921504606846976 ≤ gi row e ∧ gi row e ≤ 1152921504606846976) :
    ok82 row R A D often = true ∧ ((v82 row R A D often).length : Int) = m ∧ ∀ e : Int, 0 ≤ e → e < m → gi (v82 row R A D often) e = gi row e + a * cD D e := by
  obtain ⟨r, r1, r2, r3⟩ := l82_2 (R := R) (D' := D) hA ha hD hm hm2 hr hl hb D.length 0 row (by omega) (by omega) (by omega) hl (fun e e0 e1 => by
    show gi row e = gi row e + a * cD (D.take 0) e
    simp [cD])
  have := sp82 row R A D often r (run82 _ _ _ _ _ _ (by
    unfold t82
    exact good_at r3))
  exact ⟨this.1, by rw [this.2]; exact r1, by rw [this.2]; exact r2⟩
/-- what is laid together -/
structure Joined (m : Int) (l : List (Bool × Int × List Int)) (r : List Int) : Prop where
  len : (r.length : Int) = m
  at_ : ∀ e : Int, 0 ≤ e → e < m → gi r e = jP l e
theorem Joined.uniq {m : Int} {l k : List (Bool × Int × List Int)} {r q : List Int} (h : Joined m l r) (h' : Joined m k q) (he : ∀ e, jP l e = jP k e) : r = q :=
  gi_ext (by have := h.len; have := h'.len; omega) fun x x0 x1 => by
    have := h.len
    rw [h.at_ x x0 (by omega), h'.at_ x x0 (by omega), he]
theorem take_succ_jP {l : List (Bool × Int × List Int)} {i : Int} (i0 : 0 ≤ i) (i1 : i < (l.length : Int)) : ∃ p, l[i.toNat]? = some p ∧ p ∈ l ∧ ∀ e, jP (l.take (i + 1).toNat) e = jP (l.take i.toNat) e + p.2.1 * cD p.2.2 e := by
  have hi : i.toNat < l.length := by omega
  refine ⟨l[i.toNat], List.getElem?_eq_getElem hi, List.getElem_mem hi, fun e => ?_⟩
  have e1 : (i + 1).toNat = i.toNat + 1 := by omega
  rw [e1, List.take_add_one, List.getElem?_eq_getElem hi, jP_append]
  simp [jP]
theorem take_bound {m : Int} {l : List (Bool × Int × List Int)} (hp : ∀ p, p ∈ l → PartOk m p) (hl : l.length ≤ 300) (i : Nat) (e : Int) : -98956046499840000 ≤ jP (l.take i) e ∧ jP (l.take i) e ≤ 98956046499840000 := by
  have := jP_bound (m := m) e (l := l.take i) fun p h => hp p (List.mem_of_mem_take h)
  have h2 : (l.take i).length ≤ 300 := by rw [List.length_take]; omega
  omega
theorem l43_3 {m : Int} {l : List (Bool × Int × List Int)} (hm : m % 2 = 0) (hm2 : m ≤ 240) (hl : l.length ≤ 300) (hp : ∀ p, p ∈ l → PartOk m p) :
    ∀ (n : Nat) (i : Int) (row : List Int), 0 ≤ i → i ≤ l.length → (l.length : Int) - i = n → Joined m (l.take i.toNat) row → ∃ r, Joined m l r ∧ Lead E43 kr43 (.sl .int r) (a43_3 l (l.length : Int) i row) := by
  intro n
  induction n with
  | zero =>
    intro i row i0 i1 i2 h
    rw [List.take_of_length_le (by omega)] at h
    refine ⟨row, h, h43_3 _ _ _ _ _ ?_⟩
    unfold t43_3
    repeat (first | (refine good_pos (by omega) ?_) | (refine good_pos trivial ?_) | (refine good_neg (by omega) ?_) | (refine good_npos (by omega) ?_) | (refine good_nneg (by omega) ?_) | (refine good_gi (by omega) (by omega) ?_) | (refine good_gb (by omega) (by omega) ?_) | (refine good_ble (by omega) ?_))
    exact good_end rfl
  | succ n ih =>
    intro i row i0 i1 i2 h
    obtain ⟨p, p1, p2, p3⟩ := take_succ_jP (l := l) i0 (by omega)
    obtain ⟨q1, q2, q3⟩ := hp p p2
    obtain ⟨a1, a2, a3⟩ := f82 (row := row) (R := p.1) (A := p.2.1) (D := p.2.2) (often := 1) (a := p.2.1) (m := m) (by omega) q1 q2 hm hm2 q3 h.len (fun e e0 e1 => by
      have := take_bound hp hl i.toNat e
      rw [h.at_ e e0 e1]; omega)
    have hlen := h.len
    obtain ⟨r, r1, r2⟩ := ih (i + 1) (v82 row p.1 p.2.1 p.2.2 1) (by omega) (by omega) (by omega) ⟨a2, fun e e0 e1 => by rw [a3 e e0 e1, p3 e, h.at_ e e0 e1]⟩
    refine ⟨r, r1, h43_3 _ _ _ _ _ ?_⟩
    unfold t43_3
    simp (disch := omega) only [wrap_in]
    refine good_pos (by omega) (good_pos i0 ?_)
    rw [p1, ob_some]
    refine good_true (by rw [a1]; simp; omega) ?_
    exact good_at r2
theorem f43 {N : Int} {T X C : List Int} {l : List (Bool × Int × List Int)} (hm : (T.length : Int) % 2 = 0) (hm2 : (T.length : Int) ≤ 240) (hl : l.length ≤ 300) (hp : ∀ p, p ∈ l → PartOk T.length p) : ok43 N T X C l = true ∧ Joined T.length l (v43 N T X C l) := by
  obtain ⟨r, r1, r2⟩ := l43_3 (m := T.length) hm hm2 hl hp l.length 0 (List.replicate (T.length : Int).toNat 0) (by omega) (by omega) (by omega) ⟨by simp, fun e e0 e1 => by rw [gi_replicate e0 (by omega)]; rfl⟩
  have := sp43 N T X C l r (run43 _ _ _ _ _ _ (by
    unfold t43
    repeat (first | (refine good_pos (by omega) ?_) | (refine good_pos trivial ?_) | (refine good_neg (by omega) ?_) | (refine good_npos (by omega) ?_) | (refine good_nneg (by omega) ?_) | (refine good_gi (by omega) (by omega) ?_) | (refine good_gb (by omega) (by omega) ?_) | (refine good_ble (by omega) ?_))
    exact good_at r2))
  exact ⟨this.1, by rw [this.2]; exact r1⟩
theorem l46_6 {m : Int} {l : List (Bool × Int × List Int)} {p : Bool × Int × List Int} {i : Int} (hm : m % 2 = 0) (hm2 : m ≤ 240) (i0 : 0 ≤ i) (hi : l[i.toNat]? = some p) (hq : PartOk m p) {row0 : List Int} (hl0 : (row0.length : Int) = m) (hb : ∀ e : Int, 0 ≤ e → e < m → -1152921504606846976 ≤ gi row0 e ∧ gi row0 e ≤ 1152921504606846976)
    {r : CV} (hk : ∀ row : List Int, (row.length : Int) = m → (∀ e : Int, 0 ≤ e → e < m → gi row e = gi row0 e + p.2.1 * cD p.2.2 e) → Lead E46 kr46 r (a46_6 l i (p.2.2.length : Int) row)) :
    ∀ (n : Nat) (j : Int) (row : List Int), 0 ≤ j → j ≤ p.2.2.length → (p.2.2.length : Int) - j = n → (row.length : Int) = m → (∀ e : Int, 0 ≤ e → e < m → gi row e = gi row0 e + p.2.1 * cD (p.2.2.take j.toNat) e) → Lead E46 kr46 r (a46_6 l i j row) := by
  obtain ⟨q1, q2, q3⟩ := hq
  intro n
  induction n with
  | zero =>
    intro j row j0 j1 j2 hl h
    obtain rfl : j = p.2.2.length := by omega
    exact hk row hl fun e e0 e1 => by rw [h e e0 e1, List.take_of_length_le (by omega)]
  | succ n ih =>
    intro j row j0 j1 j2 hl h
    have hd := q3 (gi p.2.2 j) (gi_mem j0 (by omega))
    have o := oth_in hd.1 hd.2 hm
    have take : ∀ e, cD (p.2.2.take (j + 1).toNat) e = cD (p.2.2.take j.toNat) e + sg (gi p.2.2 j) e := by
      intro e
      have hi : j.toNat < p.2.2.length := by omega
      have e1 : (j + 1).toNat = j.toNat + 1 := by omega
      rw [e1, List.take_add_one, List.getElem?_eq_getElem hi]
      have e2 : p.2.2[j.toNat] = gi p.2.2 j := by rw [← gi_get hi]; congr 1; omega
      have app : ∀ l : List Int, cD (l ++ [gi p.2.2 j]) e = cD l e + sg (gi p.2.2 j) e := by
        intro l
        induction l with
        | nil => simp [cD]
        | cons x l ihl => simp only [List.cons_append, cD, ihl]; omega
      rw [Option.toList_some, e2]
      exact app _
    have bd : ∀ e : Int, 0 ≤ e → e < m → -1153300000000000000 ≤ gi row e ∧ gi row e ≤ 1153300000000000000 := fun e e0 e1 => by
      have h1 := h e e0 e1
      have h2 := hb e e0 e1
      have hc := cD_bound e (p.2.2.take j.toNat)
      have hlen : (p.2.2.take j.toNat).length ≤ 300 := by rw [List.length_take]; omega
      have := mul_bound (A := 1099511627776) (B := 300) q1 (c := cD (p.2.2.take j.toNat) e) (by omega)
      omega
    have b1 := bd (gi p.2.2 j) hd.1 hd.2
    have b2 := bd (oth (gi p.2.2 j)) o.1 o.2
    have nxt := ih (j + 1) (bump row (gi p.2.2 j) p.2.1) (by omega) (by omega) (by omega) (by rw [bump_len]; exact hl) (fun e e0 e1 => by
      rw [bump_gi (by omega) hd.1 (by omega) e0, h e e0 e1, take e, Int.mul_add]; omega)
    refine h46_6 _ _ _ _ _ ?_
    unfold t46_6
    rw [hi]
    try simp only [ob_some]
    refine good_pos i0 (good_pos (by omega) (good_pos i0 (good_pos j0 (good_gi j0 (by omega) ?_))))
    rw [xor_one hd.1 (by omega)]
    have hg : gi (row.set (gi p.2.2 j).toNat (gi row (gi p.2.2 j) + p.2.1)) (oth (gi p.2.2 j)) = gi row (oth (gi p.2.2 j)) := by
      rw [gi_set hd.1 (by omega) o.1, if_neg (oth_ne _)]
    refine good_pos (by omega) (good_pos (by omega) (good_gi hd.1 (by omega) ?_))
    refine good_pos i0 ?_
    refine good_pos (by omega) (good_pos (by omega) (good_gi hd.1 (by omega) ?_))
    have e2 : IntKind.wrap IntKind.i64 (gi row (gi p.2.2 j) + p.2.1) = gi row (gi p.2.2 j) + p.2.1 := wrap_in (by omega) (by omega)
    rw [e2]
    simp only [List.length_set]
    refine good_pos (by omega) (good_pos (by omega) (good_gi o.1 (by rw [List.length_set]; omega) ?_))
    refine good_pos i0 ?_
    refine good_pos (by omega) (good_pos (by omega) (good_gi o.1 (by rw [List.length_set]; omega) ?_))
    have e3 : IntKind.wrap IntKind.i64 (gi (row.set (gi p.2.2 j).toNat (gi row (gi p.2.2 j) + p.2.1)) (oth (gi p.2.2 j)) - p.2.1) = gi (row.set (gi p.2.2 j).toNat (gi row (gi p.2.2 j) + p.2.1)) (oth (gi p.2.2 j)) - p.2.1 := wrap_in (by rw [hg]; omega) (by rw [hg]; omega)
    have e4 : IntKind.wrap IntKind.i64 (j + 1) = j + 1 := wrap_in (by omega) (by omega)
    rw [e3, e4]
    exact good_at nxt
theorem l46_3 {m : Int} {l : List (Bool × Int × List Int)} (hm : m % 2 = 0) (hm2 : m ≤ 240) (hl : l.length ≤ 300) (hp : ∀ p, p ∈ l → PartOk m p) {r : List Int} (hr : Joined m l r) :
    ∀ (n : Nat) (i : Int) (row : List Int), 0 ≤ i → i ≤ l.length → (l.length : Int) - i = n → Joined m (l.take i.toNat) row → Lead E46 kr46 (.sl .int r) (a46_3 l i row) := by
  intro n
  induction n with
  | zero =>
    intro i row i0 i1 i2 h
    rw [List.take_of_length_le (by omega)] at h
    obtain rfl := h.uniq hr fun _ => rfl
    refine h46_3 _ _ _ _ ?_
    unfold t46_3
    repeat (first | (refine good_pos (by omega) ?_) | (refine good_pos trivial ?_) | (refine good_neg (by omega) ?_) | (refine good_npos (by omega) ?_) | (refine good_nneg (by omega) ?_) | (refine good_gi (by omega) (by omega) ?_) | (refine good_gb (by omega) (by omega) ?_) | (refine good_ble (by omega) ?_))
    exact good_end rfl
  | succ n ih =>
    intro i row i0 i1 i2 h
    obtain ⟨p, p1, p2, p3⟩ := take_succ_jP (l := l) i0 (by omega)
    have hq := hp p p2
    have hlen := h.len
    refine h46_3 _ _ _ _ ?_
    unfold t46_3
    refine good_pos (by omega) ?_
    refine good_at (l46_6 (l := l) hm hm2 i0 p1 hq hlen (fun e e0 e1 => by
      have := take_bound hp hl i.toNat e
      rw [h.at_ e e0 e1]; omega) (fun row' hl' h' => ?_) p.2.2.length 0 row (by omega) (by omega) (by omega) hlen (fun e e0 e1 => by
        show gi row e = gi row e + p.2.1 * cD (p.2.2.take 0) e
        simp [cD]))
    have nxt := ih (i + 1) row' (by omega) (by omega) (by omega) ⟨hl', fun e e0 e1 => by rw [h' e e0 e1, p3 e, h.at_ e e0 e1]⟩
    refine h46_6 _ _ _ _ _ ?_
    unfold t46_6
    rw [p1]
    try simp only [ob_some]
    refine good_pos i0 (good_neg (by omega) ?_)
    simp (disch := omega) only [wrap_in]
    exact good_at nxt
theorem f46 {N : Int} {T X C : List Int} {l : List (Bool × Int × List Int)} (hm : (T.length : Int) % 2 = 0) (hm2 : (T.length : Int) ≤ 240) (hl : l.length ≤ 300) (hp : ∀ p, p ∈ l → PartOk T.length p) {r : List Int} (hr : Joined T.length l r) : ok46 N T X C l = true ∧ v46 N T X C l = r :=
  sp46 _ _ _ _ _ _ (run46 _ _ _ _ _ _ (by
    have := l46_3 hm hm2 hl hp hr l.length 0 (List.replicate (T.length : Int).toNat 0) (by omega) (by omega) (by omega) ⟨by simp, fun e e0 e1 => by rw [gi_replicate e0 (by omega)]; rfl⟩
    unfold t46
    repeat (first | (refine good_pos (by omega) ?_) | (refine good_pos trivial ?_) | (refine good_neg (by omega) ?_) | (refine good_npos (by omega) ?_) | (refine good_nneg (by omega) ?_) | (refine good_gi (by omega) (by omega) ?_) | (refine good_gb (by omega) (by omega) ?_) | (refine good_ble (by omega) ?_))
    exact good_at this))
end Go.Proofs.Ytnfgfdeidkhdkaa.Eng
/- P27: watershed/watershedref1.Ints: its run from loop to loop, as Lean printed it (a program of this session's wrote these rows). No condition. -/
namespace Go.Proofs.Ytnfgfdeidkhdkaa.Eng
set_option linter.unusedVariables false
set_option maxRecDepth 100000
noncomputable def ents27 : List (Nat × Ent) := []
noncomputable def mems27 : List (Nat × EntM) := []
noncomputable def E27 (fu : Nat) : Env := ⟨26, 0, semOf ents27, [], memOf mems27, [], [(100004, ⟨[], [(0, none), (1, none), (5, none)], [0, 1, 5]⟩)], fu⟩
theorem fuel27 : Fuel E27 := fun _ => rfl
noncomputable def kr27 : St → Option CV := endK true Try.f27.results.toList
noncomputable def K27_4 : List Fr := theK Try.f27 100004
noncomputable def C27_4 : Code := theC Try.f27 100004
def s27_4 (l0 : List Int) (l1 : List Int) (i5 : Int) : St := ⟨[(0, .sl .int l0), (1, .sl .int l1), (5, .int .i64 i5)], []⟩
noncomputable def a27_4 (l0 : List Int) (l1 : List Int) (i5 : Int) : Leaf := .at K27_4 C27_4 (s27_4 l0 l1 i5)
noncomputable def t27_4 (l0 : List Int) (l1 : List Int) (i5 : Int) : Option Leaf :=
  bif Decidable.decide (i5 < (↑(List.length l0) : Int)) then
   bif Decidable.decide ((0 : Int) ≤ i5) then
    ob (l0[Int.toNat i5]?) fun x1 =>
     bif Decidable.decide ((0 : Int) ≤ i5) then
      ob (l1[Int.toNat i5]?) fun x2 =>
       bif !Decidable.decide (x1 = x2) then
        some (.ret (CV.bool Bool.false))
       else
        some (a27_4 l0 l1 (IntKind.wrap IntKind.i64 (i5 + (1 : Int))))
     else
      none
   else
    none
  else
   some (.ret (CV.bool Bool.true))
theorem c27_4 (fu : Nat) (l0 : List Int) (l1 : List Int) (i5 : Int) : cutL (E27 fu) kr27 K27_4 C27_4 (s27_4 l0 l1 i5) = t27_4 l0 l1 i5 := by kernel_rfl
theorem h27_4 (l0 : List Int) (l1 : List Int) (i5 : Int) (r : CV) (h : Good E27 kr27 (t27_4 l0 l1 i5) r) : Lead E27 kr27 r (a27_4 l0 l1 i5) := Lead.at fuel27 (fun fu => c27_4 fu l0 l1 i5) h
noncomputable def t27 (a : List Int) (b : List Int) : Option Leaf :=
  bif !Decidable.decide ((↑(List.length a) : Int) = (↑(List.length b) : Int)) then
   some (.ret (CV.bool Bool.false))
  else
   some (a27_4 a b ((0 : Int)))
theorem c27 (fu : Nat) (a : List Int) (b : List Int) : cutB (E27 fu) kr27 Try.f27 (⟨parT 0 [.sl .int a, .sl .int b], []⟩) = t27 a b := by kernel_rfl
def R27 (a : List Int) (b : List Int) (r : Bool) : Prop := RunF E27 true Try.f27 [.sl .int a, .sl .int b] (.bool r)
theorem run27 (a : List Int) (b : List Int) (r : Bool) (h : Good E27 kr27 (t27 a b) (.bool r)) : R27 a b r := RunF.of fuel27 (fun fu => c27 fu a b) h
noncomputable def ok27 (a : List Int) (b : List Int) : Bool := okP (R27 a b)
noncomputable def v27 (a : List Int) (b : List Int) : Bool := valP (R27 a b)
theorem sp27 (a : List Int) (b : List Int) (r : Bool) (h : R27 a b r) : ok27 a b = true ∧ v27 a b = r := okP_of h fun b hb => by
  have := RunF.uniq hb h
  simp_all
theorem at27 : P.funcs[27]? = some Try.f27 := by kernel_rfl
theorem callable27 : callable 27 = true := by kernel_rfl
theorem semok27 : SemOk (semOf ents27) := EntsOk.sem (.nil)
theorem memok27 : MemOk (memOf mems27) := EntsMOk.mem (.nil)
noncomputable def ent27 : Ent := fun args => match args with
  | [.sl .int a, .sl .int b] => some (true, ok27 a b, .bool (v27 a b))
  | _ => none
theorem entok27 : EntOk 27 ent27 := fun args own r h => by
  unfold ent27 at h
  split at h
  · simp only [Option.some.injEq, Prod.mk.injEq] at h
    obtain ⟨rfl, h, rfl⟩ := h
    exact ⟨RunF.calls (fun _ => semok27) (fun _ => memok27) at27 rfl (Nat.le_of_ble_eq_true rfl) (fun _ => rfl) (okP_val h), callable27⟩
  · cases h
end Go.Proofs.Ytnfgfdeidkhdkaa.Eng
/- Lw: Ints: two rows of numbers are the same. -/
namespace Go.Proofs.Ytnfgfdeidkhdkaa.Eng
set_option linter.unusedVariables false
set_option linter.unusedSimpArgs false
theorem l27 {a b : List Int} (hl : a.length = b.length) (ha : (a.length : Int) ≤ 4294967296) : ∀ (n : Nat) (i : Int), 0 ≤ i → i ≤ a.length → (a.length : Int) - i = n → (∀ x : Int, 0 ≤ x → x < i → gi a x = gi b x) → Lead E27 kr27 (.bool (decide (a = b))) (a27_4 a b i) := by
  intro n
  induction n with
  | zero =>
    intro i i0 i1 i2 h
    have : a = b := gi_ext hl fun x x0 x1 => h x x0 (by omega)
    refine h27_4 _ _ _ _ ?_
    unfold t27_4
    repeat (first | (refine good_pos (by omega) ?_) | (refine good_pos trivial ?_) | (refine good_neg (by omega) ?_) | (refine good_npos (by omega) ?_) | (refine good_nneg (by omega) ?_) | (refine good_gi (by omega) (by omega) ?_) | (refine good_gb (by omega) (by omega) ?_) | (refine good_ble (by omega) ?_))
    exact good_end (by simp [this])
  | succ n ih =>
    intro i i0 i1 i2 h
    refine h27_4 _ _ _ _ ?_
    unfold t27_4
    simp (disch := omega) only [wrap_in]
    by_cases c : gi a i = gi b i
    · have := ih (i + 1) (by omega) (by omega) (by omega) (fun x x0 x1 => by
        by_cases e : x = i
        · subst e; exact c
        · exact h x x0 (by omega))
      repeat (first | (refine good_pos (by omega) ?_) | (refine good_pos trivial ?_) | (refine good_neg (by omega) ?_) | (refine good_npos (by omega) ?_) | (refine good_nneg (by omega) ?_) | (refine good_gi (by omega) (by omega) ?_) | (refine good_gb (by omega) (by omega) ?_) | (refine good_ble (by omega) ?_))
      exact good_at this
    · have hne : ¬ a = b := fun e => c (by rw [e])
      repeat (first | (refine good_pos (by omega) ?_) | (refine good_pos trivial ?_) | (refine good_neg (by omega) ?_) | (refine good_npos (by omega) ?_) | (refine good_nneg (by omega) ?_) | (refine good_gi (by omega) (by omega) ?_) | (refine good_gb (by omega) (by omega) ?_) | (refine good_ble (by omega) ?_))
      exact good_end (by simp [hne])
theorem f27 {a b : List Int} (ha : (a.length : Int) ≤ 4294967296) : ok27 a b = true ∧ v27 a b = decide (a = b) :=
  sp27 _ _ _ (run27 _ _ _ (by
    unfold t27
    by_cases c : a.length = b.length
    · have := l27 c ha a.length 0 (by omega) (by omega) (by omega) (fun x _ _ => by omega)
      repeat (first | (refine good_pos (by omega) ?_) | (refine good_pos trivial ?_) | (refine good_neg (by omega) ?_) | (refine good_npos (by omega) ?_) | (refine good_nneg (by omega) ?_) | (refine good_gi (by omega) (by omega) ?_) | (refine good_gb (by omega) (by omega) ?_) | (refine good_ble (by omega) ?_))
      exact good_at this
    · have hne : ¬ a = b := fun e => c (by rw [e])
      repeat (first | (refine good_pos (by omega) ?_) | (refine good_pos trivial ?_) | (refine good_neg (by omega) ?_) | (refine good_npos (by omega) ?_) | (refine good_nneg (by omega) ?_) | (refine good_gi (by omega) (by omega) ?_) | (refine good_gb (by omega) (by omega) ?_) | (refine good_ble (by omega) ?_))
      exact good_end (by simp [hne])))
theorem f27_same {a b : List Int} (h : a = b) (ha : (a.length : Int) ≤ 4294967296) : ok27 a b = true ∧ v27 a b = true := by
  obtain ⟨x, y⟩ := f27 (b := b) ha
  exact ⟨x, by rw [y]; simp [h]⟩
end Go.Proofs.Ytnfgfdeidkhdkaa.Eng
