/- The engine's soundness, fifteenth part: regions whose order is open. -/
import Derived.Test.YtnfgfdeidkhdkaaEp
namespace Go.Proofs.Ytnfgfdeidkhdkaa.Eng
open Go.RowKit (Below)
set_option linter.unusedVariables false
set_option linter.unusedSimpArgs false

theorem isW_mono {s t : St} (l : s.le t) {E : Env} {o : Op} : isW E o s.T = isW E o t.T ∨ (isW E o s.T = true ∧ ∀ {R : Type} (x : Nat) (K : CV → Hp → Option R), wop E o x s K = none) := by
  cases o <;> try (exact .inl rfl)
  case slice t1 s1 lo hi mx => cases lo <;> cases hi <;> cases mx <;> exact .inl rfl
  case call c =>
    simp only [isW]
    cases hc : c.callee with
    | builtin b =>
      cases b <;> try (exact .inl rfl)
      case append =>
        simp only
        cases hs : evs s.T c.args.toList c.argTypes.toList with
        | none =>
          refine .inr ⟨rfl, fun x K => ?_⟩
          simp only [wop, hc, hs]
        | some vs =>
          rw [evs_mono l hs]
          exact .inl rfl
    | invoke r m => exact .inl rfl
    | value g => cases g <;> exact .inl rfl

/-- what an operation does, where more is known -/
structure Alike (E : Env) (ops : Array Oper) (o : Oper) (s : St) (u : U) : Prop where
  T : ∀ p, p ∈ u.T → o.dst = some p.1
  H : noHeap o.op = true → u.H = []
  run : ∀ t : St, s.le t → (∀ p, p ∈ u.H → look s.H p.1 = none → look t.H p.1 = none) → opG E ops o t some = some u

theorem noHeap_W {E : Env} {o : Op} {T : List (Nat × CV)} (h : noHeap o = true) : isW E o T = false := by cases o <;> first | rfl | (simp [noHeap] at h)
theorem noHeap_quiet {R : Type} {sem : Sems} {o : Op} {t x : Nat} {st : St} {K : CV → List Blk → Option R} (h : noHeap o = true) : quiet sem o t x st K = pureOp o t st.T fun v => K v [] := by
  cases o <;> first | rfl | (simp [noHeap] at h)
theorem nameB_mem : ∀ {bs : List Blk} {x : Nat} {p : Nat × Option Blk}, p ∈ nameB x bs → x ≤ p.1 ∧ p.1 < x + bs.length
  | [], x, p, h => by simp [nameB] at h
  | b :: bs, x, p, h => by
    simp only [nameB, List.mem_cons] at h
    rcases h with rfl | h
    · simp
    · have := nameB_mem h
      simp only [List.length_cons]; omega
theorem fresh_of : ∀ {bs : List Blk} {x : Nat} {H : Hp}, (∀ y, x ≤ y ∧ y < x + bs.length → look H y = none) → freshB H x bs = true
  | [], x, H, h => rfl
  | b :: bs, x, H, h => by
    simp only [freshB, Bool.and_eq_true]
    refine ⟨by rw [h x ⟨Nat.le_refl _, by simp⟩], fresh_of fun y hy => h y ⟨by omega, by simp only [List.length_cons]; omega⟩⟩
theorem nameB_has : ∀ {bs : List Blk} {x y : Nat}, x ≤ y ∧ y < x + bs.length → ∃ p, p ∈ nameB x bs ∧ p.1 = y
  | [], x, y, h => by simp at h; omega
  | b :: bs, x, y, h => by
    by_cases e : y = x
    · subst e; exact ⟨_, List.mem_cons_self .., rfl⟩
    · obtain ⟨p, hp, e'⟩ := nameB_has (bs := bs) (x := x + 1) (y := y) ⟨by omega, by simp only [List.length_cons] at h; omega⟩
      exact ⟨p, List.mem_cons_of_mem _ hp, e'⟩

theorem wop_uni {s : St} {E : Env} {o : Op} {x : Nat} {R : Type} {K : CV → Hp → Option R} {r : R} (h : wop E o x s K = some r) :
    ∃ c H, K c H = some r ∧ wop E o x s (fun c H => some (c, H)) = some (c, H) ∧ ∀ {t : St} (l : s.le t) {S : Type} (K' : CV → Hp → Option S), wop E o x t K' = K' c H := by
  obtain ⟨c, H, hK, e⟩ := wop_mono (t := s) ⟨fun _ _ h => h, fun _ _ h => h⟩ h (fun c H => some (c, H))
  refine ⟨c, H, hK, e, fun l S K' => ?_⟩
  obtain ⟨c', H', hK', e'⟩ := wop_mono l e K'
  cases hK'
  exact e'
theorem quiet_uni {s : St} {sem : Sems} {o : Op} {ty x : Nat} {R : Type} {K : CV → List Blk → Option R} {r : R} (h : quiet sem o ty x s K = some r) :
    ∃ c bs, K c bs = some r ∧ quiet sem o ty x s (fun c H => some (c, H)) = some (c, bs) ∧ ∀ {t : St} (l : s.le t) {S : Type} (K' : CV → List Blk → Option S), quiet sem o ty x t K' = K' c bs := by
  obtain ⟨c, H, hK, e⟩ := quiet_mono (t := s) ⟨fun _ _ h => h, fun _ _ h => h⟩ h (fun c H => some (c, H))
  refine ⟨c, H, hK, e, fun l S K' => ?_⟩
  obtain ⟨c', H', hK', e'⟩ := quiet_mono l e K'
  cases hK'
  exact e'
theorem wop_app {s : St} {E : Env} {o : Op} {x : Nat} {c : CV} {H : Hp} (ha : isApp o = true) (h : wop E o x s (fun c H => some (c, H)) = some (c, H)) : ∃ p, p ∈ H ∧ p.1 = x := by
  cases o <;> simp only [isApp, Bool.false_eq_true] at ha
  case buildSlice t1 n parts =>
    simp only [wop] at h
    split at h
    · cases h
    · rename_i k hk
      by_cases hc : (Nat.beq parts.size n && !Nat.beq n 0 && Nat.beq E.low 0 && Nat.ble n 1000) = true
      · rw [hc, cond_true] at h
        split at h
        · cases h
          exact ⟨_, List.mem_cons_self .., rfl⟩
        · cases h
      · rw [Bool.eq_false_iff.2 hc] at h; cases h
  case slice t1 s1 lo hi mx =>
    cases lo with
    | some lo => cases ha
    | none =>
      cases hi with
      | none => cases ha
      | some hi =>
        cases mx with
        | none => cases ha
        | some mx =>
          simp only [wop] at h
          split at h
          · split at h
            · rename_i k m hg
              split at h
              · rename_i i1 b hb
                split at h
                · rename_i i2 m2 hm
                  by_cases hc : (Nat.beq k.ty t1 && decide (b = (m.length : Int)) && decide (m2 = (m.length : Int))) = true
                  · rw [hc, cond_true] at h
                    cases h
                    exact ⟨_, List.mem_cons_self .., rfl⟩
                  · rw [Bool.eq_false_iff.2 hc] at h; cases h
                · cases h
              · cases h
            · cases h
          · cases h
  rename_i cl
  simp only [wop] at h
  split at ha
  · rename_i hc
    simp only [hc] at h
    split at h
    · split at h
      · rename_i t1 t2 ht
        split at h
        · rename_i k m hg
          by_cases h1 : (Nat.beq t1 k.ty && Nat.beq t2 k.ty) = true
          · rw [h1, cond_true] at h
            obtain ⟨m', h, -⟩ := source_mono (S := Nat) (t := s) ⟨fun _ _ h => h, fun _ _ h => h⟩ h
            by_cases h2 : Nat.ble (m.length + m'.length) 4294967296 = true
            · rw [h2, cond_true] at h
              cases h
              exact ⟨_, List.mem_cons_self .., rfl⟩
            · rw [Bool.eq_false_iff.2 h2] at h; cases h
          · rw [Bool.eq_false_iff.2 h1] at h; cases h
        · cases h
      · cases h
    · cases h
  · cases ha

theorem op1_alike {E : Env} {o : Oper} {s : St} {R : Type} {K : U → Option R} {r : R} (h : op1 E o s K = some r) :
    ∃ u, K u = some r ∧ (∀ p, p ∈ u.T → o.dst = some p.1) ∧ (noHeap o.op = true → u.H = []) ∧ ∀ t : St, s.le t → (∀ p, p ∈ u.H → look s.H p.1 = none → look t.H p.1 = none) → op1 E o t some = some u := by
  unfold op1 at h
  split at h
  · rename_i d hd
    by_cases hlt : (Nat.blt d E.nt && Nat.ble E.low d) = true
    · rw [hlt, cond_true] at h
      by_cases hw : isW E o.op s.T = true
      · rw [hw, cond_true] at h
        obtain ⟨c, H, hK, hp, e⟩ := wop_uni h
        by_cases hx : (!isApp o.op || (look s.H (8 * d)).isNone) = true
        · rw [hx, cond_true] at hK
          refine ⟨_, hK, fun p hp => ?_, fun hn => ?_, fun t l hf => ?_⟩
          · simp only [List.mem_singleton] at hp
            subst hp; exact hd
          · rw [noHeap_W hn] at hw; cases hw
          · have hw' : isW E o.op t.T = true := by
              rcases isW_mono (E := E) (o := o.op) l with e | ⟨-, hno⟩
              · rw [← e]; exact hw
              · rw [hno] at h; cases h
            have hx' : (!isApp o.op || (look t.H (8 * d)).isNone) = true := by
              simp only [Bool.or_eq_true, Bool.not_eq_true', Option.isNone_iff_eq_none] at hx ⊢
              by_cases ha : isApp o.op = true
              · right
                obtain ⟨p, hp, e⟩ := wop_app ha hp
                rw [← e]
                exact hf p hp (by rw [e]; exact hx.resolve_left (by rw [ha]; simp))
              · exact .inl (Bool.eq_false_iff.2 ha)
            unfold op1
            simp only [hd, hlt, cond_true, hw', e l, hx']
        · rw [Bool.eq_false_iff.2 hx] at hK; cases hK
      · rw [Bool.eq_false_iff.2 hw, cond_false] at h
        obtain ⟨c, bs, hK, hp, e⟩ := quiet_uni h
        by_cases hx : (freshB s.H (8 * d) bs && Nat.ble bs.length 8) = true
        · rw [hx, cond_true] at hK
          simp only [Bool.and_eq_true] at hx
          refine ⟨_, hK, fun p hp => ?_, fun hn => ?_, fun t l hf => ?_⟩
          · simp only [List.mem_singleton] at hp
            subst hp; exact hd
          · rw [noHeap_quiet hn] at hp
            obtain ⟨c', hK', -⟩ := pureOp_mono (t := s) ⟨fun _ _ h => h, fun _ _ h => h⟩ hp (fun _ => (none : Option Nat))
            cases hK'
            rfl
          · have hw' : isW E o.op t.T = false := by
              rcases isW_mono (E := E) (o := o.op) l with e | ⟨hh, -⟩
              · rw [← e]; exact Bool.eq_false_iff.2 hw
              · exact absurd hh hw
            have hx' : freshB t.H (8 * d) bs = true := fresh_of fun y hy => by
              obtain ⟨p, hp, e⟩ := nameB_has hy
              rw [← e]
              exact hf p hp (by rw [e]; exact fresh_none hx.1 y hy)
            unfold op1
            simp only [hd, hlt, cond_true, hw', cond_false, e l, hx', hx.2, Bool.and_self]
        · rw [Bool.eq_false_iff.2 hx] at hK; cases hK
    · rw [Bool.eq_false_iff.2 hlt] at h; cases h
  · rename_i hd
    by_cases hw : (isW E o.op s.T && !isApp o.op) = true
    · rw [hw, cond_true] at h
      simp only [Bool.and_eq_true, Bool.not_eq_true'] at hw
      obtain ⟨c, H, hK, hp, e⟩ := wop_uni h
      refine ⟨_, hK, fun p hp => by simp at hp, fun hn => ?_, fun t l hf => ?_⟩
      · rw [noHeap_W hn] at hw; cases hw.1
      · have hw' : isW E o.op t.T = true := by
          rcases isW_mono (E := E) (o := o.op) l with e | ⟨-, hno⟩
          · rw [← e]; exact hw.1
          · rw [hno] at h; cases h
        unfold op1
        simp only [hd, hw', hw.2, Bool.not_false, Bool.and_self, cond_true, e l]
    · rw [Bool.eq_false_iff.2 hw] at h; cases h

theorem opG_alike {E : Env} {ops : Array Oper} {o : Oper} {s : St} {R : Type} {K : U → Option R} {r : R} (h : opG E ops o s K = some r) : ∃ u, K u = some r ∧ Alike E ops o s u := by
  have skip : skipU E o K = some r → ∃ u, K u = some r ∧ (∀ p, p ∈ u.T → o.dst = some p.1) ∧ (noHeap o.op = true → u.H = []) ∧ skipU E o some = some u := by
    intro h
    unfold skipU at h
    split at h
    · rename_i d' hd'
      by_cases hlt : (Nat.blt d' E.nt && Nat.ble E.low d') = true
      · rw [hlt, cond_true] at h
        refine ⟨_, h, fun p hp => ?_, fun _ => rfl, ?_⟩
        · simp only [List.mem_singleton] at hp
          subst hp; exact hd'
        · simp only [skipU, hd', hlt, cond_true]
      · rw [Bool.eq_false_iff.2 hlt] at h; cases h
    · rename_i hd'
      refine ⟨_, h, fun p hp => by simp at hp, fun _ => rfl, ?_⟩
      simp only [skipU, hd']
  unfold opG at h
  split at h
  · rename_i hg
    obtain ⟨u, hK, a1, a2, a3⟩ := op1_alike h
    refine ⟨u, hK, a1, a2, fun t l hf => ?_⟩
    unfold opG
    simp only [hg]
    exact a3 t l hf
  · rename_i g want hg
    split at h
    · cases h
    · rename_i d hd
      split at h
      · rename_i b hb
        by_cases hbw : (b == want) = true
        · rw [hbw, cond_true] at h
          obtain ⟨u, hK, a1, a2, a3⟩ := op1_alike h
          refine ⟨u, hK, a1, a2, fun t l hf => ?_⟩
          unfold opG
          simp only [hg, hd, l.T _ _ hb, hbw, cond_true]
          exact a3 t l hf
        · rw [Bool.eq_false_iff.2 hbw, cond_false] at h
          obtain ⟨u, hK, a1, a2, a3⟩ := skip h
          refine ⟨u, hK, a1, a2, fun t l hf => ?_⟩
          unfold opG
          simp only [hg, hd, l.T _ _ hb, Bool.eq_false_iff.2 hbw, cond_false]
          exact a3
      · rename_i hb
        obtain ⟨u, hK, a1, a2, a3⟩ := skip h
        refine ⟨u, hK, a1, a2, fun t l hf => ?_⟩
        unfold opG
        simp only [hg, hd, l.T _ _ hb]
        exact a3
      · cases h
theorem opS_alike {E : Env} {ops : Array Oper} {gs : List Nat} {o : Oper} {s : St} {R : Type} {K : U → Option R} {r : R} (h : opS E ops gs o s K = some r) : ∃ u, K u = some r ∧ Alike E ops o s u := by
  obtain ⟨u, hK, hs⟩ := opG_alike h
  exact ⟨u, splitK_sound hK, hs⟩
end Go.Proofs.Ytnfgfdeidkhdkaa.Eng
