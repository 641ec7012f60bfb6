/- The engine's soundness, thirteenth part: what an operation does it does alike where more is known. -/
import Derived.Test.YtnfgfdeidkhdkaaEn
namespace Go.Proofs.Ytnfgfdeidkhdkaa.Eng
open Go.RowKit (Below)
set_option linter.unusedVariables false
set_option linter.unusedSimpArgs false

structure St.le (s t : St) : Prop where
  T : ∀ i c, look s.T i = some c → look t.T i = some c
  H : ∀ y b, get s.H y = some b → get t.H y = some b

theorem ev_mono {s t : St} (l : s.le t) {ty : Nat} {x : Operand} {c : CV} (h : ev ty s.T x = some c) : ev ty t.T x = some c := by
  cases x <;> simp only [ev] at h ⊢
  · exact l.T _ _ h
  · exact h
  all_goals cases h
theorem evs_mono {s t : St} (l : s.le t) : ∀ {xs : List Operand} {ts : List Nat} {cs : List CV}, evs s.T xs ts = some cs → evs t.T xs ts = some cs
  | [], [], cs, h => h
  | x :: xs, ty :: ts, cs, h => by
    simp only [evs] at h ⊢
    split at h
    · cases h
    · rename_i v hv
      split at h
      · cases h
      · rename_i vs hvs
        simp only [ev_mono l hv, evs_mono l hvs]
        exact h
  | [], _ :: _, cs, h => by simp [evs] at h
  | _ :: _, [], cs, h => by simp [evs] at h
theorem buildP_mono {s t : St} (l : s.le t) {ty : Nat} : ∀ {ps : List (Nat × Operand)} {cs ds : List CV}, buildP ty s.T cs ps = some ds → buildP ty t.T cs ps = some ds
  | [], cs, ds, h => h
  | (i, x) :: ps, cs, ds, h => by
    simp only [buildP] at h ⊢
    split at h
    · cases h
    · rename_i off n hf
      split at h
      · cases h
      · rename_i b ks hk
        split at h
        · cases h
        · rename_i v hv
          rw [ev_mono l hv]
          simp only
          by_cases hc : (Nat.beq v.cells.length n && Nat.ble (off + n) cs.length && v.cells.all CV.isC) = true
          · rw [hc, cond_true] at h ⊢
            exact buildP_mono l h
          · rw [Bool.eq_false_iff.2 hc] at h; cases h
theorem binInt_K {R S : Type} {op : BinOp} {k : IntKind} {x y : Int} {K : CV → Option R} {r : R} (h : binInt op k x y K = some r) (K' : CV → Option S) : ∃ c, K c = some r ∧ binInt op k x y K' = K' c := by
  unfold binInt at h ⊢
  cases op <;> simp only at h ⊢ <;> first
    | (cases h; done)
    | exact ⟨_, h, rfl⟩
    | (by_cases hy : y < 0
       · simp only [hy, decide_true, cond_true] at h; cases h
       · simp only [hy, decide_false, cond_false] at h ⊢; exact ⟨_, h, rfl⟩)
    | (by_cases hy : y = 0
       · simp only [hy, decide_true, cond_true] at h; cases h
       · simp only [hy, decide_false, cond_false] at h ⊢; exact ⟨_, h, rfl⟩)
theorem binCV_K {R S : Type} {op : BinOp} {t : Nat} {a b : CV} {K : CV → Option R} {r : R} (h : binCV op t a b K = some r) (K' : CV → Option S) : ∃ c, K c = some r ∧ binCV op t a b K' = K' c := by
  unfold binCV at h ⊢
  split at h
  · rename_i k x k' y
    by_cases hk : k = k'
    · simp only [hk, decide_true, cond_true] at h ⊢
      exact binInt_K h K'
    · simp only [hk, decide_false, cond_false] at h; cases h
  · rename_i x y
    by_cases hk : Nat.beq t 4 = true
    · simp only [hk, cond_true] at h ⊢
      cases op <;> simp only at h ⊢ <;> first
        | (cases h; done)
        | exact ⟨_, h, rfl⟩
    · simp only [Bool.eq_false_iff.2 hk, cond_false] at h; cases h
  · cases h
theorem pureOp_mono {s t : St} (l : s.le t) {o : Op} {ty : Nat} {R S : Type} {K : CV → Option R} {r : R} (h : pureOp o ty s.T K = some r) (K' : CV → Option S) : ∃ c, K c = some r ∧ pureOp o ty t.T K' = K' c := by
  cases o <;> simp only [pureOp, reduceCtorEq] at h ⊢
  case move x =>
    split at h
    · rename_i v hv; exact ⟨v, h, by simp only [ev_mono l hv]⟩
    · cases h
  case assign x =>
    split at h
    · rename_i v hv; exact ⟨v, h, by simp only [ev_mono l hv]⟩
    · cases h
  case pick c x y =>
    split at h
    · rename_i b hb
      simp only [ev_mono l hb]
      cases b <;> simp only [cond_true, cond_false] at h ⊢
      · split at h
        · rename_i v hv; exact ⟨v, h, by simp only [ev_mono l hv]⟩
        · cases h
      · split at h
        · rename_i v hv; exact ⟨v, h, by simp only [ev_mono l hv]⟩
        · cases h
    · cases h
  case binOp op xt x y u =>
    split at h
    · cases h
    · rename_i p hp
      split at h
      · cases h
      · rename_i q hq
        simp only [ev_mono l hp, ev_mono l hq]
        exact binCV_K h K'
  case unOp op xt x =>
    cases op <;> simp only [reduceCtorEq] at h ⊢
    split at h
    · rename_i b hb; exact ⟨_, h, by simp only [ev_mono l hb]⟩
    · cases h
  case convert src dst x =>
    split at h
    · rename_i k n hv
      simp only [ev_mono l hv]
      split at h
      · rename_i k1 h1
        split at h
        · rename_i k2 h2
          exact ⟨_, h, by simp only [h1, h2]⟩
        · cases h
      · cases h
    · cases h
  case extract x i =>
    split at h
    · rename_i vs hv
      simp only [ev_mono l hv]
      split at h
      · rename_i v hi; exact ⟨_, h, by simp only [hi]⟩
      · cases h
    · cases h
  case fieldAddr sT x f =>
    split at h
    · cases h
    · rename_i off n hf
      split at h <;> first
        | (rename_i hv; exact ⟨_, h, by simp only [ev_mono l hv]⟩)
        | cases h
  case field sT x f =>
    by_cases hc : (Nat.beq sT 25 && Nat.beq f 0) = true
    · simp only [hc, cond_true] at h ⊢
      split at h
      · rename_i cs hv
        split at h
        · rename_i v hi; exact ⟨_, h, by simp only [ev_mono l hv, hi]⟩
        · cases h
      · cases h
    · simp only [Bool.eq_false_iff.2 hc, cond_false] at h; cases h
  case makeFunc fo first caps =>
    cases fo <;> simp only [reduceCtorEq] at h ⊢
    rename_i f
    by_cases hc : Nat.beq first.size 0 = true
    · simp only [hc, cond_true] at h ⊢
      split at h
      · rename_i vs hv
        simp only [evs_mono l hv]
        by_cases ha : vs.all CV.isA = true
        · simp only [ha, cond_true] at h ⊢; exact ⟨_, h, rfl⟩
        · simp only [Bool.eq_false_iff.2 ha, cond_false] at h; cases h
      · cases h
    · simp only [Bool.eq_false_iff.2 hc, cond_false] at h; cases h
  case nilCheck x =>
    split at h <;> first
      | (rename_i hv; exact ⟨_, h, by simp only [ev_mono l hv]⟩)
      | cases h
  case build sT parts =>
    split at h
    · cases h
    · rename_i cs hz
      split at h
      · rename_i ks hk
        by_cases hc : Nat.beq sT 122 = true
        · simp only [hc, cond_true] at h; cases h
        · simp only [Bool.eq_false_iff.2 hc, cond_false] at h ⊢
          split at h
          · rename_i ds hb; exact ⟨_, h, by simp only [buildP_mono l hb]⟩
          · cases h
      · cases h
  case call c =>
    split at h
    · rename_i hc
      split at h
      · rename_i k x k' y hv
        simp only [evs_mono l hv]
        by_cases hk : k = k'
        · simp only [hk, decide_true, cond_true] at h ⊢; exact ⟨_, h, rfl⟩
        · simp only [hk, decide_false, cond_false] at h; cases h
      · cases h
    · rename_i hc
      split at h
      · rename_i k x k' y hv
        simp only [evs_mono l hv]
        by_cases hk : k = k'
        · simp only [hk, decide_true, cond_true] at h ⊢; exact ⟨_, h, rfl⟩
        · simp only [hk, decide_false, cond_false] at h; cases h
      · cases h
    · cases h

theorem loadK_mono {s t : St} (l : s.le t) {ty : Nat} {p : CV} {R S : Type} {K : CV → Option R} {r : R} (h : loadK ty s.H p K = some r) (K' : CV → Option S) : ∃ c, K c = some r ∧ loadK ty t.H p K' = K' c := by
  unfold loadK at h ⊢
  split at h
  · cases h
  · rename_i b ks hk
    split at h
    · split at h
      · rename_i t' cs hg
        simp only [l.H _ _ hg]
        split at h
        · rename_i v hv; exact ⟨_, h, by simp only [hv]⟩
        · cases h
      · cases h
    · split at h
      · rename_i v hv; exact ⟨_, h, by simp only [hv]⟩
      · cases h
    · split at h
      · rename_i ap k l' hg
        simp only [l.H _ _ hg]
        split at h
        · rename_i e he
          split at h
          · rename_i v hv; exact ⟨_, h, by simp only [hv]⟩
          · cases h
        · cases h
      · cases h
    · cases h
theorem indexK_mono {s t : St} (l : s.le t) {ty : Nat} {p q : CV} {R S : Type} {K : CV → Option R} {r : R} (h : indexK ty s.H p q K = some r) (K' : CV → Option S) : ∃ c, K c = some r ∧ indexK ty t.H p q K' = K' c := by
  unfold indexK at h ⊢
  split at h
  · rename_i ik n
    split at h
    · rename_i k l'
      by_cases h1 : Nat.beq k.ty ty = true
      · simp only [h1, cond_true] at h ⊢
        by_cases h2 : 0 ≤ n
        · simp only [h2, decide_true, cond_true] at h ⊢
          split at h
          · rename_i e he; exact ⟨_, h, by simp only [he]⟩
          · cases h
        · simp only [h2, decide_false, cond_false] at h; cases h
      · simp only [Bool.eq_false_iff.2 h1, cond_false] at h; cases h
    · split at h
      · rename_i ap k l' hg
        simp only [l.H _ _ hg]
        by_cases h1 : Nat.beq k.ty ty = true
        · simp only [h1, cond_true] at h ⊢
          by_cases h2 : 0 ≤ n
          · simp only [h2, decide_true, cond_true] at h ⊢
            by_cases h3 : n < (l'.length : Int)
            · simp only [h3, decide_true, cond_true] at h ⊢; exact ⟨_, h, rfl⟩
            · simp only [h3, decide_false, cond_false] at h; cases h
          · simp only [h2, decide_false, cond_false] at h; cases h
        · simp only [Bool.eq_false_iff.2 h1, cond_false] at h; cases h
      · cases h
    · rename_i x off len
      split at h
      · rename_i ap k l' hg
        simp only [l.H _ _ hg]
        by_cases h1 : Nat.beq k.ty ty = true
        · simp only [h1, cond_true] at h ⊢
          by_cases h2 : 0 ≤ n
          · simp only [h2, decide_true, cond_true] at h ⊢
            by_cases h3 : n < (len : Int)
            · simp only [h3, decide_true, cond_true] at h ⊢; exact ⟨_, h, rfl⟩
            · simp only [h3, decide_false, cond_false] at h; cases h
          · simp only [h2, decide_false, cond_false] at h; cases h
        · simp only [Bool.eq_false_iff.2 h1, cond_false] at h; cases h
      · cases h
    · cases h
  · cases h
theorem lenK_mono {s t : St} (l : s.le t) {p : CV} {R S : Type} {K : CV → Option R} {r : R} (h : lenK s.H p K = some r) (K' : CV → Option S) : ∃ c, K c = some r ∧ lenK t.H p K' = K' c := by
  unfold lenK at h ⊢
  split at h
  · exact ⟨_, h, rfl⟩
  · exact ⟨_, h, rfl⟩
  · split at h
    · rename_i hg; exact ⟨_, h, by simp only [l.H _ _ hg]⟩
    · cases h
  · split at h
    · rename_i hg; exact ⟨_, h, by simp only [l.H _ _ hg]⟩
    · cases h
  · cases h
theorem bound_mono {s t : St} (l : s.le t) {x : Option Operand} {d : Int} {R S : Type} {K : Int → Option R} {r : R} (h : bound s.T x d K = some r) : ∃ n, K n = some r ∧ ∀ K' : Int → Option S, bound t.T x d K' = K' n := by
  unfold bound at h
  split at h
  · exact ⟨_, h, fun K' => rfl⟩
  · split at h
    · rename_i hv; exact ⟨_, h, fun K' => by simp only [bound, ev_mono l hv]⟩
    · cases h
theorem sliceK_mono {s t : St} (l : s.le t) {ty : Nat} {p : CV} {lo hi mx : Option Operand} {R S : Type} {K : CV → Option R} {r : R} (h : sliceK ty s.T s.H p lo hi mx K = some r) (K' : CV → Option S) : ∃ c, K c = some r ∧ sliceK ty t.T t.H p lo hi mx K' = K' c := by
  unfold sliceK at h ⊢
  split at h
  · rename_i k l'
    by_cases hc : (Nat.beq k.ty ty && mx.isNone) = true
    · simp only [hc, cond_true] at h ⊢
      obtain ⟨x, h, e⟩ := bound_mono (S := S) l h
      obtain ⟨y, h, e'⟩ := bound_mono (S := S) l h
      simp only [e, e']
      by_cases h1 : 0 ≤ x
      · simp only [h1, decide_true, cond_true] at h ⊢
        by_cases h2 : x ≤ y
        · simp only [h2, decide_true, cond_true] at h ⊢
          by_cases h3 : y ≤ (l'.length : Int)
          · simp only [h3, decide_true, cond_true] at h ⊢; exact ⟨_, h, rfl⟩
          · simp only [h3, decide_false, cond_false] at h; cases h
        · simp only [h2, decide_false, cond_false] at h; cases h
      · simp only [h1, decide_false, cond_false] at h; cases h
    · simp only [Bool.eq_false_iff.2 hc, cond_false] at h; cases h
  · split at h
    · rename_i ap k l' hg
      simp only [l.H _ _ hg]
      by_cases hc : (Nat.beq k.ty ty && (hi.isSome || mx.isNone)) = true
      · simp only [hc, cond_true] at h ⊢
        obtain ⟨x, h, e⟩ := bound_mono (S := S) l h
        obtain ⟨y, h, e'⟩ := bound_mono (S := S) l h
        obtain ⟨z, h, e''⟩ := bound_mono (S := S) l h
        simp only [e, e', e'']
        by_cases h1 : 0 ≤ x
        · simp only [h1, decide_true, cond_true] at h ⊢
          by_cases h2 : x ≤ y
          · simp only [h2, decide_true, cond_true] at h ⊢
            by_cases h3 : y ≤ z
            · simp only [h3, decide_true, cond_true] at h ⊢
              by_cases h4 : z ≤ (l'.length : Int)
              · simp only [h4, decide_true, cond_true] at h ⊢; exact ⟨_, h, rfl⟩
              · simp only [h4, decide_false, cond_false] at h; cases h
            · simp only [h3, decide_false, cond_false] at h; cases h
          · simp only [h2, decide_false, cond_false] at h; cases h
        · simp only [h1, decide_false, cond_false] at h; cases h
      · simp only [Bool.eq_false_iff.2 hc, cond_false] at h; cases h
    · cases h
  · cases h

theorem bv0_mono {s t : St} (l : s.le t) {c d : CV} (h : bv0 s.H c = some d) : bv0 t.H c = some d := by
  unfold bv0 at h ⊢
  split at h <;> first
    | exact h
    | (split at h
       · rename_i hg; simp only [l.H _ _ hg]; exact h
       · cases h)
    | cases h
theorem bvs_mono {f g : CV → Option CV} (hfg : ∀ c d, f c = some d → g c = some d) : ∀ {cs ds : List CV}, bvs f cs = some ds → bvs g cs = some ds
  | [], ds, h => h
  | c :: cs, ds, h => by
    simp only [bvs] at h ⊢
    split at h
    · cases h
    · rename_i v hv
      split at h
      · cases h
      · rename_i vs hvs
        simp only [hfg _ _ hv, bvs_mono hfg hvs]
        exact h
theorem bv1_mono {s t : St} (l : s.le t) {c d : CV} (h : bv1 s.H c = some d) : bv1 t.H c = some d := by
  unfold bv1 at h ⊢
  split at h
  · skip
    split at h
    · rename_i hb; simp only [bvs_mono (fun _ _ => bv0_mono l) hb]; exact h
    · cases h
  · skip
    split at h
    · rename_i hg
      simp only [l.H _ _ hg]
      split at h
      · rename_i hb; simp only [bvs_mono (fun _ _ => bv0_mono l) hb]; exact h
      · cases h
    · cases h
  · exact h
  · exact bv0_mono l h
theorem bv2_mono {s t : St} (l : s.le t) {c d : CV} (h : bv2 s.H c = some d) : bv2 t.H c = some d := by
  unfold bv2 at h ⊢
  split at h
  · skip
    split at h
    · rename_i hb; simp only [bvs_mono (fun _ _ => bv1_mono l) hb]; exact h
    · cases h
  · skip
    split at h
    · rename_i hb; simp only [bvs_mono (fun _ _ => bv1_mono l) hb]; exact h
    · cases h
  · exact bv1_mono l h
theorem elemsF_mono {s t : St} (l : s.le t) {k : SK} {f g : CV → Option CV} (hfg : ∀ c d, f c = some d → g c = some d) : ∀ {ps : List (Nat × Operand)} {i : Nat} {es : List k.T}, elemsF f s.T k i ps = some es → elemsF g t.T k i ps = some es
  | [], i, es, h => h
  | (j, x) :: ps, i, es, h => by
    simp only [elemsF] at h ⊢
    by_cases hj : Nat.beq i j = true
    · rw [hj, cond_true] at h ⊢
      split at h
      · cases h
      · rename_i v hv
        simp only [ev_mono l hv]
        split at h
        · cases h
        · rename_i cs hcs
          rw [bvs_mono hfg hcs]
          simp only
          split at h
          · cases h
          · rename_i e he
            split at h
            · cases h
            · rename_i es' hes
              simp only [elemsF_mono l hfg hes]
              exact h
    · rw [Bool.eq_false_iff.2 hj] at h; cases h
theorem bvn_iff {H : Hp} {c d : CV} : bvn H c = some d ↔ bv0 H c = some d ∧ nm0 c = [] := by
  cases c <;> simp [bvn, bv0, nm0]
theorem bvn_mono {s t : St} (l : s.le t) {c d : CV} (h : bvn s.H c = some d) : bvn t.H c = some d :=
  bvn_iff.2 ⟨bv0_mono l (bvn_iff.1 h).1, (bvn_iff.1 h).2⟩
theorem elems_mono {s t : St} (l : s.le t) {k : SK} {ps : List (Nat × Operand)} {i : Nat} {es : List k.T} (h : elems s.H s.T k i ps = some es) : elems t.H t.T k i ps = some es := elemsF_mono l (fun _ _ => bvn_mono l) h
theorem source_mono {s t : St} (l : s.le t) {k : SK} {x : CV} {R S : Type} {K : List k.T → Option R} {r : R} (h : source s.H k x K = some r) : ∃ m, K m = some r ∧ ∀ K' : List k.T → Option S, source t.H k x K' = K' m := by
  unfold source at h
  split at h
  · rename_i k' l' hb
    split at h
    · rename_i e
      subst e
      exact ⟨_, h, fun K' => by simp only [source, bv0_mono l hb]; simp⟩
    · cases h
  · cases h
end Go.Proofs.Ytnfgfdeidkhdkaa.Eng
