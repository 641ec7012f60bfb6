/- The engine's soundness, fourteenth part: operations do alike where more is known. -/
import Derived.Test.YtnfgfdeidkhdkaaEo
namespace Go.Proofs.Ytnfgfdeidkhdkaa.Eng
open Go.RowKit (Below)
set_option linter.unusedVariables false
set_option linter.unusedSimpArgs false

theorem quiet_mono {s t : St} (l : s.le t) {sem : Sems} {o : Op} {ty x : Nat} {R S : Type} {K : CV → List Blk → Option R} {r : R} (h : quiet sem o ty x s K = some r) (K' : CV → List Blk → Option S) :
    ∃ c bs, K c bs = some r ∧ quiet sem o ty x t K' = K' c bs := by
  have pure : pureOp o ty s.T (fun v => K v []) = some r → ∃ c bs, K c bs = some r ∧ pureOp o ty t.T (fun v => K' v []) = K' c bs := fun h => by
    obtain ⟨c, hk, e⟩ := pureOp_mono l h (fun v => K' v [])
    exact ⟨c, [], hk, e⟩
  cases o <;> simp only [quiet] at h ⊢ <;> try (exact pure h)
  case load ty' p =>
    split at h
    · rename_i v hv
      simp only [ev_mono l hv]
      obtain ⟨c, hk, e⟩ := loadK_mono l h (fun v => K' v [])
      exact ⟨c, [], hk, e⟩
    · cases h
  case indexAddr ty' p q =>
    split at h
    · cases h
    · rename_i v hv
      split at h
      · cases h
      · rename_i u hu
        simp only [ev_mono l hv, ev_mono l hu]
        obtain ⟨c, hk, e⟩ := indexK_mono l h (fun v => K' v [])
        exact ⟨c, [], hk, e⟩
  case slice ty' p lo hi mx =>
    split at h
    · rename_i v hv
      simp only [ev_mono l hv]
      obtain ⟨c, hk, e⟩ := sliceK_mono l h (fun v => K' v [])
      exact ⟨c, [], hk, e⟩
    · cases h
  case alloc ty' =>
    split at h
    · exact ⟨_, _, h, rfl⟩
    · cases h
  case box ty' v =>
    split at h
    · cases h
    · rename_i u hu
      simp only [ev_mono l hu]
      split at h
      · cases h
      · rename_i b ks hk
        by_cases hc : (Nat.beq ks.length u.cells.length && u.cells.all CV.isC) = true
        · simp only [hc, cond_true] at h ⊢; exact ⟨_, _, h, rfl⟩
        · simp only [Bool.eq_false_iff.2 hc, cond_false] at h; cases h
  case buildSlice ty' n parts =>
    split at h
    · cases h
    · rename_i k hk
      by_cases h1 : Nat.beq parts.size n = true
      · simp only [h1, cond_true] at h ⊢
        by_cases h2 : Nat.beq n 0 = true
        · simp only [h2, cond_true] at h ⊢; exact ⟨_, _, h, rfl⟩
        · simp only [Bool.eq_false_iff.2 h2, cond_false] at h ⊢
          split at h
          · rename_i es hes
            simp only [elems_mono l hes]
            by_cases h3 : Nat.ble n 1000 = true
            · simp only [h3, cond_true] at h ⊢; exact ⟨_, _, h, rfl⟩
            · simp only [Bool.eq_false_iff.2 h3, cond_false] at h; cases h
          · cases h
      · simp only [Bool.eq_false_iff.2 h1, cond_false] at h; cases h
  case makeSlice ty' n c =>
    split at h
    · cases h
    · rename_i k hk
      split at h
      · rename_i ik n' hn
        simp only [ev_mono l hn]
        split at h
        · rename_i ik' c' hc
          simp only [ev_mono l hc]
          split at h
          · rename_i z hz
            by_cases h1 : c' = n'
            · simp only [h1, decide_true, cond_true] at h ⊢
              by_cases h2 : 0 ≤ n'
              · simp only [h2, decide_true, cond_true] at h ⊢
                by_cases h3 : n' ≤ 4294967296
                · simp only [h3, decide_true, cond_true] at h ⊢; exact ⟨_, _, h, rfl⟩
                · simp only [h3, decide_false, cond_false] at h; cases h
              · simp only [h2, decide_false, cond_false] at h; cases h
            · simp only [h1, decide_false, cond_false] at h; cases h
          · cases h
        · cases h
      · cases h
  case call c =>
    cases hc : c.callee with
    | builtin b =>
      rw [hc] at h
      cases b <;> simp only [reduceCtorEq] at h ⊢
      case len =>
        split at h
        · rename_i v hv
          simp only [evs_mono l hv]
          split at h
          · split at h
            · obtain ⟨c, hk, e⟩ := lenK_mono l h (fun v => K' v [])
              exact ⟨c, [], hk, e⟩
            · cases h
          · cases h
        · cases h
      case append =>
        split at h
        · rename_i k y hv
          simp only [evs_mono l hv]
          split at h
          · rename_i t1 t2 ht
            by_cases h1 : (Nat.beq t1 k.ty && Nat.beq t2 k.ty) = true
            · simp only [h1, cond_true] at h ⊢
              obtain ⟨m, h, e⟩ := source_mono (S := S) l h
              rw [e]
              by_cases h2 : Nat.ble m.length 4294967296 = true
              · simp only [h2, cond_true] at h ⊢; exact ⟨_, _, h, rfl⟩
              · simp only [Bool.eq_false_iff.2 h2, cond_false] at h; cases h
            · simp only [Bool.eq_false_iff.2 h1, cond_false] at h; cases h
          · cases h
        · cases h
      case min => exact pure h
      case max => exact pure h
    | invoke r' m => rw [hc] at h; cases h
    | value g =>
      rw [hc] at h
      cases g with
      | func f =>
        simp only at h ⊢
        split at h
        · cases h
        · rename_i us hus
          simp only [evs_mono l hus]
          split at h
          · cases h
          · rename_i vs hvs
            simp only [bvs_mono (fun _ _ => bv2_mono l) hvs]
            split at h
            · rename_i g r' hs
              cases g <;> simp only [cond_true, cond_false] at h ⊢
              · cases h
              exact ⟨_, _, h, rfl⟩
            · rename_i g r' hs
              cases g <;> simp only [cond_true, cond_false] at h ⊢
              · cases h
              by_cases hn : us.all nl2 = true
              · simp only [hn, cond_true] at h ⊢; exact ⟨_, _, h, rfl⟩
              · simp only [Bool.eq_false_iff.2 hn, cond_false] at h; cases h
            · cases h
      | tmp i =>
        simp only at h ⊢
        split at h
        · rename_i f caps hf
          simp only [ev_mono l hf]
          split at h
          · cases h
          · rename_i us hus
            simp only [evs_mono l hus]
            split at h
            · cases h
            · rename_i vs hvs
              simp only [bvs_mono (fun _ _ => bv2_mono l) hvs]
              split at h
              · rename_i g r' hs
                cases g <;> simp only [cond_true, cond_false] at h ⊢
                · cases h
                exact ⟨_, _, h, rfl⟩
              · cases h
        · cases h
      | const v =>
        simp only at h ⊢
        split at h
        · rename_i f caps hf
          simp only [ev_mono l hf]
          split at h
          · cases h
          · rename_i us hus
            simp only [evs_mono l hus]
            split at h
            · cases h
            · rename_i vs hvs
              simp only [bvs_mono (fun _ _ => bv2_mono l) hvs]
              split at h
              · rename_i g r' hs
                cases g <;> simp only [cond_true, cond_false] at h ⊢
                · cases h
                exact ⟨_, _, h, rfl⟩
              · cases h
        · cases h
      | global g =>
        simp only [ev] at h
        cases h

theorem nmf_mono {s t : St} (l : s.le t) : ∀ {cs : List CV} {ys : List Nat}, nmf s.H cs = some ys → nmf t.H cs = some ys
  | [], ys, h => h
  | c :: cs, ys, h => by
    simp only [nmf] at h ⊢
    split at h
    · cases h
    · rename_i zs hz
      rw [nmf_mono l hz]
      simp only
      split at h
      · split at h
        · rename_i hg
          simp only [l.H _ _ hg]
          exact h
        · cases h
      · exact h
theorem nms_mono {s t : St} (l : s.le t) : ∀ {us : List CV} {ys : List Nat}, nms s.H us = some ys → nms t.H us = some ys
  | [], ys, h => h
  | u :: us, ys, h => by
    simp only [nms] at h ⊢
    split at h
    · cases h
    · rename_i zs hz
      rw [nms_mono l hz]
      simp only
      cases u <;> simp only at h ⊢ <;> try (exact h)
      case fn f cs =>
        split at h
        · rename_i zs' hz'
          rw [nmf_mono l hz']
          exact h
        · cases h
theorem wop_mono {s t : St} (l : s.le t) {E : Env} {o : Op} {x : Nat} {R S : Type} {K : CV → Hp → Option R} {r : R} (h : wop E o x s K = some r) (K' : CV → Hp → Option S) :
    ∃ c H, K c H = some r ∧ wop E o x t K' = K' c H := by
  cases o <;> simp only [wop, reduceCtorEq] at h ⊢
  case store ty p v =>
    split at h
    · cases h
    · rename_i a ha
      split at h
      · cases h
      · rename_i c hv
        simp only [ev_mono l ha, ev_mono l hv]
        split at h
        · cases h
        · rename_i b ks hk
          by_cases hc : (Nat.beq ks.length c.cells.length && c.cells.all CV.isC) = true
          · simp only [hc, cond_true] at h ⊢
            split at h
            · rename_i y q
              split at h
              · rename_i t' cs hg
                simp only [l.H _ _ hg]
                by_cases h1 : Nat.ble (q + c.cells.length) cs.length = true
                · simp only [h1, cond_true] at h ⊢; exact ⟨_, _, h, rfl⟩
                · simp only [Bool.eq_false_iff.2 h1, cond_false] at h; cases h
              · cases h
            · rename_i y i j
              split at h
              · rename_i ap k m hg
                simp only [l.H _ _ hg]
                split at h
                · cases h
                · rename_i e he
                  by_cases h1 : (c.cells.all nl0 && Nat.ble (j + c.cells.length) k.size) = true
                  · simp only [h1, cond_true] at h ⊢
                    split at h
                    · rename_i e' he'
                      exact ⟨_, _, h, rfl⟩
                    · cases h
                  · simp only [Bool.eq_false_iff.2 h1, cond_false] at h; cases h
              · cases h
            · cases h
          · simp only [Bool.eq_false_iff.2 hc, cond_false] at h; cases h
  case buildSlice ty' n parts =>
    split at h
    · cases h
    · rename_i k hk
      by_cases hc : (Nat.beq parts.size n && !Nat.beq n 0 && Nat.beq E.low 0 && Nat.ble n 1000) = true
      · rw [hc, cond_true] at h
        rw [hc, cond_true]
        split at h
        · rename_i es hes
          have hn : nmE t.T k parts.toList = nmE s.T k parts.toList := by
            have hm := elemsF_C (fun _ _ => bv0_isC) hes
            revert hm
            generalize parts.toList = ps
            intro hm
            induction ps with
            | nil => rfl
            | cons p ps ih =>
              obtain ⟨v, hv, -⟩ := hm p (List.mem_cons_self ..)
              have e := ih fun q hq => hm q (List.mem_cons_of_mem _ hq)
              unfold nmE at e ⊢
              simp only [List.flatMap_cons, hv, ev_mono l hv, e]
          simp only [elemsF_mono l (fun _ _ => bv0_mono l) hes, hn]
          exact ⟨_, _, h, rfl⟩
        · cases h
      · rw [Bool.eq_false_iff.2 hc] at h; cases h
  case slice t1 s1 lo hi mx =>
    cases lo with
    | some lo => cases h
    | none =>
      cases hi with
      | none => cases h
      | some hi =>
        cases mx with
        | none => cases h
        | some mx =>
          simp only at h ⊢
          split at h
          · rename_i y hs
            simp only [ev_mono l hs]
            split at h
            · rename_i ap k m hg
              simp only [l.H _ _ hg]
              split at h
              · rename_i i1 b hb
                simp only [ev_mono l hb]
                split at h
                · rename_i i2 m2 hm
                  simp only [ev_mono l hm]
                  by_cases hc : (Nat.beq k.ty t1 && decide (b = (m.length : Int)) && decide (m2 = (m.length : Int))) = true
                  · rw [hc, cond_true] at h
                    rw [hc, cond_true]
                    exact ⟨_, _, h, rfl⟩
                  · rw [Bool.eq_false_iff.2 hc] at h; cases h
                · cases h
              · cases h
            · cases h
          · cases h
  case call c =>
    split at h
    · split at h
      · rename_i y z hv
        simp only [evs_mono l hv]
        split at h
        · rename_i t1 t2 ht
          split at h
          · rename_i k m hg
            simp only [l.H _ _ hg]
            by_cases h1 : (Nat.beq t1 k.ty && Nat.beq t2 k.ty) = true
            · simp only [h1, cond_true] at h ⊢
              obtain ⟨m', h, e⟩ := source_mono (S := S) l h
              rw [e]
              by_cases h2 : Nat.ble (m.length + m'.length) 4294967296 = true
              · simp only [h2, cond_true] at h ⊢; exact ⟨_, _, h, rfl⟩
              · simp only [Bool.eq_false_iff.2 h2, cond_false] at h; cases h
            · simp only [Bool.eq_false_iff.2 h1, cond_false] at h; cases h
          · cases h
        · cases h
      · cases h
    · split at h
      · rename_i d z hv
        simp only [evs_mono l hv]
        split at h
        · rename_i t1 t2 ht
          split at h
          · split at h
            · rename_i ap k m hg
              simp only [l.H _ _ hg]
              by_cases h1 : (Nat.beq k.size 1 && Nat.beq t1 k.ty) = true
              · simp only [h1, Bool.not_true, cond_false] at h ⊢
                obtain ⟨m', h, e⟩ := source_mono (S := S) l h
                rw [e]
                exact ⟨_, _, h, rfl⟩
              · simp only [Bool.eq_false_iff.2 h1, Bool.not_false, cond_true] at h; cases h
            · cases h
          · rename_i y off len
            split at h
            · rename_i ap k m hg
              simp only [l.H _ _ hg]
              by_cases h1 : (Nat.beq k.size 1 && Nat.beq t1 k.ty) = true
              · simp only [h1, Bool.not_true, cond_false] at h ⊢
                obtain ⟨m', h, e⟩ := source_mono (S := S) l h
                rw [e]
                by_cases h2 : off + len ≤ m.length
                · simp only [h2, decide_true, cond_true] at h ⊢; exact ⟨_, _, h, rfl⟩
                · simp only [h2, decide_false, cond_false] at h; cases h
              · simp only [Bool.eq_false_iff.2 h1, Bool.not_false, cond_true] at h; cases h
            · cases h
          · cases h
        · cases h
      · cases h
    · rename_i f hc
      split at h
      · cases h
      · rename_i us hus
        simp only [evs_mono l hus]
        by_cases hw : E.wrs.contains f = true
        · simp only [hw, cond_true] at h ⊢
          split at h
          · rename_i y us
            split at h
            · rename_i m hg
              simp only [l.H _ _ hg]
              split at h
              · cases h
              · rename_i vs hvs
                simp only [bvs_mono (fun _ _ => bv2_mono l) hvs]
                split at h
                · cases h
                · rename_i ys hys
                  rw [nms_mono l hys]
                  simp only
                  by_cases hy : ys.contains y = true
                  · simp only [hy, cond_true] at h; cases h
                  · simp only [Bool.eq_false_iff.2 hy, cond_false] at h ⊢
                    split at h
                    · rename_i g m' hm'
                      cases g <;> simp only [Bool.true_and, Bool.false_and, cond_false] at h ⊢
                      · cases h
                      by_cases hl : m'.length = m.length
                      · simp only [hl, decide_true, cond_true] at h ⊢; exact ⟨_, _, h, rfl⟩
                      · simp only [hl, decide_false, cond_false] at h; cases h
                    · cases h
            · cases h
          · cases h
        · simp only [Bool.eq_false_iff.2 hw, cond_false] at h ⊢
          split at h
          · cases h
          · rename_i vs hvs
            simp only [bvs_mono (fun _ _ => bv2_mono l) hvs]
            split at h
            · cases h
            · rename_i ys hys
              rw [nms_mono l hys]
              simp only
              split at h
              · rename_i g r' hs
                cases g <;> simp only [cond_true, cond_false] at h ⊢
                · cases h
                exact ⟨_, _, h, rfl⟩
              · cases h
    · cases h
end Go.Proofs.Ytnfgfdeidkhdkaa.Eng
