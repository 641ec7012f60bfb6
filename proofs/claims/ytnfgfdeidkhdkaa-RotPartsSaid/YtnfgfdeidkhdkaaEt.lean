/- The engine's soundness, eighteenth part: points at which what is not wanted any more is forgotten. -/
import Derived.Test.YtnfgfdeidkhdkaaEs
namespace Go.Proofs.Ytnfgfdeidkhdkaa.Eng
open Go.RowKit (Below)
set_option linter.unusedVariables false
set_option linter.unusedSimpArgs false

/-- a name for a row that is still nothing -/
theorem SimL.name {B : Base} {nt : Nat} {C : Cx} {st : St} {a : Act} (h : SimL B nt C st a) {x : Nat} (hx : look st.H x = none) (k : SK) :
    SimL B nt (C.add1 C.w x none) ⟨st.T, (x, some (.arr true k [])) :: st.H⟩ a := by
  have hlk : ∀ z, look ((x, some (.arr true k [])) :: st.H) z = if x = z then some (some (.arr true k [])) else look st.H z := fun z => look_cons ..
  have tr : Tr C (C.add1 C.w x none) (fun z => ∃ o, look st.H z = some o) := by
    refine ⟨fun _ _ => rfl, fun _ h => h, fun z ⟨o, ho⟩ hl => ?_⟩
    have hzx : z ≠ x := fun e => by rw [e, hx] at ho; cases ho
    exact ⟨hl.resolve_right hzx, by simp [Cx.add1, hzx]⟩
  have hkn : ∀ z o, look st.H z = some o → ∃ o, look ((x, some (.arr true k [])) :: st.H) z = some o := fun z o ho => by
    rw [hlk]; split
    · exact ⟨_, rfl⟩
    · exact ⟨o, ho⟩
  constructor
  · exact h.size
  · exact h.dfr
  · exact h.os
  · exact h.tape
  · exact h.output
  · exact h.grow
  · exact h.keep
  · exact h.rsub
  · exact h.rlt
  · exact h.rnew
  · intro z
    simp only [Cx.add1]
    rw [h.lv z, hlk]
    by_cases e : x = z
    · subst e; simp
    · rw [if_neg e]; simp [Ne.symm e]
  · intro t c hc
    obtain ⟨u, hu, hr⟩ := h.tm t c hc
    exact ⟨u, hu, valR_tr tr (fun z hz => h.nmT t c hc z hz) hr⟩
  · intro z b hb
    simp only at hb
    rw [hlk] at hb
    split at hb
    · rename_i e; subst e; cases hb
      refine ⟨by simp [blkR, Cx.add1], fun L hL => ?_⟩
      simp [Cx.add1] at hL
    · rename_i e
      obtain ⟨a1, a2⟩ := h.bl z b hb
      refine ⟨blkR_tr tr (by simp [Cx.add1, Ne.symm e]) (fun _ _ => rfl) (fun q hq => h.nmH z b hb q hq) a1, fun L hL => a2 L ?_⟩
      simpa [Cx.add1, Ne.symm e] using hL
  · intro y z L M hy hz hL hM hne
    simp only [Cx.add1] at hy hz hL hM
    by_cases e1 : y = x
    · rw [if_pos e1] at hL; cases hL
    · by_cases e2 : z = x
      · rw [if_pos e2] at hM; cases hM
      · rw [if_neg e1] at hL; rw [if_neg e2] at hM
        exact h.dj y z L M (hy.resolve_right e1) (hz.resolve_right e2) hL hM hne
  · intro t c hc z hz
    obtain ⟨o, ho⟩ := h.nmT t c hc z hz
    exact hkn z o ho
  · intro z b hb q hq
    simp only at hb
    rw [hlk] at hb
    split at hb
    · cases hb; simp [nB] at hq
    · obtain ⟨o, ho⟩ := h.nmH z b hb q hq
      exact hkn q o ho
  · exact h.pin

theorem thaw1_sound {B : Base} {nt : Nat} {st : St} {a : Act} {w : World} (h : Sim B nt st a w) (x : Nat × Option Nat × SK) : Sim B nt (thaw1 st x) a w := by
  obtain ⟨t, j, k⟩ := x
  cases j with
  | none =>
    simp only [thaw1]
    split
    · rename_i k' ht
      by_cases hk : k' = k
      · simp only [hk, decide_true, cond_true]
        split
        · rename_i hx
          obtain ⟨R0, lv, loc, h⟩ := h
          have h' := h.name hx k
          obtain ⟨v, hv, A, rfl⟩ := h.tm t _ ht
          have hlt : t < nt := by
            have := (Array.getElem?_eq_some_iff.1 hv).1
            rw [h.size] at this; exact this
          refine ⟨R0, _, _, { h' with tm := fun t' c' hc => ?_, nmT := fun t' c' hc y hy => ?_ }⟩
          · simp only [look_cons] at hc
            by_cases e : t = t'
            · subst e
              rw [if_pos rfl] at hc
              cases hc
              exact ⟨_, hv, ⟨_, _, _, rfl⟩, fun _ => by simp [Cx.add1]⟩
            · rw [if_neg e] at hc
              exact h'.tm t' c' hc
          · simp only [look_cons] at hc
            by_cases e : t = t'
            · rw [if_pos e] at hc
              cases hc
              simp only [n2, n1, n0, List.mem_singleton] at hy
              subst hy
              exact ⟨some (.arr true k []), by simp [look_cons]⟩
            · rw [if_neg e] at hc
              exact h'.nmT t' c' hc y hy
        · exact h
      · simp only [hk, decide_false, cond_false]
        exact h
    · exact h
  | some j =>
    simp only [thaw1]
    split
    · rename_i x ht
      split
      · rename_i t' cs hg
        split
        · rename_i k' hj
          by_cases hk : k' = k
          · simp only [hk, decide_true, cond_true]
            split
            · rename_i hx
              obtain ⟨R0, lv, loc, h⟩ := h
              have h' := h.name hx k
              have hlk := get_some.1 hg
              have hne : 24000 + 64 * t + j ≠ x := fun e => by rw [e, hlk] at hx; cases hx
              have hlk' : look ((24000 + 64 * t + j, some (Blk.arr true k [])) :: st.H) x = some (some (.cells t' cs)) := by
                rw [look_cons, if_neg hne]; exact hlk
              obtain ⟨⟨L, hL, cur, ct, hcur, hcs⟩, -⟩ := h'.bl x _ hlk'
              have h2 := h'.turn (w' := w) (b := .cells t' (cs.set j (.ref (24000 + 64 * t + j)))) hlk' hL rfl rfl rfl (Nat.le_refl _) (fun _ _ _ => rfl) ⟨L, hL, cur, ct, hcur, fun i u hu => ?_⟩ (fun z hz => ?_)
              · exact ⟨R0, _, _, h2⟩
              · by_cases e : j = i
                · subst e
                  have hjl := (List.getElem?_eq_some_iff.1 hj).1
                  rw [List.getElem?_set_self hjl] at hu
                  cases hu
                  obtain ⟨y, hy, hr⟩ := hcs j _ hj
                  obtain ⟨A, rfl⟩ := hr
                  exact ⟨_, hy, ⟨_, _, _, rfl⟩, fun _ => by simp [Cx.add1]⟩
                · rw [List.getElem?_set_ne e] at hu
                  exact hcs i u hu
              · obtain ⟨c, hc, hz⟩ := List.mem_flatMap.1 hz
                rcases List.mem_or_eq_of_mem_set hc with hc | rfl
                · exact h'.nmH x _ hlk' z (List.mem_flatMap.2 ⟨c, hc, hz⟩)
                · simp only [n0, List.mem_singleton] at hz
                  subst hz
                  exact ⟨some (.arr true k []), by simp [look_cons]⟩
            · exact h
          · simp only [hk, decide_false, cond_false]
            exact h
        · exact h
      · exact h
    · exact h
theorem thaw_sound {B : Base} {nt : Nat} {a : Act} {w : World} : ∀ (xs : List (Nat × Option Nat × SK)) {st : St}, Sim B nt st a w → Sim B nt (xs.foldl thaw1 st) a w
  | [], _, h => h
  | x :: xs, _, h => thaw_sound xs (thaw1_sound h x)

theorem ren_some : ∀ {xs : List Nat} {n x y : Nat}, ren n xs x = some y → ∃ i, y = n + i ∧ xs[i]? = some x
  | [], n, x, y, h => by simp [ren] at h
  | z :: xs, n, x, y, h => by
    simp only [ren] at h
    by_cases e : Nat.beq z x = true
    · rw [e, cond_true] at h
      cases h
      exact ⟨0, rfl, by rw [Nat.eq_of_beq_eq_true e]; rfl⟩
    · rw [Bool.eq_false_iff.2 e, cond_false] at h
      obtain ⟨i, h1, h2⟩ := ren_some h
      exact ⟨i + 1, by omega, by simpa using h2⟩
theorem srcs_nodup {st : St} : ∀ {ss : List (Nat × Option Nat)} {xs : List Nat}, srcs st ss = some xs → xs.Nodup
  | [], xs, h => by simp only [srcs, Option.some.injEq] at h; subst h; exact List.nodup_nil
  | a :: ss, xs, h => by
    simp only [srcs] at h
    split at h
    · exact srcs_nodup h
    · rename_i x hx
      split at h
      · cases h
      · rename_i ys hys
        by_cases hc : ys.contains x = true
        · rw [hc, cond_true] at h; cases h; exact srcs_nodup hys
        · rw [Bool.eq_false_iff.2 hc, cond_false] at h
          cases h
          exact List.nodup_cons.2 ⟨by simpa using hc, srcs_nodup hys⟩
theorem keepT_get {st : St} {xs : List Nat} : ∀ {ts : List Nat} {T : List (Nat × CV)}, keepT st xs ts = some T → ∀ t c, look T t = some c → ∃ c0, look st.T t = some c0 ∧ rnT xs c0 = some c
  | [], T, h, t, c, hc => by simp only [keepT, Option.some.injEq] at h; subst h; simp [look] at hc
  | u :: ts, T, h, t, c, hc => by
    simp only [keepT] at h
    split at h
    · exact keepT_get h t c hc
    · rename_i v hv
      split at h
      · cases h
      · rename_i v' hv'
        split at h
        · cases h
        · rename_i r hr
          cases h
          rw [look_cons] at hc
          split at hc
          · rename_i e; subst e; cases hc; exact ⟨v, hv, hv'⟩
          · exact keepT_get hr t c hc
theorem keepH_get {st : St} {xs : List Nat} : ∀ {ys : List Nat} {n : Nat} {H : Hp}, keepH st xs n ys = some H → ∀ m o, look H m = some o → ∃ i y, m = n + i ∧ ys[i]? = some y ∧ rnB xs (get st.H y) = some o
  | [], n, H, h, m, o, hm => by simp only [keepH, Option.some.injEq] at h; subst h; simp [look] at hm
  | y :: ys, n, H, h, m, o, hm => by
    simp only [keepH] at h
    split at h
    · cases h
    · rename_i b hb
      split at h
      · cases h
      · rename_i r hr
        cases h
        rw [look_cons] at hm
        split at hm
        · rename_i e; subst e; cases hm; exact ⟨0, y, rfl, rfl, hb⟩
        · obtain ⟨i, z, h1, h2, h3⟩ := keepH_get hr m o hm
          exact ⟨i + 1, z, by omega, by simpa using h2, h3⟩
theorem keepH_has {st : St} {xs : List Nat} : ∀ {ys : List Nat} {n : Nat} {H : Hp}, keepH st xs n ys = some H → ∀ i y, ys[i]? = some y → ∃ b b', look H (n + i) = some (some b') ∧ look st.H y = some (some b) ∧ rnB xs (some b) = some (some b')
  | [], n, H, h, i, y, hi => by simp at hi
  | z :: ys, n, H, h, i, y, hi => by
    simp only [keepH] at h
    split at h
    · cases h
    · rename_i o ho
      split at h
      · cases h
      · rename_i r hr
        cases h
        cases i with
        | zero =>
          simp only [List.getElem?_cons_zero, Option.some.injEq] at hi
          subst hi
          cases hg : get st.H z with
          | none => rw [hg] at ho; cases ho
          | some b =>
            rw [hg] at ho
            have : ∃ b', o = some b' := by
              cases b <;> simp only [rnB] at ho
              · cases ho; exact ⟨_, rfl⟩
              · split at ho
                · cases ho; exact ⟨_, rfl⟩
                · cases ho
            obtain ⟨b', rfl⟩ := this
            exact ⟨b, b', by simp [look_cons], get_some.1 hg, ho⟩
        | succ i =>
          obtain ⟨b, b', h1, h2, h3⟩ := keepH_has hr i y (by simpa using hi)
          refine ⟨b, b', ?_, h2, h3⟩
          rw [look_cons, if_neg (by omega), show n + (i + 1) = n + 1 + i by omega]
          exact h1

/-- what stands behind the new names -/
def renCx (C : Cx) (xs : List Nat) : Cx := ⟨C.w, C.R, fun m => ∃ i y, m = 8000 + i ∧ xs[i]? = some y ∧ C.lv y, fun m => if 8000 ≤ m then (xs[m - 8000]?).bind C.loc else none⟩
theorem renCx_at {C : Cx} {xs : List Nat} {x y : Nat} (h : ren 8000 xs x = some y) : ((renCx C xs).lv y → C.lv x) ∧ (renCx C xs).loc y = C.loc x := by
  obtain ⟨i, rfl, hi⟩ := ren_some h
  refine ⟨?_, ?_⟩
  · rintro ⟨j, z, e, hz, hl⟩
    obtain rfl : i = j := by omega
    rw [hi] at hz; cases hz; exact hl
  · simp only [renCx]
    rw [if_pos (by omega), Nat.add_sub_cancel_left, hi]; rfl
theorem rn_tr {C : Cx} {xs : List Nat} : Tr C (renCx C xs) (fun _ => False) := ⟨fun _ _ => rfl, fun _ h => h, fun _ h => h.elim⟩
theorem rn0_cell {C : Cx} {xs : List Nat} {c d : CV} (h : rn0 xs c = some d) {v : Value} (hv : cellR C c v) : cellR (renCx C xs) d v ∧ ∀ y, y ∈ n0 d → ∃ i z, y = 8000 + i ∧ xs[i]? = some z := by
  have triv : ∀ {c : CV}, n0 c = [] → cellR C c v → cellR (renCx C xs) c v ∧ ∀ y, y ∈ n0 c → ∃ i z, y = 8000 + i ∧ xs[i]? = some z := fun hn hv =>
    ⟨cellR_tr rn_tr (by rw [hn]; simp) hv, by rw [hn]; simp⟩
  by_cases hni : ∃ k, c = .nil k
  · obtain ⟨k, rfl⟩ := hni
    simp only [rn0, Option.some.injEq] at h
    subst h
    obtain ⟨A, rfl⟩ := hv
    exact ⟨⟨A, 0, rfl, Nat.le_refl 0, fun i u hu => by simp at hu⟩, fun y hy => by simp [n0] at hy⟩
  cases c <;> simp only [rn0, reduceCtorEq, Option.some.injEq] at h <;> try (first | (exact absurd ⟨_, rfl⟩ hni) | (subst h; exact triv rfl hv))
  case ref x =>
    split at h
    · rename_i y hy
      cases h
      obtain ⟨q1, q2⟩ := renCx_at (C := C) hy
      obtain ⟨i, hi, hi2⟩ := ren_some hy
      refine ⟨⟨hv.1, fun hl => ?_⟩, fun z hz => ?_⟩
      · rw [q2]; exact hv.2 (q1 hl)
      · simp only [n0, List.mem_singleton] at hz; exact ⟨i, x, hz.trans hi, hi2⟩
    · cases h
  case win x o l =>
    split at h
    · rename_i y hy
      cases h
      obtain ⟨q1, q2⟩ := renCx_at (C := C) hy
      obtain ⟨i, hi, hi2⟩ := ren_some hy
      refine ⟨⟨hv.1, fun hl => ?_⟩, fun z hz => ?_⟩
      · rw [q2]; exact hv.2 (q1 hl)
      · simp only [n0, List.mem_singleton] at hz; exact ⟨i, x, hz.trans hi, hi2⟩
    · cases h
  case ptr x o =>
    split at h
    · rename_i y hy
      cases h
      obtain ⟨q1, q2⟩ := renCx_at (C := C) hy
      obtain ⟨i, hi, hi2⟩ := ren_some hy
      refine ⟨⟨hv.1, fun hl => ?_⟩, fun z hz => ?_⟩
      · rw [q2]; exact hv.2 (q1 hl)
      · simp only [n0, List.mem_singleton] at hz; exact ⟨i, x, hz.trans hi, hi2⟩
    · cases h
  case pe x o l =>
    split at h
    · rename_i y hy
      cases h
      obtain ⟨q1, q2⟩ := renCx_at (C := C) hy
      obtain ⟨i, hi, hi2⟩ := ren_some hy
      refine ⟨⟨hv.1, fun hl => ?_⟩, fun z hz => ?_⟩
      · rw [q2]; exact hv.2 (q1 hl)
      · simp only [n0, List.mem_singleton] at hz; exact ⟨i, x, hz.trans hi, hi2⟩
    · cases h
  case agg cs => exact hv.elim
theorem rnC_rn0 {xs : List Nat} {c d : CV} (h : rnC xs c = some d) : rn0 xs c = some d := by cases c <;> first | exact h | (simp [rnC] at h)
theorem bvs_rn {C : Cx} {xs : List Nat} {f : CV → Option CV} (hf : ∀ c d, f c = some d → rn0 xs c = some d) : ∀ {cs ds : List CV} {vs : List Value}, bvs f cs = some ds → All2 (cellR C) cs vs →
    All2 (cellR (renCx C xs)) ds vs ∧ ∀ y, y ∈ ds.flatMap n0 → ∃ i z, y = 8000 + i ∧ xs[i]? = some z
  | [], ds, [], h, _ => by simp only [bvs, Option.some.injEq] at h; subst h; exact ⟨trivial, by simp⟩
  | c :: cs, ds, v :: vs, h, hv => by
    simp only [bvs] at h
    split at h
    · cases h
    · rename_i d hd
      split at h
      · cases h
      · rename_i ds' hds
        cases h
        obtain ⟨a1, a2⟩ := rn0_cell (hf _ _ hd) hv.1
        obtain ⟨b1, b2⟩ := bvs_rn hf hds hv.2
        refine ⟨⟨a1, b1⟩, fun y hy => ?_⟩
        rw [List.flatMap_cons, List.mem_append] at hy
        exact hy.elim (a2 y) (b2 y)
  | [], _, _ :: _, _, h => h.elim
  | _ :: _, _, [], _, h => h.elim
theorem bvs_get {f : CV → Option CV} : ∀ {cs ds : List CV}, bvs f cs = some ds → ∀ (j : Nat) u, ds[j]? = some u → ∃ u0, cs[j]? = some u0 ∧ f u0 = some u
  | [], ds, h, j, u, hj => by simp only [bvs, Option.some.injEq] at h; subst h; simp at hj
  | c :: cs, ds, h, j, u, hj => by
    simp only [bvs] at h
    split at h
    · cases h
    · rename_i d hd
      split at h
      · cases h
      · rename_i ds' hds
        cases h
        cases j with
        | zero => simp only [List.getElem?_cons_zero, Option.some.injEq] at hj; subst hj; exact ⟨c, rfl, hd⟩
        | succ j =>
          obtain ⟨u0, h1, h2⟩ := bvs_get hds j u (by simpa using hj)
          exact ⟨u0, by simpa using h1, h2⟩
theorem rnT_val {C : Cx} {xs : List Nat} {c d : CV} (h : rnT xs c = some d) {v : Value} (hv : valR C c v) : valR (renCx C xs) d v ∧ ∀ y, y ∈ n2 d → ∃ i z, y = 8000 + i ∧ xs[i]? = some z := by
  have key : ∀ c, c.isC = true → rn0 xs c = some d → cellR C c v → valR (renCx C xs) d v ∧ ∀ y, y ∈ n2 d → ∃ i z, y = 8000 + i ∧ xs[i]? = some z := by
    intro c hc h hv
    obtain ⟨a1, a2⟩ := rn0_cell h hv
    have hd : d.isC = true := by
      cases c <;> simp only [rn0, reduceCtorEq, Option.some.injEq] at h <;> first
        | (subst h; rfl)
        | (split at h
           · cases h; rfl
           · cases h)
        | (simp [CV.isC] at hc)
    refine ⟨cellR_val a1, fun y hy => a2 y ?_⟩
    rw [← isC_n1 hd]
    exact n1_of (isC_isA hd) hy
  cases c <;> simp only [rnT] at h <;> try (exact key _ rfl h hv)
  case agg cs =>
    simp only [rn0] at h
    split at h
    · rename_i ds hds
      cases h
      obtain ⟨vs, rfl, ha⟩ := hv
      obtain ⟨b1, b2⟩ := bvs_rn (fun _ _ => rnC_rn0) hds ha
      exact ⟨⟨vs, rfl, b1⟩, b2⟩
    · cases h
  case tup cs => simp [rn0] at h
  case fn f cs =>
    by_cases hn : cs.all nl1 = true
    · rw [hn, cond_true] at h
      cases h
      have : n2 (.fn f cs) = [] := nl2_n2 (by simpa [nl2] using hn)
      exact ⟨valR_tr rn_tr (by rw [this]; simp) hv, by rw [this]; simp⟩
    · rw [Bool.eq_false_iff.2 hn] at h; cases h

theorem norm_sound {B : Base} {nt : Nat} {st : St} {a : Act} {w : World} (h : Sim B nt st a w) {an : Ann} {R : Type} {K : St → Option R} {r : R} (hq : norm an st K = some r) : ∃ st', K st' = some r ∧ Sim B nt st' a w := by
  unfold norm at hq
  split at hq
  · cases hq
  · rename_i xs hxs
    split at hq
    · cases hq
    · rename_i T hT
      split at hq
      · cases hq
      · rename_i H hH
        refine ⟨_, hq, ?_⟩
        have h1 := thaw_sound an.thaw h
        generalize an.thaw.foldl thaw1 st = s at h1 hT hH hxs
        obtain ⟨R0, lv, loc, h1⟩ := h1
        have hnd := srcs_nodup hxs
        refine ⟨R0, _, _, (?_ : SimL B nt (renCx ⟨w, R0, lv, loc⟩ xs) ⟨T, H⟩ a)⟩
        have hkn : ∀ y, (∃ i z, y = 8000 + i ∧ xs[i]? = some z) → ∃ o, look H y = some o := by
          rintro y ⟨i, z, rfl, hz⟩
          obtain ⟨b, b', q1, -, -⟩ := keepH_has hH i z hz
          exact ⟨_, q1⟩
        have hblk : ∀ m b', look H m = some (some b') → ∃ i x b, m = 8000 + i ∧ xs[i]? = some x ∧ look s.H x = some (some b) ∧ rnB xs (some b) = some (some b') := by
          intro m b' hm
          obtain ⟨i, x, e1, e2, e3⟩ := keepH_get hH m _ hm
          cases hg : get s.H x with
          | none => rw [hg] at e3; cases e3
          | some b => rw [hg] at e3; exact ⟨i, x, b, e1, e2, get_some.1 hg, e3⟩
        have hloc : ∀ i x, xs[i]? = some x → (renCx ⟨w, R0, lv, loc⟩ xs).loc (8000 + i) = loc x := fun i x hi => by
          simp only [renCx]
          rw [if_pos (by omega), Nat.add_sub_cancel_left, hi]; rfl
        constructor
        · exact h1.size
        · exact h1.dfr
        · exact h1.os
        · exact h1.tape
        · exact h1.output
        · exact h1.grow
        · exact h1.keep
        · exact h1.rsub
        · exact h1.rlt
        · exact h1.rnew
        · intro m
          constructor
          · rintro ⟨i, y, rfl, hy, hl⟩
            obtain ⟨b, b', q1, -, -⟩ := keepH_has hH i y hy
            exact ⟨b', q1⟩
          · rintro ⟨b', hb'⟩
            obtain ⟨i, x, b, e1, e2, e3, -⟩ := hblk m b' hb'
            exact ⟨i, x, e1, e2, (h1.lv x).2 ⟨b, e3⟩⟩
        · intro t c hc
          obtain ⟨c0, q1, q2⟩ := keepT_get hT t c hc
          obtain ⟨v, hv, hr⟩ := h1.tm t c0 q1
          exact ⟨v, hv, (rnT_val q2 hr).1⟩
        · intro m b' hb'
          obtain ⟨i, x, b, rfl, e2, e3, e4⟩ := hblk m b' hb'
          obtain ⟨a1, a2⟩ := h1.bl x b e3
          have hl := hloc i x e2
          refine ⟨?_, fun L hL => a2 L (by rw [hl] at hL; exact hL)⟩
          cases b with
          | arr ap k l =>
            simp only [rnB, Option.some.injEq] at e4
            subst e4
            unfold blkR
            rw [hl]
            exact a1
          | cells t cs =>
            simp only [rnB] at e4
            split at e4
            · rename_i ds hds
              simp only [Option.some.injEq] at e4
              subst e4
              obtain ⟨L, hL, cur, ct, hcur, hcs⟩ := a1
              refine ⟨L, by rw [hl]; exact hL, cur, ct, hcur, fun j u hu => ?_⟩
              obtain ⟨u0, g1, g2⟩ := bvs_get hds j u hu
              obtain ⟨y, hy, hr⟩ := hcs j u0 g1
              exact ⟨y, hy, (rn0_cell g2 hr).1⟩
            · cases e4
        · rintro y z L M ⟨i, x, rfl, hx, hlx⟩ ⟨j, x', rfl, hx', hlx'⟩ hL hM hne
          rw [hloc i x hx] at hL
          rw [hloc j x' hx'] at hM
          refine h1.dj x x' L M hlx hlx' hL hM fun e => hne ?_
          subst e
          have : i = j := (List.getElem?_inj (List.getElem?_eq_some_iff.1 hx).1 hnd).1 (hx.trans hx'.symm)
          rw [this]
        · intro t c hc y hy
          obtain ⟨c0, q1, q2⟩ := keepT_get hT t c hc
          obtain ⟨v, hv, hr⟩ := h1.tm t c0 q1
          exact hkn y ((rnT_val q2 hr).2 y hy)
        · intro m b' hb' y hy
          obtain ⟨i, x, b, rfl, e2, e3, e4⟩ := hblk m b' hb'
          cases b with
          | arr ap k l =>
            simp only [rnB, Option.some.injEq] at e4
            subst e4
            simp [nB] at hy
          | cells t cs =>
            simp only [rnB] at e4
            split at e4
            · rename_i ds hds
              simp only [Option.some.injEq] at e4
              subst e4
              obtain ⟨L, hL, cur, ct, hcur, hcs⟩ := (h1.bl x _ e3).1
              obtain ⟨u, hu, hy⟩ := List.mem_flatMap.1 hy
              obtain ⟨j, hj⟩ := List.mem_iff_getElem?.1 hu
              obtain ⟨u0, g1, g2⟩ := bvs_get hds j u hj
              obtain ⟨v, hv, hr⟩ := hcs j u0 g1
              exact hkn y ((rn0_cell g2 hr).2 y hy)
            · cases e4
        · exact h1.pin
end Go.Proofs.Ytnfgfdeidkhdkaa.Eng
