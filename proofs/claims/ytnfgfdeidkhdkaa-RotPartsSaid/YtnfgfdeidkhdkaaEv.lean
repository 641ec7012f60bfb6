/- The engine's soundness, last part: functions. -/
import Derived.Test.YtnfgfdeidkhdkaaEu
namespace Go.Proofs.Ytnfgfdeidkhdkaa.Eng
open Go.RowKit (Below)
set_option linter.unusedVariables false
set_option linter.unusedSimpArgs false

/-! ### handed back as new memory -/
structure OutR (C : Cx) (x : Nat) (ns : List (Option Nat)) (seen seen' : List Nat) (bs : List Blk) (q : Cx → Prop) (m : List Nat) : Prop where
  len : ns.length = bs.length
  rel : ∀ D : Cx, D.w = C.w → (∀ (i : Nat) (o : Option Nat), ns[i]? = some o → D.loc (x + i) = o.bind C.loc) → q D
  nm : ∀ y, y ∈ m → x ≤ y ∧ y < x + ns.length
  bl : ∀ (i : Nat) (b : Blk), bs[i]? = some b → nB b = [] ∧ ∀ D : Cx, D.w = C.w → D.loc (x + i) = ((ns[i]?).join).bind C.loc → blkR D (x + i) b
  sn : ∀ y, y ∈ seen' ↔ y ∈ seen ∨ some y ∈ ns
  new : ∀ y, some y ∈ ns → ¬ y ∈ seen ∧ C.lv y
  inj : ∀ (i j y : Nat), ns[i]? = some (some y) → ns[j]? = some (some y) → i = j
theorem OutR.none {C : Cx} {x : Nat} {seen : List Nat} {rel : Cx → Prop} (h : ∀ D : Cx, rel D) : OutR C x [] seen seen [] rel [] :=
  ⟨rfl, fun D _ _ => h D, by simp, by simp, by simp, by simp, by simp⟩
theorem OutR.append {C : Cx} {x : Nat} {n1 n2 : List (Option Nat)} {s s' s'' : List Nat} {b1 b2 : List Blk} {r1 r2 : Cx → Prop} {m1 m2 : List Nat} (h1 : OutR C x n1 s s' b1 r1 m1) (h2 : OutR C (x + b1.length) n2 s' s'' b2 r2 m2) :
    OutR C x (n1 ++ n2) s s'' (b1 ++ b2) (fun D => r1 D ∧ r2 D) (m1 ++ m2) := by
  have e := h1.len
  constructor
  · simp [h1.len, h2.len]
  · intro D hw hl
    refine ⟨h1.rel D hw fun i o hi => hl i o ?_, h2.rel D hw fun i o hi => ?_⟩
    · rw [List.getElem?_append_left (List.getElem?_eq_some_iff.1 hi).1]; exact hi
    · have := hl (n1.length + i) o (by rw [List.getElem?_append_right (by omega), Nat.add_sub_cancel_left]; exact hi)
      rw [← this]; congr 1; omega
  · intro y hy
    rw [List.length_append]
    rcases List.mem_append.1 hy with hy | hy
    · have := h1.nm y hy; omega
    · have := h2.nm y hy; omega
  · intro i b hb
    by_cases hi : i < b1.length
    · rw [List.getElem?_append_left hi] at hb
      obtain ⟨q1, q2⟩ := h1.bl i b hb
      refine ⟨q1, fun D hw hl => q2 D hw ?_⟩
      rw [List.getElem?_append_left (by omega)] at hl; exact hl
    · rw [List.getElem?_append_right (by omega)] at hb
      obtain ⟨q1, q2⟩ := h2.bl _ b hb
      refine ⟨q1, fun D hw hl => ?_⟩
      have := q2 D hw (by
        rw [List.getElem?_append_right (by omega), e] at hl
        rw [show x + b1.length + (i - b1.length) = x + i by omega]; exact hl)
      rwa [show x + b1.length + (i - b1.length) = x + i by omega] at this
  · intro y
    rw [h2.sn, h1.sn, List.mem_append, or_assoc]
  · intro y hy
    rcases List.mem_append.1 hy with hy | hy
    · exact h1.new y hy
    · obtain ⟨q1, q2⟩ := h2.new y hy
      exact ⟨fun h => q1 ((h1.sn y).2 (.inl h)), q2⟩
  · intro i j y hi hj
    have no : ∀ {p q : Nat}, n1[p]? = some (some y) → n2[q]? = some (some y) → False := fun hp hq =>
      (h2.new y (List.mem_of_getElem? hq)).1 ((h1.sn y).2 (.inr (List.mem_of_getElem? hp)))
    by_cases h1' : i < n1.length
    · rw [List.getElem?_append_left h1'] at hi
      by_cases h2' : j < n1.length
      · rw [List.getElem?_append_left h2'] at hj
        exact h1.inj i j y hi hj
      · rw [List.getElem?_append_right (by omega)] at hj
        exact (no hi hj).elim
    · rw [List.getElem?_append_right (by omega)] at hi
      by_cases h2' : j < n1.length
      · rw [List.getElem?_append_left h2'] at hj
        exact (no hj hi).elim
      · rw [List.getElem?_append_right (by omega)] at hj
        have := h2.inj _ _ y hi hj
        omega
theorem OutR.imp {C : Cx} {x : Nat} {n1 : List (Option Nat)} {s s' : List Nat} {b1 : List Blk} {r1 r2 : Cx → Prop} {m1 : List Nat} (h : OutR C x n1 s s' b1 r1 m1) (hr : ∀ D, r1 D → r2 D) : OutR C x n1 s s' b1 r2 m1 :=
  { h with rel := fun D hw hl => hr D (h.rel D hw hl) }

theorem plain_bv {k : SK} (hk : k.plain = true) {e : k.T} {u : CV} (hu : u ∈ k.cells e) {w w' : World} {R R' : Nat → Prop} {y : Value} (h : bvR w R u y) : bvR w' R' u y := by
  cases k <;> simp only [SK.plain, Bool.false_eq_true] at hk <;> simp only [SK.cells, List.mem_cons, List.not_mem_nil, or_false] at hu
  case int => subst hu; exact h
  case eno => subst hu; exact h
  case bool => subst hu; exact h
  case item => rcases hu with rfl | rfl <;> exact h

theorem out0_sound {B : Base} {nt : Nat} {C : Cx} {st : St} {a : Act} (h : SimL B nt C st a) {x : Nat} {seen seen' : List Nat} {c d : CV} {v : Value} (ho : out0 st.H seen c = some (d, seen')) (hv : cellR C c v) :
    ∃ ns, OutR C x ns seen seen' (own0 x d).2 (fun D => cellR D (own0 x d).1 v) (n0 (own0 x d).1) := by
  unfold out0 at ho
  split at ho
  · rename_i k
    by_cases hk : k.plain = true
    · simp only [hk, cond_true] at ho
      cases ho
      obtain ⟨A, rfl⟩ := hv
      refine ⟨[none], ⟨rfl, fun D hw hl => ?_, fun y hy => ?_, fun i b hb => ?_, by simp, by simp, fun i j y hi hj => ?_⟩⟩
      · have := hl 0 none rfl
        simp only [own0, cellR]
        refine ⟨⟨_, _, _, rfl⟩, fun _ => ?_⟩
        rw [show D.loc x = none from this]
        exact ⟨A, rfl⟩
      · simp only [own0, n0, List.mem_singleton] at hy
        subst hy; simp
      · cases i with
        | zero =>
          simp only [own0, List.getElem?_cons_zero, Option.some.injEq] at hb
          subst hb
          refine ⟨rfl, fun D hw hl => ?_⟩
          simp only [blkR]
          rw [show D.loc (x + 0) = none from hl]
          trivial
        | succ i => simp [own0] at hb
      · cases i <;> simp at hi
    · simp only [Bool.eq_false_iff.2 hk, cond_false] at ho; cases ho
  · rename_i y
    by_cases hs : seen.contains y = true
    · simp only [hs, cond_true] at ho; cases ho
    · simp only [Bool.eq_false_iff.2 hs, cond_false] at ho
      split at ho
      · rename_i ap k l hg
        by_cases hk : k.plain = true
        · simp only [hk, cond_true] at ho
          cases ho
          have hlk := get_some.1 hg
          have hlv : C.lv y := (h.lv y).2 ⟨_, hlk⟩
          have hv2 := hv.2 hlv
          have hbl := (h.bl y _ hlk).1
          refine ⟨[some y], ⟨rfl, fun D hw hl => ?_, fun z hz => ?_, fun i b hb => ?_, fun z => ?_, fun z hz => ?_, fun i j z hi hj => ?_⟩⟩
          · have := hl 0 (some y) rfl
            simp only [own0, cellR]
            refine ⟨hv.1, fun _ => ?_⟩
            rw [show D.loc x = C.loc y from this]
            exact hv2
          · simp only [own0, n0, List.mem_singleton] at hz
            subst hz; simp
          · cases i with
            | zero =>
              simp only [own0, List.getElem?_cons_zero, Option.some.injEq] at hb
              subst hb
              refine ⟨rfl, fun D hw hl => ?_⟩
              have hl' : D.loc (x + 0) = C.loc y := hl
              simp only [blkR] at hbl ⊢
              rw [hl']
              cases hL : C.loc y with
              | none => rw [hL] at hbl; exact hbl
              | some L =>
                rw [hL] at hbl
                obtain ⟨b1, b2, b3, b4, cur, b5, b6, b7⟩ := hbl
                refine ⟨b1, b2, b3, b4, cur, by rw [hw]; exact b5, fun hh => (by cases hh), fun i u hu => ?_⟩
                obtain ⟨z, hz, hr⟩ := b7 i u hu
                obtain ⟨e, -, he⟩ := List.mem_flatMap.1 (List.mem_of_getElem? hu)
                exact ⟨z, hz, plain_bv hk he hr⟩
            | succ i => simp [own0] at hb
          · simp only [List.mem_cons, List.mem_singleton, Option.some.injEq]
            constructor
            · rintro (rfl | h)
              · exact .inr (.inl rfl)
              · exact .inl h
            · rintro (h | h | h)
              · exact .inr h
              · exact .inl h
              · simp at h
          · simp only [List.mem_singleton, Option.some.injEq] at hz
            subst hz
            exact ⟨by simpa using hs, hlv⟩
          · cases i <;> cases j <;> simp at hi hj
            rfl
        · simp only [Bool.eq_false_iff.2 hk, cond_false] at ho; cases ho
      · cases ho
  · cases ho; exact ⟨[], OutR.none fun D => hv⟩
  · cases ho; exact ⟨[], OutR.none fun D => hv⟩
  · cases ho; exact ⟨[], OutR.none fun D => hv⟩
  · cases ho
theorem outs_sound {C : Cx} {f : List Nat → CV → Option (CV × List Nat)} {own : Nat → CV → CV × List Blk} {rel : Cx → CV → Value → Prop} {nm : CV → List Nat}
    (hf : ∀ (x : Nat) (seen seen' : List Nat) (c d : CV) (v : Value), f seen c = some (d, seen') → rel C c v → ∃ ns, OutR C x ns seen seen' (own x d).2 (fun D => rel D (own x d).1 v) (nm (own x d).1)) :
    ∀ (cs : List CV) (x : Nat) (seen seen' : List Nat) (ds : List CV) (vs : List Value), outs f seen cs = some (ds, seen') → All2 (rel C) cs vs →
      ∃ ns, OutR C x ns seen seen' (owns own x ds).2 (fun D => All2 (rel D) (owns own x ds).1 vs) ((owns own x ds).1.flatMap nm)
  | [], x, seen, seen', ds, [], h, _ => by
    simp only [outs, Option.some.injEq, Prod.mk.injEq] at h
    obtain ⟨rfl, rfl⟩ := h
    exact ⟨[], OutR.none fun D => trivial⟩
  | c :: cs, x, seen, seen', ds, v :: vs, h, hv => by
    simp only [outs] at h
    split at h
    · cases h
    · rename_i d s1 hd
      split at h
      · cases h
      · rename_i ds' s2 hds
        cases h
        obtain ⟨n1, h1⟩ := hf x seen s1 c d v hd hv.1
        obtain ⟨n2, h2⟩ := outs_sound hf cs (x + (own x d).2.length) s1 _ ds' vs hds hv.2
        exact ⟨n1 ++ n2, (h1.append h2).imp fun D h => h⟩
  | [], _, _, _, _, _ :: _, _, h => h.elim
  | _ :: _, _, _, _, _, [], _, h => h.elim
theorem own1_not {x : Nat} {d : CV} (h : ∀ cs, d ≠ .agg cs) : own1 x d = own0 x d := by
  cases d <;> first | rfl | exact absurd rfl (h _)
theorem own2_not {x : Nat} {d : CV} (h : ∀ cs, d ≠ .tup cs) : own2 x d = own1 x d := by
  cases d <;> first | rfl | exact absurd rfl (h _)
theorem out0_form {H : Hp} {seen seen' : List Nat} {c d : CV} (h : out0 H seen c = some (d, seen')) : c.isC = true ∧ (∀ cs, d ≠ .agg cs) ∧ (∀ cs, d ≠ .tup cs) ∧ ∀ x, (own0 x d).1.isC = true := by
  cases c <;> simp only [out0, reduceCtorEq] at h
  case nil k =>
    by_cases hk : k.plain = true
    · rw [hk, cond_true] at h; cases h; exact ⟨rfl, by simp, by simp, fun _ => rfl⟩
    · rw [Bool.eq_false_iff.2 hk] at h; cases h
  case ref y =>
    by_cases hs : seen.contains y = true
    · rw [hs] at h; cases h
    · rw [Bool.eq_false_iff.2 hs, cond_false] at h
      split at h
      · rename_i ap k l hg
        by_cases hk : k.plain = true
        · rw [hk, cond_true] at h; cases h; exact ⟨rfl, by simp, by simp, fun _ => rfl⟩
        · rw [Bool.eq_false_iff.2 hk] at h; cases h
      · cases h
  all_goals (cases h; exact ⟨rfl, by simp, by simp, fun _ => rfl⟩)
theorem out1_sound {B : Base} {nt : Nat} {C : Cx} {st : St} {a : Act} (h : SimL B nt C st a) {x : Nat} {seen seen' : List Nat} {c d : CV} {v : Value} (ho : out1 st.H seen c = some (d, seen')) (hv : aggR C c v) :
    ∃ ns, OutR C x ns seen seen' (own1 x d).2 (fun D => aggR D (own1 x d).1 v) (n1 (own1 x d).1) := by
  unfold out1 at ho
  split at ho
  · rename_i cs
    split at ho
    · rename_i ds s' hds
      cases ho
      obtain ⟨vs, rfl, ha⟩ := hv
      obtain ⟨ns, hns⟩ := outs_sound (own := own0) (rel := cellR) (nm := n0) (fun x s s' c d v hc hr => out0_sound h hc hr) cs x seen _ ds vs.toList hds ha
      exact ⟨ns, hns.imp fun D hD => ⟨vs, rfl, hD⟩⟩
    · cases ho
  · rename_i hna
    obtain ⟨f1, f2, f3, f4⟩ := out0_form ho
    have hc : aggR C c v = cellR C c v := by cases c <;> first | rfl | exact absurd rfl (hna _)
    rw [hc] at hv
    obtain ⟨ns, hns⟩ := out0_sound h (x := x) ho hv
    rw [own1_not f2]
    refine ⟨ns, ?_⟩
    rw [isC_n1 (f4 x)]
    exact hns.imp fun D hD => cell_agg hD
theorem out2_sound {B : Base} {nt : Nat} {C : Cx} {st : St} {a : Act} (h : SimL B nt C st a) {x : Nat} {c d : CV} {v : Value} (ho : out2 st.H c = some d) (hv : valR C c v) :
    ∃ ns seen', OutR C x ns [] seen' (own2 x d).2 (fun D => valR D (own2 x d).1 v) (n2 (own2 x d).1) := by
  unfold out2 at ho
  split at ho
  · rename_i cs
    split at ho
    · rename_i ds s' hds
      cases ho
      obtain ⟨vs, rfl, ha⟩ := hv
      obtain ⟨ns, hns⟩ := outs_sound (own := own1) (rel := aggR) (nm := n1) (fun x s s' c d v hc hr => out1_sound h hc hr) cs x [] _ ds vs.toList hds ha
      exact ⟨ns, s', hns.imp fun D hD => ⟨vs, rfl, hD⟩⟩
    · cases ho
  · rename_i hnt
    split at ho
    · rename_i d' s' hd
      cases ho
      have key : (∀ cs, d ≠ .tup cs) ∧ c.isA = true ∧ (own1 x d).1.isA = true := by
        unfold out1 at hd
        split at hd
        · split at hd
          · cases hd; exact ⟨by simp, rfl, rfl⟩
          · cases hd
        · obtain ⟨f1, f2, f3, f4⟩ := out0_form hd
          rw [own1_not f2]
          exact ⟨f3, isC_isA f1, isC_isA (f4 x)⟩
      obtain ⟨ns, hns⟩ := out1_sound h (x := x) hd (valR_agg hv key.2.1)
      rw [own2_not key.1]
      refine ⟨ns, s', ?_⟩
      have en : n2 (own1 x d).1 = n1 (own1 x d).1 := by
        revert key
        generalize (own1 x d).1 = q
        intro key
        cases q <;> first | rfl | (simp [CV.isA] at key)
      rw [en]
      exact hns.imp fun D hD => aggR_val hD
    · cases ho

theorem bv0_nl0 {H : Hp} {c d : CV} (h : bv0 H c = some d) : nl0 d = true ∧ d.isC = true := by
  cases c <;> simp only [bv0, reduceCtorEq] at h <;> first
    | (cases h; exact ⟨rfl, rfl⟩)
    | (split at h
       · cases h; exact ⟨rfl, rfl⟩
       · cases h)
theorem bvs_nl {f : CV → Option CV} {p : CV → Bool} (hf : ∀ c d, f c = some d → p d = true) : ∀ {cs ds : List CV}, bvs f cs = some ds → ds.all p = true
  | [], ds, h => by simp only [bvs, Option.some.injEq] at h; subst h; rfl
  | c :: cs, ds, h => by
    simp only [bvs] at h
    split at h
    · cases h
    · rename_i d hd
      split at h
      · cases h
      · rename_i ds' hds
        cases h
        simp [hf _ _ hd, bvs_nl hf hds]
theorem isC_nl1 {d : CV} (h : nl0 d = true) (hc : d.isC = true) : nl1 d = true := by cases d <;> first | exact h | (simp [CV.isC] at hc)
theorem bv1_nl1 {H : Hp} {c d : CV} (h : bv1 H c = some d) : nl1 d = true ∧ d.isA = true := by
  unfold bv1 at h
  split at h
  · split at h
    · rename_i hcs; cases h; exact ⟨bvs_nl (fun c d h => (bv0_nl0 h).1) hcs, rfl⟩
    · cases h
  · split at h
    · split at h
      · cases h; exact ⟨rfl, rfl⟩
      · cases h
    · cases h
  · cases h; exact ⟨rfl, rfl⟩
  · obtain ⟨h1, h2⟩ := bv0_nl0 h
    exact ⟨isC_nl1 h1 h2, isC_isA h2⟩
theorem bv2_nl2 {H : Hp} {c d : CV} (h : bv2 H c = some d) : nl2 d = true := by
  unfold bv2 at h
  split at h
  · split at h
    · rename_i hcs; cases h; exact bvs_nl (fun c d h => (bv1_nl1 h).1) hcs
    · cases h
  · split at h
    · rename_i hcs; cases h; exact bvs_nl (fun c d h => (bv1_nl1 h).1) hcs
    · cases h
  · obtain ⟨h1, h2⟩ := bv1_nl1 h
    cases d <;> first | exact h1 | (simp [CV.isA] at h2)

/-! ### the end of a function's run -/
theorem one_sound {C : Cx} {cs : List CV} {vs : List Value} (h : All2 (valR C) cs vs) (hA : cs.length = 1 ∨ cs.all CV.isA = true) : valR C (oneOf cs) (if h : vs.length = 1 then vs[0] else .tuple vs.toArray) := by
  match cs, vs, h with
  | [], [], _ => exact ⟨#[], rfl, trivial⟩
  | [c], [v], h => exact h.1
  | c :: c' :: cs, v :: v' :: vs, h =>
    have hA' := hA.resolve_left (by simp)
    simp only [oneOf, List.length_cons]
    rw [dif_neg (by omega)]
    refine ⟨_, rfl, ?_⟩
    simp only [List.all_eq_true] at hA'
    exact h.mono fun c hc v hv => valR_agg hv (hA' c hc)
theorem oneOf_names {cs : List CV} {Pn : Nat → Prop} (h : ∀ c, c ∈ cs → ∀ y, y ∈ n2 c → Pn y) (hA : cs.length = 1 ∨ cs.all CV.isA = true) : ∀ y, y ∈ n2 (oneOf cs) → Pn y := by
  match cs with
  | [] => intro y hy; simp [oneOf, n2] at hy
  | [c] => exact h c (List.mem_cons_self ..)
  | c :: c' :: cs =>
    have hA' := hA.resolve_left (by simp)
    simp only [List.all_eq_true] at hA'
    intro y hy
    obtain ⟨d, hd, hy⟩ := List.mem_flatMap.1 hy
    exact h d hd y (n2_sub hy)
theorem bv2_isA {H : Hp} {cs : List CV} {d : CV} (h : bv2 H (oneOf cs) = some d) : cs.length = 1 ∨ cs.all CV.isA = true := by
  match cs with
  | [] => exact .inr rfl
  | [c] => exact .inl rfl
  | c :: c' :: cs =>
    right
    simp only [oneOf, bv2] at h
    split at h
    · rename_i ds hds
      rw [List.all_eq_true]
      intro e he
      obtain ⟨d, hd⟩ := bvs_mem hds e he
      cases e <;> first | rfl | (simp [bv1, bv0] at hd)
    · cases h
theorem outs_mem {f : List Nat → CV → Option (CV × List Nat)} : ∀ {cs : List CV} {seen : List Nat} {r : List CV × List Nat}, outs f seen cs = some r → ∀ c, c ∈ cs → ∃ s r, f s c = some r
  | [], _, _, _, c, hc => by simp at hc
  | x :: xs, seen, r, h, c, hc => by
    simp only [outs] at h
    split at h
    · cases h
    · rename_i d s1 hd
      split at h
      · cases h
      · rename_i ds s2 hds
        rcases List.mem_cons.1 hc with rfl | hc
        · exact ⟨_, _, hd⟩
        · exact outs_mem hds c hc
theorem out2_isA {H : Hp} {cs : List CV} {d : CV} (h : out2 H (oneOf cs) = some d) : cs.length = 1 ∨ cs.all CV.isA = true := by
  match cs with
  | [] => exact .inr rfl
  | [c] => exact .inl rfl
  | c :: c' :: cs =>
    right
    simp only [oneOf, out2] at h
    split at h
    · rename_i ds s hds
      rw [List.all_eq_true]
      intro e he
      obtain ⟨s, r, hd⟩ := outs_mem hds e he
      cases e <;> first | rfl | (simp [out1, out0] at hd)
    · cases h

theorem endK_sound {w : World} {R : Nat → Prop} {nt : Nat} {st : St} {a : Act} {w' : World} (h : Sim ⟨w, R, fun _ => False, none⟩ nt st a w') {own : Bool} {fn : Func} {r : CV} (he : endK own fn.results.toList st = some r) :
    a.defers = [] ∧ ∃ v, (results fn a.tmps).run P w' = .ok v w' ∧ Below w.heap.size w w' ∧
      ∃ R' : Nat → Prop, (∀ b, R b → R' b) ∧ (∀ b, R' b → R b ∨ w.heap.size ≤ b) ∧ (∀ b, R' b → b < w'.heap.size) ∧ Res own w.heap.size w' R' r v := by
  obtain ⟨R0, lv, loc, h⟩ := h
  refine ⟨h.dfr, ?_⟩
  have hbel : Below w.heap.size w w' := ⟨h.os, h.tape, h.output, h.grow, fun b hb => h.keep b hb (fun h => h)⟩
  unfold endK at he
  split at he
  · cases he
  · rename_i cs hcs
    obtain ⟨vs, hvs, hr, hn⟩ := ress_sound h hcs
    have hres := results_run hvs
    cases own with
    | true =>
      simp only at he
      have hA := out2_isA he
      have hv := one_sound hr hA
      refine ⟨_, hres, hbel, R, fun _ h => h, fun b hb => .inl hb, fun b hb => h.rlt b (h.rsub b hb), fun x => ?_⟩
      obtain ⟨ns, seen', ho⟩ := out2_sound h (x := x) he hv
      have hget : ∀ i o, ns[i]? = some o → (ownCx w' x (ns.map fun o => o.bind loc)).loc (x + i) = o.bind loc := fun i o hi => by
        have hil := (List.getElem?_eq_some_iff.1 hi).1
        simp only [ownCx, List.length_map]
        rw [if_pos ⟨by omega, by omega⟩, Nat.add_sub_cancel_left, List.getElem?_map, hi]
        rfl
      refine ⟨ns.map fun o => o.bind loc, by simp [ho.len], ho.rel _ rfl hget, fun y hy => by simpa using ho.nm y hy, fun i b hb => ?_, fun i L hL => ?_, fun i j L M hij hL hM => ?_⟩
      · obtain ⟨q1, q2⟩ := ho.bl i b hb
        refine ⟨q2 _ rfl ?_, q1⟩
        have hil : i < ns.length := by rw [ho.len]; exact (List.getElem?_eq_some_iff.1 hb).1
        rw [hget i _ (List.getElem?_eq_getElem hil), List.getElem?_eq_getElem hil]
        rfl
      · rw [List.getElem?_map] at hL
        cases hi : ns[i]? with
        | none => rw [hi] at hL; cases hL
        | some o =>
          rw [hi] at hL
          cases o with
          | none => cases hL
          | some y =>
            simp only [Option.map_some, Option.bind_some, Option.some.injEq] at hL
            obtain ⟨-, hl⟩ := ho.new y (List.mem_of_getElem? hi)
            obtain ⟨b, hb⟩ := (h.lv y).1 hl
            obtain ⟨a1, a2, a3⟩ := (h.bl y b hb).2 L hL
            exact ⟨a1.resolve_right (fun h => h), a3⟩
      · rw [List.getElem?_map] at hL hM
        cases hi : ns[i]? with
        | none => rw [hi] at hL; cases hL
        | some o =>
          rw [hi] at hL
          cases o with
          | none => cases hL
          | some y =>
            cases hj : ns[j]? with
            | none => rw [hj] at hM; cases hM
            | some o' =>
              rw [hj] at hM
              cases o' with
              | none => cases hM
              | some z =>
                simp only [Option.map_some, Option.bind_some, Option.some.injEq] at hL hM
                refine h.dj y z L M (ho.new y (List.mem_of_getElem? hi)).2 (ho.new z (List.mem_of_getElem? hj)).2 hL hM fun e => hij ?_
                subst e
                exact ho.inj i j y hi hj
    | false =>
      simp only at he
      have hA := bv2_isA he
      have hv := one_sound hr hA
      refine ⟨_, hres, hbel, RN ⟨w', R0, lv, loc⟩ (fun _ => True), fun b hb => .inl (h.rsub b hb), fun b hb => ?_, RN_lt h, bv2_nl2 he, ?_⟩
      · rcases hb with hb | ⟨x, L, -, hl, hL, rfl⟩
        · exact h.rnew b hb
        · obtain ⟨b, hb⟩ := (h.lv x).1 hl
          exact .inr (((h.bl x b hb).2 L hL).1.resolve_right (fun h => h))
      · exact bv2_sound h he hv (fun _ _ => trivial) (fun _ _ _ _ _ _ => trivial)

/-- a function's run in the engine, and what it says of the program -/
theorem runF_calls {E : Env} (hs : SemOk E.sem) (hm : MemOk E.msem) {f : Nat} {fn : Func} (hf : P.funcs[f]? = some fn) {own : Bool} {args : List CV} (hn : noNames args = true) (hl : args.length ≤ fn.ntmps) (hnt : E.nt = fn.ntmps) {r : CV}
    (h : runF E own fn args = some r) : CallsC f args own r := by
  intro w R vs hR ha
  unfold runF at h
  split at h
  · cases h
  · rename_i c hc
    refine calls_of_wp hf hc ?_
    have hsz : vs.size ≤ E.nt := by
      have := ha.length
      have e : vs.toList.length = vs.size := Array.length_toList ..
      omega
    have hb := begin_sound (w := w) hR ha hn E.nt hsz
    rw [hnt] at hb
    have hE : Ok ⟨w, R, fun _ => False, none⟩ E := ⟨hs, hm, .inl fun _ h => h, .inl rfl, .inl fun _ h => h⟩
    have fin : ∀ st' a' w', endK own fn.results.toList st' = some r → Sim ⟨w, R, fun _ => False, none⟩ E.nt st' a' w' → a'.defers = [] ∧ ∃ v, (results fn a'.tmps).run P w' = .ok v w' ∧ (∃ v', Ending.returned v = .returned v' ∧ Below w.heap.size w w' ∧
        ∃ R' : Nat → Prop, (∀ b, R b → R' b) ∧ (∀ b, R' b → R b ∨ w.heap.size ≤ b) ∧ (∀ b, R' b → b < w'.heap.size) ∧ Res own w.heap.size w' R' r v') := by
      intro st' a' w' he hs'
      obtain ⟨h1, v, h2, h3⟩ := endK_sound hs' he
      exact ⟨h1, v, h2, v, rfl, h3⟩
    refine exK_sound hE c (Q := bodyPost P fn _) (fun st' a' w' he hs' => fin st' a' w' he hs') (fun i st' a' w' he hs' => by cases he) (fun st' a' w' he hs' => fin st' a' w' he hs') ⟨R, fun _ => False, fun _ => none, ?_⟩ h
    rw [hnt]; exact hb

/-! ### a function that writes into the row that it is handed first -/
/-- its begin; 'L': where the row lies -/
theorem beginM_sound {w : World} {R : Nat → Prop} (hR : ∀ b, R b → b < w.heap.size) {l : List Int} {args : List CV} {v0 : Value} {vs : Array Value} (ha : All2 (valR (byV w R)) args vs.toList) (hn : noNames args = true) (nt : Nat) (hle : vs.size + 1 ≤ nt)
    (L : Option Lc) (mayW : Nat → Prop) (hv : valR ⟨w, R, fun x => x = 90000, fun x => if x = 90000 then L else none⟩ (.ref 90000) v0) (hb : blkR ⟨w, R, fun x => x = 90000, fun x => if x = 90000 then L else none⟩ 90000 (.arr true .int l))
    (hL : ∀ M, L = some M → mayW M.g ∧ ¬ R M.g ∧ M.g < w.heap.size) :
    SimL ⟨w, R, mayW, some v0⟩ nt ⟨w, R, fun x => x = 90000, fun x => if x = 90000 then L else none⟩ ⟨parT 0 (.ref 90000 :: args), [(90000, some (.arr true .int l))]⟩ { tmps := (#[v0] ++ vs) ++ Array.replicate (nt - (#[v0] ++ vs).size) undef, defers := [] } := by
  have hlen := ha.length
  have hsz : (#[v0] ++ vs).size = vs.size + 1 := by simp; omega
  have hlk : ∀ z, look [(90000, some (Blk.arr true .int l))] z = if 90000 = z then some (some (Blk.arr true .int l)) else none := fun z => by rw [look_cons]; rfl
  have hall : All2 (valR ⟨w, R, fun x => x = 90000, fun x => if x = 90000 then L else none⟩) (.ref 90000 :: args) (#[v0] ++ vs).toList := by
    have e : (#[v0] ++ vs).toList = v0 :: vs.toList := by simp
    rw [e]
    refine ⟨hv, ha.mono fun c hc v hv => ?_⟩
    have := List.all_eq_true.1 hn c hc
    simp only [List.isEmpty_iff] at this
    exact valR_tr (C := byV w R) (D := ⟨w, R, fun x => x = 90000, fun x => if x = 90000 then L else none⟩) (N := fun _ => False) ⟨fun _ _ => rfl, fun _ h => h, fun x hx => hx.elim⟩ (by rw [this]; simp) hv
  constructor
  · simp only [Array.size_append, Array.size_replicate] at hsz ⊢; omega
  · rfl
  · rfl
  · rfl
  · rfl
  · exact Nat.le_refl _
  · exact fun _ _ _ => rfl
  · exact fun _ h => h
  · exact hR
  · exact fun _ h => .inl h
  · intro x
    simp only [hlk]
    constructor
    · rintro rfl; exact ⟨.arr true .int l, by simp⟩
    · rintro ⟨b, hb⟩
      split at hb
      · rename_i e; exact e.symm
      · cases hb
  · intro t c hc
    simp only [look_part, Nat.zero_le, if_true, Nat.sub_zero] at hc
    obtain ⟨v, hv, hr⟩ := hall.get hc
    have hv' : (#[v0] ++ vs)[t]? = some v := by rw [← Array.getElem?_toList]; exact hv
    have hlt := (Array.getElem?_eq_some_iff.1 hv').1
    exact ⟨v, by rw [Array.getElem?_append_left hlt]; exact hv', hr⟩
  · intro x b hb'
    simp only [hlk] at hb'
    split at hb'
    · rename_i e
      subst e
      cases hb'
      refine ⟨hb, fun M hM => ?_⟩
      simp only [if_true] at hM
      obtain ⟨q1, q2, q3⟩ := hL M hM
      exact ⟨.inr q1, q2, q3⟩
    · cases hb'
  · rintro x y L M rfl rfl - - hne
    exact absurd rfl hne
  · intro t c hc x hx
    simp only [look_part, Nat.zero_le, if_true, Nat.sub_zero] at hc
    simp only [hlk]
    cases t with
    | zero =>
      simp only [List.getElem?_cons_zero, Option.some.injEq] at hc
      subst hc
      simp only [n2, n1, n0, List.mem_singleton] at hx
      subst hx
      exact ⟨some (.arr true .int l), by simp⟩
    | succ t =>
      have := List.all_eq_true.1 hn c (List.mem_of_getElem? (by simpa using hc))
      simp only [List.isEmpty_iff] at this
      rw [this] at hx; simp at hx
  · intro y b hb' x hx
    simp only [hlk] at hb'
    split at hb'
    · cases hb'; simp [nB] at hx
    · cases hb'
  · intro v hv
    cases hv
    have h0 : (#[v0] ++ vs)[0]? = some v0 := by rw [Array.getElem?_append_left (by simp)]; rfl
    rw [Array.getElem?_append_left (by omega)]
    exact h0

theorem runM_calls {E : Env} (hs : SemOk E.sem) (hm : MemOk E.msem) (hk : E.kill = []) (hlow : 0 < E.low) {f : Nat} {fn : Func} (hf : P.funcs[f]? = some fn) (hres : fn.results = #[]) {l l' : List Int} {args : List CV} (hn : noNames args = true) (hl : args.length + 1 ≤ fn.ntmps) (hnt : E.nt = fn.ntmps)
    (h : runM E fn l args = some l') : CallsM f l args l' := by
  intro w R v0 vs hR ha
  unfold runM at h
  split at h
  · cases h
  · rename_i c hc
    have hsz : vs.size + 1 ≤ E.nt := by
      have := ha.length
      have e : vs.toList.length = vs.size := Array.length_toList ..
      omega
    have run0 : ∀ (tmps : Array Value) (w' : World), (results fn tmps).run P w' = .ok (.tuple #[]) w' := fun tmps w' => by
      have : (fn.results.toList.mapM (readR tmps)).run P w' = .ok [] w' := by rw [hres]; rfl
      have := results_run this
      simpa using this
    -- what holds at the end
    have fin : ∀ (L : Option Lc) (mayW : Nat → Prop), valR ⟨w, R, fun x => x = 90000, fun x => if x = 90000 then L else none⟩ (.ref 90000) v0 → blkR ⟨w, R, fun x => x = 90000, fun x => if x = 90000 then L else none⟩ 90000 (.arr true .int l) →
        (∀ M, L = some M → mayW M.g ∧ ¬ R M.g ∧ M.g < w.heap.size) →
        ∀ Q : World → Prop, (∀ w' : World, w'.os = w.os → w'.tape = w.tape → w'.output = w.output → w.heap.size ≤ w'.heap.size → (∀ b, b < w.heap.size → ¬ mayW b → w'.heap[b]? = w.heap[b]?) →
          (((∃ A, v0 = .slice A 0 0) ∧ l' = []) ∨ ∃ (L : Lc) (cur : Array Value), v0 = .slice (some ⟨L.g, 0, none⟩) L.n L.c ∧ L.n = l'.length ∧ w'.heap[L.g]? = some (.cells cur 3 (0, 0)) ∧ cur.size = L.c ∧ ∀ (i : Nat) n, l'[i]? = some n → cur[i]? = some (.int .i64 n)) → Q w') →
        Calls P f (#[v0] ++ vs) w fun e w' => e = .returned (.tuple #[]) ∧ Q w' := by
      intro L mayW hv hb hL Q hQ
      have hbeg := beginM_sound (w := w) hR (l := l) ha hn E.nt hsz L mayW hv hb hL
      have hE : Ok ⟨w, R, mayW, some v0⟩ E := ⟨hs, hm, .inr hk, .inr hlow, .inr hlow⟩
      refine calls_of_wp hf hc ?_
      rw [hnt] at hbeg
      have key : ∀ st' a' w', endM st' = some l' → Sim ⟨w, R, mayW, some v0⟩ E.nt st' a' w' → a'.defers = [] ∧ ∃ v, (results fn a'.tmps).run P w' = .ok v w' ∧ (Ending.returned v = .returned (.tuple #[]) ∧ Q w') := by
        intro st' a' w' he hs'
        obtain ⟨R0, lv, loc, hs'⟩ := hs'
        refine ⟨hs'.dfr, _, run0 _ _, rfl, hQ w' hs'.os hs'.tape hs'.output hs'.grow hs'.keep ?_⟩
        unfold endM at he
        split at he
        · rename_i y hy
          split at he
          · rename_i m hg
            cases he
            obtain ⟨v, hv', hr⟩ := hs'.tm 0 _ hy
            have := hs'.pin v0 rfl
            rw [hv'] at this
            cases this
            have hlk := get_some.1 hg
            have hlv : lv y := (hs'.lv y).2 ⟨_, hlk⟩
            have hr2 := hr.2 hlv
            have hbl := (hs'.bl y _ hlk).1
            simp only at hr2
            simp only [blkR] at hbl
            cases hly : loc y with
            | none =>
              rw [hly] at hr2 hbl
              exact .inl ⟨hr2, hbl⟩
            | some M =>
              rw [hly] at hr2 hbl
              obtain ⟨b1, b2, b3, b4, cur, b5, b6, b7⟩ := hbl
              obtain ⟨b61, b62⟩ := b6 trivial
              simp only at hr2
              rw [b61] at hr2 b7
              refine .inr ⟨M, cur, hr2, b1, b5, by rw [b62]; simp [SK.size], fun i n hi => ?_⟩
              have := row_get .int (l := l') hi (j := 0) (by simp [SK.size])
              simp only [SK.size, Nat.mul_one, Nat.add_zero] at this
              obtain ⟨z, hz, hr⟩ := b7 i _ (this.trans (by simp [SK.cells] : (SK.int.cells n)[0]? = some (.int .i64 n)))
              rw [Nat.zero_add] at hz
              rw [hz]
              exact congrArg some hr
          · cases he
        · cases he
      refine exK_sound hE c (Q := bodyPost P fn _) (fun st' a' w' he hs' => key st' a' w' he hs') (fun i st' a' w' he hs' => by cases he) (fun st' a' w' he hs' => key st' a' w' he hs') ⟨R, fun x => x = 90000, fun x => if x = 90000 then L else none, ?_⟩ h
      rw [hnt]; exact hbeg
    constructor
    · rintro ⟨rfl, A, rfl⟩
      exact fin none (fun _ => False) ⟨⟨_, _, _, rfl⟩, fun _ => by simp⟩ (by simp [blkR]) (by simp) _ fun w' h1 h2 h3 h4 h5 _ => ⟨h1, h2, h3, h4, fun b hb => h5 b hb (fun h => h)⟩
    · rintro g c' cur rfl hlc hcm hng hg hcur hcs hcells
      by_cases h0 : c' = 0
      · have hl0 : l = [] := List.eq_nil_of_length_eq_zero (by omega)
        subst h0 hl0
        refine fin none (fun _ => False) ⟨⟨_, _, _, rfl⟩, fun _ => by simp⟩ (by simp [blkR]) (by simp) _ fun w' h1 h2 h3 h4 h5 h6 => ⟨h1, h2, h3, h4, fun b hb _ => h5 b hb (fun h => h), cur, (h5 g hg (fun h => h)).trans hcur, rfl, ?_⟩
        have hl' : l' = [] := by
          rcases h6 with ⟨-, h⟩ | ⟨L, cu, e, e2, -⟩
          · exact h
          · simp only [Value.slice.injEq, List.length_nil] at e
            exact List.eq_nil_of_length_eq_zero (by omega)
        subst hl'
        simp
      · refine fin (some ⟨g, 0, l.length, c', 1⟩) (fun b => b = g) ⟨⟨_, _, _, rfl⟩, fun _ => by simp⟩ ?_ (fun M hM => by cases hM; exact ⟨rfl, hng, hg⟩) _ fun w' h1 h2 h3 h4 h5 h6 => ?_
        · simp only [blkR, if_true]
          refine ⟨trivial, rfl, hlc, hcm, cur, hcur, fun _ => ⟨trivial, by simp [SK.size, hcs]⟩, fun i u hu => ?_⟩
          have hi : i < l.length := by
            have := (List.getElem?_eq_some_iff.1 hu).1
            rwa [row_len, SK.size, Nat.mul_one] at this
          have hge := List.getElem?_eq_getElem hi
          have := row_get .int (l := l) hge (j := 0) (by simp [SK.size])
          simp only [SK.size, Nat.mul_one, Nat.add_zero] at this
          rw [this] at hu
          simp only [SK.cells, List.getElem?_cons_zero, Option.some.injEq] at hu
          subst hu
          exact ⟨_, by rw [Nat.zero_add]; exact hcells i _ hge, rfl⟩
        · rcases h6 with ⟨⟨A, e⟩, -⟩ | ⟨L, cu, e, e2, e3, e4, e5⟩
          · simp only [Value.slice.injEq] at e
            exact absurd e.2.2 h0
          · simp only [Value.slice.injEq, Option.some.injEq, Addr.mk.injEq] at e
            obtain ⟨⟨e6, -, -⟩, e7, e8⟩ := e
            rw [← e6] at e3
            exact ⟨h1, h2, h3, h4, fun b hb hne => h5 b hb hne, cu, e3, by rw [e4, ← e8, hcs], e5⟩
end Go.Proofs.Ytnfgfdeidkhdkaa.Eng
