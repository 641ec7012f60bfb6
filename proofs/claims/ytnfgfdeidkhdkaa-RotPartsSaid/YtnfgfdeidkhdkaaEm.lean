/- The engine's soundness, eleventh part: every operation that writes; one operation. -/
import Derived.Test.YtnfgfdeidkhdkaaEl
namespace Go.Proofs.Ytnfgfdeidkhdkaa.Eng
open Go.RowKit (Below)
set_option linter.unusedVariables false
set_option linter.unusedSimpArgs false

theorem nms_closed {H : Hp} {ys : List Nat} (h : ∀ y, y ∈ ys → ∃ b, look H y = some (some b) ∧ nB b = []) : ∀ y z b, y ∈ ys → look H y = some (some b) → z ∈ nB b → z ∈ ys := by
  intro y z b hy hb hz
  obtain ⟨b', e, e2⟩ := h y hy
  rw [e] at hb
  cases hb
  rw [e2] at hz; simp at hz

/-- a call that writes into the row that it is handed first -/
theorem mcall_sound {B : Base} {nt : Nat} {C : Cx} {st : St} {a : Act} (h : SimL B nt C st a) {msem : Nat → List Int → List CV → Option (Bool × List Int)} (hm : MemOk msem) {o : Oper} {c : Call} {f : Nat} (ho : o.op = .call c) (hc : c.callee = .value (.func f))
    {y : Nat} {us vs : List CV} (hs : evs st.T c.args.toList c.argTypes.toList = some (.ref y :: us)) {l l' : List Int} (hg : get st.H y = some (.arr true .int l)) (hb : bvs (bv2 st.H) us = some vs) {ys : List Nat} (hn : nms st.H us = some ys) (hy : ¬ y ∈ ys)
    (hf : msem f l vs = some (true, l')) (hl : l'.length = l.length) : Wr B nt st a o C.w (.tup []) [(y, some (.arr true .int l'))] := by
  intro Kc Q hK
  obtain ⟨h1, h2⟩ := evs_sound h hs
  obtain ⟨hcm, hcl⟩ := hm f l vs l' hf
  obtain ⟨n1, n2'⟩ := nms_sound hb hn
  have hlk := get_some.1 hg
  have hlv : C.lv y := (h.lv y).2 ⟨_, hlk⟩
  match hargs : c.args.toList.map a.eval, h1 with
  | v0 :: ws, h1 =>
    have hrun : (execOp a.eval o).run P C.w = .ok (.enter f (#[v0] ++ ws.toArray)) C.w := by
      rw [call_func_run ho hc hcl]
      have e : c.args.map a.eval = (v0 :: ws).toArray := arr_of (by rw [map_toList]; exact hargs)
      rw [e]
      simp
    have hargsR := args_sound h (N := fun z => z ∈ ys) hb h1.2 n1 (nms_closed n2')
    obtain ⟨m1, m2⟩ := hcm C.w (RN C fun z => z ∈ ys) v0 ws.toArray (RN_lt h) (by simpa using hargsR)
    have hv := h1.1.2 hlv
    have hbl := (h.bl y _ hlk).1
    cases hL : C.loc y with
    | none =>
      rw [hL] at hv
      simp only [blkR, hL] at hbl
      subst hbl
      obtain ⟨A, rfl⟩ := hv
      refine wp_enter hrun ((m1 ⟨rfl, A, rfl⟩).mono fun e w' ⟨he, hbel⟩ => ⟨.tuple #[], he, ?_⟩)
      have hl0 : l' = [] := List.eq_nil_of_length_eq_zero hl
      subst hl0
      have hk := h.kill (R' := C.R) (w' := w') [] (by simp) (fun _ h => h) (fun _ h => .inl h) hbel (fun b hb => Nat.lt_of_lt_of_le (h.rlt b hb) hbel.size) (by simp)
      refine hK ⟨w', C.R, fun y => C.lv y ∧ y ∉ [], C.loc⟩ _ ⟨hk.eqv ⟨fun _ => rfl, fun z => ?_⟩, ⟨#[], rfl, trivial⟩, by simp [n2]⟩
      simp only [List.map_nil, List.nil_append, List.cons_append, look_cons]
      split
      · rename_i e; subst e; exact hlk
      · rfl
    | some L =>
      rw [hL] at hv
      simp only at hv
      subst hv
      simp only [blkR, hL] at hbl
      obtain ⟨b1, b2, b3, b4, cur, b5, b6, b7⟩ := hbl
      obtain ⟨o1, o2, o3⟩ := (h.bl y _ hlk).2 L hL
      have hne : ¬ RN C (fun z => z ∈ ys) L.g := by
        rintro (hR | ⟨x, M, hx, hlx, hM, e⟩)
        · exact o2 hR
        · exact h.dj y x L M hlv hlx hL hM (fun e' => hy (e' ▸ hx)) e.symm
      have hcells : ∀ (i : Nat) n, l[i]? = some n → cur[L.o + i]? = some (.int .i64 n) := by
        intro i n hi
        have := row_get .int (l := l) hi (j := 0) (by simp [SK.size])
        simp only [SK.size, Nat.mul_one, Nat.add_zero] at this
        obtain ⟨z, hz, hr⟩ := b7 i _ (this.trans (by simp [SK.cells] : (SK.int.cells n)[0]? = some (.int .i64 n)))
        rw [hz]
        exact congrArg some hr
      obtain ⟨b61, b62⟩ := b6 trivial
      rw [b61] at hrun hcells m2
      rw [b1] at hrun m2
      simp only [Nat.zero_add] at hcells
      refine wp_enter hrun ((m2 L.g L.c cur rfl (by omega) b4 hne o3 b5 (by rw [b62]; simp [SK.size]) hcells).mono fun e w' ⟨he, q1, q2, q3, q4, q5, cur', q6, q7, q8⟩ => ⟨.tuple #[], he, ?_⟩)
      have hRg : ∀ b, C.R b → w'.heap[b]? = C.w.heap[b]? := fun b hb => q5 b (h.rlt b hb) fun e => o2 (e ▸ hb)
      refine hK ⟨w', C.R, C.lv, C.loc⟩ _ ⟨h.turn hlk hL q1 q2 q3 q4 q5 ?_ (by simp [nB]), ⟨#[], rfl, trivial⟩, by simp [n2]⟩
      simp only [blkR, hL]
      refine ⟨by rw [hl]; exact b1, b2, b3, b4, cur', q6, fun _ => ⟨b61, by rw [q7]; exact b62⟩, fun i u hu => ?_⟩
      have hi : i < l'.length := by
        have := (List.getElem?_eq_some_iff.1 hu).1
        rwa [row_len, SK.size, Nat.mul_one] at this
      have hge := List.getElem?_eq_getElem hi
      have := row_get .int (l := l') hge (j := 0) (by simp [SK.size])
      simp only [SK.size, Nat.mul_one, Nat.add_zero] at this
      rw [this] at hu
      simp only [SK.cells, List.getElem?_cons_zero, Option.some.injEq] at hu
      subst hu
      exact ⟨_, by rw [b61, Nat.zero_add]; exact q8 i _ hge, rfl⟩
  | [], h1 => exact h1.elim

/-- a call that lets go of what it is handed -/
theorem kcall_sound {B : Base} {nt : Nat} {C : Cx} {st : St} {a : Act} (h : SimL B nt C st a) {sem : Sems} (hsem : SemOk sem) {o : Oper} {c : Call} {f : Nat} (ho : o.op = .call c) (hc : c.callee = .value (.func f)) (hB : ∀ b, ¬ B.mayW b)
    {us vs : List CV} (hs : evs st.T c.args.toList c.argTypes.toList = some us) (hb : bvs (bv2 st.H) us = some vs) {ys : List Nat} (hn : nms st.H us = some ys) {r' : CV} (hf : sem f vs = some (false, true, r')) :
    Wr B nt st a o C.w r' (ys.map fun y => (y, none)) := by
  intro Kc Q hK
  obtain ⟨h1, h2⟩ := evs_sound h hs
  obtain ⟨hcc, hcl⟩ := hsem f vs _ _ hf
  obtain ⟨n1, n2'⟩ := nms_sound hb hn
  have hargsR := args_sound h (N := fun z => z ∈ ys) hb h1 n1 (nms_closed n2')
  have hrun : (execOp a.eval o).run P C.w = .ok (.enter f (c.args.toList.map a.eval).toArray) C.w := by
    rw [call_func_run ho hc hcl, arr_of (map_toList a.eval c.args)]
  refine wp_enter hrun ((hcc C.w (RN C fun z => z ∈ ys) _ (RN_lt h) (by simpa using hargsR)).mono fun e w' ⟨v, he, hbel, R', r1, r2, r3, hnl, hv⟩ => ⟨v, he, ?_⟩)
  have hn2 : n2 r' = [] := nl2_n2 hnl
  have hk := h.kill (R' := R') (w' := w') ys (fun y hy => by obtain ⟨b, e, -⟩ := n2' y hy; exact ⟨_, e⟩) (fun b hb => r1 b (.inl hb))
    (fun b hb => by
      rcases r2 b hb with (hb | ⟨x, L, hx, hl, hL, e⟩) | hb
      · exact .inl hb
      · exact .inr (.inl ⟨x, L, hx, hl, hL, e⟩)
      · exact .inr (.inr hb)) hbel r3 (fun y L hl hL hy => by
      obtain ⟨b, hbk⟩ := (h.lv y).1 hl
      exact ((h.bl y b hbk).2 L hL).1.resolve_right (hB _))
  exact hK ⟨w', R', fun y => C.lv y ∧ y ∉ ys, C.loc⟩ v ⟨hk, valR_tr (C := byV w' R') (D := ⟨w', R', fun y => C.lv y ∧ y ∉ ys, C.loc⟩) (N := fun _ => False) ⟨fun b _ => rfl, fun b h => h, fun y hy => hy.elim⟩ (by rw [hn2]; simp) hv, by rw [hn2]; simp⟩

/-- a row that is cut at its end, all of it kept -/
theorem clip_sound {B : Base} {nt : Nat} {C : Cx} {st : St} {a : Act} (h : SimL B nt C st a) {o : Oper} {t : Nat} {s hi mx : Operand} (ho : o.op = .slice t s none (some hi) (some mx)) {x y : Nat} (hs : ev t st.T s = some (.ref y)) {ap : Bool} {k : SK} {l : List k.T} (hg : get st.H y = some (.arr ap k l))
    {i1 i2 : IntKind} {b m : Int} (hb : ev 3 st.T hi = some (.int i1 b)) (hm : ev 3 st.T mx = some (.int i2 m)) (ht : t = k.ty) (hbl : b = (l.length : Int)) (hml : m = (l.length : Int)) (hx : look st.H x = none) :
    Wr B nt st a o C.w (.ref x) [(x, some (.arr false k l)), (y, none)] := by
  intro Kc Q hKc
  subst ht hbl hml
  have hv := (ev_sound h hs).1
  have e1 := int_inv (ev_sound h hb).1
  have e2 := int_inv (ev_sound h hm).1
  have hlk := get_some.1 hg
  have hlv : C.lv y := (h.lv y).2 ⟨_, hlk⟩
  have hv2 := hv.2 hlv
  have hbk := (h.bl y _ hlk).1
  have hrun : ∀ (A : Option Addr) (cap : Nat), a.eval s = .slice A l.length cap → l.length ≤ cap → (execOp a.eval o).run P C.w = .ok (.value (.slice (if l.length = 0 then A else A.map (·.add (0 * k.size))) l.length l.length)) C.w := by
    intro A cap hA hle
    have hr := slice_run k A l.length cap none (some (.int i1 (l.length : Int))) (some (.int i2 (l.length : Int))) 0 l.length l.length (.inl ⟨rfl, rfl⟩) (.inr ⟨i1, rfl⟩) (.inr ⟨i2, rfl⟩) (Nat.zero_le _) (Nat.le_refl _) hle C.w
    unfold execOp
    simp only [ho, Option.map_none, Option.map_some, hA, e1, e2]
    simp only [Nat.sub_zero] at hr
    exact run_v _ _ hr
  have fin : ∀ {L : Option Lc} {v : Value}, (execOp a.eval o).run P C.w = .ok (.value v) C.w →
      SimL B nt ⟨C.w, C.R, fun z => (C.lv z ∧ z ≠ y) ∨ z = x, fun z => if z = x then L else C.loc z⟩ ⟨st.T, (x, some (.arr false k l)) :: (y, none) :: st.H⟩ a →
      ((∃ A n c, v = .slice A n c) ∧ (match L with
      | none => ∃ A, v = .slice A 0 0
      | some L => v = .slice (some ⟨L.g, L.o, none⟩) L.n L.c)) → o.wp P a C.w Kc Q := by
    intro L v hr hsim hv
    refine wp_value hr (hKc ⟨C.w, C.R, fun z => (C.lv z ∧ z ≠ y) ∨ z = x, fun z => if z = x then L else C.loc z⟩ v ⟨hsim, ⟨hv.1, fun _ => ?_⟩, fun q hq => ?_⟩)
    · simp only [if_true]
      cases L <;> exact hv.2
    · simp only [n2, n1, n0, List.mem_singleton] at hq
      subst hq
      exact ⟨some (.arr false k l), by simp [look_cons]⟩
  cases hL : C.loc y with
  | none =>
    rw [hL] at hv2
    simp only [blkR, hL] at hbk
    obtain ⟨A, hA⟩ := hv2
    subst hbk
    refine fin (L := none) (hrun A 0 hA (Nat.le_refl _)) (h.app hx hlk rfl rfl rfl (Nat.le_refl _) (fun _ _ _ => rfl) (fun M hM => by cases hM) (by simp [blkR]) rfl) ⟨⟨_, _, _, rfl⟩, ⟨_, rfl⟩⟩
  | some L =>
    rw [hL] at hv2
    simp only [blkR, hL] at hbk
    obtain ⟨b1, b2, b3, b4, cur, b5, b6, b7⟩ := hbk
    simp only at hv2
    rw [b1] at hv2
    have hr := hrun _ _ hv2 (by omega)
    by_cases h0 : l.length = 0
    · have hl0 : l = [] := List.eq_nil_of_length_eq_zero h0
      subst hl0
      exact fin (L := none) hr (h.app hx hlk rfl rfl rfl (Nat.le_refl _) (fun _ _ _ => rfl) (fun M hM => by cases hM) (by simp [blkR]) rfl) ⟨⟨_, _, _, rfl⟩, ⟨_, rfl⟩⟩
    · rw [if_neg h0] at hr
      have e : Option.map (fun x => x.add (0 * k.size)) (some (⟨L.g, L.o, none⟩ : Addr)) = some ⟨L.g, L.o, none⟩ := by
        simp only [Option.map_some, Nat.zero_mul, addr_add, Nat.add_zero]
      rw [e] at hr
      refine fin (L := some ⟨L.g, L.o, l.length, l.length, L.s⟩) hr (h.app hx hlk rfl rfl rfl (Nat.le_refl _) (fun _ _ _ => rfl) (fun M hM => by
        cases hM
        exact ⟨((h.bl y _ hlk).2 L hL).2.2, .inl ⟨L, hL, rfl⟩⟩) ?_ rfl) ⟨⟨_, _, _, rfl⟩, rfl⟩
      simp only [blkR, if_true]
      refine ⟨trivial, b2, Nat.le_refl _, by omega, cur, b5, fun hh => (by cases hh), b7⟩

theorem look_mem {α : Type} : ∀ {l : List (Nat × α)} {t : Nat} {c : α}, look l t = some c → (t, c) ∈ l
  | [], t, c, h => by simp [look] at h
  | (i, v) :: l, t, c, h => by
    rw [look_cons] at h
    split at h
    · rename_i e; subst e; cases h; exact List.mem_cons_self ..
    · exact List.mem_cons_of_mem _ (look_mem h)
theorem elemsF_C {f : CV → Option CV} {T : List (Nat × CV)} {k : SK} (hf : ∀ c d, f c = some d → c.isC = true) : ∀ {ps : List (Nat × Operand)} {i : Nat} {l : List k.T}, elemsF f T k i ps = some l → ∀ p, p ∈ ps → ∃ v, ev k.el T p.2 = some v ∧ ∀ c, c ∈ v.cells → ∃ d, f c = some d
  | [], _, _, _, p, hp => by simp at hp
  | (j, x) :: ps, i, l, h, p, hp => by
    simp only [elemsF] at h
    by_cases hj : Nat.beq i j = true
    · rw [hj, cond_true] at h
      split at h
      · cases h
      · rename_i v hv
        split at h
        · cases h
        · rename_i cs hcs
          split at h
          · cases h
          · rename_i e he
            split at h
            · cases h
            · rename_i es hes
              rcases List.mem_cons.1 hp with rfl | hp
              · exact ⟨v, hv, fun c hc => bvs_mem hcs c hc⟩
              · exact elemsF_C hf hes p hp
    · rw [Bool.eq_false_iff.2 hj] at h; cases h
theorem bv0_isC {H : Hp} {c d : CV} (h : bv0 H c = some d) : c.isC = true := by
  cases c <;> first | rfl | (simp [bv0] at h)
theorem bv0_nm0 {H : Hp} {c d : CV} (h : bv0 H c = some d) : n0 c = nm0 c := by
  cases c <;> first | rfl | (simp [bv0] at h)
/-- a row of structs is written out: the rows that it names are its from now on -/
theorem bslice_sound {B : Base} {nt : Nat} {C : Cx} {st : St} {a : Act} (h : SimL B nt C st a) {o : Oper} {t n : Nat} {parts : Array (Nat × Operand)} (ho : o.op = .buildSlice t n parts) (hB : ∀ b, ¬ B.mayW b) {x : Nat} {k : SK} (ht : t = k.ty) (hp' : parts.size = n) (hn0 : n ≠ 0) (hn' : n ≤ 1000)
    {l : List k.T} (hl : elemsF (bv0 st.H) st.T k 0 parts.toList = some l) (hx : look st.H x = none) :
    Wr B nt st a o C.w (.ref x) ((x, some (.arr true k l)) :: (nmE st.T k parts.toList).map fun y => (y, none)) := by
  intro Kc Q hKc
  subst ht
  obtain ⟨i, z, hi, hs, hby, hz, hzs⟩ := SK.info k
  have hsz : k.size ≤ 4 := by cases k <;> simp [SK.size]
  have hns : n * k.size ≤ 4000 := Nat.mul_le_mul hn' hsz
  have hnz : n * k.size ≠ 0 := Nat.mul_ne_zero hn0 (by have := k.size_pos; omega)
  have hmem := elemsF_C (fun _ _ => bv0_isC) hl
  have hlive : ∀ y, y ∈ nmE st.T k parts.toList → ∃ ap k' l', look st.H y = some (some (.arr ap k' l')) := by
    intro y hy
    obtain ⟨p, hp, hy⟩ := List.mem_flatMap.1 hy
    obtain ⟨v, hv, hc⟩ := hmem p hp
    rw [hv] at hy
    obtain ⟨c, hcm, hy⟩ := List.mem_flatMap.1 hy
    obtain ⟨d, hd⟩ := hc c hcm
    exact nm_arr0 hd hy
  have hk := h.kill (R' := RN C fun y => y ∈ nmE st.T k parts.toList) (w' := C.w) (nmE st.T k parts.toList) (fun y hy => by obtain ⟨ap, k', l', e⟩ := hlive y hy; exact ⟨_, e⟩) (fun b hb => .inl hb)
    (fun b hb => by
      rcases hb with hb | ⟨y, L, hy, hl, hL, e⟩
      · exact .inl hb
      · exact .inr (.inl ⟨y, L, hy, hl, hL, e⟩)) (Below.refl _ _) (RN_lt h) (fun y L hly hL hy => by
      obtain ⟨b, hbk⟩ := (h.lv y).1 hly
      exact ((h.bl y b hbk).2 L hL).1.resolve_right (hB _))
  obtain ⟨out, h1, h2, h3, h4⟩ := elemsF_sound h (R' := RN C fun y => y ∈ nmE st.T k parts.toList) (k := k) (f := fun c => bif (nm0 c).all (fun y => (nmE st.T k parts.toList).contains y) then bv0 st.H c else none) (fun c d hd => by
      by_cases hc : (nm0 c).all (fun y => (nmE st.T k parts.toList).contains y) = true
      · rw [hc, cond_true] at hd
        refine ⟨bv0_isC hd, fun v hv _ => bv0_sound h hd hv fun y hy => ?_⟩
        rw [bv0_nm0 hd] at hy
        simpa using List.all_eq_true.1 hc y hy
      · rw [Bool.eq_false_iff.2 hc] at hd; cases hd) parts.toList.length parts.toList 0 l (by
      have : ∀ (ps : List (Nat × Operand)) (i : Nat) (l : List k.T), (∀ p, p ∈ ps → ∀ v, ev k.el st.T p.2 = some v → ∀ c, c ∈ v.cells → ∀ y, y ∈ nm0 c → y ∈ nmE st.T k parts.toList) → elemsF (bv0 st.H) st.T k i ps = some l →
          elemsF (fun c => bif (nm0 c).all (fun y => (nmE st.T k parts.toList).contains y) then bv0 st.H c else none) st.T k i ps = some l := by
        intro ps
        induction ps with
        | nil => exact fun i l _ h => h
        | cons p ps ih =>
          obtain ⟨j, x⟩ := p
          intro i l hin h
          simp only [elemsF] at h ⊢
          by_cases hj : Nat.beq i j = true
          · rw [hj, cond_true] at h ⊢
            split at h
            · cases h
            · rename_i v hv
              have hcells : ∀ (cs ds : List CV), (∀ c, c ∈ cs → c ∈ v.cells) → bvs (bv0 st.H) cs = some ds → bvs (fun c => bif (nm0 c).all (fun y => (nmE st.T k parts.toList).contains y) then bv0 st.H c else none) cs = some ds := by
                intro cs
                induction cs with
                | nil => exact fun ds _ h => h
                | cons c cs ihc =>
                  intro ds hsub hh
                  simp only [bvs] at hh ⊢
                  have hc : (nm0 c).all (fun y => (nmE st.T k parts.toList).contains y) = true := by
                    rw [List.all_eq_true]
                    intro y hy
                    simpa using hin (j, x) (List.mem_cons_self ..) v hv c (hsub c (List.mem_cons_self ..)) y hy
                  rw [hc, cond_true]
                  split at hh
                  · cases hh
                  · rename_i d hd
                    split at hh
                    · cases hh
                    · rename_i ds' hds
                      rw [ihc ds' (fun c hc => hsub c (List.mem_cons_of_mem _ hc)) hds]
                      exact hh
              split at h
              · cases h
              · rename_i cs hcs
                simp only [hcells _ _ (fun _ h => h) hcs]
                split at h
                · cases h
                · rename_i e he
                  split at h
                  · cases h
                  · rename_i es hes
                    simp only [he, ih (i + 1) es (fun p hp => hin p (List.mem_cons_of_mem _ hp)) hes]
                    exact h
          · rw [Bool.eq_false_iff.2 hj] at h; cases h
      refine this _ _ _ (fun p hp v hv c hc y hy => List.mem_flatMap.2 ⟨p, hp, ?_⟩) hl
      rw [hv]
      exact List.mem_flatMap.2 ⟨c, hc, hy⟩) (by simp) [] ((Array.range (n * k.size)).map (z.cells[· % z.cells.size]!)) rfl (by simp [hp']) (by simp)
  have h1' : Instr.fill (fun i => some (i * k.size, k.size)) ((Array.range (n * k.size)).map (z.cells[· % z.cells.size]!)) (parts.map fun p => (p.1, a.eval p.2)).toList = some out := by
    rw [Array.toList_map]; exact h1
  have hrun : (Instr.buildSlice k.ty n (parts.map fun p => (p.1, a.eval p.2))).run P C.w = .ok (.slice (some ⟨C.w.heap.size, 0, none⟩) n n) (C.w.alloc (.cells out k.el (0, 0))) := by
    have hbig : ¬ (n * k.size > 2 ^ 24) := by
      have : (2 : Nat) ^ 24 = 16777216 := by decide
      omega
    have hzr : (zeroValue k.el).run P C.w = .ok z C.w := by simp only [zeroValue, typeInfo, Sem.run_bind, run_program, Result.andThen_ok, hi, Sem.run_pure, hz]
    unfold Instr.buildSlice
    simp only [Sem.run_bind, run_underlying (SK.under k), Result.andThen_ok, SK.sizeOf k, if_neg hbig, if_neg hnz, hzr, Sem.run_pure, h1', newRow, run_newObj, World.alloc_eq]
  have hlen : l.length = n := by rw [h3, Array.length_toList, hp']
  have q := QOut.row hk (x := x) (k := k) (l := l) (ap := true) (w' := C.w.alloc (.cells out k.el (0, 0))) (cur := out) (c := n) rfl rfl rfl rfl (by omega) (by unfold maxLen; omega) (by rw [h2, Array.length_toList, hp']) (by simpa using h4)
  rw [hlen] at q
  have hxk : look ((nmE st.T k parts.toList).map (fun y => ((y, none) : Nat × Option Blk)) ++ st.H) x = none := by
    rw [look_append]
    cases hm : look ((nmE st.T k parts.toList).map (fun y => ((y, none) : Nat × Option Blk))) x with
    | none => exact hx
    | some c =>
      obtain ⟨y, hy, e⟩ := List.mem_map.1 (look_mem hm)
      cases e
      obtain ⟨ap, k', l', e⟩ := hlive x hy
      rw [hx] at e; cases e
  have hadd := hk.add q (fun y hy => by
    obtain rfl : y = x := by simp only [List.length_singleton] at hy; omega
    exact hxk)
  refine wp_value ?_ (hKc _ (.slice (some ⟨C.w.heap.size, 0, none⟩) n n) ⟨hadd, q.val, fun y hy => ?_⟩)
  · unfold execOp
    simp only [ho]
    exact run_v _ _ hrun
  · simp only [n2, n1, n0, List.mem_singleton] at hy
    subst hy
    exact ⟨some (.arr true k l), by simp [look_cons]⟩

theorem wop_sound {B : Base} {nt : Nat} {C : Cx} {st : St} {a : Act} (h : SimL B nt C st a) {E : Env} (hsem : SemOk E.sem) (hmem : MemOk E.msem) (hB : (∀ b, ¬ B.mayW b) ∨ E.kill = []) (hB2 : (∀ b, ¬ B.mayW b) ∨ 0 < E.low) (o : Oper) (hw : isW E o.op st.T = true) {x : Nat} {R : Type} {K : CV → Hp → Option R} {r : R}
    (hq : wop E o.op x st K = some r) : ∃ c H', K c H' = some r ∧ ((isApp o.op = false ∨ look st.H x = none) → Wr B nt st a o C.w c H') := by
  cases ho : o.op <;> rw [ho] at hq hw <;> simp only [wop, reduceCtorEq] at hq
  case store t p x' =>
    split at hq
    · cases hq
    · rename_i pv hp
      split at hq
      · cases hq
      · rename_i c hx
        split at hq
        · cases hq
        · rename_i b ks hks
          by_cases hcc : (Nat.beq ks.length c.cells.length && c.cells.all CV.isC) = true
          · rw [hcc, cond_true] at hq
            simp only [Bool.and_eq_true] at hcc
            have hlen := Nat.eq_of_beq_eq_true hcc.1
            split at hq
            · rename_i y q
              split at hq
              · rename_i t' cs hg
                by_cases hle : Nat.ble (q + c.cells.length) cs.length = true
                · rw [hle, cond_true] at hq
                  exact ⟨_, _, hq, fun _ => store_box h ho hp hx hks hlen hcc.2 hg (Nat.le_of_ble_eq_true hle)⟩
                · rw [Bool.eq_false_iff.2 hle] at hq; cases hq
              · cases hq
            · rename_i y i j
              split at hq
              · rename_i ap k l hg
                split at hq
                · cases hq
                · rename_i e he
                  by_cases hle : (c.cells.all nl0 && Nat.ble (j + c.cells.length) k.size) = true
                  · rw [hle, cond_true] at hq
                    simp only [Bool.and_eq_true] at hle
                    split at hq
                    · rename_i e' he'
                      exact ⟨_, _, hq, fun _ => store_row h ho hp hx hks hlen hcc.2 hg he hle.1 (Nat.le_of_ble_eq_true hle.2) he'⟩
                    · cases hq
                  · rw [Bool.eq_false_iff.2 hle] at hq; cases hq
              · cases hq
            · cases hq
          · rw [Bool.eq_false_iff.2 hcc] at hq; cases hq
  case buildSlice t n parts =>
    split at hq
    · cases hq
    · rename_i k hk
      by_cases hc : (Nat.beq parts.size n && !Nat.beq n 0 && Nat.beq E.low 0 && Nat.ble n 1000) = true
      · rw [hc, cond_true] at hq
        simp only [Bool.and_eq_true, Bool.not_eq_true'] at hc
        split at hq
        · rename_i l hl
          refine ⟨_, _, hq, fun hx => bslice_sound h ho (hB2.resolve_right fun hlow => ?_) (kindOf_ty hk) (Nat.eq_of_beq_eq_true hc.1.1.1) (fun e => ?_) (Nat.le_of_ble_eq_true hc.2) hl (hx.resolve_left ?_)⟩
          · have := Nat.eq_of_beq_eq_true hc.1.2
            omega
          · rw [e] at hc; simp at hc
          · simp only [isW] at hw
            simp only [isApp, hw]
            simp
        · cases hq
      · rw [Bool.eq_false_iff.2 hc] at hq; cases hq
  case slice t s lo hi mx =>
    cases lo with
    | some lo => cases hq
    | none =>
      cases hi with
      | none => cases hq
      | some hi =>
        cases mx with
        | none => cases hq
        | some mx =>
          simp only at hq
          split at hq
          · rename_i y hs
            split at hq
            · rename_i ap k l hg
              split at hq
              · rename_i i1 b hb
                split at hq
                · rename_i i2 m hm
                  by_cases hc : (Nat.beq k.ty t && decide (b = (l.length : Int)) && decide (m = (l.length : Int))) = true
                  · rw [hc, cond_true] at hq
                    simp only [Bool.and_eq_true, decide_eq_true_eq] at hc
                    exact ⟨_, _, hq, fun hx => clip_sound h ho hs hg hb hm (ty_eq hc.1.1) hc.1.2 hc.2 (hx.resolve_left (by simp [isApp]))⟩
                  · rw [Bool.eq_false_iff.2 hc] at hq; cases hq
                · cases hq
              · cases hq
            · cases hq
          · cases hq
  case call c =>
    split at hq
    · rename_i hc
      split at hq
      · rename_i y z hs
        split at hq
        · rename_i t t' ht
          split at hq
          · rename_i k l hg
            by_cases hb : (Nat.beq t k.ty && Nat.beq t' k.ty) = true
            · rw [hb, cond_true] at hq
              simp only [Bool.and_eq_true] at hb
              obtain rfl := Nat.eq_of_beq_eq_true hb.1
              obtain rfl := Nat.eq_of_beq_eq_true hb.2
              by_cases hx : look st.H x = none
              · obtain ⟨l', hK, hwr⟩ := append_sound h ho hc hs ht hg hx hq
                by_cases hle : Nat.ble (l.length + l'.length) 4294967296 = true
                · rw [hle, cond_true] at hK
                  exact ⟨_, _, hK, fun _ => hwr (Nat.le_of_ble_eq_true hle)⟩
                · rw [Bool.eq_false_iff.2 hle] at hK; cases hK
              · obtain ⟨h1, h2⟩ := evs_sound h hs
                obtain ⟨u, v, e, hu, hv⟩ := list2 h1
                obtain ⟨l', hK, -⟩ := source_R h hq hv
                by_cases hle : Nat.ble (l.length + l'.length) 4294967296 = true
                · rw [hle, cond_true] at hK
                  exact ⟨_, _, hK, fun hh => absurd (hh.resolve_left (by simp [isApp, hc])) hx⟩
                · rw [Bool.eq_false_iff.2 hle] at hK; cases hK
            · rw [Bool.eq_false_iff.2 hb] at hq; cases hq
          · cases hq
        · cases hq
      · cases hq
    · rename_i hc
      split at hq
      · rename_i d z hs
        split at hq
        · rename_i t ts ht
          split at hq
          · rename_i y
            split at hq
            · rename_i ap k l hg
              by_cases hb : (Nat.beq k.size 1 && Nat.beq t k.ty) = true
              · rw [hb] at hq
                simp only [Bool.not_true, cond_false] at hq
                simp only [Bool.and_eq_true] at hb
                obtain rfl := Nat.eq_of_beq_eq_true hb.2
                obtain ⟨l', hK, hwr⟩ := copy_sound h ho hc hs (off := 0) (len := l.length) (Nat.eq_of_beq_eq_true hb.1) ht hg (.inl ⟨rfl, rfl, rfl⟩) hq
                refine ⟨_, _, hK, fun _ => ?_⟩
                simpa using hwr
              · rw [Bool.eq_false_iff.2 hb] at hq; cases hq
            · cases hq
          · rename_i y off len
            split at hq
            · rename_i ap k l hg
              by_cases hb : (Nat.beq k.size 1 && Nat.beq t k.ty) = true
              · rw [hb] at hq
                simp only [Bool.not_true, cond_false] at hq
                simp only [Bool.and_eq_true] at hb
                obtain rfl := Nat.eq_of_beq_eq_true hb.2
                by_cases hle : off + len ≤ l.length
                · obtain ⟨l', hK, hwr⟩ := copy_sound h ho hc hs (off := off) (len := len) (Nat.eq_of_beq_eq_true hb.1) ht hg (.inr ⟨rfl, hle⟩) hq
                  simp only [hle, decide_true, cond_true] at hK
                  exact ⟨_, _, hK, fun _ => hwr⟩
                · simp only [hle, decide_false, cond_false] at hq
                  exfalso
                  unfold source at hq
                  split at hq
                  · split at hq <;> cases hq
                  · cases hq
              · rw [Bool.eq_false_iff.2 hb] at hq; cases hq
            · cases hq
          · cases hq
        · cases hq
      · cases hq
    · rename_i f hc
      split at hq
      · cases hq
      · rename_i us hs
        by_cases hwr : E.wrs.contains f = true
        · rw [hwr, cond_true] at hq
          split at hq
          · rename_i y us
            split at hq
            · rename_i l hg
              split at hq
              · cases hq
              · rename_i vs hb
                split at hq
                · cases hq
                · rename_i ys hn
                  by_cases hy : ys.contains y = true
                  · rw [hy] at hq; cases hq
                  · rw [Bool.eq_false_iff.2 hy, cond_false] at hq
                    split at hq
                    · rename_i g l' hf
                      cases g <;> simp only [Bool.true_and, Bool.false_and, cond_false] at hq
                      · cases hq
                      by_cases hl : l'.length = l.length
                      · simp only [hl, decide_true, cond_true] at hq
                        exact ⟨_, _, hq, fun _ => mcall_sound h hmem ho hc hs hg hb hn (fun hm => hy (by simpa using hm)) hf hl⟩
                      · simp [hl] at hq
                    · cases hq
            · cases hq
          · cases hq
        · rw [Bool.eq_false_iff.2 hwr, cond_false] at hq
          split at hq
          · cases hq
          · rename_i vs hb
            split at hq
            · cases hq
            · rename_i ys hn
              split at hq
              · rename_i g r' hf
                cases g <;> simp only [cond_true, cond_false] at hq
                · cases hq
                refine ⟨_, _, hq, fun _ => kcall_sound h hsem ho hc (hB.resolve_right fun e => ?_) hs hb hn hf⟩
                simp only [isW, hc, e, Bool.eq_false_iff.2 hwr] at hw
                simp at hw
              · cases hq
    · cases hq
end Go.Proofs.Ytnfgfdeidkhdkaa.Eng
