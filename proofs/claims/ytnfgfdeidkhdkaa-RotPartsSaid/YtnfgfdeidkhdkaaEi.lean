/- The engine's soundness, seventh part: what a called function is held to; every operation that changes no block of ours. -/
import Derived.Test.YtnfgfdeidkhdkaaEh
namespace Go.Proofs.Ytnfgfdeidkhdkaa.Eng
open Go.RowKit (Below)
set_option linter.unusedVariables false
set_option linter.unusedSimpArgs false

/-- names of what is handed back: 'x', and so on -/
def ownCx (w : World) (x : Nat) (ls : List (Option Lc)) : Cx :=
  ⟨w, fun _ => False, fun y => x ≤ y ∧ y < x + ls.length, fun y => if x ≤ y ∧ y < x + ls.length then (ls[y - x]?).join else none⟩
/-- what is handed back; 'true': in memory that is new and nobody else's -/
def Res (own : Bool) (base : Nat) (w : World) (R : Nat → Prop) (r : CV) (v : Value) : Prop :=
  match own with
  | false => nl2 r = true ∧ valR (byV w R) r v
  | true => ∀ x, ∃ ls : List (Option Lc), ls.length = (own2 x r).2.length ∧ valR (ownCx w x ls) (own2 x r).1 v ∧ (∀ y, y ∈ n2 (own2 x r).1 → x ≤ y ∧ y < x + ls.length) ∧
      (∀ (i : Nat) b, (own2 x r).2[i]? = some b → blkR (ownCx w x ls) (x + i) b ∧ nB b = []) ∧
      (∀ (i : Nat) L, ls[i]? = some (some L) → base ≤ L.g ∧ L.g < w.heap.size) ∧
      (∀ (i j : Nat) L M, i ≠ j → ls[i]? = some (some L) → ls[j]? = some (some M) → L.g ≠ M.g)
/-- what a function answers, whatever memory it is called in -/
def CallsC (f : Nat) (args : List CV) (own : Bool) (r : CV) : Prop :=
  ∀ (w : World) (R : Nat → Prop) (vs : Array Value), (∀ b, R b → b < w.heap.size) → All2 (valR (byV w R)) args vs.toList →
    Calls P f vs w fun e w' => ∃ v, e = .returned v ∧ Below w.heap.size w w' ∧
      ∃ R' : Nat → Prop, (∀ b, R b → R' b) ∧ (∀ b, R' b → R b ∨ w.heap.size ≤ b) ∧ (∀ b, R' b → b < w'.heap.size) ∧ Res own w.heap.size w' R' r v
/-- it is a function with a body -/
noncomputable def callable (f : Nat) : Bool :=
  match P.funcs[f]? with
  | some fn => !(fn.name == "runtime.NumGoroutine") && fn.body.isSome
  | none => false
def SemOk (sem : Sems) : Prop := ∀ f args own r, sem f args = some (own, true, r) → CallsC f args own r ∧ callable f = true

theorem wp_value {o : Oper} {a : Act} {w w' : World} {v : Value} {K : Act → World → Prop} {Q : Exit → Act → World → Prop} (h : (execOp a.eval o).run P w = .ok (.value v) w') (hk : K (a.put o.dst v) w') : o.wp P a w K Q := by
  unfold Oper.wp
  rw [h]
  exact hk
theorem wp_enter {o : Oper} {a : Act} {w w' : World} {f : Nat} {vs : Array Value} {K : Act → World → Prop} {Q : Exit → Act → World → Prop} (h : (execOp a.eval o).run P w = .ok (.enter f vs) w')
    (hk : Calls P f vs w' fun e w'' => ∃ v, e = .returned v ∧ K (a.put o.dst v) w'') : o.wp P a w K Q := by
  unfold Oper.wp
  rw [h]
  exact hk.mono fun e w'' ⟨v, he, hk⟩ => by subst he; exact hk

theorem callFunc_run {f : Nat} (h : callable f = true) (vs : Array Value) (w : World) : (callFunc f vs).run P w = .ok (.enter f vs) w := by
  unfold callable at h
  split at h
  · rename_i fn hfn
    simp only [Bool.and_eq_true, Bool.not_eq_true'] at h
    have h1 : fn.body.isNone = false := by cases hb : fn.body with
      | none => rw [hb] at h; simp at h
      | some _ => rfl
    have h2 : fn.name ≠ "runtime.NumGoroutine" := by simpa using h.1
    have h3 : fn.body ≠ none := by intro e; rw [e] at h1; simp at h1
    simp [callFunc, hfn, h2, h3]
  · cases h
theorem call_func_run {a : Act} {o : Oper} {c : Call} {f : Nat} (ho : o.op = .call c) (hc : c.callee = .value (.func f)) (h : callable f = true) (w : World) :
    (execOp a.eval o).run P w = .ok (.enter f (c.args.map a.eval)) w := by
  unfold execOp
  simp only [ho, resolve, hc, Deferred.ofValue, Act.eval]
  simp [invoke, callFunc_run h]
theorem call_fn_run {a : Act} {o : Oper} {c : Call} {g : Operand} {f : Nat} {us : Array Value} (ho : o.op = .call c) (hc : c.callee = .value g) (hg : a.eval g = .func (.func f) #[] us) (h : callable f = true) (w : World) :
    (execOp a.eval o).run P w = .ok (.enter f (c.args.map a.eval ++ us)) w := by
  unfold execOp
  simp only [ho, resolve, hc, hg, Deferred.ofValue]
  simp [invoke, callFunc_run h]

theorem RN_lt {B : Base} {nt : Nat} {C : Cx} {st : St} {a : Act} (h : SimL B nt C st a) {N : Nat → Prop} : ∀ b, RN C N b → b < C.w.heap.size := by
  rintro b (hb | ⟨x, L, -, hl, hL, rfl⟩)
  · exact h.rlt b hb
  · obtain ⟨bk, hbk⟩ := (h.lv x).1 hl
    exact ((h.bl x bk hbk).2 L hL).2.2

theorem args_sound {B : Base} {nt : Nat} {C : Cx} {st : St} {a : Act} (h : SimL B nt C st a) {N : Nat → Prop} {cs ds : List CV} {vs : List Value} (hb : bvs (bv2 st.H) cs = some ds) (hv : All2 (valR C) cs vs)
    (hN : ∀ c, c ∈ cs → ∀ y, y ∈ n2 c → N y) (hN2 : ∀ y z b, N y → look st.H y = some (some b) → z ∈ nB b → N z) : All2 (valR (byV C.w (RN C N))) ds vs :=
  bvs_all hb hv fun c hc d v hd hr => bv2_sound h hd hr (hN c hc) hN2

theorem nl0_n0 {c : CV} (h : nl0 c = true) : n0 c = [] := by cases c <;> first | rfl | (simp [nl0] at h)
theorem nl1_n1 {c : CV} (h : nl1 c = true) : n1 c = [] := by
  cases c <;> first
    | rfl
    | (simp [nl1, nl0] at h; done)
    | (simp only [nl1, List.all_eq_true] at h
       simp only [n1, List.flatMap_eq_nil_iff]
       exact fun c hc => nl0_n0 (h c hc))
theorem nl2_n2 {c : CV} (h : nl2 c = true) : n2 c = [] := by
  cases c <;> first
    | rfl
    | (simp [nl2, nl1, nl0] at h; done)
    | (simp only [nl2, List.all_eq_true] at h
       simp only [n2, List.flatMap_eq_nil_iff]
       exact fun c hc => nl1_n1 (h c hc))
    | (simp only [nl2] at h; simp only [n2]; exact nl1_n1 h)
/-- handed back as new memory -/
theorem QOut.own {B : Base} {nt : Nat} {C : Cx} {st : St} {a : Act} (h : SimL B nt C st a) {w' : World} {x : Nat} {r : CV} {v : Value} {R' : Nat → Prop} (hx : ∀ y, x ≤ y ∧ y < x + (own2 x r).2.length → look st.H y = none)
    (hb : Below C.w.heap.size C.w w') (hr : Res true C.w.heap.size w' R' r v) : ∃ D : Cx, D.w = w' ∧ QOut C st D x (own2 x r).1 (own2 x r).2 v := by
  obtain ⟨ls, e1, e2, e3, e4, e5, e6⟩ := hr x
  have tr : Tr (ownCx w' x ls) ⟨w', C.R, fun y => C.lv y ∨ (x ≤ y ∧ y < x + ls.length), fun y => if x ≤ y ∧ y < x + ls.length then (ls[y - x]?).join else C.loc y⟩ (fun y => x ≤ y ∧ y < x + ls.length) :=
    ⟨fun b hb => hb.elim, fun b hb => hb.elim, fun y hy hl => ⟨hy, by simp [ownCx, hy]⟩⟩
  refine ⟨⟨w', C.R, fun y => C.lv y ∨ (x ≤ y ∧ y < x + ls.length), fun y => if x ≤ y ∧ y < x + ls.length then (ls[y - x]?).join else C.loc y⟩, rfl, ?_⟩
  have hloc : ∀ i, i < ls.length → ((if x ≤ x + i ∧ x + i < x + ls.length then (ls[x + i - x]?).join else C.loc (x + i)) = (ls[i]?).join) := fun i hi => by
    rw [if_pos ⟨by omega, by omega⟩, Nat.add_sub_cancel_left]
  constructor
  · exact hb.os
  · exact hb.tape
  · exact hb.output
  · exact hb.size
  · exact fun b hlt => hb.block b hlt
  · exact fun b h => h
  · exact fun b hR => Nat.lt_of_lt_of_le (h.rlt b hR) hb.size
  · exact fun b hR => .inl hR
  · exact fun y => by rw [e1]
  · exact fun y hy => by simp only; rw [if_neg (by rw [e1]; exact hy)]
  · exact valR_tr tr e3 e2
  · exact fun y hy => .inr (by rw [← e1]; exact e3 y hy)
  · intro i b hib
    have hi : i < ls.length := by rw [e1]; exact (List.getElem?_eq_some_iff.1 hib).1
    obtain ⟨a1, a2⟩ := e4 i b hib
    refine ⟨blkR_tr tr (by simp [ownCx, hi]) (fun _ _ => rfl) (by rw [a2]; simp) a1, fun L hL => ?_, by rw [a2]; simp⟩
    simp only [hloc i hi] at hL
    have : ls[i]? = some (some L) := by
      rw [List.getElem?_eq_getElem hi] at hL ⊢
      simpa using hL
    obtain ⟨b1, b2⟩ := e5 i L this
    exact ⟨b1, fun hR => by have := h.rlt _ hR; omega, b2⟩
  · intro i j L M hi hj hne hL hM
    rw [← e1] at hi hj
    simp only [hloc i hi] at hL
    simp only [hloc j hj] at hM
    refine e6 i j L M hne ?_ ?_
    · rw [List.getElem?_eq_getElem hi] at hL ⊢; simpa using hL
    · rw [List.getElem?_eq_getElem hj] at hM ⊢; simpa using hM
/-- handed back by value -/
theorem QOut.byval {B : Base} {nt : Nat} {C : Cx} {st : St} {a : Act} (h : SimL B nt C st a) {w' : World} {x : Nat} {r : CV} {v : Value} {R' : Nat → Prop}
    (hb : Below C.w.heap.size C.w w') (h1 : ∀ b, C.R b → R' b) (h2 : ∀ b, R' b → C.R b ∨ C.w.heap.size ≤ b) (h3 : ∀ b, R' b → b < w'.heap.size) (hr : Res false C.w.heap.size w' R' r v) :
    ∃ D : Cx, D.w = w' ∧ QOut C st D x r [] v := by
  obtain ⟨hn, hv⟩ := hr
  have hn2 : n2 r = [] := nl2_n2 hn
  refine ⟨⟨w', R', C.lv, C.loc⟩, rfl, hb.os, hb.tape, hb.output, hb.size, fun b hlt => hb.block b hlt, h1, h3, h2, fun y => by simp; omega, fun _ _ => rfl, ?_, by rw [hn2]; simp, fun i b hib => by simp at hib, fun i j L M hi => by simp at hi⟩
  exact valR_tr (C := byV w' R') (D := ⟨w', R', C.lv, C.loc⟩) (N := fun _ => False) ⟨fun b _ => rfl, fun b h => h, fun y hy => hy.elim⟩ (by rw [hn2]; simp) hv
theorem vals_of {w : World} {A : Option Addr} {Q : Addr → Prop} {rel : CV → Value → Prop} {cs : List CV} (h : ∀ (i : Nat) u, cs[i]? = some u → ∃ a x, A = some a ∧ Q a ∧ w.cell? (a.add i) = some x ∧ rel u x) :
    ∃ news : List Value, news.length = cs.length ∧ (∀ (j : Nat) u, news[j]? = some u → ∀ a, A = some a → w.cell? (a.add j) = some u) ∧ All2 rel cs news := by
  cases A with
  | none =>
    refine ⟨[], ?_, by simp, ?_⟩ <;> cases cs with
    | nil => first | rfl | trivial
    | cons c cs => obtain ⟨a, x, ha, -⟩ := h 0 c (by simp); cases ha
  | some a =>
    refine ⟨(List.range cs.length).map fun i => (w.cell? (a.add i)).getD undef, by simp, fun j u hu a' ha => ?_, All2.of (by simp) fun i c u hc hu => ?_⟩
    · cases ha
      simp only [List.getElem?_map, Option.map_eq_some_iff] at hu
      obtain ⟨i, hi, rfl⟩ := hu
      obtain ⟨hi1, hi2⟩ := List.getElem?_eq_some_iff.1 hi
      simp at hi1 hi2
      subst hi2
      obtain ⟨a', x, ha, -, hx, -⟩ := h _ _ (List.getElem?_eq_getElem hi1)
      cases ha
      simp [hx]
    · obtain ⟨a', x, ha, -, hx, hr⟩ := h i c hc
      cases ha
      have hi : i < cs.length := (List.getElem?_eq_some_iff.1 hc).1
      simp [hi, hx] at hu
      subst hu
      exact hr
theorem All2.one {cs : List CV} {vs : List Value} {w : World} {R : Nat → Prop} {n : Nat} (h : All2 (lev w R n) cs vs) : ∀ u, u ∈ vs → u.oneCell' = true := by
  intro u hu
  obtain ⟨i, hi⟩ := List.mem_iff_getElem?.1 hu
  obtain ⟨c, hc, hr⟩ := h.get' hi
  exact lev_one hr
/-- elements that come out of a row: their own parts lie where nothing turns -/
theorem source_R {B : Base} {nt : Nat} {C : Cx} {st : St} {a : Act} (h : SimL B nt C st a) {k : SK} {y : CV} {v : Value} {R : Type} {K : List k.T → Option R} {r : R} (hk : source st.H k y K = some r) (hv : valR C y v) :
    ∃ l, K l = some r ∧ ∃ A c, v = .slice A l.length c ∧ ∃ news : List Value, news.length = l.length * k.size ∧ (∀ (j : Nat) u, news[j]? = some u → ∃ ad, A = some ad ∧ C.w.cell? (ad.add j) = some u) ∧
      All2 (bvR C.w C.R) (l.flatMap k.cells) news := by
  unfold source at hk
  split at hk
  · rename_i k' l hb
    split at hk
    · rename_i e
      subst e
      have hc : cellR C y v := by
        cases y <;> first | exact hv | (simp [bv0] at hb)
      have hcc : ∃ A c, v = .slice A l.length c ∧ ∀ (i : Nat) u, (l.flatMap k'.cells)[i]? = some u → ∃ a x, A = some a ∧ True ∧ C.w.cell? (a.add i) = some x ∧ bvR C.w C.R u x := by
        obtain ⟨A, c, hv', -, h2⟩ := bv0_sound h (N := fun _ => True) hb hc (fun _ _ => trivial)
        refine ⟨A, c, hv', fun i u hu => ?_⟩
        obtain ⟨a, x, hA, -, hx, -⟩ := h2 i u hu
        refine ⟨a, x, hA, trivial, hx, ?_⟩
        unfold bv0 at hb
        split at hb
        · cases hb; simp at hu
        · cases hb
          obtain ⟨A', c', hv2, -, h3⟩ := hc
          rw [hv'] at hv2
          cases hv2
          obtain ⟨a', x', hA', -, hx', hr⟩ := h3 i u hu
          rw [hA] at hA'; cases hA'
          rw [hx] at hx'; cases hx'
          exact lev_lift hr
        · rename_i z
          split at hb
          · rename_i ap k2 l2 hg
            cases hb
            have hlk := get_some.1 hg
            have hl : C.lv z := (h.lv z).2 ⟨_, hlk⟩
            have hv3 := hc.2 hl
            have hbl := (h.bl z _ hlk).1
            cases hL : C.loc z with
            | none => simp only [blkR, hL] at hbl; subst hbl; simp at hu
            | some L =>
              rw [hL] at hv3
              simp only [blkR, hL] at hbl
              obtain ⟨b1, b2, b3, b4, cur, b5, b6, b7⟩ := hbl
              rw [hv'] at hv3
              simp only [Value.slice.injEq] at hv3
              obtain ⟨hA3, -, -⟩ := hv3
              rw [hA] at hA3
              cases hA3
              obtain ⟨y', hy', hr⟩ := b7 i u hu
              rw [addr_add, cell_at b5 hy'] at hx
              cases hx
              exact hr
          · cases hb
        · rename_i z off len
          split at hb
          · rename_i ap k2 l2 hg
            cases hb
            have hlk := get_some.1 hg
            have hl : C.lv z := (h.lv z).2 ⟨_, hlk⟩
            have hv3 := hc.2 hl
            have hbl := (h.bl z _ hlk).1
            cases hL : C.loc z with
            | none => simp only [blkR, hL] at hbl; subst hbl; simp at hu
            | some L =>
              rw [hL] at hv3
              simp only [blkR, hL] at hbl
              obtain ⟨b1, b2, b3, b4, cur, b5, b6, b7⟩ := hbl
              obtain ⟨hle, A', c', hv4, -, hA4⟩ := hv3
              rw [hv'] at hv4
              simp only [Value.slice.injEq] at hv4
              obtain ⟨hA5, -, -⟩ := hv4
              rw [← hA5] at hA4
              rw [take_flat (SK.cells_len k'), drop_flat (SK.cells_len k'), List.getElem?_take] at hu
              split at hu
              · rename_i hi
                rw [List.getElem?_drop] at hu
                have hpos : 0 < len := by
                  rcases Nat.eq_zero_or_pos len with e | e
                  · rw [e] at hi; simp at hi
                  · exact e
                have := hA4 hpos
                rw [hA] at this
                cases this
                obtain ⟨y', hy', hr⟩ := b7 _ u hu
                rw [addr_add, b2] at hx
                rw [cell_at b5 (by rw [Nat.add_assoc]; exact hy')] at hx
                cases hx
                exact hr
              · cases hu
          · cases hb
        · cases hb
        · cases hb
        · cases hb
        · cases hb
      obtain ⟨A, c, rfl, hcc⟩ := hcc
      obtain ⟨news, n1, n2, n3⟩ := vals_of (Q := fun _ => True) hcc
      refine ⟨l, hk, A, c, rfl, news, by rw [n1, row_len], fun j u hu => ?_, n3⟩
      obtain ⟨c', hc', -⟩ := n3.get' hu
      obtain ⟨ad, x, hA, -, -, -⟩ := hcc j c' hc'
      exact ⟨ad, hA, n2 j u hu ad hA⟩
    · cases hk
  · cases hk
/-- an append to nothing -/
theorem append_nil_run (k : SK) (ty : TypeId) (A0 A : Option Addr) (n c : Nat) (news : List Value) (w : World) (hl : news.length = n * k.size) (hn : ∀ (j : Nat) u, news[j]? = some u → ∃ ad, A = some ad ∧ w.cell? (ad.add j) = some u)
    (hb : n ≤ 4294967296) :
    (n = 0 ∧ (Builtin.append_ #[k.ty, k.ty] ty #[.slice A0 0 0, .slice A n c]).run P w = .ok (.slice A0 0 0) w) ∨
    ∃ (w' : World) (cur : Array Value) (cap : Nat), (Builtin.append_ #[k.ty, k.ty] ty #[.slice A0 0 0, .slice A n c]).run P w = .ok (.slice (some ⟨w.heap.size, 0, none⟩) n cap) w' ∧
      w'.os = w.os ∧ w'.tape = w.tape ∧ w'.output = w.output ∧ w'.heap = w.heap.push (.cells cur k.el (0, 0)) ∧ n ≤ cap ∧ cap ≤ maxLen ∧ cur.size = cap * k.size ∧ ∀ (j : Nat) u, news[j]? = some u → cur[j]? = some u := by
  obtain ⟨i, z, hi, hs, hby, hz, hzs⟩ := SK.info k
  by_cases h0 : n = 0
  · subst h0
    left
    refine ⟨rfl, ?_⟩
    have hnews : news = [] := List.eq_nil_of_length_eq_zero (by simpa using hl)
    have hfc : (Builtin.firstCells k.size 0 (.slice A 0 c)).run P w = .ok #[] w := by
      cases A <;> simp [Builtin.firstCells, loadCells, loadCellsFrom]
    cases A0 <;> simp [Builtin.append_, run_underlying (SK.under k), sizeOf, typeInfo, hi, hs, Builtin.lenOf, hfc, storeCells]
  · right
    have hA : ∃ ad, A = some ad := by
      have : 0 < news.length := by rw [hl]; exact Nat.mul_pos (by omega) k.size_pos
      obtain ⟨ad, hA, -⟩ := hn 0 _ (List.getElem?_eq_getElem this)
      exact ⟨ad, hA⟩
    obtain ⟨ad, rfl⟩ := hA
    have hn' : ∀ (j : Nat) u, news[j]? = some u → w.cell? (ad.add j) = some u := fun j u hu => by
      obtain ⟨ad', e, hx⟩ := hn j u hu
      cases e; exact hx
    have hge := grownCap_ge w n 0 k.el
    have hcm := grownCap_le_maxLen w n 0 k.el (by unfold maxLen; omega)
    have hcells : ∀ (j : Nat) u, news[j]? = some u → (news.toArray ++ Builtin.zeroCells z.cells (grownCap w n 0 k.el - n))[j]? = some u := fun j u hu => by
      rw [Array.getElem?_append_left (by simpa using (List.getElem?_eq_some_iff.1 hu).1)]
      simpa using hu
    have hsz : (news.toArray ++ Builtin.zeroCells z.cells (grownCap w n 0 k.el - n)).size = grownCap w n 0 k.el * k.size := by
      simp only [Array.size_append, List.size_toArray, hl, size_zeroCells, hzs, ← Nat.add_mul]
      rw [Nat.add_sub_cancel' hge]
    cases A0 with
    | none =>
      have hr := run_append_nil (P := P) w k.ty ty k.el i z (SK.under k) hi hz ad n c news (by rw [hs]; exact hl) hn' (by omega) (by omega) (Nat.le_trans (Nat.mul_le_mul hb hby) (by decide))
      exact ⟨_, _, _, hr, rfl, rfl, rfl, rfl, hge, hcm, hsz, hcells⟩
    | some b =>
      have hr := run_append_grow (P := P) w k.ty ty k.el i z (SK.under k) hi hz b 0 0 [] (by simp) (by simp) ad n c news (by rw [hs]; exact hl) hn' (by omega) (by omega) (growslice_fits (by omega) (Nat.le_trans (Nat.mul_le_mul (by omega : 0 + n ≤ 4294967296) hby) (by decide)))
      simp only [Nat.zero_add] at hr
      have e : ([] : List Value).toArray ++ news.toArray = news.toArray := by simp
      rw [e] at hr
      exact ⟨_, _, _, hr, rfl, rfl, rfl, rfl, hge, hcm, hsz, hcells⟩

theorem size_of_push {w w' : World} {o : Obj} (h : w'.heap = w.heap.push o) : True := trivial

/-- an element's first value -/
theorem zk {k : SK} {i : TypeInfo} {z : Value} {z' : k.T} (hi : P.info? k.el = some i) (hz : i.zero = some z) (h : k.zero = some z') :
    k.size = 1 ∧ z.cells = #[z] ∧ ∀ C : Cx, bvR C.w C.R ((k.cells z').getD 0 .nptr) z := by
  have h3 := zv_run (t := 3) rfl
  have h4 := zv_run (t := 4) rfl
  cases k <;> simp only [SK.zero] at h <;> try (cases h; done)
  · cases h
    change P.info? 3 = some i at hi
    rw [hi] at h3
    simp only [Option.bind_some, hz, Option.some.injEq] at h3
    subst h3
    exact ⟨rfl, rfl, fun C => rfl⟩
  · cases h
    change P.info? 4 = some i at hi
    rw [hi] at h4
    simp only [Option.bind_some, hz, Option.some.injEq] at h4
    subst h4
    exact ⟨rfl, rfl, fun C => rfl⟩
/-- every operation that changes no block of ours -/
theorem quiet_sound {B : Base} {nt : Nat} {C : Cx} {st : St} {a : Act} (h : SimL B nt C st a) {sem : Sems} (hsem : SemOk sem) (o : Oper) {x : Nat} {R : Type} {K : CV → List Blk → Option R} {r : R}
    (hq : quiet sem o.op o.type x st K = some r) : ∃ c bs, K c bs = some r ∧ ((∀ y, x ≤ y ∧ y < x + bs.length → look st.H y = none) →
      ∀ (Kc : Act → World → Prop) (Q : Exit → Act → World → Prop), (∀ D v, QOut C st D x c bs v → Kc (a.put o.dst v) D.w) → o.wp P a C.w Kc Q) := by
  have same : ∀ {c : CV} {v : Value}, valR C c v → (∀ y, y ∈ n2 c → ∃ b, look st.H y = some b) → QOut C st C x c [] v := fun hv hn => QOut.same h.rlt hv hn
  have pure : pureOp o.op o.type st.T (fun v => K v []) = some r → ∃ c bs, K c bs = some r ∧ ((∀ y, x ≤ y ∧ y < x + bs.length → look st.H y = none) →
      ∀ (Kc : Act → World → Prop) (Q : Exit → Act → World → Prop), (∀ D v, QOut C st D x c bs v → Kc (a.put o.dst v) D.w) → o.wp P a C.w Kc Q) := fun hp => by
    obtain ⟨c, hk, hg⟩ := pure_sound h o hp
    obtain ⟨v, hv, hr⟩ := hg.val
    exact ⟨c, [], hk, fun _ Kc Q hK => wp_value (hv C.w) (hK C v (same hr hg.nm))⟩
  cases ho : o.op <;> rw [ho] at hq pure <;> simp only [quiet] at hq <;> try (exact pure hq)
  case load t ad =>
    split at hq
    · rename_i p hp
      obtain ⟨hv, hn⟩ := ev_sound h hp
      obtain ⟨c, hk, u, hu, hr, hnm⟩ := loadK_sound h hv hn hq
      refine ⟨c, [], hk, fun _ Kc Q hK => wp_value ?_ (hK C u (same hr hnm))⟩
      unfold execOp
      simp only [ho]
      exact run_v _ _ hu
    · cases hq
  case indexAddr t s i =>
    split at hq
    · cases hq
    · rename_i p hp
      split at hq
      · cases hq
      · rename_i q hq'
        obtain ⟨hv, hn⟩ := ev_sound h hp
        obtain ⟨c, hk, u, hu, hr, hnm⟩ := indexK_sound h hv (ev_sound h hq').1 hn hq
        refine ⟨c, [], hk, fun _ Kc Q hK => wp_value ?_ (hK C u (same hr hnm))⟩
        unfold execOp
        simp only [ho]
        exact run_v _ _ (hu C.w)
  case slice t s lo hi mx =>
    split at hq
    · rename_i p hp
      obtain ⟨hv, hn⟩ := ev_sound h hp
      obtain ⟨c, hk, u, hu, hr, hnm⟩ := sliceK_sound h hv hn hq
      refine ⟨c, [], hk, fun _ Kc Q hK => wp_value ?_ (hK C u (same hr hnm))⟩
      unfold execOp
      simp only [ho]
      exact run_v _ _ (hu C.w)
    · cases hq
  case alloc t =>
    split at hq
    · rename_i cs hz
      obtain ⟨b, ks, hks⟩ : ∃ b ks, cks t = some (b, ks) := by
        unfold zeros at hz
        cases hc : cks t with
        | none => rw [hc] at hz; cases hz
        | some q => exact ⟨q.1, q.2, rfl⟩
      refine ⟨_, _, hq, fun hf Kc Q hK => wp_value ?_ (hK _ _ (QOut.box h (hf x ⟨Nat.le_refl _, by simp⟩) (zv_cells hz C) ?_ t))⟩
      · unfold execOp
        simp only [ho]
        exact run_v _ _ (alloc_run hks C.w)
      · intro y hy
        exfalso
        unfold zeros at hz
        rw [hks] at hz
        simp only [Option.some.injEq] at hz
        subst hz
        obtain ⟨c, hc, hy⟩ := List.mem_flatMap.1 hy
        obtain ⟨k, -, rfl⟩ := List.mem_map.1 hc
        cases k <;> simp [CK.zero, n0] at hy
    · cases hq
  case box t v =>
    split at hq
    · cases hq
    · rename_i p hp
      split at hq
      · cases hq
      · rename_i b ks hks
        by_cases hc : (Nat.beq ks.length p.cells.length && p.cells.all CV.isC) = true
        · simp only [hc, cond_true] at hq
          simp only [Bool.and_eq_true] at hc
          obtain ⟨hv, hn⟩ := ev_sound h hp
          refine ⟨_, _, hq, fun hf Kc Q hK => wp_value ?_ (hK _ _ (QOut.box h (hf x ⟨Nat.le_refl _, by simp⟩) (valR_cells hv hc.2) (fun y hy => hn y (n2_cells hc.2 hy)) t))⟩
          unfold execOp
          simp only [ho]
          exact run_v _ _ (box_run t (a.eval v) C.w)
        · simp [Bool.eq_false_iff.2 hc] at hq
  case buildSlice t n parts =>
    split at hq
    · cases hq
    · rename_i k hk
      obtain rfl := kindOf_ty hk
      obtain ⟨i, z, hi, hs, hby, hz, hzs⟩ := SK.info k
      by_cases hp : Nat.beq parts.size n = true
      · simp only [hp, cond_true] at hq
        have hp' := Nat.eq_of_beq_eq_true hp
        by_cases h0 : Nat.beq n 0 = true
        · simp only [h0, cond_true] at hq
          obtain rfl := Nat.eq_of_beq_eq_true h0
          have hpe : parts = #[] := Array.eq_empty_of_size_eq_zero hp'
          subst hpe
          have hrun : (Instr.buildSlice k.ty 0 #[]).run P C.w = .ok (.slice (some ⟨C.w.heap.size, 0, none⟩) 0 0) (C.w.alloc (.cells #[] k.el (0, 0))) := by
            simp [Instr.buildSlice, run_underlying (SK.under k), sizeOf, typeInfo, hi, Instr.fill, newRow, Array.range_zero']
          refine ⟨_, [], hq, fun _ Kc Q hK => wp_value (w' := C.w.alloc (.cells #[] k.el (0, 0))) (v := .slice (some ⟨C.w.heap.size, 0, none⟩) 0 0) ?_ (hK ⟨C.w.alloc (.cells #[] k.el (0, 0)), C.R, C.lv, C.loc⟩ _ ?_)⟩
          · unfold execOp
            simp only [ho, List.map_toArray, List.map_nil]
            exact run_v _ _ hrun
          · have hg : C.w.heap.size ≤ (C.w.alloc (.cells #[] k.el (0, 0))).heap.size := by rw [World.size_alloc]; exact Nat.le_succ _
            constructor
            · rfl
            · rfl
            · rfl
            · exact hg
            · exact fun b hb => alloc_old C.w _ b hb
            · exact fun _ h => h
            · exact fun b hb => Nat.lt_of_lt_of_le (h.rlt b hb) hg
            · exact fun b hb => .inl hb
            · exact fun y => ⟨fun h => .inl h, fun h => h.resolve_right (by rw [List.length_nil]; omega)⟩
            · exact fun _ _ => rfl
            · exact ⟨_, rfl⟩
            · simp [n2, n1, n0]
            · intro i b hb; simp at hb
            · intro i j L M hi; simp at hi
        · simp only [Bool.eq_false_iff.2 h0, cond_false] at hq
          split at hq
          · rename_i l hl
            by_cases hn : Nat.ble n 1000 = true
            · simp only [hn, cond_true] at hq
              have hn' := Nat.le_of_ble_eq_true hn
              have hn0 : n ≠ 0 := fun e => h0 (by rw [e]; rfl)
              have hsz : k.size ≤ 4 := by cases k <;> simp [SK.size]
              have hns : n * k.size ≤ 4000 := Nat.mul_le_mul hn' hsz
              have hnz : n * k.size ≠ 0 := Nat.mul_ne_zero hn0 (by have := k.size_pos; omega)
              obtain ⟨out, h1, h2, h3, h4⟩ := elems_sound h (parts.toList.length) parts.toList 0 l hl (by simp) [] ((Array.range (n * k.size)).map (z.cells[· % z.cells.size]!)) rfl (by simp [hp']) (by simp)
              have h1' : Instr.fill (fun i => some (i * k.size, k.size)) ((Array.range (n * k.size)).map (z.cells[· % z.cells.size]!)) (parts.map fun p => (p.1, a.eval p.2)).toList = some out := by
                rw [Array.toList_map]; exact h1
              have hrun : (Instr.buildSlice k.ty n (parts.map fun p => (p.1, a.eval p.2))).run P C.w = .ok (.slice (some ⟨C.w.heap.size, 0, none⟩) n n) (C.w.alloc (.cells out k.el (0, 0))) := by
                have hbig : ¬ (n * k.size > 2 ^ 24) := by
                  have : (2 : Nat) ^ 24 = 16777216 := by decide
                  omega
                have hzr : (zeroValue k.el).run P C.w = .ok z C.w := by simp only [zeroValue, typeInfo, Sem.run_bind, run_program, Result.andThen_ok, hi, Sem.run_pure, hz]
                unfold Instr.buildSlice
                simp only [Sem.run_bind, run_underlying (SK.under k), Result.andThen_ok, SK.sizeOf k, if_neg hbig, if_neg hnz, hzr, Sem.run_pure, h1', newRow, run_newObj, World.alloc_eq]
              have hlen : l.length = n := by rw [h3, Array.length_toList, hp']
              have q := QOut.row h (x := x) (k := k) (l := l) (ap := true) (w' := C.w.alloc (.cells out k.el (0, 0))) (cur := out) (c := n) rfl rfl rfl rfl (by omega) (by unfold maxLen; omega) (by rw [h2, Array.length_toList, hp']) (by simpa using h4)
              rw [hlen] at q
              refine ⟨_, _, hq, fun _ Kc Q hK => wp_value ?_ (hK _ _ q)⟩
              unfold execOp
              simp only [ho]
              exact run_v _ _ hrun
            · simp [Bool.eq_false_iff.2 hn] at hq
          · cases hq
      · simp [Bool.eq_false_iff.2 hp] at hq
  case makeSlice t n c =>
    split at hq
    · cases hq
    · rename_i k hk
      obtain rfl := kindOf_ty hk
      obtain ⟨i, z, hi, hs, hby, hz, hzs⟩ := SK.info k
      split at hq
      · rename_i ik1 n' hn'
        split at hq
        · rename_i ik2 c' hc'
          split at hq
          · rename_i z' hz'
            by_cases h1 : c' = n'
            · subst h1
              simp only [decide_true, cond_true] at hq
              by_cases h2 : 0 ≤ c'
              · simp only [h2, decide_true, cond_true] at hq
                by_cases h3 : c' ≤ 4294967296
                · simp only [h3, decide_true, cond_true] at hq
                  have e1 := int_inv (ev_sound h hn').1
                  have e2 := int_inv (ev_sound h hc').1
                  obtain ⟨m, rfl⟩ := Int.eq_ofNat_of_zero_le h2
                  have hm : m ≤ 4294967296 := by omega
                  have hbm : (i.bytes : Int) * (m : Int) ≤ 281474976710656 := by
                    have h4 : i.bytes * m ≤ 80 * 4294967296 := Nat.mul_le_mul hby hm
                    have h5 : ((i.bytes * m : Nat) : Int) ≤ ((80 * 4294967296 : Nat) : Int) := Int.ofNat_le.2 h4
                    rw [Int.natCast_mul] at h5
                    exact Int.le_trans h5 (by decide)
                  have hr := run_make (P := P) C.w k.ty k.el i z (SK.under k) hi hz ik1 ik2 (m : Int) (m : Int) (by omega) (Int.le_refl _) hbm (by omega)
                  simp only [Int.toNat_natCast, hs] at hr
                  have hlen : (List.replicate (m : Int).toNat z').length = m := by simp
                  have q := QOut.row h (x := x) (k := k) (l := List.replicate (m : Int).toNat z') (ap := true) (w' := C.w.alloc (.cells (madeCells z.cells (m * k.size)) k.el)) (cur := madeCells z.cells (m * k.size)) (c := m) rfl rfl rfl rfl (by omega) (by unfold maxLen; omega) (by rw [size_madeCells]) (by
                    intro j u hu
                    have hj : j < m * k.size := by
                      have := (List.getElem?_eq_some_iff.1 hu).1
                      rwa [row_len, hlen] at this
                    have hz1 : k.zero = some z' := hz'
                    refine ⟨(madeCells z.cells (m * k.size))[j]'(by rw [size_madeCells]; exact hj), Array.getElem?_eq_getElem _, ?_⟩
                    have hzz := zk hi hz hz1
                    obtain ⟨e1, e2⟩ := hzz
                    have hsz : k.size = 1 := e1
                    have hu' : u = (k.cells z').getD 0 .nptr := by
                      rw [hsz, Nat.mul_one] at hj
                      have := row_get k (l := List.replicate (m : Int).toNat z') (i := j) (j := 0) (e := z') (by simp [hj]) k.size_pos
                      rw [hsz, Nat.mul_one, Nat.add_zero, hu] at this
                      have h0 : 0 < (k.cells z').length := by rw [SK.cells_len]; exact k.size_pos
                      rw [List.getElem?_eq_getElem h0] at this
                      cases this
                      simp [List.getD, List.getElem?_eq_getElem h0]
                    rw [hu']
                    have : (madeCells z.cells (m * k.size))[j]'(by rw [size_madeCells]; exact hj) = z := by
                      simp only [madeCells, Array.getElem_map, Array.getElem_range]
                      have hz0 := e2
                      rw [hz0.1]
                      simp [Nat.mod_one]
                    rw [this]
                    exact e2.2 C)
                  rw [hlen] at q
                  refine ⟨_, _, hq, fun _ Kc Q hK => wp_value ?_ (hK _ _ q)⟩
                  unfold execOp
                  simp only [ho, e1, e2]
                  exact run_v _ _ hr
                · simp [h3] at hq
              · simp [h2] at hq
            · simp [h1] at hq
          · cases hq
        · cases hq
      · cases hq
  case call c =>
    have callok : ∀ {f : Nat} {us vs : List CV} {own : Bool} {r' : CV} {args : List Value} {N : Nat → Prop}, sem f vs = some (own, true, r') → bvs (bv2 st.H) us = some vs → All2 (valR C) us args →
        (∀ c, c ∈ us → ∀ y, y ∈ n2 c → N y) → (∀ y z b, N y → look st.H y = some (some b) → z ∈ nB b → N z) →
        callable f = true ∧ Calls P f args.toArray C.w fun e w' => ∃ v, e = .returned v ∧ Below C.w.heap.size C.w w' ∧
          ∃ R' : Nat → Prop, (∀ b, RN C N b → R' b) ∧ (∀ b, R' b → RN C N b ∨ C.w.heap.size ≤ b) ∧ (∀ b, R' b → b < w'.heap.size) ∧ Res own C.w.heap.size w' R' r' v := by
      intro f us vs own r' args N hs hb ha hN hN2
      obtain ⟨h1, h2⟩ := hsem f vs own r' hs
      exact ⟨h2, h1 C.w (RN C N) args.toArray (RN_lt h) (by simpa using args_sound h hb ha hN hN2)⟩
    cases hc : c.callee with
    | builtin b =>
      rw [hc] at hq
      cases b <;> simp only at hq <;> try (cases hq; done)
      case len =>
        split at hq
        · rename_i s hs
          split at hq
          · rename_i t ht
            split at hq
            · rename_i k hk
              obtain rfl := kindOf_ty hk
              obtain ⟨h1, h2⟩ := evs_sound h hs
              obtain ⟨u, e, hu⟩ := list1 h1
              obtain ⟨d, hk', z, hz, hr, hn⟩ := lenK_sound h (k := k) hu hq o.type
              refine ⟨d, [], hk', fun _ Kc Q hK => wp_value ?_ (hK C z (same hr (by rw [hn]; simp)))⟩
              rw [call_run a o c _ ho hc]
              have e1 : c.argTypes = #[k.ty] := arr_of ht
              have e2 : c.args.map a.eval = #[u] := arr_of (by rw [map_toList]; exact e)
              rw [e1, e2]
              exact run_v _ _ (hz C.w)
            · cases hq
          · cases hq
        · cases hq
      case append =>
        split at hq
        · rename_i k y hs
          split at hq
          · rename_i t t' ht
            by_cases hb : (Nat.beq t k.ty && Nat.beq t' k.ty) = true
            · simp only [hb, cond_true] at hq
              simp only [Bool.and_eq_true] at hb
              obtain rfl := Nat.eq_of_beq_eq_true hb.1
              obtain rfl := Nat.eq_of_beq_eq_true hb.2
              obtain ⟨h1, h2⟩ := evs_sound h hs
              obtain ⟨u, v, e, hu, hv⟩ := list2 h1
              obtain ⟨l, hK, A, cc, rfl, news, hl, hn, hr⟩ := source_R h hq hv
              by_cases hle : Nat.ble l.length 4294967296 = true
              · simp only [hle, cond_true] at hK
                obtain ⟨A0, rfl⟩ := hu
                have e1 : c.argTypes = #[k.ty, k.ty] := arr_of ht
                have e2 : c.args.map a.eval = #[.slice A0 0 0, .slice A l.length cc] := arr_of (by rw [map_toList]; exact e)
                have hrun : ∀ v w', (Builtin.append_ #[k.ty, k.ty] o.type #[.slice A0 0 0, .slice A l.length cc]).run P C.w = .ok v w' → (execOp a.eval o).run P C.w = .ok (.value v) w' := by
                  intro v w' hr
                  rw [call_run a o c _ ho hc, e1, e2]
                  exact run_v _ _ hr
                refine ⟨_, _, hK, fun hf Kc Q hKc => ?_⟩
                rcases append_nil_run k o.type A0 A l.length cc news C.w hl hn (Nat.le_of_ble_eq_true hle) with ⟨h0, hr0⟩ | ⟨w', cur, cap, hr0, a1, a2, a3, a4, a5, a6, a7, a8⟩
                · refine wp_value (hrun _ _ hr0) (hKc (C.add1 C.w x none) _ ?_)
                  have hl0 : l = [] := List.eq_nil_of_length_eq_zero h0
                  subst hl0
                  exact QOut.new (x := x) (b := .arr true k []) (L := none) (w' := C.w) (c := .ref x) h.rlt rfl rfl rfl (Nat.le_refl _) (fun _ _ => rfl) (fun M hM => by cases hM) (by simp [blkR, Cx.add1]) (by simp [nB])
                    ⟨⟨_, _, _, rfl⟩, fun _ => by simp only [Cx.add1, if_true]; exact ⟨_, rfl⟩⟩ (by simp [n2, n1, n0])
                · refine wp_value (hrun _ _ hr0) (hKc _ _ (QOut.row h a1 a2 a3 a4 a5 a6 a7 fun j u hu => ?_))
                  obtain ⟨y', hy', hr'⟩ := hr.get hu
                  exact ⟨y', a8 j y' hy', hr'⟩
              · simp [Bool.eq_false_iff.2 hle] at hK
            · simp [Bool.eq_false_iff.2 hb] at hq
          · cases hq
        · cases hq
      case min => exact pure hq
      case max => exact pure hq
    | invoke r' m => rw [hc] at hq; cases hq
    | value g =>
      rw [hc] at hq
      have fin : ∀ {f : Nat} {us vs : List CV} {r' : CV} {args : List Value}, sem f vs = some (true, true, r') → bvs (bv2 st.H) us = some vs → All2 (valR C) us args → ((execOp a.eval o).run P C.w = .ok (.enter f args.toArray) C.w ∨ callable f = false) →
          K (own2 x r').1 (own2 x r').2 = some r → ∃ c bs, K c bs = some r ∧ ((∀ y, x ≤ y ∧ y < x + bs.length → look st.H y = none) →
            ∀ (Kc : Act → World → Prop) (Q : Exit → Act → World → Prop), (∀ D v, QOut C st D x c bs v → Kc (a.put o.dst v) D.w) → o.wp P a C.w Kc Q) := by
        intro f us vs r' args hs hb ha hrun hK
        obtain ⟨hcl, hcalls⟩ := callok (N := fun _ => True) hs hb ha (fun _ _ _ _ => trivial) (fun _ _ _ _ _ _ => trivial)
        refine ⟨_, _, hK, fun hf Kc Q hKc => wp_enter (hrun.resolve_right (by rw [hcl]; simp)) (hcalls.mono fun e w' ⟨v, he, hbel, R', r1, r2, r3, hres⟩ => ?_)⟩
        obtain ⟨D, hD, q⟩ := QOut.own h hf hbel hres
        subst hD
        exact ⟨v, he, hKc D v q⟩
      cases g with
      | func f =>
        simp only at hq
        split at hq
        · cases hq
        · rename_i us hus
          split at hq
          · cases hq
          · rename_i vs hvs
            obtain ⟨h1, h2⟩ := evs_sound h hus
            split at hq
            · rename_i g r' hs
              cases g <;> simp only [cond_true, cond_false] at hq
              · cases hq
              refine fin hs hvs h1 ?_ hq
              have := (hsem f vs _ _ hs).2
              refine .inl ?_
              rw [call_func_run ho hc this, arr_of (map_toList a.eval c.args)]
            · rename_i g r' hs
              cases g <;> simp only [cond_true, cond_false] at hq
              · cases hq
              by_cases hnl : us.all nl2 = true
              · simp only [hnl, cond_true] at hq
                obtain ⟨hcl, hcalls⟩ := callok (N := fun _ => False) hs hvs h1 (fun c hc y hy => by rw [nl2_n2 (List.all_eq_true.1 hnl c hc)] at hy; simp at hy) (fun _ _ _ h _ _ => h.elim)
                refine ⟨_, [], hq, fun hf Kc Q hKc => wp_enter (w' := C.w) (vs := (c.args.toList.map a.eval).toArray) ?_ (hcalls.mono fun e w' ⟨v, he, hbel, R', r1, r2, r3, hres⟩ => ?_)⟩
                · rw [call_func_run ho hc hcl, arr_of (map_toList a.eval c.args)]
                · obtain ⟨D, hD, q⟩ := QOut.byval h (x := x) hbel (fun b hb => r1 b (.inl hb)) (fun b hb => (r2 b hb).imp (fun hb => by
                    rcases hb with hb | ⟨x, L, hx, -⟩
                    · exact hb
                    · exact hx.elim) id) r3 hres
                  subst hD
                  exact ⟨v, he, hKc D v q⟩
              · simp [Bool.eq_false_iff.2 hnl] at hq
            · cases hq
      | tmp t =>
        simp only at hq
        split at hq
        · rename_i f caps hfn
          split at hq
          · cases hq
          · rename_i us hus
            split at hq
            · cases hq
            · rename_i vs hvs
              obtain ⟨h1, h2⟩ := evs_sound h hus
              obtain ⟨⟨ws, hg, hcaps⟩, -⟩ := ev_sound h hfn
              split at hq
              · rename_i g r' hs
                cases g <;> simp only [cond_true, cond_false] at hq
                · cases hq
                have hcl := (hsem f vs _ _ hs).2
                refine fin hs hvs (All2.append h1 (hcaps.mono fun c _ v hv => aggR_val hv)) (.inl ?_) hq
                rw [call_fn_run ho hc hg hcl, arr_of (show (c.args.map a.eval ++ ws).toList = c.args.toList.map a.eval ++ ws.toList by rw [Array.toList_append, map_toList])]
              · cases hq
        · cases hq
      | const v =>
        simp only at hq
        split at hq
        · rename_i f caps hfn
          exfalso
          simp only [ev] at hfn
          unfold cvOf at hfn
          split at hfn <;> first
            | (cases hfn; done)
            | (split at hfn <;> cases hfn)
        · cases hq
      | global g =>
        simp only [ev] at hq
        cases hq
end Go.Proofs.Ytnfgfdeidkhdkaa.Eng
