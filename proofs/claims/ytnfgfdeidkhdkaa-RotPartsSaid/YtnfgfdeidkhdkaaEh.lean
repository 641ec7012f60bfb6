/- The engine's soundness, sixth part: operations that make blocks; what a call is held to. -/
import Derived.Test.YtnfgfdeidkhdkaaEg
namespace Go.Proofs.Ytnfgfdeidkhdkaa.Eng
open Go.RowKit (Below)
set_option linter.unusedVariables false
set_option linter.unusedSimpArgs false

/-- one new block -/
def Cx.add1 (C : Cx) (w' : World) (x : Nat) (L : Option Lc) : Cx := ⟨w', C.R, fun y => C.lv y ∨ y = x, fun y => if y = x then L else C.loc y⟩
theorem add1_tr {C : Cx} {st : St} {x : Nat} (hx : look st.H x = none) {w' : World} (hw : ∀ b, b < C.w.heap.size → w'.heap[b]? = C.w.heap[b]?) (hr : ∀ b, C.R b → b < C.w.heap.size) (L : Option Lc) :
    Tr C (C.add1 w' x L) (fun y => ∃ o, look st.H y = some o) :=
  ⟨fun b hb => hw b (hr b hb), fun b hb => hb, fun y ⟨o, ho⟩ hl => by
    have hne : y ≠ x := fun e => by subst e; rw [hx] at ho; cases ho
    exact ⟨hl.resolve_right hne, by simp [Cx.add1, hne]⟩⟩
theorem QOut.new {C : Cx} {st : St} (hr : ∀ b, C.R b → b < C.w.heap.size) {x : Nat} {b : Blk} {L : Option Lc} {w' : World} (h1 : w'.os = C.w.os) (h2 : w'.tape = C.w.tape) (h3 : w'.output = C.w.output)
    (h4 : C.w.heap.size ≤ w'.heap.size) (h5 : ∀ b, b < C.w.heap.size → w'.heap[b]? = C.w.heap[b]?) (h6 : ∀ M, L = some M → C.w.heap.size ≤ M.g ∧ M.g < w'.heap.size)
    (h7 : blkR (C.add1 w' x L) x b) (h8 : ∀ y, y ∈ nB b → ∃ o, look st.H y = some o) {c : CV} {v : Value} (h9 : valR (C.add1 w' x L) c v) (h10 : ∀ y, y ∈ n2 c → y = x) :
    QOut C st (C.add1 w' x L) x c [b] v where
  os := h1
  tape := h2
  output := h3
  grow := h4
  heap := h5
  sub := fun _ h => h
  rlt := fun b hb => Nat.lt_of_lt_of_le (hr b hb) h4
  rnew := fun _ h => .inl h
  lv := fun y => by
    simp only [Cx.add1, List.length_singleton]
    constructor
    · rintro (h | rfl)
      · exact .inl h
      · exact .inr ⟨Nat.le_refl _, by omega⟩
    · rintro (h | h)
      · exact .inl h
      · exact .inr (by omega)
  loc := fun y hy => by
    have : y ≠ x := fun e => hy ⟨by omega, by simp; omega⟩
    simp [Cx.add1, this]
  val := h9
  nm := fun y hy => .inr (by rw [h10 y hy]; simp)
  bl := fun i b' hb => by
    cases i with
    | zero =>
      simp at hb; subst hb
      refine ⟨h7, fun M hM => ?_, fun y hy => .inl (h8 y hy)⟩
      simp only [Nat.add_zero, Cx.add1, if_true] at hM
      obtain ⟨a1, a2⟩ := h6 M hM
      exact ⟨a1, fun hR => by have := hr _ hR; omega, a2⟩
    | succ i => simp at hb
  dj := fun i j L M hi hj hne => by simp at hi hj; omega

theorem alloc_old (w : World) (o : Obj) (b : Nat) (hb : b < w.heap.size) : (w.alloc o).heap[b]? = w.heap[b]? := heap_alloc_old w o b hb
theorem alloc_new (w : World) (o : Obj) : (w.alloc o).heap[w.heap.size]? = some o := heap_alloc_new w o

/-- a variable -/
theorem QOut.box {B : Base} {nt : Nat} {C : Cx} {st : St} {a : Act} (h : SimL B nt C st a) {x t : Nat} (hx : look st.H x = none) {cs : List CV} {vs : Array Value} (hr : All2 (cellR C) cs vs.toList)
    (hn : ∀ y, y ∈ cs.flatMap n0 → ∃ o, look st.H y = some o) (t' : TypeId) :
    QOut C st (C.add1 (C.w.alloc (.cells vs t' (0, 0))) x (some ⟨C.w.heap.size, 0, 0, 0, 0⟩)) x (.ptr x 0) [.cells t cs] (.pointer (some ⟨C.w.heap.size, 0, none⟩)) := by
  have tr := add1_tr (C := C) hx (w' := C.w.alloc (.cells vs t' (0, 0))) (fun b hb => alloc_old C.w _ b hb) h.rlt (some ⟨C.w.heap.size, 0, 0, 0, 0⟩)
  refine QOut.new (x := x) (b := .cells t cs) (L := some ⟨C.w.heap.size, 0, 0, 0, 0⟩) (w' := C.w.alloc (.cells vs t' (0, 0))) (c := .ptr x 0) h.rlt rfl rfl rfl (by simp) (fun b hb => alloc_old C.w _ b hb) (fun M hM => by cases hM; simp) ?_ hn ⟨⟨_, rfl⟩, fun _ => ⟨_, by simp [Cx.add1]; rfl, rfl⟩⟩ (by simp [n2, n1, n0])
  refine ⟨_, by simp [Cx.add1]; rfl, vs, t', alloc_new C.w _, fun i u hu => ?_⟩
  obtain ⟨y, hy, hc⟩ := hr.get hu
  exact ⟨y, by simpa using hy, cellR_tr tr (fun z hz => hn z (List.mem_flatMap.2 ⟨u, List.mem_of_getElem? hu, hz⟩)) hc⟩

/-- a row -/
theorem QOut.row {B : Base} {nt : Nat} {C : Cx} {st : St} {a : Act} (h : SimL B nt C st a) {x : Nat} {k : SK} {l : List k.T} {ap : Bool} {w' : World} {cur : Array Value} {c : Nat}
    (h1 : w'.os = C.w.os) (h2 : w'.tape = C.w.tape) (h3 : w'.output = C.w.output) (h4 : w'.heap = C.w.heap.push (.cells cur k.el (0, 0)))
    (hc : l.length ≤ c) (hm : c ≤ maxLen) (hs : cur.size = c * k.size) (hr : ∀ (i : Nat) (u : CV), (l.flatMap k.cells)[i]? = some u → ∃ y, cur[i]? = some y ∧ bvR C.w C.R u y) :
    QOut C st (C.add1 w' x (some ⟨C.w.heap.size, 0, l.length, c, k.size⟩)) x (.ref x) [.arr ap k l] (.slice (some ⟨C.w.heap.size, 0, none⟩) l.length c) := by
  have e1 : ∀ b, b < C.w.heap.size → w'.heap[b]? = C.w.heap[b]? := fun b hb => by rw [h4, Array.getElem?_push, if_neg (by omega)]
  have e2 : w'.heap[C.w.heap.size]? = some (.cells cur k.el (0, 0)) := by rw [h4]; simp
  refine QOut.new (x := x) (b := .arr ap k l) (L := some ⟨C.w.heap.size, 0, l.length, c, k.size⟩) (w' := w') (c := .ref x) h.rlt h1 h2 h3 (by rw [h4]; simp) e1 (fun M hM => by cases hM; rw [h4]; simp) ?_ (by simp [nB]) ⟨⟨_, _, _, rfl⟩, fun _ => by simp [Cx.add1]⟩ (by simp [n2, n1, n0])
  simp only [blkR, Cx.add1, if_true]
  refine ⟨trivial, trivial, hc, hm, cur, e2, fun _ => ⟨trivial, hs⟩, fun i u hu => ?_⟩
  obtain ⟨y, hy, hb⟩ := hr i u hu
  exact ⟨y, by simpa using hy, bvR_tr (fun b hb => e1 b (h.rlt b hb)) (fun b hb => hb) hb⟩

theorem box_run (t : TypeId) (v : Value) (w : World) : (Instr.box t v).run P w = .ok (.pointer (some ⟨w.heap.size, 0, none⟩)) (w.alloc (.cells v.cells t (0, 0))) := by
  simp [Instr.box, newVar, newRow]
theorem alloc_run {t : Nat} {b : Bool} {ks : List CK} (h : cks t = some (b, ks)) (w : World) : (Instr.alloc t true (.tuple #[])).run P w = .ok (.pointer (some ⟨w.heap.size, 0, none⟩)) (w.alloc (.cells (zv t).cells t (0, 0))) := by
  have hz := zeroValue_run (zv_run h) w
  simp [Instr.alloc, hz, newVar, newRow]

/-! ### a row that is written out -/
theorem elem_rel {w : World} {R : Nat → Prop} {k : SK} {cs : List CV} {e : k.T} (he : k.elem? cs = some e) {vs : List Value} (h : All2 (bvR w R) cs vs) : All2 (bvR w R) (k.cells e) vs := by
  have ints : ∀ {d : CV} {l : List Int} {v : Value}, ints? d = some l → bvR w R d v → bvR w R (.sl .int l) v := by
    intro d l v hd hv
    unfold ints? at hd
    split at hd
    · exact False.elim hv
    · cases hd; exact hv
    · cases hd
  unfold SK.elem? at he
  split at he
  · cases he; exact h
  · cases he; exact h
  · cases he; exact h
  · split at he
    · rename_i b n d l hl
      cases he
      match vs, h with
      | [v1, v2, v3], h => exact ⟨h.1, h.2.1, ints hl h.2.2.1, trivial⟩
    · cases he
  · rename_i n a b c
    split at he
    · cases he
    · rename_i a' ha
      split at he
      · cases he
      · rename_i b' hb
        split at he
        · cases he
        · rename_i c' hc
          cases he
          match vs, h with
          | [v1, v2, v3, v4], h => exact ⟨h.1, ints ha h.2.1, ints hb h.2.2.1, ints hc h.2.2.2.1, trivial⟩
  · cases he; exact h
  · cases he
theorem bv0_nl {B : Base} {nt : Nat} {C : Cx} {st : St} {a : Act} (h : SimL B nt C st a) {c d : CV} {v : Value} (hb : bv0 st.H c = some d) (hv : cellR C c v) (hc : n0 c = []) : bvR C.w C.R d v := by
  have := bv0_sound h (N := fun _ => False) hb hv (by rw [hc]; simp)
  exact bvR_tr (fun _ _ => rfl) (fun b hb => by rcases hb with hb | ⟨x, L, hx, -⟩; exact hb; exact hx.elim) this

theorem fold_get (off : Nat) : ∀ (vs : List Value) (k : Nat) (ds : Array Value), off + k + vs.length ≤ ds.size →
    ((vs.zipIdx k).foldl (fun (d : Array Value) (p : Value × Nat) => d.setIfInBounds (off + p.2) p.1) ds).size = ds.size ∧
    ∀ q : Nat, ((vs.zipIdx k).foldl (fun (d : Array Value) (p : Value × Nat) => d.setIfInBounds (off + p.2) p.1) ds)[q]? = if off + k ≤ q ∧ q < off + k + vs.length then vs[q - (off + k)]? else ds[q]?
  | [], k, ds, h => ⟨rfl, fun q => by simp only [List.zipIdx_nil, List.foldl_nil, List.length_nil, Nat.add_zero]; rw [if_neg (by omega)]⟩
  | v :: vs, k, ds, h => by
    simp only [List.length_cons] at h
    simp only [List.zipIdx_cons, List.foldl_cons]
    obtain ⟨h1, h2⟩ := fold_get off vs (k + 1) (ds.setIfInBounds (off + k) v) (by simp; omega)
    refine ⟨by rw [h1]; simp, fun q => ?_⟩
    rw [h2 q]
    by_cases hq : q = off + k
    · subst hq
      rw [if_neg (by omega), if_pos (by simp)]
      simp [show off + k < ds.size by omega]
    · rw [Array.getElem?_setIfInBounds_ne (Ne.symm hq)]
      by_cases h3 : off + (k + 1) ≤ q ∧ q < off + (k + 1) + vs.length
      · rw [if_pos h3, if_pos (by simp only [List.length_cons]; omega), show q - (off + k) = (q - (off + (k + 1))) + 1 by omega, List.getElem?_cons_succ]
      · rw [if_neg h3, if_neg (by simp only [List.length_cons]; omega)]
theorem elemsF_sound {B : Base} {nt : Nat} {C : Cx} {st : St} {a : Act} (h : SimL B nt C st a) {k : SK} {f : CV → Option CV} {R' : Nat → Prop} (hf : ∀ c d, f c = some d → c.isC = true ∧ ∀ v, cellR C c v → (∀ y, y ∈ n0 c → ∃ o, look st.H y = some o) → bvR C.w R' d v) (n : Nat) : ∀ (ps : List (Nat × Operand)) (i : Nat) (l : List k.T), elemsF f st.T k i ps = some l → i + ps.length = n →
    ∀ (done : List k.T) (cells : Array Value), done.length = i → cells.size = n * k.size → (∀ (j : Nat) (u : CV), (done.flatMap k.cells)[j]? = some u → ∃ y, cells[j]? = some y ∧ bvR C.w R' u y) →
    ∃ out, Instr.fill (fun i => some (i * k.size, k.size)) cells (ps.map fun p => (p.1, a.eval p.2)) = some out ∧ out.size = n * k.size ∧ l.length = ps.length ∧
      ∀ (j : Nat) (u : CV), ((done ++ l).flatMap k.cells)[j]? = some u → ∃ y, out[j]? = some y ∧ bvR C.w R' u y := by
  intro ps
  induction ps with
  | nil =>
    intro i l hl hn done cells hd hs hr
    simp only [elemsF, Option.some.injEq] at hl
    subst hl
    exact ⟨cells, rfl, hs, rfl, by simpa using hr⟩
  | cons p ps ih =>
    obtain ⟨j0, x⟩ := p
    intro i l hl hn done cells hd hs hr
    simp only [elemsF] at hl
    by_cases hij : Nat.beq i j0 = true
    · simp only [hij, cond_true] at hl
      obtain rfl := Nat.eq_of_beq_eq_true hij
      split at hl
      · cases hl
      · rename_i v hv
        split at hl
        · cases hl
        · rename_i cs hcs
          split at hl
          · cases hl
          · rename_i e he
            split at hl
            · cases hl
            · rename_i es hes
              cases hl
              obtain ⟨hval, hnms⟩ := ev_sound h hv
              have hall : v.cells.all CV.isC = true := by
                rw [List.all_eq_true]
                intro c hc
                have : ∀ (us ds : List CV), bvs f us = some ds → ∀ c ∈ us, c.isC = true := by
                  intro us
                  induction us with
                  | nil => intro ds _ c hc; simp at hc
                  | cons u us ih =>
                    intro ds hb c hc
                    simp only [bvs] at hb
                    split at hb
                    · cases hb
                    · rename_i d hd
                      split at hb
                      · cases hb
                      · rename_i ds' hds
                        rcases List.mem_cons.1 hc with rfl | hc
                        · exact (hf _ _ hd).1
                        · exact ih ds' hds c hc
                exact this _ _ hcs c hc
              have hcells := valR_cells hval hall
              have hrel : All2 (bvR C.w R') cs (a.eval x).cells.toList := bvs_all hcs hcells fun c hc d v' hd hr =>
                (hf _ _ hd).2 v' hr fun y hy => hnms y (n2_cells hall (List.mem_flatMap.2 ⟨c, hc, hy⟩))
              have hrel2 := elem_rel he hrel
              have hlen := hrel2.length
              rw [SK.cells_len, Array.length_toList] at hlen
              have hlt : i < n := by simp only [List.length_cons] at hn; omega
              have hfit : i * k.size + k.size ≤ n * k.size := by rw [← Nat.succ_mul]; exact Nat.mul_le_mul_right _ hlt
              have hfg := fold_get (i * k.size) (a.eval x).cells.toList 0 cells (by rw [hs, Array.length_toList, ← hlen]; omega)
              rw [← Array.toList_zipIdx, Array.foldl_toList] at hfg
              obtain ⟨hfs, hfq⟩ := hfg
              rw [hs] at hfs
              have hfold : ∀ (q : Nat) (z : Value), ((a.eval x).cells.zipIdx.foldl (fun (d : Array Value) (p : Value × Nat) => d.setIfInBounds (i * k.size + p.2) p.1) cells)[q]? = some z →
                  (q < i * k.size ∧ cells[q]? = some z) ∨ (i * k.size ≤ q ∧ q < i * k.size + k.size ∧ (a.eval x).cells[q - i * k.size]? = some z) ∨ i * k.size + k.size ≤ q := by
                intro q z hz
                have := hfq q
                rw [hz, Array.length_toList, ← hlen] at this
                simp only [Nat.add_zero, Array.getElem?_toList] at this
                by_cases h1 : i * k.size ≤ q ∧ q < i * k.size + k.size
                · rw [if_pos h1] at this
                  exact .inr (.inl ⟨h1.1, h1.2, this.symm⟩)
                · rw [if_neg h1] at this
                  by_cases h2 : q < i * k.size
                  · exact .inl ⟨h2, this.symm⟩
                  · exact .inr (.inr (by omega))
              obtain ⟨out, h1, h2, h3, h4⟩ := ih (i + 1) es hes (by simp only [List.length_cons] at hn; omega) (done ++ [e]) _ (by simp [hd]) hfs (by
                intro j u hu
                have hq : j < (n * k.size) := by
                  have := (List.getElem?_eq_some_iff.1 hu).1
                  rw [row_len] at this
                  simp only [List.length_append, List.length_singleton, hd] at this
                  rw [Nat.succ_mul] at this
                  omega
                have hget := List.getElem?_eq_some_iff.1 hu
                obtain ⟨z, hz⟩ : ∃ z, ((a.eval x).cells.zipIdx.foldl (fun (d : Array Value) (p : Value × Nat) => d.setIfInBounds (i * k.size + p.2) p.1) cells)[j]? = some z := ⟨_, Array.getElem?_eq_getElem (by rw [hfs]; exact hq)⟩
                refine ⟨z, hz, ?_⟩
                rw [List.flatMap_append, List.getElem?_append] at hu
                rw [row_len, hd] at hu
                have hj : j < i * k.size + k.size := by
                  have := hget.1
                  rw [row_len] at this
                  simp only [List.length_append, List.length_singleton, hd] at this
                  rw [Nat.succ_mul] at this
                  omega
                rcases hfold j z hz with ⟨h1, h2⟩ | ⟨h1, h2, h3⟩ | h1
                · rw [if_pos h1] at hu
                  obtain ⟨y, hy, hr'⟩ := hr j u hu
                  rw [h2] at hy; cases hy; exact hr'
                · rw [if_neg (by omega)] at hu
                  simp only [List.flatMap_cons, List.flatMap_nil, List.append_nil] at hu
                  obtain ⟨y, hy, hr'⟩ := hrel2.get hu
                  rw [Array.getElem?_toList, h3] at hy; cases hy; exact hr'
                · omega)
              refine ⟨out, ?_, h2, by simp [h3], by simpa using h4⟩
              simp only [List.map_cons, Instr.fill]
              rw [if_neg (by simp only [Bool.or_eq_true, decide_eq_true_eq, not_or]; exact ⟨by omega, by omega⟩)]
              exact h1
    · simp [Bool.eq_false_iff.2 hij] at hl
theorem elems_sound {B : Base} {nt : Nat} {C : Cx} {st : St} {a : Act} (h : SimL B nt C st a) {k : SK} (n : Nat) (ps : List (Nat × Operand)) (i : Nat) (l : List k.T) (he : elems st.H st.T k i ps = some l) (hn : i + ps.length = n)
    (done : List k.T) (cells : Array Value) (hd : done.length = i) (hs : cells.size = n * k.size) (hr : ∀ (j : Nat) (u : CV), (done.flatMap k.cells)[j]? = some u → ∃ y, cells[j]? = some y ∧ bvR C.w C.R u y) :
    ∃ out, Instr.fill (fun i => some (i * k.size, k.size)) cells (ps.map fun p => (p.1, a.eval p.2)) = some out ∧ out.size = n * k.size ∧ l.length = ps.length ∧
      ∀ (j : Nat) (u : CV), ((done ++ l).flatMap k.cells)[j]? = some u → ∃ y, out[j]? = some y ∧ bvR C.w C.R u y := by
  refine elemsF_sound h (fun c d hd => ?_) n ps i l he hn done cells hd hs hr
  have hd' : bv0 st.H c = some d ∧ n0 c = [] ∧ c.isC = true := by
    cases c <;> first | exact ⟨hd, rfl, rfl⟩ | (simp [bvn, bv0] at hd; done)
  exact ⟨hd'.2.2, fun v hv _ => bv0_nl h hd'.1 hv hd'.2.1⟩
end Go.Proofs.Ytnfgfdeidkhdkaa.Eng
