/- The engine's soundness, third part: operations that look at blocks, or make new ones. -/
import Derived.Test.YtnfgfdeidkhdkaaEd
import Derived.Laws.Slices
namespace Go.Proofs.Ytnfgfdeidkhdkaa.Eng
open Go.RowKit (Below)
set_option linter.unusedVariables false
set_option linter.unusedSimpArgs false

/-! ### rows -/
theorem flat_len {α β : Type} {f : α → List β} {s : Nat} (hf : ∀ e, (f e).length = s) : ∀ l : List α, (l.flatMap f).length = l.length * s
  | [] => by simp
  | e :: l => by simp [hf e, flat_len hf l, Nat.add_mul]; omega
theorem flat_get {α β : Type} {f : α → List β} {s : Nat} (hf : ∀ e, (f e).length = s) : ∀ (l : List α) (i j : Nat) (e : α), l[i]? = some e → j < s → (l.flatMap f)[i * s + j]? = (f e)[j]?
  | [], i, j, e, h, _ => by simp at h
  | x :: l, 0, j, e, h, hj => by
    simp at h; subst h
    simp only [List.flatMap_cons, Nat.zero_mul, Nat.zero_add]
    rw [List.getElem?_append_left (by rw [hf]; exact hj)]
  | x :: l, i + 1, j, e, h, hj => by
    simp only [List.flatMap_cons]
    rw [List.getElem?_append_right (by rw [hf, Nat.add_mul]; omega), hf, show (i + 1) * s + j - s = i * s + j by rw [Nat.add_mul]; omega]
    exact flat_get hf l i j e (by simpa using h) hj
theorem SK.cells_len (k : SK) (e : k.T) : (k.cells e).length = k.size := by cases k <;> rfl
theorem SK.size_pos (k : SK) : 0 < k.size := by cases k <;> simp [SK.size]
theorem row_len (k : SK) (l : List k.T) : (l.flatMap k.cells).length = l.length * k.size := flat_len (SK.cells_len k) l
theorem row_get (k : SK) {l : List k.T} {i j : Nat} {e : k.T} (h : l[i]? = some e) (hj : j < k.size) : (l.flatMap k.cells)[i * k.size + j]? = (k.cells e)[j]? := flat_get (SK.cells_len k) l i j e h hj
theorem drop_flat {α β : Type} {f : α → List β} {s : Nat} (hf : ∀ e, (f e).length = s) (l : List α) (a : Nat) : (l.drop a).flatMap f = (l.flatMap f).drop (a * s) := by
  induction l generalizing a with
  | nil => simp
  | cons x l ih =>
    cases a with
    | zero => simp
    | succ a =>
      simp only [List.drop_succ_cons, List.flatMap_cons, ih]
      have e : (a + 1) * s = (f x).length + a * s := by rw [hf, Nat.add_mul]; omega
      have e2 : (f x).drop ((a + 1) * s) = [] := List.drop_eq_nil_of_le (by omega)
      rw [List.drop_append, e2, e, Nat.add_sub_cancel_left]; rfl
theorem take_flat {α β : Type} {f : α → List β} {s : Nat} (hf : ∀ e, (f e).length = s) (l : List α) (a : Nat) : (l.take a).flatMap f = (l.flatMap f).take (a * s) := by
  induction l generalizing a with
  | nil => simp
  | cons x l ih =>
    cases a with
    | zero => simp
    | succ a =>
      simp only [List.take_succ_cons, List.flatMap_cons, ih]
      have e : (a + 1) * s = (f x).length + a * s := by rw [hf, Nat.add_mul]; omega
      have e2 : (f x).take ((a + 1) * s) = f x := List.take_of_length_le (by omega)
      rw [List.take_append, e2, e, Nat.add_sub_cancel_left]

theorem SK.under (k : SK) : P.underlying k.ty = some (.slice k.el) := by cases k <;> kernel_rfl
noncomputable def elOk (k : SK) : Bool :=
  match P.info? k.el with
  | some i => Nat.beq i.size k.size && Nat.ble i.bytes 80 && (match i.zero with | some z => Nat.beq z.cells.size k.size | none => false)
  | none => false
theorem SK.elOk (k : SK) : Eng.elOk k = true := by cases k <;> kernel_rfl
theorem SK.info (k : SK) : ∃ i z, P.info? k.el = some i ∧ i.size = k.size ∧ i.bytes ≤ 80 ∧ i.zero = some z ∧ z.cells.size = k.size := by
  have h := SK.elOk k
  unfold Eng.elOk at h
  split at h
  · rename_i i hi
    simp only [Bool.and_eq_true] at h
    obtain ⟨⟨h1, h2⟩, h3⟩ := h
    split at h3
    · rename_i z hz
      exact ⟨i, z, hi, Nat.eq_of_beq_eq_true h1, Nat.le_of_ble_eq_true h2, hz, Nat.eq_of_beq_eq_true h3⟩
    · cases h3
  · cases h
theorem SK.sizeOf (k : SK) (w : World) : (Go.sizeOf k.el).run P w = .ok k.size w := by
  obtain ⟨i, z, hi, hs, -⟩ := SK.info k
  simp [Go.sizeOf, typeInfo, hi, hs]
theorem kindOf_ty {t : Nat} {k : SK} (h : kindOf t = some k) : t = k.ty := by
  unfold kindOf at h
  split at h <;> first | (cases h; done) | (cases h; rfl)
theorem ty_eq {k : SK} {t : Nat} (h : Nat.beq k.ty t = true) : t = k.ty := (Nat.eq_of_beq_eq_true h).symm

theorem bv_cell {C : Cx} {c : CV} {v : Value} (h : bvR C.w C.R c v) : cellR C c v := by
  cases c <;> first | exact h | exact h.elim
theorem cell_none {w : World} {a : Addr} {x : Value} (h : w.cell? a = some x) : a.spot = none := by
  unfold World.cell? at h
  split at h
  · split at h
    · cases h
    · rename_i h1; cases hs : a.spot with
      | none => rfl
      | some _ => simp [hs] at h1
  · cases h
theorem addr_flat (a : Addr) (n : Nat) (h : (a.add n).spot = none) : a.add n = ⟨a.block, a.off + n, none⟩ := by
  unfold Addr.add at h ⊢
  split
  · rename_i e; subst e; simp at h; cases a; simp_all
  · rfl
theorem addr_add_add (a : Addr) (n m : Nat) : (a.add n).add m = a.add (n + m) := by
  unfold Addr.add
  by_cases h : n = 0
  · subst h; simp
  · by_cases h' : m = 0
    · subst h'; simp [h]
    · simp [h, h', Nat.add_assoc]
theorem addr_block (a : Addr) (n : Nat) : (a.add n).block = a.block := by unfold Addr.add; split <;> rfl

/-! ### what an operation that changes no block of ours may do -/
structure QOut (C : Cx) (st : St) (D : Cx) (x : Nat) (c : CV) (bs : List Blk) (v : Value) : Prop where
  os : D.w.os = C.w.os
  tape : D.w.tape = C.w.tape
  output : D.w.output = C.w.output
  grow : C.w.heap.size ≤ D.w.heap.size
  heap : ∀ b, b < C.w.heap.size → D.w.heap[b]? = C.w.heap[b]?
  sub : ∀ b, C.R b → D.R b
  rlt : ∀ b, D.R b → b < D.w.heap.size
  rnew : ∀ b, D.R b → C.R b ∨ C.w.heap.size ≤ b
  lv : ∀ y, D.lv y ↔ C.lv y ∨ (x ≤ y ∧ y < x + bs.length)
  loc : ∀ y, ¬ (x ≤ y ∧ y < x + bs.length) → D.loc y = C.loc y
  val : valR D c v
  nm : ∀ y, y ∈ n2 c → (∃ o, look st.H y = some o) ∨ (x ≤ y ∧ y < x + bs.length)
  bl : ∀ i b, bs[i]? = some b → blkR D (x + i) b ∧ (∀ L, D.loc (x + i) = some L → C.w.heap.size ≤ L.g ∧ ¬ D.R L.g ∧ L.g < D.w.heap.size) ∧
    ∀ y, y ∈ nB b → (∃ o, look st.H y = some o) ∨ (x ≤ y ∧ y < x + bs.length)
  dj : ∀ i j L M, i < bs.length → j < bs.length → i ≠ j → D.loc (x + i) = some L → D.loc (x + j) = some M → L.g ≠ M.g

theorem QOut.same {C : Cx} {st : St} {c : CV} {v : Value} {x : Nat} (hr : ∀ b, C.R b → b < C.w.heap.size) (h : valR C c v) (hn : ∀ y, y ∈ n2 c → ∃ o, look st.H y = some o) : QOut C st C x c [] v where
  os := rfl
  tape := rfl
  output := rfl
  grow := Nat.le_refl _
  heap := fun _ _ => rfl
  sub := fun _ h => h
  rlt := hr
  rnew := fun _ h => .inl h
  lv := fun y => by simp; omega
  loc := fun _ _ => rfl
  val := h
  nm := fun y hy => .inl (hn y hy)
  bl := fun i b h => by simp at h
  dj := fun i j L M h => by simp at h

theorem look_nameB : ∀ (bs : List Blk) (x y : Nat), look (nameB x bs) y = if x ≤ y ∧ y < x + bs.length then (bs[y - x]?).map some else none
  | [], x, y => by
    simp only [nameB, look, List.length_nil, Nat.add_zero]
    rw [if_neg (by omega)]
  | b :: bs, x, y => by
    simp only [nameB]
    rw [look_cons, look_nameB bs (x + 1) y]
    by_cases h : x = y
    · subst h
      rw [if_pos rfl, if_pos (by simp)]
      simp
    · rw [if_neg h]
      by_cases h2 : x + 1 ≤ y ∧ y < x + 1 + bs.length
      · rw [if_pos h2, if_pos (by simp only [List.length_cons]; omega)]
        rw [show y - x = (y - (x + 1)) + 1 by omega, List.getElem?_cons_succ]
      · rw [if_neg h2, if_neg (by simp only [List.length_cons]; omega)]
theorem fresh_none : ∀ {bs : List Blk} {x : Nat} {H : Hp}, freshB H x bs = true → ∀ y, x ≤ y ∧ y < x + bs.length → look H y = none
  | [], x, H, _, y, hy => by simp at hy; omega
  | b :: bs, x, H, h, y, hy => by
    simp only [freshB, Bool.and_eq_true] at h
    by_cases e : x = y
    · subst e
      cases hl : look H x with
      | none => rfl
      | some o => rw [hl] at h; simp at h
    · exact fresh_none h.2 y (by simp only [List.length_cons] at hy; omega)

/-- a tmp is written -/
theorem SimL.put {B : Base} {nt : Nat} {C : Cx} {T : List (Nat × CV)} {H : Hp} {a : Act} (h : SimL B nt C ⟨T, H⟩ a) {c : CV} {v : Value} (hv : valR C c v) (hn : ∀ y, y ∈ n2 c → ∃ o, look H y = some o) {d : Nat} (hd : d < nt) (hp : B.pin = none ∨ d ≠ 0) :
    SimL B nt C ⟨(d, c) :: T, H⟩ (a.put (some d) v) := by
  refine { h with size := by simp [Act.put, h.size], tm := ?_, nmT := ?_, pin := ?_ }
  · intro t c' hc
    simp only [look_cons] at hc
    by_cases e : d = t
    · subst e
      rw [if_pos rfl] at hc
      cases hc
      exact ⟨v, by simp [Act.put, h.size, hd], hv⟩
    · rw [if_neg e] at hc
      obtain ⟨u, hu, hr⟩ := h.tm t c' hc
      exact ⟨u, by simpa [Act.put, Array.getElem?_setIfInBounds_ne e] using hu, hr⟩
  · intro t c' hc y hy
    simp only [look_cons] at hc
    by_cases e : d = t
    · rw [if_pos e] at hc
      cases hc
      exact hn y hy
    · rw [if_neg e] at hc
      exact h.nmT t c' hc y hy
  · intro u hu
    have := h.pin u hu
    rcases hp with hp | hp
    · rw [hp] at hu; cases hu
    · simpa [Act.put, Array.getElem?_setIfInBounds_ne hp] using this
theorem SimL.add {B : Base} {nt : Nat} {C D : Cx} {st : St} {a : Act} (h : SimL B nt C st a) {x : Nat} {c : CV} {bs : List Blk} {v : Value} (q : QOut C st D x c bs v)
    (hf : ∀ y, x ≤ y ∧ y < x + bs.length → look st.H y = none) : SimL B nt D ⟨st.T, nameB x bs ++ st.H⟩ a := by
  have hlook : ∀ y, look (nameB x bs ++ st.H) y = if x ≤ y ∧ y < x + bs.length then (bs[y - x]?).map some else look st.H y := by
    intro y
    rw [look_append, look_nameB]
    by_cases hy : x ≤ y ∧ y < x + bs.length
    · simp only [hy, and_self, if_true]
      have : y - x < bs.length := by omega
      simp [List.getElem?_eq_getElem this]
    · simp only [hy, if_false]
  have hlive : ∀ y b, look st.H y = some b → ¬ (x ≤ y ∧ y < x + bs.length) := fun y b hb hy => by rw [hf y hy] at hb; cases hb
  have hlvC : ∀ y, C.lv y → ¬ (x ≤ y ∧ y < x + bs.length) := fun y hy => by
    obtain ⟨b, hb⟩ := (h.lv y).1 hy
    exact hlive y _ hb
  have tr : Tr C D (fun y => ∃ o, look st.H y = some o) :=
    ⟨fun b hb => q.heap b (h.rlt b hb), q.sub, fun y ⟨o, ho⟩ hl => by
      have hn := hlive y o ho
      exact ⟨((q.lv y).1 hl).resolve_right hn, q.loc y hn⟩⟩
  have hkn : ∀ y o, look st.H y = some o → ∃ o, look (nameB x bs ++ st.H) y = some o := fun y o ho => ⟨o, by rw [hlook, if_neg (hlive y o ho)]; exact ho⟩
  have hkn' : ∀ y, (∃ o, look st.H y = some o) ∨ (x ≤ y ∧ y < x + bs.length) → ∃ o, look (nameB x bs ++ st.H) y = some o := by
    rintro y (⟨o, ho⟩ | hy)
    · exact hkn y o ho
    · rw [hlook, if_pos hy]
      have : y - x < bs.length := by omega
      exact ⟨_, by rw [List.getElem?_eq_getElem this]; rfl⟩
  constructor
  · exact h.size
  · exact h.dfr
  · exact q.os.trans h.os
  · exact q.tape.trans h.tape
  · exact q.output.trans h.output
  · exact Nat.le_trans h.grow q.grow
  · exact fun b hb hm => (q.heap b (Nat.lt_of_lt_of_le hb h.grow)).trans (h.keep b hb hm)
  · exact fun b hb => q.sub b (h.rsub b hb)
  · exact q.rlt
  · intro b hb
    rcases q.rnew b hb with hb | hb
    · exact h.rnew b hb
    · exact .inr (Nat.le_trans h.grow hb)
  · intro y
    simp only
    rw [q.lv y, hlook, h.lv y]
    constructor
    · rintro (⟨b, hb⟩ | hy)
      · exact ⟨b, by rw [if_neg (hlive y _ hb)]; exact hb⟩
      · rw [if_pos hy]
        have : y - x < bs.length := by omega
        exact ⟨_, by rw [List.getElem?_eq_getElem this]; rfl⟩
    · rintro ⟨b, hb⟩
      by_cases hy : x ≤ y ∧ y < x + bs.length
      · exact .inr hy
      · rw [if_neg hy] at hb; exact .inl ⟨b, hb⟩
  · intro t c' hc
    obtain ⟨u, hu, hr⟩ := h.tm t c' hc
    exact ⟨u, hu, valR_tr tr (fun y hy => h.nmT t c' hc y hy) hr⟩
  · intro y b hb
    simp only at hb
    rw [hlook] at hb
    by_cases hy : x ≤ y ∧ y < x + bs.length
    · rw [if_pos hy] at hb
      have hlt : y - x < bs.length := by omega
      rw [List.getElem?_eq_getElem hlt] at hb
      simp only [Option.map_some, Option.some.injEq] at hb
      obtain ⟨h1, h2, -⟩ := q.bl (y - x) b (by rw [List.getElem?_eq_getElem hlt, hb])
      rw [show x + (y - x) = y by omega] at h1 h2
      exact ⟨h1, fun L hL => by
        obtain ⟨a1, a2, a3⟩ := h2 L hL
        exact ⟨.inl (Nat.le_trans h.grow a1), a2, a3⟩⟩
    · rw [if_neg hy] at hb
      obtain ⟨h1, h2⟩ := h.bl y b hb
      have hloc := q.loc y hy
      refine ⟨blkR_tr tr hloc (fun L hL => q.heap L.g (h2 L hL).2.2) (fun z hz => h.nmH y b hb z hz) h1, fun L hL => ?_⟩
      rw [hloc] at hL
      obtain ⟨a1, a2, a3⟩ := h2 L hL
      refine ⟨a1, fun hR => ?_, Nat.lt_of_lt_of_le a3 q.grow⟩
      rcases q.rnew L.g hR with hR | hR
      · exact a2 hR
      · omega
  · intro y z L M hy hz hL hM hne
    by_cases y1 : x ≤ y ∧ y < x + bs.length
    · have hy' : y - x < bs.length := by omega
      have hb1 := (q.bl (y - x) _ (List.getElem?_eq_getElem hy')).2.1
      rw [show x + (y - x) = y by omega] at hb1
      by_cases z1 : x ≤ z ∧ z < x + bs.length
      · exact q.dj (y - x) (z - x) L M (by omega) (by omega) (by omega) (by rw [show x + (y - x) = y by omega]; exact hL) (by rw [show x + (z - x) = z by omega]; exact hM)
      · have hz' := ((q.lv z).1 hz).resolve_right z1
        obtain ⟨b, hb⟩ := (h.lv z).1 hz'
        rw [q.loc z z1] at hM
        have := (h.bl z b hb).2 M hM
        have := hb1 L hL
        omega
    · have hy' := ((q.lv y).1 hy).resolve_right y1
      rw [q.loc y y1] at hL
      by_cases z1 : x ≤ z ∧ z < x + bs.length
      · have hz2 : z - x < bs.length := by omega
        have hb1 := (q.bl (z - x) _ (List.getElem?_eq_getElem hz2)).2.1
        rw [show x + (z - x) = z by omega] at hb1
        obtain ⟨b, hb⟩ := (h.lv y).1 hy'
        have := (h.bl y b hb).2 L hL
        have := hb1 M hM
        omega
      · have hz' := ((q.lv z).1 hz).resolve_right z1
        rw [q.loc z z1] at hM
        exact h.dj y z L M hy' hz' hL hM hne
  · intro t c' hc y hy
    obtain ⟨o, ho⟩ := h.nmT t c' hc y hy
    exact hkn y o ho
  · intro y b hb z hz
    simp only at hb ⊢
    rw [hlook] at hb
    by_cases hy : x ≤ y ∧ y < x + bs.length
    · rw [if_pos hy] at hb
      have hlt : y - x < bs.length := by omega
      rw [List.getElem?_eq_getElem hlt] at hb
      simp only [Option.map_some, Option.some.injEq] at hb
      exact hkn' z ((q.bl (y - x) b (by rw [List.getElem?_eq_getElem hlt, hb])).2.2 z hz)
    · rw [if_neg hy] at hb
      obtain ⟨o, ho⟩ := h.nmH y b hb z hz
      exact hkn z o ho
  · exact h.pin
theorem SimL.quiet {B : Base} {nt : Nat} {C D : Cx} {st : St} {a : Act} (h : SimL B nt C st a) {x : Nat} {c : CV} {bs : List Blk} {v : Value} (q : QOut C st D x c bs v)
    (hf : ∀ y, x ≤ y ∧ y < x + bs.length → look st.H y = none) {d : Nat} (hd : d < nt) (hp : B.pin = none ∨ d ≠ 0) : SimL B nt D (st.app ⟨[(d, c)], nameB x bs⟩) (a.put (some d) v) := by
  refine (h.add q hf).put q.val (fun y hy => ?_) hd hp
  rcases q.nm y hy with ⟨o, ho⟩ | hy'
  · rw [look_append, look_nameB]
    split
    · exact ⟨_, rfl⟩
    · exact ⟨o, ho⟩
  · rw [look_append, look_nameB, if_pos hy']
    have : y - x < bs.length := by omega
    rw [List.getElem?_eq_getElem this]
    exact ⟨_, rfl⟩
end Go.Proofs.Ytnfgfdeidkhdkaa.Eng
