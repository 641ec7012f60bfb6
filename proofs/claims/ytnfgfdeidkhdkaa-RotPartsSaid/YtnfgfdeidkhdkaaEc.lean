/- The engine's soundness, first part: how the engine's data stand to the model's memory, and that they go on standing so where what they lean on is left alone. -/
import Derived.Test.YtnfgfdeidkhdkaaEb
import Derived.Below
import Derived.Laws.AppendOwn
import Derived.Laws.MakeOwn
namespace Go.Proofs.Ytnfgfdeidkhdkaa.Eng
open Go.RowKit (Below)
set_option linter.unusedVariables false

def All2 {α β : Type} (r : α → β → Prop) : List α → List β → Prop
  | [], [] => True
  | a :: l, b :: m => r a b ∧ All2 r l m
  | _, _ => False
theorem All2.mono {α β : Type} {r s : α → β → Prop} : ∀ {l : List α} {m : List β}, (∀ a, a ∈ l → ∀ b, r a b → s a b) → All2 r l m → All2 s l m
  | [], [], _, _ => trivial
  | a :: l, b :: m, h, hh => ⟨h a (List.mem_cons_self ..) b hh.1, All2.mono (fun a ha => h a (List.mem_cons_of_mem _ ha)) hh.2⟩
  | [], _ :: _, _, hh => hh.elim
  | _ :: _, [], _, hh => hh.elim
theorem All2.length {α β : Type} {r : α → β → Prop} : ∀ {l : List α} {m : List β}, All2 r l m → l.length = m.length
  | [], [], _ => rfl
  | _ :: _, _ :: _, h => by simp [All2.length h.2]
  | [], _ :: _, h => h.elim
  | _ :: _, [], h => h.elim
theorem All2.get {α β : Type} {r : α → β → Prop} : ∀ {l : List α} {m : List β}, All2 r l m → ∀ {i : Nat} {a : α}, l[i]? = some a → ∃ b, m[i]? = some b ∧ r a b
  | [], [], _, i, a, h => by simp at h
  | x :: l, y :: m, h, 0, a, hi => by simp at hi; subst hi; exact ⟨y, by simp, h.1⟩
  | x :: l, y :: m, h, i + 1, a, hi => by simpa using All2.get h.2 (by simpa using hi)
  | [], _ :: _, h, _, _, _ => h.elim
  | _ :: _, [], h, _, _, _ => h.elim
theorem All2.get' {α β : Type} {r : α → β → Prop} {l : List α} {m : List β} (h : All2 r l m) {i : Nat} {b : β} (hb : m[i]? = some b) : ∃ a, l[i]? = some a ∧ r a b := by
  have hl := h.length
  obtain ⟨hi, -⟩ := List.getElem?_eq_some_iff.1 hb
  have hi' : i < l.length := by omega
  obtain ⟨b', hb', hr⟩ := h.get (List.getElem?_eq_getElem hi')
  rw [hb] at hb'; cases hb'
  exact ⟨_, List.getElem?_eq_getElem hi', hr⟩
theorem All2.of {α β : Type} {r : α → β → Prop} : ∀ {l : List α} {m : List β}, l.length = m.length → (∀ (i : Nat) a b, l[i]? = some a → m[i]? = some b → r a b) → All2 r l m
  | [], [], _, _ => trivial
  | a :: l, b :: m, hl, h => ⟨h 0 a b (by simp) (by simp), All2.of (by simpa using hl) fun i a b ha hb => h (i + 1) a b (by simpa using ha) (by simpa using hb)⟩
  | [], _ :: _, hl, _ => by simp at hl
  | _ :: _, [], hl, _ => by simp at hl
theorem All2.append {α β : Type} {r : α → β → Prop} : ∀ {l : List α} {m : List β} {l' : List α} {m' : List β}, All2 r l m → All2 r l' m' → All2 r (l ++ l') (m ++ m')
  | [], [], _, _, _, h => h
  | _ :: _, _ :: _, _, _, h, h' => ⟨h.1, All2.append h.2 h'⟩
  | [], _ :: _, _, _, h, _ => h.elim
  | _ :: _, [], _, _, h, _ => h.elim

structure Lc where
  g : Nat
  o : Nat
  n : Nat
  c : Nat
  s : Nat
abbrev Loc := Nat → Option Lc

/-! ### data that lie where nothing turns -/
def scal : CV → Value → Prop
  | .int k n, v => v = .int k n
  | .bool b, v => v = .bool b
  | .flt b, v => v = .float .f64 b
  | _, _ => False
def rowR (rel : CV → Value → Prop) (w : World) (R : Nat → Prop) (cs : List CV) (n : Nat) (v : Value) : Prop :=
  ∃ A c, v = .slice A n c ∧ n ≤ c ∧ ∀ i u, cs[i]? = some u → ∃ a x, A = some a ∧ R a.block ∧ w.cell? (a.add i) = some x ∧ rel u x
def lev (w : World) (R : Nat → Prop) : Nat → CV → Value → Prop
  | 0 => scal
  | n + 1 => fun c v => match c with
    | .sl k l => rowR (lev w R n) w R (l.flatMap k.cells) l.length v
    | c => scal c v
def bvR (w : World) (R : Nat → Prop) : CV → Value → Prop := lev w R 2

theorem scal_one {c : CV} {v : Value} (h : scal c v) : v.oneCell' = true := by
  cases c <;> simp only [scal] at h <;> first | exact h.elim | (subst h; rfl)
theorem lev_one {w : World} {R : Nat → Prop} : ∀ {n : Nat} {c : CV} {v : Value}, lev w R n c v → v.oneCell' = true
  | 0, c, v, h => scal_one h
  | n + 1, c, v, h => by
    cases c <;> simp only [lev] at h <;> first
      | exact scal_one h
      | (obtain ⟨A, c, rfl, _⟩ := h; rfl)
theorem lev_tr {w w' : World} {R R' : Nat → Prop} (hh : ∀ b, R b → w'.heap[b]? = w.heap[b]?) (hs : ∀ b, R b → R' b) :
    ∀ {n : Nat} {c : CV} {v : Value}, lev w R n c v → lev w' R' n c v
  | 0, _, _, h => h
  | n + 1, c, v, h => by
    cases c <;> simp only [lev] at h ⊢ <;> first
      | exact h
      | (obtain ⟨A, c, rfl, hn, hc⟩ := h
         refine ⟨A, c, rfl, hn, fun i u hu => ?_⟩
         obtain ⟨a, x, hA, hR, hx, hr⟩ := hc i u hu
         refine ⟨a, x, hA, hs _ hR, ?_, lev_tr hh hs hr⟩
         rw [World.cell?_of_block (w := w)]
         · exact hx
         · have hb : (a.add i).block = a.block := by unfold Addr.add; split <;> rfl
           rw [hb]; exact hh _ hR)
theorem lev_lift {w : World} {R : Nat → Prop} : ∀ {n : Nat} {c : CV} {v : Value}, lev w R n c v → lev w R (n + 1) c v
  | 0, c, v, h => by cases c <;> simp only [lev] at h ⊢ <;> first | exact h | exact h.elim
  | n + 1, c, v, h => by
    cases c <;> simp only [lev] at h ⊢ <;> first
      | exact h
      | (obtain ⟨A, c, rfl, hn, hc⟩ := h
         refine ⟨A, c, rfl, hn, fun i u hu => ?_⟩
         obtain ⟨a, x, hA, hR, hx, hr⟩ := hc i u hu
         exact ⟨a, x, hA, hR, hx, lev_lift hr⟩)
theorem bvR_tr {w w' : World} {R R' : Nat → Prop} (hh : ∀ b, R b → w'.heap[b]? = w.heap[b]?) (hs : ∀ b, R b → R' b) {c : CV} {v : Value}
    (h : bvR w R c v) : bvR w' R' c v := lev_tr hh hs h

/-! ### the call's own -/
/-- what stands for each world: 'R': blocks that nothing turns; 'lv': names that live; 'loc': where they lie -/
structure Cx where
  w : World
  R : Nat → Prop
  lv : Nat → Prop
  loc : Loc

def cellR (C : Cx) : CV → Value → Prop
  | .nil _, v => ∃ A, v = .slice A 0 0
  | .ref x, v => (∃ A n c, v = .slice A n c) ∧ (C.lv x → match C.loc x with
      | none => ∃ A, v = .slice A 0 0
      | some L => v = .slice (some ⟨L.g, L.o, none⟩) L.n L.c)
  | .win x off len, v => (∃ A n c, v = .slice A n c) ∧ (C.lv x → match C.loc x with
      | none => len = 0 ∧ ∃ A c, v = .slice A 0 c
      | some L => off + len ≤ L.n ∧ ∃ A c, v = .slice A len c ∧ len ≤ c ∧ (0 < len → A = some ⟨L.g, L.o + off * L.s, none⟩))
  | .ptr x off, v => (∃ a, v = .pointer (some a)) ∧ (C.lv x → ∃ L, C.loc x = some L ∧ v = .pointer (some ⟨L.g, L.o + off, none⟩))
  | .pe x i j, v => (∃ a, v = .pointer (some a)) ∧ (C.lv x → ∃ L, C.loc x = some L ∧ v = .pointer (some ⟨L.g, L.o + i * L.s + j, none⟩))
  | .vp cs off, v => ∃ g o, C.R g ∧ v = .pointer (some ⟨g, o + off, none⟩) ∧ ∀ i u, cs[i]? = some u → ∃ x, C.w.cell? ⟨g, o + i, none⟩ = some x ∧ bvR C.w C.R u x
  | .nptr, v => v = .pointer none
  | .agg _, _ => False
  | .tup _, _ => False
  | .fn _ _, _ => False
  | .unk, v => v.oneCell' = true
  | .int k n, v => v = .int k n
  | .bool b, v => v = .bool b
  | .flt b, v => v = .float .f64 b
  | .sl k l, v => bvR C.w C.R (.sl k l) v
def aggR (C : Cx) : CV → Value → Prop
  | .agg cs, v => ∃ vs : Array Value, v = .agg vs ∧ All2 (cellR C) cs vs.toList
  | c, v => cellR C c v
def valR (C : Cx) : CV → Value → Prop
  | .tup cs, v => ∃ vs : Array Value, v = .tuple vs ∧ All2 (aggR C) cs vs.toList
  | .fn f cs, v => ∃ vs : Array Value, v = .func (.func f) #[] vs ∧ All2 (aggR C) cs vs.toList
  | c, v => aggR C c v

def n0 : CV → List Nat
  | .ref x => [x]
  | .win x _ _ => [x]
  | .ptr x _ => [x]
  | .pe x _ _ => [x]
  | _ => []
def n1 : CV → List Nat
  | .agg cs => cs.flatMap n0
  | c => n0 c
def n2 : CV → List Nat
  | .tup cs => cs.flatMap n1
  | .fn _ cs => cs.flatMap n1
  | c => n1 c

/-- one world behind another one, for what leans on these names alone -/
structure Tr (C D : Cx) (N : Nat → Prop) : Prop where
  heap : ∀ b, C.R b → D.w.heap[b]? = C.w.heap[b]?
  sub : ∀ b, C.R b → D.R b
  nm : ∀ x, N x → D.lv x → C.lv x ∧ D.loc x = C.loc x

theorem cellR_one {C : Cx} {c : CV} {v : Value} (h : cellR C c v) : v.oneCell' = true := by
  cases c <;> simp only [cellR] at h <;> first
    | exact h.elim
    | exact h
    | (subst h; rfl)
    | (obtain ⟨A, rfl⟩ := h; rfl)
    | (obtain ⟨⟨A, n, c, rfl⟩, _⟩ := h; rfl)
    | (obtain ⟨⟨a, rfl⟩, _⟩ := h; rfl)
    | (obtain ⟨g, o, _, rfl, _⟩ := h; rfl)
    | exact lev_one h
theorem cellR_tr {C D : Cx} {N : Nat → Prop} (t : Tr C D N) {c : CV} {v : Value} (hn : ∀ x, x ∈ n0 c → N x) (h : cellR C c v) : cellR D c v := by
  cases c <;> simp only [cellR] at h ⊢
  case sl => exact bvR_tr t.heap t.sub h
  case vp cs off =>
    obtain ⟨g, o, hR, rfl, hc⟩ := h
    refine ⟨g, o, t.sub _ hR, rfl, fun i u hu => ?_⟩
    obtain ⟨x, hx, hr⟩ := hc i u hu
    exact ⟨x, (World.cell?_of_block (w := C.w) (t.heap g hR)).trans hx, bvR_tr t.heap t.sub hr⟩
  case ref x =>
    refine ⟨h.1, fun hl => ?_⟩
    obtain ⟨a, b⟩ := t.nm x (hn x (by simp [n0])) hl
    rw [b]; exact h.2 a
  case win x off len =>
    refine ⟨h.1, fun hl => ?_⟩
    obtain ⟨a, b⟩ := t.nm x (hn x (by simp [n0])) hl
    rw [b]; exact h.2 a
  case ptr x off =>
    refine ⟨h.1, fun hl => ?_⟩
    obtain ⟨a, b⟩ := t.nm x (hn x (by simp [n0])) hl
    rw [b]; exact h.2 a
  case pe x i j =>
    refine ⟨h.1, fun hl => ?_⟩
    obtain ⟨a, b⟩ := t.nm x (hn x (by simp [n0])) hl
    rw [b]; exact h.2 a
  all_goals exact h
theorem aggR_tr {C D : Cx} {N : Nat → Prop} (t : Tr C D N) {c : CV} {v : Value} (hn : ∀ x, x ∈ n1 c → N x) (h : aggR C c v) : aggR D c v := by
  cases c
  case agg cs =>
    obtain ⟨vs, rfl, ha⟩ := h
    exact ⟨vs, rfl, ha.mono fun a ha b hb => cellR_tr t (fun x hx => hn x (List.mem_flatMap.2 ⟨a, ha, hx⟩)) hb⟩
  all_goals
    simp only [aggR, n1] at h hn ⊢
    exact cellR_tr t hn h
theorem valR_tr {C D : Cx} {N : Nat → Prop} (t : Tr C D N) {c : CV} {v : Value} (hn : ∀ x, x ∈ n2 c → N x) (h : valR C c v) : valR D c v := by
  cases c
  case tup cs =>
    obtain ⟨vs, rfl, ha⟩ := h
    exact ⟨vs, rfl, ha.mono fun a ha b hb => aggR_tr t (fun x hx => hn x (List.mem_flatMap.2 ⟨a, ha, hx⟩)) hb⟩
  case fn f cs =>
    obtain ⟨vs, rfl, ha⟩ := h
    exact ⟨vs, rfl, ha.mono fun a ha b hb => aggR_tr t (fun x hx => hn x (List.mem_flatMap.2 ⟨a, ha, hx⟩)) hb⟩
  all_goals
    simp only [valR, n2] at h hn ⊢
    exact aggR_tr t hn h

/-- a block of the call's own -/
def blkR (C : Cx) (x : Nat) : Blk → Prop
  | .arr ap k l => match C.loc x with
    | none => l = []
    | some L => L.n = l.length ∧ L.s = k.size ∧ L.n ≤ L.c ∧ L.c ≤ maxLen ∧ ∃ cur : Array Value, C.w.heap[L.g]? = some (.cells cur k.el (0, 0)) ∧
        (ap = true → L.o = 0 ∧ cur.size = L.c * k.size) ∧ ∀ i u, (l.flatMap k.cells)[i]? = some u → ∃ y, cur[L.o + i]? = some y ∧ bvR C.w C.R u y
  | .cells _ cs => ∃ L, C.loc x = some L ∧ ∃ (cur : Array Value) (t : TypeId), C.w.heap[L.g]? = some (.cells cur t (0, 0)) ∧
      ∀ i u, cs[i]? = some u → ∃ y, cur[L.o + i]? = some y ∧ cellR C u y
def nB : Blk → List Nat
  | .arr _ _ _ => []
  | .cells _ cs => cs.flatMap n0

theorem blkR_tr {C D : Cx} {N : Nat → Prop} (t : Tr C D N) {x : Nat} {b : Blk} (hl : D.loc x = C.loc x) (hg : ∀ L, C.loc x = some L → D.w.heap[L.g]? = C.w.heap[L.g]?)
    (hn : ∀ y, y ∈ nB b → N y) (h : blkR C x b) : blkR D x b := by
  cases b
  case arr ap k l =>
    simp only [blkR, hl] at h ⊢
    cases hL : C.loc x with
    | none => rw [hL] at h; exact h
    | some L =>
      rw [hL] at h
      obtain ⟨h1, h2, h3, h4, cur, h5, h6, h7⟩ := h
      refine ⟨h1, h2, h3, h4, cur, (hg L hL).trans h5, h6, fun i u hu => ?_⟩
      obtain ⟨y, hy, hr⟩ := h7 i u hu
      exact ⟨y, hy, bvR_tr t.heap t.sub hr⟩
  case cells ty cs =>
    obtain ⟨L, hL, cur, ct, h5, h7⟩ := h
    refine ⟨L, hl.trans hL, cur, ct, (hg L hL).trans h5, fun i u hu => ?_⟩
    obtain ⟨y, hy, hr⟩ := h7 i u hu
    exact ⟨y, hy, cellR_tr t (fun z hz => hn z (List.mem_flatMap.2 ⟨u, List.mem_of_getElem? hu, hz⟩)) hr⟩

theorem look_cons {α : Type} (i : Nat) (v : α) (l : List (Nat × α)) (j : Nat) : look ((i, v) :: l) j = if i = j then some v else look l j := by
  simp only [look]
  by_cases h : i = j
  · subst h; simp
  · have : Nat.beq i j = false := Bool.eq_false_iff.2 fun e => h (Nat.eq_of_beq_eq_true e)
    simp [this, h]
theorem look_append {α : Type} : ∀ (l m : List (Nat × α)) (j : Nat), look (l ++ m) j = match look l j with | some v => some v | none => look m j
  | [], m, j => rfl
  | (i, v) :: l, m, j => by
    rw [List.cons_append, look_cons, look_cons, look_append l m j]
    split <;> rfl
theorem get_eq (H : Hp) (x : Nat) : get H x = (look H x).join := by
  unfold get; cases look H x <;> rfl
theorem get_some {H : Hp} {x : Nat} {b : Blk} : get H x = some b ↔ look H x = some (some b) := by
  rw [get_eq]; cases h : look H x with
  | none => simp
  | some o => cases o <;> simp

/-- where a function's run stands: 'w0', 'R0': as it began; 'mayW': the blocks that it may write to; 'pin': what its first tmp goes on to hold -/
structure Base where
  w0 : World
  R0 : Nat → Prop
  mayW : Nat → Prop
  pin : Option Value
structure SimL (B : Base) (nt : Nat) (C : Cx) (st : St) (a : Act) : Prop where
  size : a.tmps.size = nt
  dfr : a.defers = []
  os : C.w.os = B.w0.os
  tape : C.w.tape = B.w0.tape
  output : C.w.output = B.w0.output
  grow : B.w0.heap.size ≤ C.w.heap.size
  keep : ∀ b, b < B.w0.heap.size → ¬ B.mayW b → C.w.heap[b]? = B.w0.heap[b]?
  rsub : ∀ b, B.R0 b → C.R b
  rlt : ∀ b, C.R b → b < C.w.heap.size
  rnew : ∀ b, C.R b → B.R0 b ∨ B.w0.heap.size ≤ b
  lv : ∀ x, C.lv x ↔ ∃ b, look st.H x = some (some b)
  tm : ∀ t c, look st.T t = some c → ∃ v, a.tmps[t]? = some v ∧ valR C c v
  bl : ∀ x b, look st.H x = some (some b) → blkR C x b ∧ ∀ L, C.loc x = some L → (B.w0.heap.size ≤ L.g ∨ B.mayW L.g) ∧ ¬ C.R L.g ∧ L.g < C.w.heap.size
  dj : ∀ x y L M, C.lv x → C.lv y → C.loc x = some L → C.loc y = some M → x ≠ y → L.g ≠ M.g
  nmT : ∀ t c, look st.T t = some c → ∀ x, x ∈ n2 c → ∃ o, look st.H x = some o
  nmH : ∀ y b, look st.H y = some (some b) → ∀ x, x ∈ nB b → ∃ o, look st.H x = some o
  pin : ∀ v, B.pin = some v → a.tmps[0]? = some v
def Sim (B : Base) (nt : Nat) (st : St) (a : Act) (w : World) : Prop := ∃ R lv loc, SimL B nt ⟨w, R, lv, loc⟩ st a

/-- only what is looked up counts -/
def St.eqv (s t : St) : Prop := (∀ i, look s.T i = look t.T i) ∧ ∀ x, look s.H x = look t.H x
theorem SimL.eqv {B : Base} {nt : Nat} {C : Cx} {s t : St} {a : Act} (h : SimL B nt C s a) (e : s.eqv t) : SimL B nt C t a := by
  obtain ⟨e1, e2⟩ := e
  exact { h with
    lv := fun x => by rw [← e2]; exact h.lv x
    tm := fun i c hc => h.tm i c (by rw [e1]; exact hc)
    bl := fun x b hb => h.bl x b (by rw [e2]; exact hb)
    nmT := fun i c hc x hx => by rw [← e2]; exact h.nmT i c (by rw [e1]; exact hc) x hx
    nmH := fun y b hb x hx => by rw [← e2]; exact h.nmH y b (by rw [e2]; exact hb) x hx }
theorem Sim.eqv {B : Base} {nt : Nat} {s t : St} {a : Act} {w : World} (h : Sim B nt s a w) (e : s.eqv t) : Sim B nt t a w :=
  let ⟨R, lv, loc, h⟩ := h; ⟨R, lv, loc, h.eqv e⟩

/-- an operand -/
theorem cvOf_sound {C : Cx} {t : Nat} {v : Value} {c : CV} (h : cvOf t v = some c) : valR C c v ∧ n2 c = [] := by
  unfold cvOf at h
  split at h
  · cases h; exact ⟨rfl, rfl⟩
  · cases h; exact ⟨rfl, rfl⟩
  · split at h
    · cases h; exact ⟨⟨none, rfl⟩, rfl⟩
    · cases h
  · cases h; exact ⟨rfl, rfl⟩
  · cases h; exact ⟨rfl, rfl⟩
  · cases h
theorem ev_sound {B : Base} {nt : Nat} {C : Cx} {st : St} {a : Act} (h : SimL B nt C st a) {t : Nat} {x : Operand} {c : CV} (he : ev t st.T x = some c) :
    valR C c (a.eval x) ∧ ∀ y, y ∈ n2 c → ∃ o, look st.H y = some o := by
  cases x with
  | tmp i =>
    obtain ⟨v, hv, hr⟩ := h.tm i c he
    refine ⟨?_, h.nmT i c he⟩
    have e : a.eval (.tmp i) = v := by simp [Act.eval, Array.getD_eq_getD_getElem?, hv]
    rw [e]; exact hr
  | const v =>
    obtain ⟨h1, h2⟩ := cvOf_sound (C := C) he
    exact ⟨h1, by rw [h2]; simp⟩
  | global g => cases he
  | func f => cases he
theorem evs_sound {B : Base} {nt : Nat} {C : Cx} {st : St} {a : Act} (h : SimL B nt C st a) : ∀ {xs : List Operand} {ts : List Nat} {cs : List CV}, evs st.T xs ts = some cs →
    All2 (valR C) cs (xs.map a.eval) ∧ (∀ c, c ∈ cs → ∀ y, y ∈ n2 c → ∃ o, look st.H y = some o)
  | [], [], cs, he => by simp [evs] at he; subst he; exact ⟨trivial, by simp⟩
  | x :: xs, t :: ts, cs, he => by
    simp only [evs] at he
    split at he
    · cases he
    · rename_i v hv
      split at he
      · cases he
      · rename_i vs hvs
        cases he
        obtain ⟨h1, h2⟩ := ev_sound h hv
        obtain ⟨h3, h4⟩ := evs_sound h hvs
        exact ⟨⟨h1, h3⟩, by
          intro c hc
          rcases List.mem_cons.1 hc with rfl | hc
          · exact h2
          · exact h4 c hc⟩
  | [], _ :: _, cs, he => by simp [evs] at he
  | _ :: _, [], cs, he => by simp [evs] at he
end Go.Proofs.Ytnfgfdeidkhdkaa.Eng
