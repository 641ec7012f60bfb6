/- The engine's soundness, second part: operations that look at no block. -/
import Derived.Test.YtnfgfdeidkhdkaaEc
import Derived.Laws.Entries
import Derived.Laws.Tables
namespace Go.Proofs.Ytnfgfdeidkhdkaa.Eng
open Go.RowKit (Below)
set_option linter.unusedVariables false
set_option linter.unusedSimpArgs false
noncomputable abbrev P : Program := Try.prog

theorem cellR_val {C : Cx} {c : CV} {v : Value} (h : cellR C c v) : valR C c v := by
  cases c <;> first | exact h.elim | exact h
theorem aggR_val {C : Cx} {c : CV} {v : Value} (h : aggR C c v) : valR C c v := by
  cases c <;> first | exact h.elim | exact h
theorem valR_agg {C : Cx} {c : CV} {v : Value} (h : valR C c v) (hc : c.isA = true) : aggR C c v := by
  cases c <;> first | (simp [CV.isA] at hc; done) | exact h
theorem aggR_cells {C : Cx} {c : CV} {v : Value} (h : aggR C c v) (hc : c.cells.all CV.isC = true) : All2 (cellR C) c.cells v.cells.toList := by
  cases c
  case agg cs => obtain ⟨vs, rfl, ha⟩ := h; exact ha
  case tup => exact h.elim
  case fn => exact h.elim
  all_goals
    simp only [aggR] at h
    have h1 := cellR_one h
    have : v.cells.toList = [v] := by cases v <;> first | (simp [Value.oneCell'] at h1; done) | rfl
    rw [this]
    exact ⟨h, trivial⟩
theorem valR_cells {C : Cx} {c : CV} {v : Value} (h : valR C c v) (hc : c.cells.all CV.isC = true) : All2 (cellR C) c.cells v.cells.toList := by
  refine aggR_cells (valR_agg h ?_) hc
  cases c <;> first | rfl | (simp [CV.cells, CV.isC] at hc)
theorem n2_cells {c : CV} (hc : c.cells.all CV.isC = true) {x : Nat} (h : x ∈ c.cells.flatMap n0) : x ∈ n2 c := by
  cases c <;> first | exact h | (simpa [CV.cells, n2, n1] using h) | (simp [CV.cells, CV.isC] at hc)

theorem int_inv {C : Cx} {k : IntKind} {n : Int} {v : Value} (h : valR C (.int k n) v) : v = .int k n := h
theorem bool_inv {C : Cx} {b : Bool} {v : Value} (h : valR C (.bool b) v) : v = .bool b := h

theorem run_v (s : Sem Value) (w : World) {v : Value} {w' : World} (h : s.run P w = .ok v w') : (do pure (Next.value (← s)) : Sem Next).run P w = .ok (.value v) w' := by
  simp [h]

/-- integers -/
theorem binInt_sound {R : Type} {op : BinOp} {k : IntKind} {x y : Int} {K : CV → Option R} {r : R} (h : binInt op k x y K = some r) (t : Nat) :
    ∃ c, K c = some r ∧ n2 c = [] ∧ ∃ v, (∀ w, (binOp op t (.int k x) (.int k y)).run P w = .ok v w) ∧ ∀ C, valR C c v := by
  unfold binInt at h
  cases op <;> simp only at h <;> try (cases h; done)
  case add => exact ⟨_, h, rfl, _, fun w => by simp [binOp_add, Op.intArith], fun C => rfl⟩
  case sub => exact ⟨_, h, rfl, _, fun w => by simp [binOp_sub, Op.intArith], fun C => rfl⟩
  case mul => exact ⟨_, h, rfl, _, fun w => by simp [binOp_mul, Op.intArith], fun C => rfl⟩
  case quo =>
    by_cases hy : y = 0
    · simp [hy] at h
    · simp [hy] at h
      exact ⟨_, h, rfl, _, fun w => by simp [binOp_quo, Op.intDiv, hy], fun C => rfl⟩
  case rem =>
    by_cases hy : y = 0
    · simp [hy] at h
    · simp [hy] at h
      exact ⟨_, h, rfl, _, fun w => by simp [binOp_rem, Op.intDiv, hy], fun C => rfl⟩
  case and => exact ⟨_, h, rfl, _, fun w => by simp [binOp, Op.intBits, bitsI], fun C => rfl⟩
  case or => exact ⟨_, h, rfl, _, fun w => by simp [binOp, Op.intBits, bitsI], fun C => rfl⟩
  case xor => exact ⟨_, h, rfl, _, fun w => by simp [binOp, Op.intBits, bitsI], fun C => rfl⟩
  case shl =>
    by_cases hy : y < 0
    · simp [hy] at h
    · simp only [hy, decide_false, cond_false] at h
      exact ⟨_, h, rfl, _, fun w => by simp [binOp, Op.shift, hy], fun C => rfl⟩
  case shr =>
    by_cases hy : y < 0
    · simp [hy] at h
    · simp only [hy, decide_false, cond_false] at h
      exact ⟨_, h, rfl, _, fun w => by simp [binOp, Op.shift, hy], fun C => rfl⟩
  case eql => exact ⟨_, h, rfl, _, fun w => by simp [binOp, Op.intCmp]; rfl, fun C => rfl⟩
  case neq => exact ⟨_, h, rfl, _, fun w => by simp [binOp, Op.intCmp]; rfl, fun C => rfl⟩
  case lss => exact ⟨_, h, rfl, _, fun w => by simp [binOp, Op.intCmp], fun C => rfl⟩
  case leq => exact ⟨_, h, rfl, _, fun w => by simp [binOp, Op.intCmp], fun C => rfl⟩
  case gtr => exact ⟨_, h, rfl, _, fun w => by simp [binOp, Op.intCmp], fun C => rfl⟩
  case geq => exact ⟨_, h, rfl, _, fun w => by simp [binOp, Op.intCmp], fun C => rfl⟩

theorem equalIn_bool (d : Nat) (x y : Bool) (w : World) : (Op.equalIn (d + 1) 4 (.bool x) (.bool y)).run P w = .ok (x == y) w := by
  have hu : P.underlying 4 = some .bool := Try.underlying4
  simp only [Op.equalIn, Sem.run_bind, run_underlying hu, Result.andThen_ok, Sem.run_pure]
theorem equal_bool (x y : Bool) (w : World) : (Op.equal 4 (.bool x) (.bool y)).run P w = .ok (x == y) w := equalIn_bool 9999 x y w
theorem binBool_eq (x y : Bool) (w : World) : (binOp .eql 4 (.bool x) (.bool y)).run P w = .ok (.bool (x == y)) w := by
  simp only [binOp, Sem.run_bind, equal_bool, Result.andThen_ok, Sem.run_pure]
theorem binBool_ne (x y : Bool) (w : World) : (binOp .neq 4 (.bool x) (.bool y)).run P w = .ok (.bool (!(x == y))) w := by
  simp only [binOp, Sem.run_bind, equal_bool, Result.andThen_ok, Sem.run_pure]

theorem binCV_sound {R : Type} {op : BinOp} {t : Nat} {a b : CV} {K : CV → Option R} {r : R} (h : binCV op t a b K = some r) {C : Cx} {u v : Value}
    (ha : valR C a u) (hb : valR C b v) (x y : Operand) :
    ∃ c, K c = some r ∧ n2 c = [] ∧ ∃ z, (∀ w, (do eqGuard op t x y u v; binOp op t u v : Sem Value).run P w = .ok z w) ∧ ∀ C, valR C c z := by
  unfold binCV at h
  split at h
  · rename_i k x' k' y'
    obtain rfl := int_inv ha
    obtain rfl := int_inv hb
    by_cases hk : k = k'
    · subst hk
      simp only [decide_true, cond_true] at h
      obtain ⟨c, h1, h2, z, h3, h4⟩ := binInt_sound h t
      exact ⟨c, h1, h2, z, fun w => by rw [eqGuard_at_int]; simpa using h3 w, h4⟩
    · simp [hk] at h
  · rename_i x' y'
    obtain rfl := bool_inv ha
    obtain rfl := bool_inv hb
    by_cases ht : Nat.beq t 4 = true
    · obtain rfl := Nat.eq_of_beq_eq_true ht
      simp only [ht, cond_true] at h
      split at h
      · exact ⟨_, h, rfl, _, fun w => by rw [eqGuard_at_bool]; simpa using binBool_eq x' y' w, fun C => rfl⟩
      · exact ⟨_, h, rfl, _, fun w => by rw [eqGuard_at_bool]; simpa using binBool_ne x' y' w, fun C => rfl⟩
      · cases h
    · simp [Bool.eq_false_iff.2 ht] at h
  · cases h

/-- a value that an operation gives, whatever the world -/
structure Gives (C : Cx) (st : St) (a : Act) (o : Oper) (c : CV) : Prop where
  val : ∃ v, (∀ w, (execOp a.eval o).run P w = .ok (.value v) w) ∧ valR C c v
  nm : ∀ y, y ∈ n2 c → ∃ b, look st.H y = some b

theorem list2 {α β : Type} {r : α → β → Prop} {x y : α} {l : List β} (h : All2 r [x, y] l) : ∃ u v, l = [u, v] ∧ r x u ∧ r y v := by
  match l, h with
  | [u, v], h => exact ⟨u, v, rfl, h.1, h.2.1⟩
theorem list1 {α β : Type} {r : α → β → Prop} {x : α} {l : List β} (h : All2 r [x] l) : ∃ u, l = [u] ∧ r x u := by
  match l, h with
  | [u], h => exact ⟨u, rfl, h.1⟩
theorem map_toList {α β : Type} (f : α → β) (l : Array α) : (l.map f).toList = l.toList.map f := by simp
theorem arr_of {α : Type} {l : Array α} {m : List α} (h : l.toList = m) : l = m.toArray := by rw [← h]

theorem move_run (a : Act) (o : Oper) (x : Operand) (ho : o.op = .move x ∨ o.op = .assign x) (w : World) : (execOp a.eval o).run P w = .ok (.value (a.eval x)) w := by
  unfold execOp
  rcases ho with ho | ho <;> simp [ho]
theorem addr_add (g o n : Nat) : (⟨g, o, none⟩ : Addr).add n = ⟨g, o + n, none⟩ := Addr.add_lit g o n

/-- the table of fields is the program's -/
noncomputable def fldIs (s f off n : Nat) : Bool :=
  match P.underlying s with
  | some (.struct fields) => match fields[f]? with
    | some fl => Nat.beq fl.offset off && (match P.info? fl.type with | some i => Nat.beq i.size n && !Nat.beq n 0 | none => false)
    | none => false
  | _ => false
theorem fldIs_all : ([(25, 0, 0, 1), (25, 1, 1, 1), (25, 2, 2, 1), (25, 3, 3, 1), (57, 0, 0, 1), (57, 1, 1, 1), (57, 2, 2, 1), (66, 0, 0, 1), (66, 1, 1, 1), (94, 0, 0, 4), (94, 1, 4, 1), (94, 2, 5, 1), (94, 3, 6, 1),
    (101, 0, 0, 1), (101, 1, 1, 1), (101, 2, 2, 1), (118, 0, 0, 1), (118, 1, 1, 1), (124, 0, 0, 1), (124, 1, 1, 1)] : List (Nat × Nat × Nat × Nat)).all (fun p => fldIs p.1 p.2.1 p.2.2.1 p.2.2.2) = true := by kernel_rfl
theorem fld_is {s f off n : Nat} (h : fld s f = some (off, n)) : fldIs s f off n = true := by
  have ha := List.all_eq_true.1 fldIs_all
  unfold fld at h
  split at h <;> first
    | (cases h; done)
    | (simp only [Option.some.injEq, Prod.mk.injEq] at h
       obtain ⟨rfl, rfl⟩ := h
       exact ha (_, _, _, _) (by simp))
theorem fieldAt_run {s f off n : Nat} (h : fld s f = some (off, n)) (ad : Addr) (w : World) :
    (Instr.fieldAt s (.pointer (some ad)) f).run P w = .ok (.pointer (some (ad.add off))) w := by
  have hf := fld_is h
  unfold fldIs at hf
  split at hf
  · rename_i fields hu
    split at hf
    · rename_i fl hfl
      split at hf
      · rename_i i hi
        simp only [Bool.and_eq_true, Bool.not_eq_true'] at hf
        obtain ⟨h1, h2, h3⟩ := hf
        have e1 : fl.offset = off := Nat.eq_of_beq_eq_true h1
        have e2 : i.size = n := Nat.eq_of_beq_eq_true h2
        have e3 : ¬ i.size = 0 := fun e => by rw [e2] at e; subst e; simp at h3
        simp [Instr.fieldAt, run_underlying hu, hfl, Instr.sureAddr, fieldPlace, sizeOf, typeInfo, hi, e3, e1]
      · simp at hf
    · cases hf
  · cases hf

/-! ### a struct that is built -/
def plV : Nat → List (Nat × Nat)
  | 25 => [(0, 1), (1, 1), (2, 1), (3, 1)]
  | 57 => [(0, 1), (1, 1), (2, 1)]
  | 66 => [(0, 1), (1, 1)]
  | 94 => [(0, 4), (4, 1), (5, 1), (6, 1)]
  | 101 => [(0, 1), (1, 1), (2, 1)]
  | 118 => [(0, 1), (1, 1)]
  | 124 => [(0, 1), (1, 1)]
  | _ => []
theorem plV_fld {t i off n : Nat} (h : fld t i = some (off, n)) : (plV t)[i]? = some (off, n) := by
  unfold fld at h
  split at h <;> first
    | (cases h; done)
    | (simp only [Option.some.injEq, Prod.mk.injEq] at h
       obtain ⟨rfl, rfl⟩ := h
       rfl)
/-- the first value of a variable -/
def zv : Nat → Value
  | 3 => .int .i64 0
  | 28 => .int .i64 0
  | 116 => .int .u64 0
  | 125 => .int .u64 0
  | 4 => .bool false
  | 22 => .slice none 0 0
  | 43 => .slice none 0 0
  | 53 => .slice none 0 0
  | 105 => .slice none 0 0
  | 25 => .agg #[.int .i64 0, .slice none 0 0, .slice none 0 0, .slice none 0 0]
  | 57 => .agg #[.bool false, .int .i64 0, .slice none 0 0]
  | 66 => .agg #[.int .i64 0, .int .i64 0]
  | 94 => .agg #[.int .i64 0, .slice none 0 0, .slice none 0 0, .slice none 0 0, .int .i64 0, .int .i64 0, .slice none 0 0]
  | 101 => .agg #[.slice none 0 0, .int .i64 0, .slice none 0 0]
  | 118 => .agg #[.int .i64 0, .int .u64 0]
  | 122 => .agg #[.bool false, .bool false]
  | 124 => .agg #[.slice none 0 0, .slice none 0 0]
  | _ => undef
set_option maxRecDepth 100000 in
theorem built25 (ps : List (Nat × Value)) : P.built 25 ps = Instr.fill ((plV 25).toArray[·]?) (zv 25).cells ps := by kernel_rfl
set_option maxRecDepth 100000 in
theorem built57 (ps : List (Nat × Value)) : P.built 57 ps = Instr.fill ((plV 57).toArray[·]?) (zv 57).cells ps := by kernel_rfl
set_option maxRecDepth 100000 in
theorem built66 (ps : List (Nat × Value)) : P.built 66 ps = Instr.fill ((plV 66).toArray[·]?) (zv 66).cells ps := by kernel_rfl
set_option maxRecDepth 100000 in
theorem built94 (ps : List (Nat × Value)) : P.built 94 ps = Instr.fill ((plV 94).toArray[·]?) (zv 94).cells ps := by kernel_rfl
set_option maxRecDepth 100000 in
theorem built101 (ps : List (Nat × Value)) : P.built 101 ps = Instr.fill ((plV 101).toArray[·]?) (zv 101).cells ps := by kernel_rfl
set_option maxRecDepth 100000 in
theorem built118 (ps : List (Nat × Value)) : P.built 118 ps = Instr.fill ((plV 118).toArray[·]?) (zv 118).cells ps := by kernel_rfl
set_option maxRecDepth 100000 in
theorem built124 (ps : List (Nat × Value)) : P.built 124 ps = Instr.fill ((plV 124).toArray[·]?) (zv 124).cells ps := by kernel_rfl
set_option maxRecDepth 100000 in
theorem zv_run {t : Nat} {b : Bool} {ks : List CK} (h : cks t = some (b, ks)) : (P.info? t).bind (·.zero) = some (zv t) := by
  unfold cks at h
  split at h <;> first
    | (cases h; done)
    | kernel_rfl
theorem zeroValue_run {t : Nat} {z : Value} (h : (P.info? t).bind (·.zero) = some z) (w : World) : (zeroValue t).run P w = .ok z w := by
  cases hi : P.info? t with
  | none => simp [hi] at h
  | some i => simp [hi] at h; simp [zeroValue, typeInfo, hi, h]
theorem zv_cells {t : Nat} {cs : List CV} (h : zeros t = some cs) (C : Cx) : All2 (cellR C) cs (zv t).cells.toList := by
  unfold zeros cks at h
  split at h
  · rename_i x y hx
    split at hx <;> first
      | (cases hx; done)
      | (simp only [Option.some.injEq, Prod.mk.injEq] at hx
         obtain ⟨rfl, rfl⟩ := hx
         simp only [Option.some.injEq] at h
         subst h
         simp only [netC, List.cons_append, List.nil_append, List.map, CK.zero]
         repeat (first | exact trivial | refine ⟨by first | exact ⟨none, rfl⟩ | rfl, ?_⟩))
  · cases h
/-- the table of types is the program's -/
noncomputable def cksIs (t : Nat) (b : Bool) (n : Nat) : Bool :=
  (match P.underlying t with
  | some (.struct _) => b
  | some (.array _ _) => b
  | some _ => !b
  | none => false) && (match P.info? t with | some i => Nat.beq i.size n | none => false)
theorem cks_is {t : Nat} {b : Bool} {ks : List CK} (h : cks t = some (b, ks)) : cksIs t b ks.length = true := by
  unfold cks at h
  split at h <;> first
    | (cases h; done)
    | (simp only [Option.some.injEq, Prod.mk.injEq] at h
       obtain ⟨rfl, rfl⟩ := h
       kernel_rfl)
theorem isAgg_run {t : Nat} {b : Bool} {ks : List CK} (h : cks t = some (b, ks)) (w : World) : (isAgg t).run P w = .ok b w := by
  have hc := cks_is h
  unfold cksIs at hc
  simp only [Bool.and_eq_true] at hc
  obtain ⟨h1, h2⟩ := hc
  cases hu : P.underlying t with
  | none => rw [hu] at h1; cases h1
  | some d => cases d <;> simp only [hu] at h1 <;> simp_all [isAgg, run_underlying hu]
theorem size_run {t : Nat} {b : Bool} {ks : List CK} (h : cks t = some (b, ks)) : ∃ i, P.info? t = some i ∧ i.size = ks.length := by
  have hc := cks_is h
  unfold cksIs at hc
  simp only [Bool.and_eq_true] at hc
  obtain ⟨h1, h2⟩ := hc
  cases hi : P.info? t with
  | none => rw [hi] at h2; cases h2
  | some i => rw [hi] at h2; exact ⟨i, rfl, Nat.eq_of_beq_eq_true h2⟩
theorem sizeOf_run {t : Nat} {b : Bool} {ks : List CK} (h : cks t = some (b, ks)) (w : World) : (sizeOf t).run P w = .ok ks.length w := by
  obtain ⟨i, hi, hs⟩ := size_run h
  simp [sizeOf, typeInfo, hi, hs]
theorem built_of {t : Nat} {cs : List CV} {ks : List CK} (hz : zeros t = some cs) (hk : cks t = some (true, ks)) (h122 : t ≠ 122) (ps : List (Nat × Value)) :
    P.built t ps = Instr.fill ((plV t).toArray[·]?) (zv t).cells ps := by
  unfold cks at hk
  split at hk <;> first
    | (cases hk; done)
    | with_reducible exact built25 ps
    | with_reducible exact built57 ps
    | with_reducible exact built66 ps
    | with_reducible exact built94 ps
    | with_reducible exact built101 ps
    | with_reducible exact built118 ps
    | exact absurd rfl h122
    | with_reducible exact built124 ps

/-- a part laid over cells, both ways -/
theorem setAt_rel {r : CV → Value → Prop} : ∀ (us : List CV) (vs : List Value) (off : Nat) (cs : List CV) (ds : Array Value), All2 r us vs → All2 r cs ds.toList →
    All2 r (setAt cs off us) ((vs.zipIdx off).foldl (fun (d : Array Value) (p : Value × Nat) => d.setIfInBounds p.2 p.1) ds).toList
  | [], [], off, cs, ds, _, h => by simpa [setAt] using h
  | u :: us, v :: vs, off, cs, ds, hu, h => by
    simp only [setAt, List.zipIdx_cons, List.foldl_cons]
    refine setAt_rel us vs (off + 1) _ _ hu.2 ?_
    refine All2.of (by simpa using h.length) fun i a b ha hb => ?_
    simp only [Array.toList_setIfInBounds, List.getElem?_set] at ha hb
    have hl := h.length
    by_cases e : off = i
    · subst e
      by_cases hlt : off < cs.length
      · simp [hlt] at ha
        simp only [Array.length_toList] at hl
        simp [show off < ds.size by omega] at hb
        subst ha; subst hb; exact hu.1
      · simp [hlt] at ha
    · simp only [e, if_false] at ha hb
      obtain ⟨b', hb', hr⟩ := h.get ha
      rw [hb] at hb'; cases hb'; exact hr
  | [], _ :: _, _, _, _, hu, _ => hu.elim
  | _ :: _, [], _, _, _, hu, _ => hu.elim
theorem zipIdx_shift {α : Type} (f : α → Nat → α → α) : True := trivial
theorem fold_shift (vs : List Value) : ∀ (k off : Nat) (ds : Array Value),
    (vs.zipIdx k).foldl (fun (d : Array Value) (p : Value × Nat) => d.setIfInBounds (off + p.2) p.1) ds = (vs.zipIdx (off + k)).foldl (fun (d : Array Value) (p : Value × Nat) => d.setIfInBounds p.2 p.1) ds := by
  induction vs with
  | nil => intro k off ds; rfl
  | cons v vs ih => intro k off ds; simp only [List.zipIdx_cons, List.foldl_cons]; rw [ih]; rfl
theorem setAt_len : ∀ (us cs : List CV) (off : Nat), (setAt cs off us).length = cs.length
  | [], cs, off => rfl
  | u :: us, cs, off => by simp [setAt, setAt_len us]

theorem buildP_sound {B : Base} {nt : Nat} {C : Cx} {st : St} {a : Act} (h : SimL B nt C st a) {t : Nat} : ∀ (ps : List (Nat × Operand)) (cs ds : List CV) (vs : Array Value),
    buildP t st.T cs ps = some ds → All2 (cellR C) cs vs.toList → (∀ x, x ∈ cs.flatMap n0 → ∃ b, look st.H x = some b) →
    ∃ us, Instr.fill ((plV t).toArray[·]?) vs (ps.map fun p => (p.1, a.eval p.2)) = some us ∧ All2 (cellR C) ds us.toList ∧ (∀ x, x ∈ ds.flatMap n0 → ∃ b, look st.H x = some b) := by
  intro ps
  induction ps with
  | nil => intro cs ds vs hb hr hn; simp only [buildP, Option.some.injEq] at hb; subst hb; exact ⟨vs, rfl, hr, hn⟩
  | cons p ps ih =>
    obtain ⟨i, x⟩ := p
    intro cs ds vs hb hr hn
    simp only [buildP] at hb
    cases hf : fld t i with
    | none => simp [hf] at hb
    | some q =>
      obtain ⟨off, n⟩ := q
      simp only [hf] at hb
      cases hk : cks t with
      | none => simp [hk] at hb
      | some q =>
        obtain ⟨b, ks⟩ := q
        simp only [hk] at hb
        split at hb
        · cases hb
        · rename_i v hv
          obtain ⟨hval, hnm⟩ := ev_sound h hv
          by_cases hc : (Nat.beq v.cells.length n && Nat.ble (off + n) cs.length && v.cells.all CV.isC) = true
          · simp only [hc, cond_true] at hb
            simp only [Bool.and_eq_true] at hc
            obtain ⟨⟨c1, c2⟩, c3⟩ := hc
            have e1 : v.cells.length = n := Nat.eq_of_beq_eq_true c1
            have e2 : off + n ≤ cs.length := Nat.le_of_ble_eq_true c2
            have hcells := valR_cells hval c3
            have e3 := hcells.length
            simp only [Array.length_toList] at e3
            have e4 := hr.length
            simp only [Array.length_toList] at e4
            have hrel := setAt_rel _ _ off cs vs hcells hr
            obtain ⟨us, h1, h2, h3⟩ := ih _ _ ((a.eval x).cells.zipIdx.foldl (fun (d : Array Value) (p : Value × Nat) => d.setIfInBounds (off + p.2) p.1) vs) hb (by
              rw [← Array.foldl_toList, Array.toList_zipIdx, fold_shift]
              exact hrel) (by
              intro y hy
              obtain ⟨c, hc, hyc⟩ := List.mem_flatMap.1 hy
              have hmem : c ∈ cs ∨ c ∈ v.cells := by
                clear hrel
                revert hc
                generalize v.cells = us
                intro hc
                have : ∀ (us cs : List CV) (o : Nat), c ∈ setAt cs o us → c ∈ cs ∨ c ∈ us := by
                  intro us
                  induction us with
                  | nil => intro cs o h; exact .inl h
                  | cons u us ih =>
                    intro cs o h
                    rcases ih _ _ h with h | h
                    · rcases List.mem_or_eq_of_mem_set h with h | h
                      · exact .inl h
                      · exact .inr (by rw [h]; exact List.mem_cons_self ..)
                    · exact .inr (List.mem_cons_of_mem _ h)
                exact this us cs off hc
              rcases hmem with hm | hm
              · exact hn y (List.mem_flatMap.2 ⟨c, hm, hyc⟩)
              · exact hnm y (n2_cells c3 (List.mem_flatMap.2 ⟨c, hm, hyc⟩)))
            refine ⟨us, ?_, h2, h3⟩
            simp only [List.map_cons, Instr.fill]
            have hp := plV_fld hf
            simp only [List.getElem?_toArray, hp]
            rw [if_neg (by simp only [Bool.or_eq_true, decide_eq_true_eq, not_or]; exact ⟨by omega, by omega⟩)]
            simp only [List.getElem?_toArray] at h1
            exact h1
          · simp [Bool.eq_false_iff.2 hc] at hb
theorem flatMap_mem {α β : Type} {f : α → List β} {l : List α} {a : α} (ha : a ∈ l) {b : β} (hb : b ∈ f a) : b ∈ l.flatMap f := List.mem_flatMap.2 ⟨a, ha, hb⟩
theorem n1_sub {c : CV} {x : Nat} (h : x ∈ n0 c) : x ∈ n1 c := by cases c <;> first | exact h | (simp [n0] at h)
theorem n2_sub {c : CV} {x : Nat} (h : x ∈ n1 c) : x ∈ n2 c := by cases c <;> first | exact h | (simp [n1, n0] at h)
theorem n1_of {c : CV} (hc : c.isA = true) {x : Nat} (h : x ∈ n2 c) : x ∈ n1 c := by cases c <;> first | exact h | (simp [CV.isA] at hc)

theorem call_run (a : Act) (o : Oper) (c : Call) (b : Builtin) (ho : o.op = .call c) (hc : c.callee = .builtin b) :
    execOp a.eval o = builtin b c.argTypes o.type (c.args.map fun | .const _ => true | _ => false) (c.args.map a.eval) := by
  unfold execOp
  simp only [ho, resolve, hc]
  rfl

theorem cks_int {t : Nat} {k : IntKind} (h : cks t = some (false, [.int k])) : P.underlying t = some (.int k) := by
  unfold cks at h
  split at h <;> first
    | (cases h; done)
    | (simp only [Option.some.injEq, Prod.mk.injEq, List.cons.injEq, and_true, true_and, CK.int.injEq] at h
       subst h
       kernel_rfl)
    | (simp [netC] at h; done)
theorem convInt_run {src dst : Nat} {k ks : IntKind} (hs : cks src = some (false, [.int ks])) (hk : cks dst = some (false, [.int k])) (k' : IntKind) (n : Int) (w : World) :
    (convert src dst (.int k' n)).run P w = .ok (.int k (k.wrap n)) w := by
  simp [convert, run_underlying (cks_int hs), run_underlying (cks_int hk), Conv.intToInt]
theorem fields25 : ∃ fields fl, P.underlying 25 = some (.struct fields) ∧ fields[0]? = some fl ∧ fl.type = 3 ∧ fl.offset = 0 := by
  have h : (match P.underlying 25 with
    | some (.struct fields) => match fields[0]? with
      | some fl => Nat.beq fl.type 3 && Nat.beq fl.offset 0
      | none => false
    | _ => false) = true := by kernel_rfl
  split at h
  · rename_i fields hu
    split at h
    · rename_i fl hfl
      simp only [Bool.and_eq_true] at h
      exact ⟨fields, fl, hu, hfl, Nat.eq_of_beq_eq_true h.1, Nat.eq_of_beq_eq_true h.2⟩
    · cases h
  · cases h
theorem field_run (us : Array Value) (u : Value) (hu : us[0]? = some u) (w : World) :
    (Instr.field 25 (.agg us) 0).run P w = .ok u w := by
  obtain ⟨fields, fl, h1, h2, h3, h4⟩ := fields25
  have ha : (isAgg 3).run P w = .ok false w := isAgg_run (t := 3) rfl w
  simp [Instr.field, run_underlying h1, h2, asAgg, part, h3, h4, ha, hu]
theorem pure_sound {B : Base} {nt : Nat} {C : Cx} {st : St} {a : Act} (h : SimL B nt C st a) (o : Oper) {R : Type} {K : CV → Option R} {r : R}
    (hp : pureOp o.op o.type st.T K = some r) : ∃ c, K c = some r ∧ Gives C st a o c := by
  cases ho : o.op <;> rw [ho] at hp <;> simp only [pureOp] at hp <;> try (cases hp; done)
  case move x =>
    split at hp
    · rename_i v hv
      obtain ⟨h1, h2⟩ := ev_sound h hv
      exact ⟨v, hp, ⟨_, move_run a o x (.inl ho), h1⟩, h2⟩
    · cases hp
  case assign x =>
    split at hp
    · rename_i v hv
      obtain ⟨h1, h2⟩ := ev_sound h hv
      exact ⟨v, hp, ⟨_, move_run a o x (.inr ho), h1⟩, h2⟩
    · cases hp
  case pick c x y =>
    split at hp
    · rename_i b hb
      have e := bool_inv (ev_sound h hb).1
      cases b
      · simp only [cond_false] at hp
        split at hp
        · rename_i v hv
          obtain ⟨h1, h2⟩ := ev_sound h hv
          exact ⟨v, hp, ⟨_, fun w => by unfold execOp; simp [ho, e, asBool], h1⟩, h2⟩
        · cases hp
      · simp only [cond_true] at hp
        split at hp
        · rename_i v hv
          obtain ⟨h1, h2⟩ := ev_sound h hv
          exact ⟨v, hp, ⟨_, fun w => by unfold execOp; simp [ho, e, asBool], h1⟩, h2⟩
        · cases hp
    · cases hp
  case binOp op xt x y yt =>
    split at hp
    · cases hp
    · rename_i u hu
      split at hp
      · cases hp
      · rename_i v hv
        obtain ⟨c, h1, h2, z, h3, h4⟩ := binCV_sound hp (ev_sound h hu).1 (ev_sound h hv).1 x y
        refine ⟨c, h1, ⟨z, fun w => ?_, h4 C⟩, by rw [h2]; simp⟩
        unfold execOp
        simp only [ho]
        exact run_v _ w (h3 w)
  case unOp op t x =>
    cases op <;> simp only [pureOp] at hp <;> try (cases hp; done)
    split at hp
    · rename_i b hb
      have e := bool_inv (ev_sound h hb).1
      exact ⟨_, hp, ⟨_, fun w => by unfold execOp; simp [ho, e, Op.unary], rfl⟩, by simp [n2, n1, n0]⟩
    · cases hp
  case convert src dst x =>
    split at hp
    · rename_i k' n hn
      have e := int_inv (ev_sound h hn).1
      split at hp
      · rename_i ks hks
        split at hp
        · rename_i k hk
          exact ⟨_, hp, ⟨_, fun w => by unfold execOp; simp only [ho, e]; exact run_v _ w (convInt_run hks hk k' n w), rfl⟩, by simp [n2, n1, n0]⟩
        · cases hp
      · cases hp
    · cases hp
  case extract x i =>
    split at hp
    · rename_i vs hv
      obtain ⟨⟨us, e, ha⟩, h2⟩ := ev_sound h hv
      split at hp
      · rename_i v hvi
        obtain ⟨u, hu, hr⟩ := ha.get hvi
        refine ⟨v, hp, ⟨u, fun w => ?_, aggR_val hr⟩, fun y hy => h2 y ?_⟩
        · unfold execOp
          simp only [ho, e]
          exact run_v _ w (by simp [Instr.extract, show us[i]? = some u by simpa using hu])
        · refine flatMap_mem (List.mem_of_getElem? hvi) (n1_of ?_ hy)
          cases v <;> first | rfl | exact hr.elim
      · cases hp
    · cases hp
  case fieldAddr s x f =>
    split at hp
    · cases hp
    · rename_i off n hf
      split at hp
      · rename_i y q hv
        obtain ⟨⟨⟨ad, e⟩, h1⟩, h2⟩ := ev_sound h hv
        refine ⟨_, hp, ⟨_, fun w => by unfold execOp; simp only [ho, e]; exact run_v _ w (fieldAt_run hf ad w), ⟨⟨_, rfl⟩, fun hl => ?_⟩⟩, h2⟩
        obtain ⟨L, hL, he⟩ := h1 hl
        rw [e] at he
        cases he
        exact ⟨L, hL, by rw [addr_add, Nat.add_assoc]⟩
      · rename_i y i j hv
        obtain ⟨⟨⟨ad, e⟩, h1⟩, h2⟩ := ev_sound h hv
        refine ⟨_, hp, ⟨_, fun w => by unfold execOp; simp only [ho, e]; exact run_v _ w (fieldAt_run hf ad w), ⟨⟨_, rfl⟩, fun hl => ?_⟩⟩, h2⟩
        obtain ⟨L, hL, he⟩ := h1 hl
        rw [e] at he
        cases he
        exact ⟨L, hL, by rw [addr_add, Nat.add_assoc]⟩
      · rename_i cs q hv
        obtain ⟨⟨g, b, hR, e, h1⟩, h2⟩ := ev_sound h hv
        refine ⟨_, hp, ⟨_, fun w => by unfold execOp; simp only [ho, e]; exact run_v _ w (fieldAt_run hf _ w), ⟨g, b, hR, by rw [addr_add, Nat.add_assoc], h1⟩⟩, h2⟩
      · cases hp
  case makeFunc fn first caps =>
    cases fn <;> simp only [pureOp] at hp <;> try (cases hp; done)
    rename_i f
    by_cases hf : Nat.beq first.size 0 = true
    · simp only [hf, cond_true] at hp
      split at hp
      · rename_i vs hvs
        by_cases ha : vs.all CV.isA = true
        · simp only [ha, cond_true] at hp
          obtain ⟨h1, h2⟩ := evs_sound h hvs
          have hfe : first = #[] := Array.eq_empty_of_size_eq_zero (Nat.eq_of_beq_eq_true hf)
          subst hfe
          refine ⟨_, hp, ⟨_, fun w => by unfold execOp; simp [ho, Instr.makeFunc], ⟨caps.map a.eval, rfl, ?_⟩⟩, ?_⟩
          · rw [map_toList]
            exact h1.mono fun c hc v hv => valR_agg hv (List.all_eq_true.1 ha c hc)
          · intro y hy
            obtain ⟨c, hc, hy⟩ := List.mem_flatMap.1 hy
            exact h2 c hc y (n2_sub hy)
        · simp [Bool.eq_false_iff.2 ha] at hp
      · cases hp
    · simp [Bool.eq_false_iff.2 hf] at hp
  case nilCheck x =>
    split at hp
    · rename_i y q hv
      obtain ⟨h1, h2⟩ := ev_sound h hv
      obtain ⟨⟨ad, e⟩, h3⟩ := h1
      exact ⟨_, hp, ⟨_, fun w => by unfold execOp; simp [ho, e], ⟨⟨ad, rfl⟩, by rw [e] at h3; exact h3⟩⟩, h2⟩
    · rename_i y i j hv
      obtain ⟨h1, h2⟩ := ev_sound h hv
      obtain ⟨⟨ad, e⟩, h3⟩ := h1
      exact ⟨_, hp, ⟨_, fun w => by unfold execOp; simp [ho, e], ⟨⟨ad, rfl⟩, by rw [e] at h3; exact h3⟩⟩, h2⟩
    · rename_i cs q hv
      obtain ⟨⟨g, b, hR, e, h1⟩, h2⟩ := ev_sound h hv
      exact ⟨_, hp, ⟨_, fun w => by unfold execOp; simp [ho, e], ⟨g, b, hR, rfl, h1⟩⟩, h2⟩
    · cases hp
  case field xt x f =>
    by_cases hc : (Nat.beq xt 25 && Nat.beq f 0) = true
    · simp only [hc, cond_true] at hp
      simp only [Bool.and_eq_true] at hc
      obtain rfl := Nat.eq_of_beq_eq_true hc.1
      obtain rfl := Nat.eq_of_beq_eq_true hc.2
      split at hp
      · rename_i cs hv
        obtain ⟨⟨us, e, ha⟩, h2⟩ := ev_sound h hv
        split at hp
        · rename_i v hvi
          obtain ⟨u, hu, hr⟩ := ha.get hvi
          refine ⟨v, hp, ⟨u, fun w => ?_, cellR_val hr⟩, fun y hy => h2 y ?_⟩
          · unfold execOp
            simp only [ho, e]
            exact run_v _ w (field_run us u (by simpa using hu) w)
          · refine flatMap_mem (List.mem_of_getElem? hvi) ?_
            cases v <;> first | exact hy | exact hr.elim
        · cases hp
      · cases hp
    · simp [Bool.eq_false_iff.2 hc] at hp
  case build s parts =>
    split at hp
    · cases hp
    · rename_i cs hz
      split at hp
      · rename_i ks hk
        by_cases h122 : s = 122
        · subst h122
          simp at hp
        · have hb122 : Nat.beq s 122 = false := Bool.eq_false_iff.2 fun e => h122 (Nat.eq_of_beq_eq_true e)
          simp only [hb122, cond_false] at hp
          split at hp
          · rename_i ds hb
            obtain ⟨us, h1, h2, h3⟩ := buildP_sound h parts.toList cs ds (zv s).cells hb (zv_cells hz C) (by
              intro y hy
              exfalso
              revert hy
              obtain ⟨b, ks', hks, rfl⟩ : ∃ b ks', cks s = some (b, ks') ∧ cs = ks'.map CK.zero := by
                unfold zeros at hz
                rw [hk] at hz
                exact ⟨_, _, hk, by simpa using hz.symm⟩
              intro hy
              obtain ⟨c, hc, hy⟩ := List.mem_flatMap.1 hy
              obtain ⟨k, -, rfl⟩ := List.mem_map.1 hc
              cases k <;> simp [CK.zero, n0] at hy)
            refine ⟨_, hp, ⟨_, fun w => ?_, ⟨us, rfl, h2⟩⟩, h3⟩
            unfold execOp
            simp only [ho]
            refine run_v _ w (run_build w s _ us ?_)
            rw [built_of hz hk h122]
            simpa using h1
          · cases hp
      · cases hp
  case call c =>
    split at hp
    · rename_i hc
      split at hp
      · rename_i k x k' y hv
        by_cases hk : k = k'
        · subst hk
          simp only [decide_true, cond_true] at hp
          obtain ⟨h1, h2⟩ := evs_sound h hv
          obtain ⟨u, v, e, hu, hv⟩ := list2 h1
          obtain rfl := int_inv hu
          obtain rfl := int_inv hv
          refine ⟨_, hp, ⟨_, fun w => ?_, rfl⟩, by simp [n2, n1, n0]⟩
          rw [call_run a o c _ ho hc]
          refine run_v _ w ?_
          simp [Builtin.min_, e, Builtin.min2, minI]
        · simp [hk] at hp
      · cases hp
    · rename_i hc
      split at hp
      · rename_i k x k' y hv
        by_cases hk : k = k'
        · subst hk
          simp only [decide_true, cond_true] at hp
          obtain ⟨h1, h2⟩ := evs_sound h hv
          obtain ⟨u, v, e, hu, hv⟩ := list2 h1
          obtain rfl := int_inv hu
          obtain rfl := int_inv hv
          refine ⟨_, hp, ⟨_, fun w => ?_, rfl⟩, by simp [n2, n1, n0]⟩
          rw [call_run a o c _ ho hc]
          refine run_v _ w ?_
          simp [Builtin.max_, e, Builtin.max2, maxI]
        · simp [hk] at hp
      · cases hp
    · cases hp
end Go.Proofs.Ytnfgfdeidkhdkaa.Eng
