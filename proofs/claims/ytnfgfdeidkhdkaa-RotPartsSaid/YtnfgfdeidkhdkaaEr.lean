/- The engine's soundness, sixteenth part: regions whose order is open, all orders at once. -/
import Derived.Test.YtnfgfdeidkhdkaaEq
namespace Go.Proofs.Ytnfgfdeidkhdkaa.Eng
open Go.RowKit (Below)
set_option linter.unusedVariables false
set_option linter.unusedSimpArgs false

/-! ### updates in another order -/
theorem St.eqv.refl (s : St) : s.eqv s := ⟨fun _ => rfl, fun _ => rfl⟩
theorem St.eqv.trans {s t u : St} (h : s.eqv t) (h' : t.eqv u) : s.eqv u := ⟨fun i => (h.1 i).trans (h'.1 i), fun i => (h.2 i).trans (h'.2 i)⟩
theorem app_eqv {s t : St} (h : s.eqv t) (u : U) : (s.app u).eqv (t.app u) := ⟨fun i => by simp only [St.app, look_append, h.1], fun i => by simp only [St.app, look_append, h.2]⟩
theorem appAll_eqv : ∀ (us : List (Nat × U)) {s t : St}, s.eqv t → (appAll s us).eqv (appAll t us)
  | [], _, _, h => h
  | u :: us, _, _, h => appAll_eqv us (app_eqv h u.2)
/-- two updates of which none touches what the other one does -/
def U.apart (u v : U) : Prop := (∀ i, look u.T i = none ∨ look v.T i = none) ∧ ∀ i, look u.H i = none ∨ look v.H i = none
theorem app_swap (s : St) {u v : U} (h : u.apart v) : ((s.app u).app v).eqv ((s.app v).app u) := by
  refine ⟨fun i => ?_, fun i => ?_⟩
  · simp only [St.app, look_append]
    rcases h.1 i with e | e <;> rw [e] <;> cases look u.T i <;> cases look v.T i <;> rfl
  · simp only [St.app, look_append]
    rcases h.2 i with e | e <;> rw [e] <;> cases look u.H i <;> cases look v.H i <;> rfl
theorem appAll_snoc : ∀ (us : List (Nat × U)) (s : St) (x : Nat × U), appAll s (us ++ [x]) = (appAll s us).app x.2
  | [], s, x => rfl
  | u :: us, s, x => appAll_snoc us (s.app u.2) x
theorem appAll_append : ∀ (us vs : List (Nat × U)) (s : St), appAll s (us ++ vs) = appAll (appAll s us) vs
  | [], vs, s => rfl
  | u :: us, vs, s => appAll_append us vs (s.app u.2)
theorem appAll_move (x : Nat × U) : ∀ (us : List (Nat × U)) (s : St), (∀ y, y ∈ us → x.2.apart y.2) → ((appAll s us).app x.2).eqv (appAll (s.app x.2) us)
  | [], s, _ => St.eqv.refl _
  | u :: us, s, h => (appAll_move x us (s.app u.2) fun y hy => h y (List.mem_cons_of_mem _ hy)).trans (appAll_eqv us ⟨fun i => ((app_swap s (h u (List.mem_cons_self ..))).1 i).symm, fun i => ((app_swap s (h u (List.mem_cons_self ..))).2 i).symm⟩)
theorem appAll_T (p : Nat × U → Bool) (t : Nat) : ∀ (us : List (Nat × U)) (s : St), (∀ y, y ∈ us → p y = false → look y.2.T t = none) → look (appAll s us).T t = look (appAll s (us.filter p)).T t := by
  have cong : ∀ (us : List (Nat × U)) (s s' : St), look s.T t = look s'.T t → look (appAll s us).T t = look (appAll s' us).T t := by
    intro us
    induction us with
    | nil => exact fun s s' h => h
    | cons u us ih => exact fun s s' h => ih _ _ (by simp only [St.app, look_append, h])
  intro us
  induction us with
  | nil => exact fun s _ => rfl
  | cons u us ih =>
    intro s h
    have ih' := fun s => ih s fun y hy => h y (List.mem_cons_of_mem _ hy)
    rw [List.filter_cons]
    by_cases hp : p u = true
    · rw [if_pos hp]; exact ih' _
    · rw [if_neg hp]
      refine (ih' _).trans (cong _ _ _ ?_)
      simp only [St.app, look_append, h u (List.mem_cons_self ..) (Bool.eq_false_iff.2 hp)]
theorem appAll_H (p : Nat × U → Bool) (t : Nat) : ∀ (us : List (Nat × U)) (s : St), (∀ y, y ∈ us → p y = false → look y.2.H t = none) → look (appAll s us).H t = look (appAll s (us.filter p)).H t := by
  have cong : ∀ (us : List (Nat × U)) (s s' : St), look s.H t = look s'.H t → look (appAll s us).H t = look (appAll s' us).H t := by
    intro us
    induction us with
    | nil => exact fun s s' h => h
    | cons u us ih => exact fun s s' h => ih _ _ (by simp only [St.app, look_append, h])
  intro us
  induction us with
  | nil => exact fun s _ => rfl
  | cons u us ih =>
    intro s h
    have ih' := fun s => ih s fun y hy => h y (List.mem_cons_of_mem _ hy)
    rw [List.filter_cons]
    by_cases hp : p u = true
    · rw [if_pos hp]; exact ih' _
    · rw [if_neg hp]
      refine (ih' _).trans (cong _ _ _ ?_)
      simp only [St.app, look_append, h u (List.mem_cons_self ..) (Bool.eq_false_iff.2 hp)]

/-! ### what lies ahead of an operation -/
theorem snocInd {α : Type} {m : List α → Prop} (h0 : m []) (h1 : ∀ l a, m l → m (l ++ [a])) (l : List α) : m l := by
  rw [← List.reverse_reverse l]
  induction l.reverse with
  | nil => exact h0
  | cons a l ih => rw [List.reverse_cons]; exact h1 _ _ ih
theorem befs_snoc (os : List Oper) (o : Oper) : befs (os ++ [o]) = befStep (befs os) o := by simp [befs]
theorem befs_len : ∀ os : List Oper, (befs os).length = os.length := by
  intro os
  induction os using snocInd with
  | h0 => rfl
  | h1 os o ih => rw [befs_snoc]; simp [befStep, ih]
theorem befs_get : ∀ (os : List Oper) (i : Nat) (o : Oper), os[i]? = some o → bef (befs os) i = o.after.toList.flatMap fun e => bif Region.binds .any e then e.on :: (((befs os).take i)[e.on]?).getD [] else [] := by
  intro os
  induction os using snocInd with
  | h0 => intro i o h; simp at h
  | h1 os p ih =>
    intro i o h
    rw [befs_snoc]
    by_cases hi : i < os.length
    · rw [List.getElem?_append_left hi] at h
      have := ih i o h
      have hl : i < (befs os).length := by rw [befs_len]; exact hi
      unfold bef at this ⊢
      rw [befStep, List.getElem?_append_left hl, this, List.take_append_of_le_length (Nat.le_of_lt hl)]
    · have hi' : i = os.length := by
        have := (List.getElem?_eq_some_iff.1 h).1
        simp at this; omega
      subst hi'
      simp at h
      subst h
      unfold bef
      have hl : (befs os).length = os.length := befs_len os
      rw [befStep, ← hl, List.getElem?_append_right (Nat.le_refl _), Nat.sub_self, List.getElem?_cons_zero, Option.getD_some, List.take_left]

/-- what is done so far holds with each operation all that it waits for -/
def Closed (os : List Oper) (S : Nat → Bool) : Prop := ∀ j o, os[j]? = some o → S j = true → ∀ e, e ∈ o.after.toList → Region.binds .any e = true → S e.on = true
theorem bef_sub {os : List Oper} {S : Nat → Bool} (hc : Closed os S) : ∀ (j : Nat) (o : Oper), os[j]? = some o → (∀ e, e ∈ o.after.toList → Region.binds .any e = true → S e.on = true) → ∀ q, q ∈ bef (befs os) j → S q = true := by
  intro j
  induction j using Nat.strongRecOn with
  | _ j ih =>
    intro o ho he q hq
    rw [befs_get os j o ho] at hq
    obtain ⟨e, hem, hq⟩ := List.mem_flatMap.1 hq
    by_cases hb : Region.binds .any e = true
    · rw [hb, cond_true] at hq
      have hS := he e hem hb
      rcases List.mem_cons.1 hq with rfl | hq
      · exact hS
      · rw [List.getElem?_take] at hq
        by_cases hlt : e.on < j
        · rw [if_pos hlt] at hq
          have hjl := (List.getElem?_eq_some_iff.1 ho).1
          have hlo : e.on < os.length := by omega
          exact ih e.on hlt os[e.on] (List.getElem?_eq_getElem hlo) (fun e' he' hb' => hc e.on _ (List.getElem?_eq_getElem hlo) hS e' he' hb') q hq
        · rw [if_neg hlt] at hq; simp at hq
    · rw [Bool.eq_false_iff.2 hb, cond_false] at hq; simp at hq
theorem backOk_spec {os : List Oper} (h : backOk os = true) {i : Nat} {o : Oper} (hi : os[i]? = some o) : ∀ e, e ∈ o.after.toList → Region.binds .any e = true → e.on < i := by
  intro e he hb
  unfold backOk at h
  have := List.all_eq_true.1 h (o, i) (List.mem_zipIdx_iff_getElem?.2 hi)
  have := List.all_eq_true.1 this e he
  simpa [hb] using this
theorem bef_lt {os : List Oper} (h : backOk os = true) : ∀ (j : Nat) (o : Oper), os[j]? = some o → ∀ q, q ∈ bef (befs os) j → q < j := by
  intro j
  induction j using Nat.strongRecOn with
  | _ j ih =>
    intro o ho q hq
    rw [befs_get os j o ho] at hq
    obtain ⟨e, hem, hq⟩ := List.mem_flatMap.1 hq
    by_cases hb : Region.binds .any e = true
    · rw [hb, cond_true] at hq
      have hlt := backOk_spec h ho e hem hb
      rcases List.mem_cons.1 hq with rfl | hq
      · exact hlt
      · rw [List.getElem?_take, if_pos hlt] at hq
        have hjl := (List.getElem?_eq_some_iff.1 ho).1
        have hlo : e.on < os.length := by omega
        exact Nat.lt_trans (ih e.on hlt _ (List.getElem?_eq_getElem hlo) q hq) hlt
    · rw [Bool.eq_false_iff.2 hb, cond_false] at hq; simp at hq

/-! ### what an operation may see -/
theorem look_filter (p : Nat → Bool) (t : Nat) (c : CV) : ∀ T : List (Nat × CV), look (T.filter fun q => p q.1) t = some c → look T t = some c ∧ p t = true
  | [], h => by simp [look] at h
  | (i, v) :: T, h => by
    rw [List.filter_cons] at h
    by_cases hp : p i = true
    · rw [if_pos hp, look_cons] at h
      rw [look_cons]
      split at h
      · rename_i e; subst e; rw [if_pos rfl]; exact ⟨h, hp⟩
      · rename_i e; rw [if_neg e]; exact look_filter p t c T h
    · rw [if_neg hp] at h
      rw [look_cons]
      obtain ⟨h1, h2⟩ := look_filter p t c T h
      by_cases e : i = t
      · subst e; exact absurd h2 hp
      · rw [if_neg e]; exact ⟨h1, h2⟩
def hideB : Option Blk → Option Blk
  | some (.arr _ _ _) => none
  | b => b
theorem look_hide : ∀ (H : Hp) (y : Nat), look (hideArr H) y = (look H y).map hideB
  | [], y => rfl
  | (x, b) :: H, y => by
    have : hideArr ((x, b) :: H) = (x, hideB b) :: hideArr H := by
      unfold hideArr
      rw [List.map_cons]
      congr 1
      cases b with
      | none => rfl
      | some b => cases b <;> rfl
    rw [this, look_cons, look_cons, look_hide H y]
    split <;> rfl
theorem view_T {ops : Array Oper} {os : List Oper} {B : List (List Nat)} {i : Nat} {o : Oper} {st : St} {t : Nat} {c : CV} (h : look (view ops os B i o st).T t = some c) : look st.T t = some c ∧ (readsOf ops o).contains t = true :=
  look_filter (fun q => (readsOf ops o).contains q) t c st.T h
theorem view_H {ops : Array Oper} {os : List Oper} {B : List (List Nat)} {i : Nat} {o : Oper} {st : St} {y : Nat} {b : Blk} (h : get (view ops os B i o st).H y = some b) : get st.H y = some b := by
  unfold view at h
  simp only at h
  by_cases hn : noHeap o.op = true
  · rw [hn, cond_true] at h; cases h
  · rw [Bool.eq_false_iff.2 hn, cond_false] at h
    revert h
    cases (isLoad o.op && (List.range os.length).any fun j => !Nat.beq j i && !ord B i j && (match os[j]? with | some p => isStore p.op | none => false)) with
    | false => exact fun h => h
    | true =>
      intro h
      rw [cond_true, get_eq, look_hide] at h
      rw [get_eq]
      cases hl : look st.H y with
      | none => rw [hl] at h; cases h
      | some q =>
        rw [hl] at h
        cases q with
        | none => cases h
        | some q => cases q <;> first | exact h | cases h
theorem view_none {ops : Array Oper} {os : List Oper} {B : List (List Nat)} {i : Nat} {o : Oper} {st : St} {y : Nat} (hn : noHeap o.op = false) (h : look (view ops os B i o st).H y = none) : look st.H y = none := by
  unfold view at h
  simp only [hn, cond_false] at h
  revert h
  cases (isLoad o.op && (List.range os.length).any fun j => !Nat.beq j i && !ord B i j && (match os[j]? with | some p => isStore p.op | none => false)) with
  | false => exact fun h => h
  | true =>
    intro h
    rw [cond_true, look_hide] at h
    cases hl : look st.H y with
    | none => rfl
    | some q => rw [hl] at h; cases h

theorem draw_run {E : Env} {ops : Array Oper} {os : List Oper} {gs : List Nat} {B : List (List Nat)} {base : St} {R : Type} {K : St → Option R} {r : R} : ∀ (rest : List (Nat × Oper)) (us0 : List (Nat × U)), drawK E ops os gs B rest base us0 K = some r →
    ∃ us1 : List (Nat × U), us1.length = rest.length ∧ (∀ k i o, rest[k]? = some (i, o) → ∃ u, us1[k]? = some (i, u) ∧ Alike E ops o (viewAt ops os B base (us0 ++ us1.take k) i o) u) ∧ segOk ops os B base (us0 ++ us1) = true ∧ K (appAll base (us0 ++ us1)) = some r
  | [], us0, h => by
    simp only [drawK] at h
    by_cases hs : segOk ops os B base us0 = true
    · rw [hs, cond_true] at h
      exact ⟨[], rfl, by simp, by simpa using hs, by simpa using h⟩
    · rw [Bool.eq_false_iff.2 hs] at h; cases h
  | (i, o) :: rest, us0, h => by
    simp only [drawK] at h
    obtain ⟨u, hK, ha⟩ := opS_alike h
    obtain ⟨us1, e1, e2, e3, e4⟩ := draw_run rest (us0 ++ [(i, u)]) hK
    refine ⟨(i, u) :: us1, by simp [e1], fun k i' o' hk => ?_, by simpa using e3, by simpa using e4⟩
    cases k with
    | zero =>
      simp only [List.getElem?_cons_zero, Option.some.injEq, Prod.mk.injEq] at hk
      obtain ⟨rfl, rfl⟩ := hk
      exact ⟨u, rfl, by simpa using ha⟩
    | succ k =>
      obtain ⟨u', h1, h2⟩ := e2 k i' o' (by simpa using hk)
      exact ⟨u', by simpa using h1, by simpa using h2⟩
end Go.Proofs.Ytnfgfdeidkhdkaa.Eng
