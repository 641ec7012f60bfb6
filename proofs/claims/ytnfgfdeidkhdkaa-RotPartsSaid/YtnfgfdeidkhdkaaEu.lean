/- The engine's soundness, nineteenth part: code. -/
import Derived.Test.YtnfgfdeidkhdkaaEt
import Derived.LoopN
import Derived.Scope
namespace Go.Proofs.Ytnfgfdeidkhdkaa.Eng
open Go.RowKit (Below)
set_option linter.unusedVariables false
set_option linter.unusedSimpArgs false

theorem regK_sound {B : Base} {E : Env} (hE : Ok B E) {ops : Array Oper} {draw : Bool} {R : Type} {K : St → Option R} {r : R} {Q : Exit → Act → World → Prop} (hQ : ∀ st' a' w', K st' = some r → Sim B E.nt st' a' w' → Q .normal a' w')
    {st : St} {a : Act} {w : World} (h : Sim B E.nt st a w) (hq : regK E ops draw st K = some r) (id : Nat) : (Code.region id ops draw).wp P Q a w := by
  cases draw with
  | false => exact seq_region hE hQ h hq id
  | true =>
    simp only [regK] at hq
    by_cases hs : statOk ops ops.toList (befs ops.toList) = true
    · rw [hs, cond_true] at hq
      exact draw_region hE hQ h hs hq id
    · rw [Bool.eq_false_iff.2 hs] at hq; cases hq

theorem normL_sound {B : Base} {E : Env} {st : St} {a : Act} {w : World} (h : Sim B E.nt st a w) {c : Code} {R : Type} {K : St → Option R} {r : R} (hq : normL E c st K = some r) : ∃ st', K st' = some r ∧ Sim B E.nt st' a w := by
  unfold normL at hq
  split at hq
  · exact ⟨st, hq, h⟩
  · exact norm_sound h hq
theorem exK_sound {B : Base} {E : Env} (hE : Ok B E) {R : Type} {r : R} : ∀ (c : Code) {kn : St → Option R} {ke : Nat → St → Option R} {kr : St → Option R} {st : St} {a : Act} {w : World} {Q : Exit → Act → World → Prop},
    (∀ st' a' w', kn st' = some r → Sim B E.nt st' a' w' → Q .normal a' w') → (∀ i st' a' w', ke i st' = some r → Sim B E.nt st' a' w' → Q (.exit i) a' w') → (∀ st' a' w', kr st' = some r → Sim B E.nt st' a' w' → Q .ret a' w') →
    Sim B E.nt st a w → exK E c kn ke kr st = some r → c.wp P Q a w := by
  intro c
  induction c with
  | skip =>
    intro kn ke kr st a w Q hn he hr h hq
    exact wp_skip (hn st a w hq h)
  | region id ops draw =>
    intro kn ke kr st a w Q hn he hr h hq
    simp only [exK] at hq
    split at hq
    · exact regK_sound hE hn h hq id
    · obtain ⟨st', hq, h'⟩ := norm_sound h hq
      exact regK_sound hE hn h' hq id
  | seq x y ihx ihy =>
    intro kn ke kr st a w Q hn he hr h hq
    simp only [exK] at hq
    exact wp_seq (ihx (kn := fun st => exK E y kn ke kr st) (fun st' a' w' hk hs => ihy hn he hr hs hk) he hr h hq)
  | cond c x y ihx ihy =>
    intro kn ke kr st a w Q hn he hr h hq
    simp only [exK] at hq
    split at hq
    · rename_i t ht
      obtain ⟨R0, lv, loc, h'⟩ := h
      have hv : a.eval c = .bool t := (ev_sound h' ht).1
      refine wp_cond hv ?_
      cases t with
      | true => exact ihx hn he hr ⟨R0, lv, loc, h'⟩ hq
      | false => exact ihy hn he hr ⟨R0, lv, loc, h'⟩ hq
    · cases hq
  | block id c ih =>
    intro kn ke kr st a w Q hn he hr h hq
    simp only [exK] at hq
    refine wp_block (ih (ke := fun i st => bif Nat.beq i id then kn st else ke i st) (fun st' a' w' hk hs => hn st' a' w' hk hs) (fun i st' a' w' hk hs => ?_) (fun st' a' w' hk hs => hr st' a' w' hk hs) h hq)
    simp only [Exit.inBlock]
    by_cases e : i = id
    · subst e
      have : Nat.beq i i = true := Nat.beq_refl i
      rw [this, cond_true] at hk
      rw [if_pos rfl]
      exact hn st' a' w' hk hs
    · have : Nat.beq i id = false := Bool.eq_false_iff.2 fun e' => e (Nat.eq_of_beq_eq_true e')
      rw [this, cond_false] at hk
      rw [if_neg e]
      exact he i st' a' w' hk hs
  | loop c ih =>
    intro kn ke kr st a w Q hn he hr h hq
    simp only [exK] at hq
    refine wp_loop_rounds E.fuel ?_
    revert hq h
    generalize E.fuel = n
    induction n generalizing st a w with
    | zero => intro h hq; cases hq
    | succ n ihn =>
      intro h hq
      simp only [loopK] at hq
      rw [rounds_succ]
      obtain ⟨st1, hq, h⟩ := normL_sound h hq
      exact ih (kn := loopK (normL E c) (fun again st => exK E c again ke kr st) n) (fun st' a' w' hk hs => ihn hs hk) he hr h hq
  | exit id =>
    intro kn ke kr st a w Q hn he hr h hq
    exact wp_exit (he id st a w hq h)
  | scope c ih =>
    intro kn ke kr st a w Q hn he hr h hq
    exact wp_scope_straight (ih (Q := Exit.noGoto Q) hn he hr h hq)
  | label l =>
    intro kn ke kr st a w Q hn he hr h hq
    exact wp_label (hn st a w hq h)
  | ret =>
    intro kn ke kr st a w Q hn he hr h hq
    exact wp_ret (hr st a w hq h)
  | rangeFunc f ps x y _ _ => intro kn ke kr st a w Q hn he hr h hq; cases hq
  | goto l => intro kn ke kr st a w Q hn he hr h hq; cases hq
  | refuse why => intro kn ke kr st a w Q hn he hr h hq; cases hq

/-! ### a function's begin -/
theorem look_part : ∀ (vs : List CV) (i t : Nat), look (parT i vs) t = if i ≤ t then vs[t - i]? else none
  | [], i, t => by simp [parT, look]
  | v :: vs, i, t => by
    simp only [parT]
    rw [look_cons, look_part vs (i + 1) t]
    by_cases e : i = t
    · subst e; simp
    · rw [if_neg e]
      by_cases h : i + 1 ≤ t
      · rw [if_pos h, if_pos (by omega), show t - i = (t - (i + 1)) + 1 by omega, List.getElem?_cons_succ]
      · rw [if_neg h, if_neg (by omega)]
theorem byV_names {w : World} {R : Nat → Prop} {C : Cx} (hw : C.w = w) (hR : ∀ b, R b → C.R b) (hl : ∀ x, ¬ C.lv x) {c : CV} {v : Value} (h : valR (byV w R) c v) : valR C c v := by
  subst hw
  exact valR_tr (C := byV C.w R) (D := C) (N := fun _ => True) ⟨fun _ _ => rfl, hR, fun x _ hx => (hl x hx).elim⟩ (fun _ _ => trivial) h
/-- arguments name no block -/
def noNames (args : List CV) : Bool := args.all fun c => (n2 c).isEmpty
theorem begin_sound {w : World} {R : Nat → Prop} (hR : ∀ b, R b → b < w.heap.size) {args : List CV} {vs : Array Value} (ha : All2 (valR (byV w R)) args vs.toList) (hn : noNames args = true) (nt : Nat) (hle : vs.size ≤ nt) :
    SimL ⟨w, R, fun _ => False, none⟩ nt ⟨w, R, fun _ => False, fun _ => none⟩ ⟨parT 0 args, []⟩ { tmps := vs ++ Array.replicate (nt - vs.size) undef, defers := [] } := by
  have hlen := ha.length
  constructor
  · simp; omega
  · rfl
  · rfl
  · rfl
  · rfl
  · exact Nat.le_refl _
  · exact fun _ _ _ => rfl
  · exact fun _ h => h
  · exact hR
  · exact fun _ h => .inl h
  · intro x; simp [look]
  · intro t c hc
    simp only [look_part, Nat.zero_le, if_true, Nat.sub_zero] at hc
    obtain ⟨v, hv, hr⟩ := ha.get hc
    have hv' : vs[t]? = some v := by simpa using hv
    have hlt := (Array.getElem?_eq_some_iff.1 hv').1
    exact ⟨v, by rw [Array.getElem?_append_left hlt]; exact hv', hr⟩
  · intro x b hb; simp [look] at hb
  · intro x y L M hx; exact hx.elim
  · intro t c hc x hx
    simp only [look_part, Nat.zero_le, if_true, Nat.sub_zero] at hc
    have := List.all_eq_true.1 hn c (List.mem_of_getElem? hc)
    simp only [List.isEmpty_iff] at this
    rw [this] at hx; simp at hx
  · intro y b hb; simp [look] at hb
  · intro v hv; cases hv

/-! ### a function's end -/
def readR (tmps : Array Value) : ResultVar → Sem Value
  | .tmp t => pure (tmps.getD t undef)
  | .cell a t => do loadVar t (← asAddr (tmps.getD a undef))
theorem resOf_sound {B : Base} {nt : Nat} {C : Cx} {st : St} {a : Act} (h : SimL B nt C st a) {rv : ResultVar} {c : CV} (hc : resOf st rv = some c) : ∃ v, (readR a.tmps rv).run P C.w = .ok v C.w ∧ valR C c v ∧ (∀ y, y ∈ n2 c → ∃ o, look st.H y = some o) := by
  cases rv with
  | tmp t =>
    obtain ⟨v, hv, hr⟩ := h.tm t c hc
    refine ⟨v, ?_, hr, h.nmT t c hc⟩
    have : a.tmps.getD t undef = v := by simp [Array.getD_eq_getD_getElem?, hv]
    simp [readR, this]
  | cell p t =>
    simp only [resOf] at hc
    split at hc
    · rename_i q hq
      obtain ⟨v, hv, hr⟩ := h.tm p q hq
      obtain ⟨c', hk, u, hu, hr', hn⟩ := loadK_sound h hr (h.nmT p q hq) hc
      cases hk
      refine ⟨u, ?_, hr', hn⟩
      have : a.tmps.getD p undef = v := by simp [Array.getD_eq_getD_getElem?, hv]
      have hs : ∀ {x : Value} {w' : World}, (Instr.loadAt t v).run P C.w = .ok x w' → (do loadVar t (← asAddr v) : Sem Value).run P C.w = .ok x w' := by
        intro x w' hx
        cases v with
        | pointer ad =>
          cases ad with
          | none => simp [Instr.loadAt, Instr.sureAddr] at hx
          | some ad => simpa [Instr.loadAt, Instr.sureAddr, asAddr] using hx
        | _ => simp [Instr.loadAt, Instr.sureAddr] at hx
      simp only [readR, this]
      exact hs hu
    · cases hc
theorem ress_sound {B : Base} {nt : Nat} {C : Cx} {st : St} {a : Act} (h : SimL B nt C st a) : ∀ {rs : List ResultVar} {cs : List CV}, ress st rs = some cs → ∃ vs : List Value, (rs.mapM (readR a.tmps)).run P C.w = .ok vs C.w ∧ All2 (valR C) cs vs ∧ ∀ c, c ∈ cs → ∀ y, y ∈ n2 c → ∃ o, look st.H y = some o
  | [], cs, hc => by simp only [ress, Option.some.injEq] at hc; subst hc; exact ⟨[], by simp, trivial, by simp⟩
  | rv :: rs, cs, hc => by
    simp only [ress] at hc
    split at hc
    · cases hc
    · rename_i c hc'
      split at hc
      · cases hc
      · rename_i cs' hcs
        cases hc
        obtain ⟨v, hv, hr, hn⟩ := resOf_sound h hc'
        obtain ⟨vs, hvs, hrs, hns⟩ := ress_sound h hcs
        refine ⟨v :: vs, by simp [List.mapM_cons, hv, hvs], ⟨hr, hrs⟩, fun d hd => ?_⟩
        rcases List.mem_cons.1 hd with rfl | hd
        · exact hn
        · exact hns d hd
theorem results_run {fn : Func} {tmps : Array Value} {w : World} {vs : List Value} (h : (fn.results.toList.mapM (readR tmps)).run P w = .ok vs w) : (results fn tmps).run P w = .ok (if h : vs.length = 1 then vs[0] else .tuple vs.toArray) w := by
  have e : fn.results.mapM (readR tmps) = List.toArray <$> fn.results.toList.mapM (readR tmps) := Array.mapM_eq_mapM_toList
  have e2 : (results fn tmps) = (do let vs ← fn.results.mapM (readR tmps); pure (if h : vs.size = 1 then vs[0] else .tuple vs)) := by
    unfold results
    congr 1
  rw [e2, e]
  simp [h]
end Go.Proofs.Ytnfgfdeidkhdkaa.Eng
