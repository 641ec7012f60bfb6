/- The engine's soundness, twelfth part: one operation, a region in the text's order. -/
import Derived.Test.YtnfgfdeidkhdkaaEm
namespace Go.Proofs.Ytnfgfdeidkhdkaa.Eng
open Go.RowKit (Below)
set_option linter.unusedVariables false
set_option linter.unusedSimpArgs false

/-- what a function's run leans on -/
structure Ok (B : Base) (E : Env) : Prop where
  sem : SemOk E.sem
  mem : MemOk E.msem
  may : (∀ b, ¬ B.mayW b) ∨ E.kill = []
  low : B.pin = none ∨ 0 < E.low
  may2 : (∀ b, ¬ B.mayW b) ∨ 0 < E.low
/-- a tmp that is written -/
theorem Ok.dst {B : Base} {E : Env} (hE : Ok B E) {d : Nat} (h : (Nat.blt d E.nt && Nat.ble E.low d) = true) : d < E.nt ∧ (B.pin = none ∨ d ≠ 0) := by
  simp only [Bool.and_eq_true, Nat.blt_eq, Nat.ble_eq] at h
  refine ⟨h.1, hE.low.imp id fun hl => ?_⟩
  omega

theorem op1_sound {B : Base} {E : Env} (hE : Ok B E) {st : St} {a : Act} {w : World} (h : Sim B E.nt st a w) (o : Oper) {R : Type} {K : U → Option R} {r : R} (hq : op1 E o st K = some r) :
    ∃ u, K u = some r ∧ ∀ (Kc : Act → World → Prop) (Q : Exit → Act → World → Prop), (∀ a' w', Sim B E.nt (st.app u) a' w' → Kc a' w') → o.wp P a w Kc Q := by
  obtain ⟨R0, lv, loc, h⟩ := h
  unfold op1 at hq
  split at hq
  · rename_i d hd
    by_cases hlt : (Nat.blt d E.nt && Nat.ble E.low d) = true
    · rw [hlt, cond_true] at hq
      obtain ⟨hdn, hdp⟩ := hE.dst hlt
      by_cases hw : isW E o.op st.T = true
      · rw [hw, cond_true] at hq
        obtain ⟨c, H', hK, hwr⟩ := wop_sound h hE.sem hE.mem hE.may hE.may2 o hw hq
        by_cases hx : (!isApp o.op || (look st.H (8 * d)).isNone) = true
        · rw [hx, cond_true] at hK
          have hx' : isApp o.op = false ∨ look st.H (8 * d) = none := by simpa using hx
          refine ⟨_, hK, fun Kc Q hKc => hwr hx' Kc Q fun D v ⟨hs, hv, hn⟩ => ?_⟩
          rw [hd]
          exact hKc _ _ ⟨D.R, D.lv, D.loc, hs.put hv hn hdn hdp⟩
        · rw [Bool.eq_false_iff.2 hx] at hK; cases hK
      · rw [Bool.eq_false_iff.2 hw, cond_false] at hq
        obtain ⟨c, bs, hK, hwr⟩ := quiet_sound h hE.sem o hq
        by_cases hx : (freshB st.H (8 * d) bs && Nat.ble bs.length 8) = true
        · rw [hx, cond_true] at hK
          simp only [Bool.and_eq_true] at hx
          have hfr := fresh_none hx.1
          refine ⟨_, hK, fun Kc Q hKc => hwr hfr Kc Q fun D v q => ?_⟩
          rw [hd]
          exact hKc _ _ ⟨D.R, D.lv, D.loc, h.quiet q hfr hdn hdp⟩
        · rw [Bool.eq_false_iff.2 hx] at hK; cases hK
    · rw [Bool.eq_false_iff.2 hlt] at hq; cases hq
  · rename_i hd
    by_cases hw : (isW E o.op st.T && !isApp o.op) = true
    · rw [hw, cond_true] at hq
      simp only [Bool.and_eq_true, Bool.not_eq_true'] at hw
      obtain ⟨c, H', hK, hwr⟩ := wop_sound h hE.sem hE.mem hE.may hE.may2 o hw.1 hq
      refine ⟨_, hK, fun Kc Q hKc => hwr (.inl hw.2) Kc Q fun D v ⟨hs, hv, hn⟩ => ?_⟩
      rw [hd]
      exact hKc _ _ ⟨D.R, D.lv, D.loc, hs⟩
    · rw [Bool.eq_false_iff.2 hw] at hq; cases hq

theorem opG_sound {B : Base} {E : Env} (hE : Ok B E) {st : St} {a : Act} {w : World} (h : Sim B E.nt st a w) {ops : Array Oper} {i : Nat} {o : Oper} (hi : ops[i]? = some o) {R : Type} {K : U → Option R} {r : R} (hq : opG E ops o st K = some r) :
    ∃ u, K u = some r ∧ ∀ (Kc : Act → World → Prop) (Q : Exit → Act → World → Prop), (∀ a' w', Sim B E.nt (st.app u) a' w' → Kc a' w') → wpOp P ops Q i Kc a w := by
  have skip : Region.wanted o (yielded ops a.tmps) = false → Sim B E.nt st a w → skipU E o K = some r → ∃ u, K u = some r ∧ ∀ (Kc : Act → World → Prop) (Q : Exit → Act → World → Prop), (∀ a' w', Sim B E.nt (st.app u) a' w' → Kc a' w') → wpOp P ops Q i Kc a w := by
    rintro hw ⟨R0, lv, loc, h'⟩ hq
    unfold skipU at hq
    split at hq
    · rename_i d' hd'
      by_cases hlt : (Nat.blt d' E.nt && Nat.ble E.low d') = true
      · rw [hlt, cond_true] at hq
        obtain ⟨hdn, hdp⟩ := hE.dst hlt
        refine ⟨_, hq, fun Kc Q hKc => ?_⟩
        unfold wpOp
        simp only [hi, hw]
        simp only [Bool.false_eq_true, if_false]
        rw [hd']
        exact hKc _ _ ⟨R0, lv, loc, h'.put (c := .tup []) ⟨#[], rfl, trivial⟩ (by simp [n2]) hdn hdp⟩
      · rw [Bool.eq_false_iff.2 hlt] at hq; cases hq
    · rename_i hd'
      refine ⟨_, hq, fun Kc Q hKc => ?_⟩
      unfold wpOp
      simp only [hi, hw]
      simp only [Bool.false_eq_true, if_false]
      rw [hd']
      exact hKc _ _ ⟨R0, lv, loc, h'⟩
  unfold opG at hq
  split at hq
  · rename_i hg
    obtain ⟨u, hK, hs⟩ := op1_sound hE h o hq
    refine ⟨u, hK, fun Kc Q hKc => ?_⟩
    unfold wpOp
    simp only [hi, Region.wanted, hg, if_true]
    exact .inl (hs Kc Q hKc)
  · rename_i g want hg
    split at hq
    · cases hq
    · rename_i d hd
      split at hq
      · rename_i b hb
        obtain ⟨R0, lv, loc, h'⟩ := h
        obtain ⟨v, hv, hr⟩ := h'.tm d _ hb
        obtain rfl : v = .bool b := hr
        have hy : yielded ops a.tmps g = some b := by simp [yielded, hd, hv]
        have hw : Region.wanted o (yielded ops a.tmps) = (b == want) := by
          simp only [Region.wanted, hg, hy]
          cases b <;> cases want <;> rfl
        by_cases hbw : (b == want) = true
        · rw [hbw, cond_true] at hq
          obtain ⟨u, hK, hs⟩ := op1_sound hE ⟨R0, lv, loc, h'⟩ o hq
          refine ⟨u, hK, fun Kc Q hKc => ?_⟩
          unfold wpOp
          simp only [hi, hw, hbw, if_true]
          exact .inl (hs Kc Q hKc)
        · rw [Bool.eq_false_iff.2 hbw, cond_false] at hq
          exact skip (by rw [hw]; exact Bool.eq_false_iff.2 hbw) ⟨R0, lv, loc, h'⟩ hq
      · rename_i hb
        obtain ⟨R0, lv, loc, h'⟩ := h
        obtain ⟨v, hv, vs, rfl, hvs⟩ := h'.tm d _ hb
        have hy : yielded ops a.tmps g = none := by simp [yielded, hd, hv]
        exact skip (by simp [Region.wanted, hg, hy]) ⟨R0, lv, loc, h'⟩ hq
      · cases hq
theorem splitK_sound {R : Type} {g : Bool} {u : U} {K : U → Option R} {r : R} (h : splitK g u K = some r) : K u = some r := by
  unfold splitK at h
  split at h
  · rename_i d b
    cases b
    · exact h
    · exact h
  · exact h
theorem opS_sound {B : Base} {E : Env} (hE : Ok B E) {st : St} {a : Act} {w : World} (h : Sim B E.nt st a w) {ops : Array Oper} {gs : List Nat} {i : Nat} {o : Oper} (hi : ops[i]? = some o) {R : Type} {K : U → Option R} {r : R} (hq : opS E ops gs o st K = some r) :
    ∃ u, K u = some r ∧ ∀ (Kc : Act → World → Prop) (Q : Exit → Act → World → Prop), (∀ a' w', Sim B E.nt (st.app u) a' w' → Kc a' w') → wpOp P ops Q i Kc a w := by
  obtain ⟨u, hK, hs⟩ := opG_sound hE h hi hq
  exact ⟨u, splitK_sound hK, hs⟩
theorem seqK_sound {B : Base} {E : Env} (hE : Ok B E) {ops : Array Oper} {gs : List Nat} {R : Type} {K : St → Option R} {r : R} {Q : Exit → Act → World → Prop} (hQ : ∀ st' a' w', K st' = some r → Sim B E.nt st' a' w' → Q .normal a' w') :
    ∀ (os : List Oper) (n : Nat), (∀ i, os[i]? = ops[n + i]?) → ∀ {st : St} {a : Act} {w : World}, Sim B E.nt st a w → seqK E ops gs os st K = some r → wpOps P ops Q (List.range' n os.length) a w
  | [], n, _, st, a, w, h, hq => by
    simp only [List.length_nil, List.range'_zero, wpOps]
    exact hQ st a w hq h
  | o :: os, n, ho, st, a, w, h, hq => by
    simp only [seqK] at hq
    have hi : ops[n]? = some o := by simpa using (ho 0).symm
    obtain ⟨u, hK, hs⟩ := opS_sound hE h hi hq
    simp only [List.length_cons, List.range'_succ, wpOps_cons]
    refine hs _ Q fun a' w' h' => seqK_sound hE hQ os (n + 1) (fun i => ?_) h' hK
    have := ho (i + 1)
    rw [List.getElem?_cons_succ] at this
    rw [this]; congr 1; omega
theorem seq_region {B : Base} {E : Env} (hE : Ok B E) {ops : Array Oper} {gs : List Nat} {R : Type} {K : St → Option R} {r : R} {Q : Exit → Act → World → Prop} (hQ : ∀ st' a' w', K st' = some r → Sim B E.nt st' a' w' → Q .normal a' w')
    {st : St} {a : Act} {w : World} (h : Sim B E.nt st a w) (hq : seqK E ops gs ops.toList st K = some r) (id : Nat) : (Code.region id ops false).wp P Q a w := by
  refine wp_region ?_
  have := seqK_sound hE hQ ops.toList 0 (fun i => by simp) h hq
  rwa [← List.range_eq_range', Array.length_toList] at this
end Go.Proofs.Ytnfgfdeidkhdkaa.Eng
