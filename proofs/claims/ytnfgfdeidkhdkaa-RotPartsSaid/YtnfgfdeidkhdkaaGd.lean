/- A function's run from loop to loop: what a piece of code comes to, up to the next loop's head or the function's end, is told as data; what a loop's head leads to is told of every large number of rounds. -/
import Derived.Test.YtnfgfdeidkhdkaaEv
namespace Go.Proofs.Ytnfgfdeidkhdkaa.Eng
set_option linter.unusedVariables false

/-! ### what comes behind does not matter -/
theorem le_refl' (s : St) : s.le s := ⟨fun _ _ h => h, fun _ _ h => h⟩
theorem quiet_nat {s : St} {sem : Sems} {o : Op} {ty x : Nat} {R : Type} {K : CV → List Blk → Option R} {r : R} (h : quiet sem o ty x s K = some r) :
    ∃ c bs, K c bs = some r ∧ ∀ {S : Type} (K' : CV → List Blk → Option S), quiet sem o ty x s K' = K' c bs := by
  obtain ⟨c, bs, h1, -, h3⟩ := quiet_uni h
  exact ⟨c, bs, h1, fun K' => h3 (le_refl' s) K'⟩
theorem wop_nat {s : St} {E : Env} {o : Op} {x : Nat} {R : Type} {K : CV → Hp → Option R} {r : R} (h : wop E o x s K = some r) :
    ∃ c H, K c H = some r ∧ ∀ {S : Type} (K' : CV → Hp → Option S), wop E o x s K' = K' c H := by
  obtain ⟨c, bs, h1, -, h3⟩ := wop_uni h
  exact ⟨c, bs, h1, fun K' => h3 (le_refl' s) K'⟩
theorem op1_nat {E : Env} {o : Oper} {s : St} {R : Type} {K : U → Option R} {r : R} (h : op1 E o s K = some r) : ∃ u, K u = some r ∧ ∀ {S : Type} (K' : U → Option S), op1 E o s K' = K' u := by
  unfold op1 at h
  split at h
  · rename_i d hd
    by_cases hlt : (Nat.blt d E.nt && Nat.ble E.low d) = true
    · rw [hlt, cond_true] at h
      by_cases hw : isW E o.op s.T = true
      · rw [hw, cond_true] at h
        obtain ⟨c, H, hK, e⟩ := wop_nat h
        by_cases hx : (!isApp o.op || (look s.H (8 * d)).isNone) = true
        · rw [hx, cond_true] at hK
          refine ⟨_, hK, fun K' => ?_⟩
          unfold op1
          simp only [hd, hlt, cond_true, hw, e, hx]
        · rw [Bool.eq_false_iff.2 hx] at hK; cases hK
      · rw [Bool.eq_false_iff.2 hw, cond_false] at h
        obtain ⟨c, bs, hK, e⟩ := quiet_nat h
        by_cases hx : (freshB s.H (8 * d) bs && Nat.ble bs.length 8) = true
        · rw [hx, cond_true] at hK
          refine ⟨_, hK, fun K' => ?_⟩
          unfold op1
          simp only [hd, hlt, cond_true, Bool.eq_false_iff.2 hw, cond_false, e, hx]
        · rw [Bool.eq_false_iff.2 hx] at hK; cases hK
    · rw [Bool.eq_false_iff.2 hlt] at h; cases h
  · rename_i hd
    by_cases hw : (isW E o.op s.T && !isApp o.op) = true
    · rw [hw, cond_true] at h
      obtain ⟨c, H, hK, e⟩ := wop_nat h
      refine ⟨_, hK, fun K' => ?_⟩
      unfold op1
      simp only [hd, hw, cond_true, e]
    · rw [Bool.eq_false_iff.2 hw] at h; cases h
theorem skipU_nat {E : Env} {o : Oper} {R : Type} {K : U → Option R} {r : R} (h : skipU E o K = some r) : ∃ u, K u = some r ∧ ∀ {S : Type} (K' : U → Option S), skipU E o K' = K' u := by
  unfold skipU at h
  split at h
  · rename_i d' hd'
    by_cases hlt : (Nat.blt d' E.nt && Nat.ble E.low d') = true
    · rw [hlt, cond_true] at h
      exact ⟨_, h, fun K' => by simp only [skipU, hd', hlt, cond_true]⟩
    · rw [Bool.eq_false_iff.2 hlt] at h; cases h
  · rename_i hd'
    exact ⟨_, h, fun K' => by simp only [skipU, hd']⟩
theorem opG_nat {E : Env} {ops : Array Oper} {o : Oper} {s : St} {R : Type} {K : U → Option R} {r : R} (h : opG E ops o s K = some r) : ∃ u, K u = some r ∧ ∀ {S : Type} (K' : U → Option S), opG E ops o s K' = K' u := by
  unfold opG at h
  split at h
  · rename_i hg
    obtain ⟨u, hK, a⟩ := op1_nat h
    refine ⟨u, hK, fun K' => ?_⟩
    unfold opG
    simp only [hg]
    exact a K'
  · rename_i g want hg
    split at h
    · cases h
    · rename_i d hd
      split at h
      · rename_i b hb
        by_cases hbw : (b == want) = true
        · rw [hbw, cond_true] at h
          obtain ⟨u, hK, a⟩ := op1_nat h
          refine ⟨u, hK, fun K' => ?_⟩
          unfold opG
          simp only [hg, hd, hb, hbw, cond_true]
          exact a K'
        · rw [Bool.eq_false_iff.2 hbw, cond_false] at h
          obtain ⟨u, hK, a⟩ := skipU_nat h
          refine ⟨u, hK, fun K' => ?_⟩
          unfold opG
          simp only [hg, hd, hb, Bool.eq_false_iff.2 hbw, cond_false]
          exact a K'
      · rename_i hb
        obtain ⟨u, hK, a⟩ := skipU_nat h
        refine ⟨u, hK, fun K' => ?_⟩
        unfold opG
        simp only [hg, hd, hb]
        exact a K'
      · cases h
theorem splitK_eq {R : Type} (g : Bool) (u : U) (K : U → Option R) : splitK g u K = K u := by
  unfold splitK
  split
  · rename_i d b
    cases b <;> rfl
  · rfl
theorem opS_nat {E : Env} {ops : Array Oper} {gs : List Nat} {o : Oper} {s : St} {R : Type} {K : U → Option R} {r : R} (h : opS E ops gs o s K = some r) : ∃ u, K u = some r ∧ ∀ {S : Type} (K' : U → Option S), opS E ops gs o s K' = K' u := by
  unfold opS at h
  obtain ⟨u, hK, a⟩ := opG_nat h
  simp only [splitK_eq] at hK
  refine ⟨u, hK, fun K' => ?_⟩
  unfold opS
  rw [a, splitK_eq]
theorem seqK_nat {E : Env} {ops : Array Oper} {gs : List Nat} {R : Type} {K : St → Option R} {r : R} : ∀ (os : List Oper) (s : St), seqK E ops gs os s K = some r → ∃ u, K u = some r ∧ ∀ {S : Type} (K' : St → Option S), seqK E ops gs os s K' = K' u
  | [], s, h => ⟨s, h, fun _ => rfl⟩
  | o :: os, s, h => by
    simp only [seqK] at h
    obtain ⟨u, hK, a⟩ := opS_nat h
    obtain ⟨v, hv, b⟩ := seqK_nat os _ hK
    exact ⟨v, hv, fun K' => by simp only [seqK, a, b]⟩
theorem drawK_nat {E : Env} {ops : Array Oper} {os : List Oper} {gs : List Nat} {B : List (List Nat)} {R : Type} {base : St} {K : St → Option R} {r : R} : ∀ (rest : List (Nat × Oper)) (us : List (Nat × U)), drawK E ops os gs B rest base us K = some r → ∃ u, K u = some r ∧ ∀ {S : Type} (K' : St → Option S), drawK E ops os gs B rest base us K' = K' u
  | [], us, h => by
    simp only [drawK] at h
    by_cases hs : segOk ops os B base us = true
    · rw [hs, cond_true] at h
      exact ⟨_, h, fun K' => by simp only [drawK, hs, cond_true]⟩
    · rw [Bool.eq_false_iff.2 hs] at h; cases h
  | (i, o) :: rest, us, h => by
    simp only [drawK] at h
    obtain ⟨u, hK, a⟩ := opS_nat h
    obtain ⟨v, hv, b⟩ := drawK_nat rest _ hK
    exact ⟨v, hv, fun K' => by simp only [drawK, a, b]⟩
theorem regK_nat {E : Env} {ops : Array Oper} {d : Bool} {R : Type} {st : St} {K : St → Option R} {r : R} (h : regK E ops d st K = some r) : ∃ u, K u = some r ∧ ∀ {S : Type} (K' : St → Option S), regK E ops d st K' = K' u := by
  cases d with
  | false => exact seqK_nat _ _ h
  | true =>
    simp only [regK] at h
    by_cases hs : statOk ops ops.toList (befs ops.toList) = true
    · rw [hs, cond_true] at h
      obtain ⟨u, hu, a⟩ := drawK_nat _ _ h
      exact ⟨u, hu, fun K' => by simp only [regK, hs, cond_true, a]⟩
    · rw [Bool.eq_false_iff.2 hs] at h; cases h
theorem norm_nat {a : Ann} {R : Type} {st : St} {K : St → Option R} {r : R} (h : norm a st K = some r) : ∃ u, K u = some r ∧ ∀ {S : Type} (K' : St → Option S), norm a st K' = K' u := by
  unfold norm at h
  split at h
  · cases h
  · rename_i xs hx
    split at h
    · cases h
    · rename_i T hT
      split at h
      · cases h
      · rename_i H hH
        exact ⟨_, h, fun K' => by simp only [norm, hx, hT, hH]⟩
theorem normL_nat {E : Env} {c : Code} {R : Type} {st : St} {K : St → Option R} {r : R} (h : normL E c st K = some r) : ∃ u, K u = some r ∧ ∀ {S : Type} (K' : St → Option S), normL E c st K' = K' u := by
  unfold normL at h
  split at h
  · rename_i hn
    exact ⟨_, h, fun K' => by simp only [normL, hn]⟩
  · rename_i a ha
    obtain ⟨u, hu, b⟩ := norm_nat h
    exact ⟨u, hu, fun K' => by simp only [normL, ha, b]⟩

/-! ### code, from loop to loop -/
/-- what surrounds a piece of code -/
inductive Fr where
  | seq (b : Code)
  | blk (i : Nat)
  | loop (c : Code)
/-- where a piece of code comes to: the function's end, or a loop's head -/
inductive Leaf where
  | ret (v : CV)
  | at (K : List Fr) (c : Code) (st : St)
noncomputable def exT (E : Env) : Code → List Fr → (St → Option Leaf) → (Nat → St → Option Leaf) → (St → Option Leaf) → St → Option Leaf
  | .skip, _, kn, _, _, st => kn st
  | .region id ops draw, _, kn, _, _, st => match look E.pts id with
    | none => regK E ops draw st kn
    | some a => norm a st fun st => regK E ops draw st kn
  | .seq a b, K, kn, ke, kr, st => exT E a (.seq b :: K) (fun st => exT E b K kn ke kr st) ke kr st
  | .cond c a b, K, kn, ke, kr, st => match ev 4 st.T c with
    | some (.bool t) => bif t then exT E a K kn ke kr st else exT E b K kn ke kr st
    | _ => none
  | .block id c, K, kn, ke, kr, st => exT E c (.blk id :: K) kn (fun i st => bif Nat.beq i id then kn st else ke i st) kr st
  | .loop c, K, _, _, _, st => normL E c st fun st => some (.at K c st)
  | .exit id, _, _, ke, _, st => ke id st
  | .scope c, K, kn, ke, kr, st => exT E c K kn ke kr st
  | .label _, _, kn, _, _, st => kn st
  | .ret, _, _, _, kr, st => kr st
  | _, _, _, _, _, _ => none
/-- what comes behind a piece of code: its end; an exit -/
noncomputable def kT (E : Env) (kr : St → Option Leaf) : List Fr → (St → Option Leaf) × (Nat → St → Option Leaf)
  | [] => (kr, fun _ _ => none)
  | .seq b :: K => (fun st => exT E b K (kT E kr K).1 (kT E kr K).2 kr st, (kT E kr K).2)
  | .blk i :: K => ((kT E kr K).1, fun j st => bif Nat.beq j i then (kT E kr K).1 st else (kT E kr K).2 j st)
  | .loop c :: K => (fun st => normL E c st fun st => some (.at K c st), (kT E kr K).2)
noncomputable def kX (E : Env) (kr : St → Option CV) : List Fr → List Nat → (St → Option CV) × (Nat → St → Option CV)
  | [], _ => (kr, fun _ _ => none)
  | .seq b :: K, F => (fun st => exK E b (kX E kr K F).1 (kX E kr K F).2 kr st, (kX E kr K F).2)
  | .blk i :: K, F => ((kX E kr K F).1, fun j st => bif Nat.beq j i then (kX E kr K F).1 st else (kX E kr K F).2 j st)
  | .loop c :: K, n :: F => (fun st => loopK (normL E c) (fun again st => exK E c again (kX E kr K F).2 kr st) n st, (kX E kr K F).2)
  | .loop _ :: _, [] => (fun _ => none, fun _ _ => none)
def loops : List Fr → Nat
  | [] => 0
  | .loop _ :: K => loops K + 1
  | .seq _ :: K => loops K
  | .blk _ :: K => loops K
def Big (N : Nat) (F : List Nat) : Prop := ∀ n, n ∈ F → N ≤ n
/-- at a loop's head, with so many rounds left -/
noncomputable def atL (E : Env) (kr : St → Option CV) (K : List Fr) (c : Code) (F : List Nat) (st : St) : Option CV :=
  exK E c (kX E kr (.loop c :: K) F).1 (kX E kr (.loop c :: K) F).2 kr st
/-- a leaf comes to it -/
def LeafOk (E : Env) (kr : St → Option CV) (N : Nat) (r : CV) : Leaf → Prop
  | .ret v => v = r
  | .at K c st => ∀ F : List Nat, F.length = loops K + 1 → Big N F → atL E kr K c F st = some r
/-- the end, as a leaf -/
def krT (kr : St → Option CV) (st : St) : Option Leaf :=
  match kr st with
  | some v => some (.ret v)
  | none => none
theorem krT_ok {kr : St → Option CV} {st : St} {l : Leaf} {E : Env} {N : Nat} {r : CV} (h : krT kr st = some l) (hl : LeafOk E kr N r l) : kr st = some r := by
  unfold krT at h
  split at h
  · rename_i v hv
    cases h
    rw [hv]; exact congrArg some hl
  · cases h
section
variable {E : Env} {kr : St → Option CV} {N : Nat} {r : CV} {l : Leaf} {fu : Nat}
theorem exT_ok (hfu : E.fuel = fu + 1) (hN : N ≤ fu) (hl : LeafOk E kr N r l) : ∀ (c : Code) (K : List Fr) (F : List Nat) (kn : St → Option Leaf) (ke : Nat → St → Option Leaf) (st : St),
    F.length = loops K → Big N F →
    (∀ st, kn st = some l → (kX E kr K F).1 st = some r) → (∀ i st, ke i st = some l → (kX E kr K F).2 i st = some r) →
    exT E c K kn ke (krT kr) st = some l → exK E c (kX E kr K F).1 (kX E kr K F).2 kr st = some r := by
  intro c
  induction c with
  | skip => intro K F kn ke st hF hB hn he h; exact hn _ h
  | region id ops draw =>
    intro K F kn ke st hF hB hn he h
    simp only [exT] at h
    simp only [exK]
    split at h
    · rename_i hp
      obtain ⟨u, hu, a⟩ := regK_nat h
      simp only [hp]
      rw [a]
      exact hn _ hu
    · rename_i q hp
      obtain ⟨v, hv, b⟩ := norm_nat h
      obtain ⟨u, hu, a⟩ := regK_nat hv
      simp only [hp]
      rw [b, a]
      exact hn _ hu
  | seq a b iha ihb =>
    intro K F kn ke st hF hB hn he h
    simp only [exT] at h
    simp only [exK]
    exact iha (.seq b :: K) F _ ke st hF hB (fun st h => ihb K F kn ke st hF hB hn he h) he h
  | cond x a b iha ihb =>
    intro K F kn ke st hF hB hn he h
    simp only [exT] at h
    simp only [exK]
    split at h
    · rename_i t ht
      simp only [ht]
      cases t
      · exact ihb K F kn ke st hF hB hn he h
      · exact iha K F kn ke st hF hB hn he h
    · cases h
  | block id c ih =>
    intro K F kn ke st hF hB hn he h
    simp only [exT] at h
    simp only [exK]
    refine ih (.blk id :: K) F kn _ st hF hB hn (fun i st h => ?_) h
    simp only [kX]
    by_cases hi : Nat.beq i id = true
    · rw [hi] at h ⊢; exact hn _ h
    · rw [Bool.eq_false_iff.2 hi] at h ⊢; exact he _ _ h
  | loop c ih =>
    intro K F kn ke st hF hB hn he h
    simp only [exT] at h
    obtain ⟨u, hu, a⟩ := normL_nat h
    cases hu
    simp only [exK, hfu, loopK]
    rw [a]
    exact hl (fu :: F) (by simp [hF]) (fun n hn => by
      rcases List.mem_cons.1 hn with rfl | hn
      · exact hN
      · exact hB n hn)
  | exit id => intro K F kn ke st hF hB hn he h; exact he _ _ h
  | scope c ih => intro K F kn ke st hF hB hn he h; exact ih K F kn ke st hF hB hn he h
  | label s => intro K F kn ke st hF hB hn he h; exact hn _ h
  | ret => intro K F kn ke st hF hB hn he h; exact krT_ok h hl
  | _ => intro K F kn ke st hF hB hn he h; simp only [exT, reduceCtorEq] at h
theorem kT_ok (hfu : E.fuel = fu + 1) (hN : N ≤ fu) (hl : LeafOk E kr N r l) : ∀ (K : List Fr) (F : List Nat), F.length = loops K → Big (N + 1) F →
    (∀ st, (kT E (krT kr) K).1 st = some l → (kX E kr K F).1 st = some r) ∧ (∀ i st, (kT E (krT kr) K).2 i st = some l → (kX E kr K F).2 i st = some r)
  | [], F, hF, hB => ⟨fun st h => krT_ok h hl, fun i st h => by cases h⟩
  | .seq b :: K, F, hF, hB => by
    obtain ⟨h1, h2⟩ := kT_ok hfu hN hl K F hF hB
    exact ⟨fun st h => exT_ok hfu hN hl b K F _ _ st hF (fun n hn => Nat.le_of_succ_le (hB n hn)) h1 h2 h, h2⟩
  | .blk i :: K, F, hF, hB => by
    obtain ⟨h1, h2⟩ := kT_ok hfu hN hl K F hF hB
    refine ⟨h1, fun j st h => ?_⟩
    simp only [kT, kX] at h ⊢
    by_cases hi : Nat.beq j i = true
    · rw [hi] at h ⊢; exact h1 _ h
    · rw [Bool.eq_false_iff.2 hi] at h ⊢; exact h2 _ _ h
  | .loop c :: K, n :: F, hF, hB => by
    have hF' : F.length = loops K := by simpa [loops] using hF
    obtain ⟨h1, h2⟩ := kT_ok hfu hN hl K F hF' (fun m hm => hB m (List.mem_cons_of_mem _ hm))
    refine ⟨fun st h => ?_, h2⟩
    simp only [kT, kX] at h ⊢
    obtain ⟨u, hu, a⟩ := normL_nat h
    cases hu
    have hn := hB n (List.mem_cons_self ..)
    obtain ⟨m, rfl⟩ : ∃ m, n = m + 1 := ⟨n - 1, by omega⟩
    simp only [loopK]
    rw [a]
    exact hl (m :: F) (by simp [hF']) (fun k hk => by
      rcases List.mem_cons.1 hk with rfl | hk
      · omega
      · exact Nat.le_of_succ_le (hB k (List.mem_cons_of_mem _ hk)))
  | .loop c :: K, [], hF, hB => by simp [loops] at hF
end
/-- what a loop's head leads to, up to the next one -/
noncomputable def cutL (E : Env) (kr : St → Option CV) (K : List Fr) (c : Code) (st : St) : Option Leaf :=
  exT E c (.loop c :: K) (kT E (krT kr) (.loop c :: K)).1 (kT E (krT kr) (.loop c :: K)).2 (krT kr) st
/-- what a function's begin leads to -/
noncomputable def cutB (E : Env) (kr : St → Option CV) (fn : Func) (st : St) : Option Leaf :=
  match fn.body with
  | none => none
  | some c => exT E c [] (krT kr) (fun _ _ => none) (krT kr) st
/-- a leaf leads to it, whatever the number of rounds, if it is large -/
def Lead (E : Nat → Env) (kr : St → Option CV) (r : CV) (l : Leaf) : Prop := ∃ N, ∀ fu, N ≤ fu → LeafOk (E fu) kr N r l
def Good (E : Nat → Env) (kr : St → Option CV) (o : Option Leaf) (r : CV) : Prop := ∃ l, o = some l ∧ Lead E kr r l
def Fuel (E : Nat → Env) : Prop := ∀ fu, (E fu).fuel = fu
theorem Lead.ret {E : Nat → Env} {kr : St → Option CV} {r : CV} : Lead E kr r (.ret r) := ⟨0, fun _ _ => rfl⟩
theorem lead_ret {E : Nat → Env} {kr : St → Option CV} {r v : CV} : Lead E kr r (.ret v) ↔ v = r := ⟨fun ⟨N, h⟩ => h N (Nat.le_refl N), fun h => ⟨0, fun _ _ => h⟩⟩
theorem Lead.at {E : Nat → Env} (hE : Fuel E) {kr : St → Option CV} {r : CV} {K : List Fr} {c : Code} {st : St} {o : Option Leaf} (ho : ∀ fu, cutL (E fu) kr K c st = o) (h : Good E kr o r) : Lead E kr r (.at K c st) := by
  obtain ⟨l, rfl, N, hl⟩ := h
  refine ⟨N + 1, fun fu hfu F hF hB => ?_⟩
  obtain ⟨m, rfl⟩ : ∃ m, fu = m + 1 := ⟨fu - 1, by omega⟩
  have hm : N ≤ m := by omega
  have hF' : F.length = loops (.loop c :: K) := by simpa [loops] using hF
  obtain ⟨h1, h2⟩ := kT_ok (hE (m + 1)) hm (hl (m + 1) (by omega)) (.loop c :: K) F hF' hB
  exact exT_ok (hE (m + 1)) hm (hl (m + 1) (by omega)) c (.loop c :: K) F _ _ st hF' (fun n hn => Nat.le_of_succ_le (hB n hn)) h1 h2 (ho (m + 1))
theorem good_some {E : Nat → Env} {kr : St → Option CV} {r : CV} {l : Leaf} : Good E kr (some l) r ↔ Lead E kr r l := ⟨fun ⟨_, h, h'⟩ => by cases h; exact h', fun h => ⟨l, rfl, h⟩⟩
theorem good_ret {E : Nat → Env} {kr : St → Option CV} {r v : CV} : Good E kr (some (.ret v)) r ↔ v = r := good_some.trans lead_ret
theorem good_none {E : Nat → Env} {kr : St → Option CV} {r : CV} : Good E kr none r ↔ False :=
  ⟨fun h => (by obtain ⟨_, h, _⟩ := h; cases h), False.elim⟩
/-- 'the thing that is there' -/
@[reducible] def ob {α β : Type} (o : Option α) (f : α → Option β) : Option β := match o with
  | some x => f x
  | none => none
theorem ob_some {α β : Type} (x : α) (f : α → Option β) : ob (some x) f = f x := rfl
theorem ob_none {α β : Type} (f : α → Option β) : ob none f = none := rfl
/-- the whole function's run -/
def RunF (E : Nat → Env) (own : Bool) (fn : Func) (args : List CV) (r : CV) : Prop := ∃ N, ∀ fu, N ≤ fu → runF (E fu) own fn args = some r
theorem RunF.of {E : Nat → Env} (hE : Fuel E) {own : Bool} {fn : Func} {args : List CV} {r : CV} {o : Option Leaf} (ho : ∀ fu, cutB (E fu) (endK own fn.results.toList) fn ⟨parT 0 args, []⟩ = o) (h : Good E (endK own fn.results.toList) o r) : RunF E own fn args r := by
  obtain ⟨l, rfl, N, hl⟩ := h
  refine ⟨N + 1, fun fu hfu => ?_⟩
  obtain ⟨m, rfl⟩ : ∃ m, fu = m + 1 := ⟨fu - 1, by omega⟩
  have hm : N ≤ m := by omega
  have ho := ho (m + 1)
  unfold cutB at ho
  unfold runF
  split at ho
  · cases ho
  · rename_i c hc
    rw [hc]
    exact exT_ok (hE (m + 1)) hm (hl (m + 1) (by omega)) c [] [] _ _ _ rfl (fun n hn => by cases hn) (fun st h => krT_ok h (hl (m + 1) (by omega))) (fun i st h => by cases h) ho
theorem RunF.uniq {E : Nat → Env} {own : Bool} {fn : Func} {args : List CV} {r s : CV} (h : RunF E own fn args r) (h' : RunF E own fn args s) : r = s := by
  obtain ⟨N, h⟩ := h
  obtain ⟨M, h'⟩ := h'
  have := h (max N M) (Nat.le_max_left ..)
  rw [h' (max N M) (Nat.le_max_right ..)] at this
  exact (Option.some.inj this).symm
/-- a function that writes into the row that it is handed first -/
def RunM (E : Nat → Env) (fn : Func) (l : List Int) (args : List CV) (l' : List Int) : Prop := ∃ N, ∀ fu, N ≤ fu → runM (E fu) fn l args = some l'
def endR (st : St) : Option CV := match endM st with | some l => some (.sl .int l) | none => none
theorem RunM.uniq {E : Nat → Env} {fn : Func} {l : List Int} {args : List CV} {r s : List Int} (h : RunM E fn l args r) (h' : RunM E fn l args s) : r = s := by
  obtain ⟨N, h⟩ := h
  obtain ⟨M, h'⟩ := h'
  have := h (max N M) (Nat.le_max_left ..)
  rw [h' (max N M) (Nat.le_max_right ..)] at this
  exact (Option.some.inj this).symm

theorem exK_to {E : Env} {R S : Type} {r : R} {s : S} : ∀ (c : Code) {kn : St → Option R} {ke : Nat → St → Option R} {kr : St → Option R} {kn' : St → Option S} {ke' : Nat → St → Option S} {kr' : St → Option S} {st : St},
    (∀ st, kn st = some r → kn' st = some s) → (∀ i st, ke i st = some r → ke' i st = some s) → (∀ st, kr st = some r → kr' st = some s) → exK E c kn ke kr st = some r → exK E c kn' ke' kr' st = some s := by
  intro c
  induction c with
  | skip => intro kn ke kr kn' ke' kr' st hn he hr h; exact hn _ h
  | region id ops draw =>
    intro kn ke kr kn' ke' kr' st hn he hr h
    simp only [exK] at h ⊢
    split at h
    · rename_i hp
      obtain ⟨u, hu, a⟩ := regK_nat h
      rw [a]
      exact hn _ hu
    · rename_i q hp
      obtain ⟨v, hv, b⟩ := norm_nat h
      obtain ⟨u, hu, a⟩ := regK_nat hv
      rw [b, a]
      exact hn _ hu
  | seq a b iha ihb => intro kn ke kr kn' ke' kr' st hn he hr h; exact iha (fun st h => ihb hn he hr h) he hr h
  | cond x a b iha ihb =>
    intro kn ke kr kn' ke' kr' st hn he hr h
    simp only [exK] at h ⊢
    split at h
    · rename_i t ht
      cases t
      · exact ihb hn he hr h
      · exact iha hn he hr h
    · cases h
  | block id c ih =>
    intro kn ke kr kn' ke' kr' st hn he hr h
    refine ih hn (fun i st h => ?_) hr h
    by_cases hi : Nat.beq i id = true
    · simp only [hi] at h ⊢; exact hn _ h
    · simp only [Bool.eq_false_iff.2 hi] at h ⊢; exact he _ _ h
  | loop c ih =>
    intro kn ke kr kn' ke' kr' st hn he hr h
    simp only [exK] at h ⊢
    revert h
    generalize E.fuel = n
    induction n generalizing st with
    | zero => intro h; cases h
    | succ n ihn =>
      intro h
      simp only [loopK] at h ⊢
      obtain ⟨u, hu, a⟩ := normL_nat h
      rw [a]
      exact ih (fun st h => ihn h) he hr hu
  | exit id => intro kn ke kr kn' ke' kr' st hn he hr h; exact he _ _ h
  | scope c ih => intro kn ke kr kn' ke' kr' st hn he hr h; exact ih hn he hr h
  | label s => intro kn ke kr kn' ke' kr' st hn he hr h; exact hn _ h
  | ret => intro kn ke kr kn' ke' kr' st hn he hr h; exact hr _ h
  | _ => intro kn ke kr kn' ke' kr' st hn he hr h; simp only [exK, reduceCtorEq] at h
theorem RunM.of {E : Nat → Env} (hE : Fuel E) {fn : Func} {l : List Int} {args : List CV} {l' : List Int} {o : Option Leaf} (ho : ∀ fu, cutB (E fu) endR fn ⟨parT 0 (.ref 90000 :: args), [(90000, some (.arr true .int l))]⟩ = o) (h : Good E endR o (.sl .int l')) : RunM E fn l args l' := by
  obtain ⟨lf, rfl, N, hl⟩ := h
  refine ⟨N + 1, fun fu hfu => ?_⟩
  obtain ⟨m, rfl⟩ : ∃ m, fu = m + 1 := ⟨fu - 1, by omega⟩
  have hm : N ≤ m := by omega
  have ho := ho (m + 1)
  have key : ∀ st, endR st = some (.sl .int l') → endM st = some l' := by
    intro st h
    unfold endR at h
    split at h
    · rename_i l hl
      cases h; exact hl
    · cases h
  unfold cutB at ho
  unfold runM
  split at ho
  · cases ho
  · rename_i c hc
    rw [hc]
    exact exK_to c key (fun i st h => by cases h) key (exT_ok (hE (m + 1)) hm (hl (m + 1) (by omega)) c [] [] _ _ _ rfl (fun n hn => by cases hn) (fun st h => krT_ok h (hl (m + 1) (by omega))) (fun i st h => by cases h) ho)

/-! ### what is told of a called function -/
noncomputable def okP {α : Type} (p : α → Prop) : Bool := @decide (∃ a, p a) (Classical.propDecidable _)
noncomputable def valP {α : Type} [Nonempty α] (p : α → Prop) : α := Classical.epsilon p
theorem okP_val {α : Type} [Nonempty α] {p : α → Prop} (h : okP p = true) : p (valP p) := Classical.epsilon_spec (by simpa [okP] using h)
theorem okP_of {α : Type} [Nonempty α] {p : α → Prop} {a : α} (h : p a) (hu : ∀ b, p b → b = a) : okP p = true ∧ valP p = a := by
  have : okP p = true := by simp only [okP, decide_eq_true_eq]; exact ⟨a, h⟩
  exact ⟨this, hu _ (okP_val this)⟩
abbrev Ent := List CV → Option (Bool × Bool × CV)
def EntOk (f : Nat) (g : Ent) : Prop := ∀ args own r, g args = some (own, true, r) → CallsC f args own r ∧ callable f = true
def semOf (es : List (Nat × Ent)) : Sems := fun f args => match look es f with
  | some g => g args
  | none => none
inductive EntsOk : List (Nat × Ent) → Prop
  | nil : EntsOk []
  | cons {f : Nat} {g : Ent} {es : List (Nat × Ent)} : EntOk f g → EntsOk es → EntsOk ((f, g) :: es)
theorem EntsOk.sem : ∀ {es : List (Nat × Ent)}, EntsOk es → SemOk (semOf es)
  | [], _ => fun f args own r h => by cases h
  | (f', g) :: es, .cons h1 h2 => fun f args own r h => by
    simp only [semOf, look] at h
    by_cases hf : Nat.beq f' f = true
    · rw [hf, cond_true] at h
      obtain rfl := Nat.eq_of_beq_eq_true hf
      exact h1 args own r h
    · rw [Bool.eq_false_iff.2 hf, cond_false] at h
      exact h2.sem f args own r h
theorem EntOk.or {f : Nat} {g g' : Ent} (h : EntOk f g) (h' : EntOk f g') : EntOk f fun args => match g args with | some x => some x | none => g' args := fun args own r e => by
  simp only at e
  split at e
  · rename_i x hx
    exact h args own r (hx.trans e)
  · exact h' args own r e
abbrev EntM := List Int → List CV → Option (Bool × List Int)
def EntMOk (f : Nat) (g : EntM) : Prop := ∀ l args l', g l args = some (true, l') → CallsM f l args l' ∧ callable f = true
def memOf (es : List (Nat × EntM)) : Nat → List Int → List CV → Option (Bool × List Int) := fun f l args => match look es f with
  | some g => g l args
  | none => none
inductive EntsMOk : List (Nat × EntM) → Prop
  | nil : EntsMOk []
  | cons {f : Nat} {g : EntM} {es : List (Nat × EntM)} : EntMOk f g → EntsMOk es → EntsMOk ((f, g) :: es)
theorem EntsMOk.mem : ∀ {es : List (Nat × EntM)}, EntsMOk es → MemOk (memOf es)
  | [], _ => fun f l args l' h => by cases h
  | (f', g) :: es, .cons h1 h2 => fun f l args l' h => by
    simp only [memOf, look] at h
    by_cases hf : Nat.beq f' f = true
    · rw [hf, cond_true] at h
      obtain rfl := Nat.eq_of_beq_eq_true hf
      exact h1 l args l' h
    · rw [Bool.eq_false_iff.2 hf, cond_false] at h
      exact h2.mem f l args l' h
/-- a run is what a call comes to -/
theorem RunF.calls {E : Nat → Env} (hs : ∀ fu, SemOk (E fu).sem) (hm : ∀ fu, MemOk (E fu).msem) {f : Nat} {fn : Func} (hf : P.funcs[f]? = some fn) {own : Bool} {args : List CV} (hn : noNames args = true) (hl : args.length ≤ fn.ntmps) (hnt : ∀ fu, (E fu).nt = fn.ntmps) {r : CV} (h : RunF E own fn args r) : CallsC f args own r := by
  obtain ⟨N, h⟩ := h
  exact runF_calls (hs N) (hm N) hf hn hl (hnt N) (h N (Nat.le_refl N))
theorem RunM.calls {E : Nat → Env} (hs : ∀ fu, SemOk (E fu).sem) (hm : ∀ fu, MemOk (E fu).msem) (hk : ∀ fu, (E fu).kill = []) (hlow : ∀ fu, 0 < (E fu).low) {f : Nat} {fn : Func} (hf : P.funcs[f]? = some fn) (hres : fn.results = #[]) {l l' : List Int} {args : List CV} (hn : noNames args = true) (hl : args.length + 1 ≤ fn.ntmps) (hnt : ∀ fu, (E fu).nt = fn.ntmps) (h : RunM E fn l args l') : CallsM f l args l' := by
  obtain ⟨N, h⟩ := h
  exact runM_calls (hs N) (hm N) (hk N) (hlow N) hf hres hn hl (hnt N) (h N (Nat.le_refl N))
/-- a net's rows -/
@[ext] structure NetV where
  N : Int
  T : List Int
  X : List Int
  C : List Int
/-- a part -/
@[ext] structure PartV where
  R : Bool
  A : Int
  D : List Int
/-- a cut -/
@[ext] structure CutV where
  I : List Bool
  S : Int
  Y : List Int
instance : Nonempty NetV := ⟨⟨0, [], [], []⟩⟩
instance : Nonempty PartV := ⟨⟨false, 0, []⟩⟩
instance : Nonempty CutV := ⟨⟨[], 0, []⟩⟩
/-- a loop's surroundings and its body, by its number -/
def findL : Code → Nat → List Fr → Option (List Fr × Code)
  | .seq a b, i, K => match findL a i (.seq b :: K) with
    | some x => some x
    | none => findL b i K
  | .cond _ a b, i, K => match findL a i K with
    | some x => some x
    | none => findL b i K
  | .block j c, i, K => findL c i (.blk j :: K)
  | .scope c, i, K => findL c i K
  | .loop c, i, K => bif Nat.beq (loopId c) i then some (K, c) else findL c i (.loop c :: K)
  | _, _, _ => none
noncomputable def theK (fn : Func) (i : Nat) : List Fr := match fn.body with
  | some c => match findL c i [] with
    | some x => x.1
    | none => []
  | none => []
noncomputable def theC (fn : Func) (i : Nat) : Code := match fn.body with
  | some c => match findL c i [] with
    | some x => x.2
    | none => .skip
  | none => .skip
end Go.Proofs.Ytnfgfdeidkhdkaa.Eng
