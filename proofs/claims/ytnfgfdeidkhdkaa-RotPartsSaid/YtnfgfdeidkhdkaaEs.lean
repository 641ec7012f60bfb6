/- The engine's soundness, seventeenth part: regions whose order is open, put together. -/
import Derived.Test.YtnfgfdeidkhdkaaEr
namespace Go.Proofs.Ytnfgfdeidkhdkaa.Eng
open Go.RowKit (Below)
set_option linter.unusedVariables false
set_option linter.unusedSimpArgs false

theorem ord_false {B : List (List Nat)} {i j : Nat} : ord B i j = false ↔ ¬ j ∈ bef B i ∧ ¬ i ∈ bef B j := by
  unfold ord
  simp [Bool.or_eq_false_iff]
theorem ord_comm (B : List (List Nat)) (i j : Nat) : ord B i j = ord B j i := by unfold ord; rw [Bool.or_comm]

/-- a region's run in the text's order -/
structure Drawn (E : Env) (ops : Array Oper) (base : St) (us : List (Nat × U)) : Prop where
  stat : statOk ops ops.toList (befs ops.toList) = true
  seg : segOk ops ops.toList (befs ops.toList) base us = true
  len : us.length = ops.toList.length
  at_ : ∀ k o, ops.toList[k]? = some o → ∃ u, us[k]? = some (k, u) ∧ Alike E ops o (viewAt ops ops.toList (befs ops.toList) base (us.take k) k o) u

section
variable {E : Env} {ops : Array Oper} {base : St} {us : List (Nat × U)} (D : Drawn E ops base us)
include D
theorem Drawn.back : backOk ops.toList = true := by
  have := D.stat
  unfold statOk at this
  simp only [Bool.and_eq_true] at this
  exact this.1
theorem Drawn.dst {i j : Nat} {o p : Oper} {d : Nat} (hi : ops.toList[i]? = some o) (hj : ops.toList[j]? = some p) (hne : i ≠ j) (hd : o.dst = some d) : p.dst ≠ some d ∧ (ord (befs ops.toList) i j = false → (readsOf ops p).contains d = false) := by
  have := D.stat
  unfold statOk at this
  simp only [Bool.and_eq_true] at this
  have h1 := List.all_eq_true.1 this.2 (o, i) (List.mem_zipIdx_iff_getElem?.2 hi)
  simp only [hd] at h1
  have h2 := List.all_eq_true.1 h1 (p, j) (List.mem_zipIdx_iff_getElem?.2 hj)
  have hb : Nat.beq i j = false := Bool.eq_false_iff.2 fun e => hne (Nat.eq_of_beq_eq_true e)
  simp only [hb, Bool.false_or, Bool.and_eq_true, Bool.or_eq_true, Bool.not_eq_true'] at h2
  refine ⟨fun e => ?_, fun ho => h2.2.resolve_left (by rw [ho]; simp)⟩
  have := h2.1
  rw [e] at this
  simp at this
theorem Drawn.mem {x : Nat × U} (hx : x ∈ us) : ∃ o, ops.toList[x.1]? = some o ∧ us[x.1]? = some x ∧ Alike E ops o (viewAt ops ops.toList (befs ops.toList) base (us.take x.1) x.1 o) x.2 := by
  obtain ⟨k, hk⟩ := List.mem_iff_getElem?.1 hx
  have hkl := (List.getElem?_eq_some_iff.1 hk).1
  rw [D.len] at hkl
  obtain ⟨u, hu, ha⟩ := D.at_ k _ (List.getElem?_eq_getElem hkl)
  rw [hk] at hu
  cases hu
  exact ⟨_, List.getElem?_eq_getElem hkl, hk, ha⟩
theorem Drawn.view {i : Nat} {o : Oper} (hi : ops.toList[i]? = some o) : viewAt ops ops.toList (befs ops.toList) base (us.take i) i o = viewAt ops ops.toList (befs ops.toList) base us i o := by
  unfold viewAt
  congr 2
  conv => rhs; rw [← List.take_append_drop i us, List.filter_append]
  have : (us.drop i).filter (fun u => (bef (befs ops.toList) i).contains u.1) = [] := by
    rw [List.filter_eq_nil_iff]
    intro x hx hc
    obtain ⟨k, hk⟩ := List.mem_iff_getElem?.1 hx
    rw [List.getElem?_drop] at hk
    have hkl := (List.getElem?_eq_some_iff.1 hk).1
    rw [D.len] at hkl
    obtain ⟨u, hu, -⟩ := D.at_ (i + k) _ (List.getElem?_eq_getElem hkl)
    rw [hk] at hu
    cases hu
    have := bef_lt D.back i o hi (i + k) (by simpa using hc)
    omega
  rw [this, List.append_nil]
theorem Drawn.sees {x y : Nat × U} (hx : x ∈ us) (hy : y ∈ us) (hne : x.1 ≠ y.1) (ho : ord (befs ops.toList) x.1 y.1 = false) {h : Nat × Option Blk} (hh : h ∈ x.2.H) :
    (∀ o, ops.toList[y.1]? = some o → get (viewAt ops ops.toList (befs ops.toList) base us y.1 o).H h.1 = none) ∧ ∀ k, k ∈ y.2.H → k.1 ≠ h.1 := by
  have := D.seg
  unfold segOk at this
  have h1 := List.all_eq_true.1 (List.all_eq_true.1 (List.all_eq_true.1 this x hx) h hh) y hy
  have hb : Nat.beq x.1 y.1 = false := Bool.eq_false_iff.2 fun e => hne (Nat.eq_of_beq_eq_true e)
  simp only [hb, ho, Bool.false_or, Bool.and_eq_true] at h1
  refine ⟨fun o hoo => ?_, fun k hk e => ?_⟩
  · have := h1.1
    rw [hoo] at this
    simp only at this
    cases hg : get (viewAt ops ops.toList (befs ops.toList) base us y.1 o).H h.1 with
    | none => rfl
    | some b => rw [hg] at this; cases this
  · have := List.all_eq_true.1 h1.2 k hk
    rw [e] at this
    simp at this
theorem Drawn.apart {x y : Nat × U} (hx : x ∈ us) (hy : y ∈ us) (hne : x.1 ≠ y.1) (ho : ord (befs ops.toList) x.1 y.1 = false) : x.2.apart y.2 := by
  obtain ⟨o, ho1, -, ha⟩ := D.mem hx
  obtain ⟨p, hp1, -, hb⟩ := D.mem hy
  refine ⟨fun i => ?_, fun i => ?_⟩
  · cases h1 : look x.2.T i with
    | none => exact .inl rfl
    | some c =>
      cases h2 : look y.2.T i with
      | none => exact .inr rfl
      | some d => exact absurd (hb.T _ (look_mem h2)) (D.dst ho1 hp1 hne (ha.T _ (look_mem h1))).1
  · cases h1 : look x.2.H i with
    | none => exact .inl rfl
    | some c =>
      cases h2 : look y.2.H i with
      | none => exact .inr rfl
      | some d => exact absurd rfl ((D.sees hx hy hne ho (h := (i, c)) (look_mem h1)).2 (i, d) (look_mem h2))

/-- what holds where these operations are done -/
def doneSt (base : St) (us : List (Nat × U)) (S : Nat → Bool) : St := appAll base (us.filter fun x => S x.1)

theorem Drawn.step {S : Nat → Bool} (hc : Closed ops.toList S) {i : Nat} {o : Oper} (hi : ops.toList[i]? = some o) (hS : S i = false) (hr : ∀ e, e ∈ o.after.toList → Region.binds .any e = true → S e.on = true) :
    ∃ u, opG E ops o (doneSt base us S) some = some u ∧ ((doneSt base us S).app u).eqv (doneSt base us fun j => S j || j == i) := by
  obtain ⟨u, hu, ha⟩ := D.at_ i o hi
  rw [D.view hi] at ha
  have hsub := bef_sub hc i o hi hr
  have hff : (us.filter fun x => S x.1).filter (fun x => (bef (befs ops.toList) i).contains x.1) = us.filter fun x => (bef (befs ops.toList) i).contains x.1 := by
    rw [List.filter_filter]
    refine List.filter_congr fun x _ => ?_
    cases hb : (bef (befs ops.toList) i).contains x.1 with
    | false => rfl
    | true => rw [hsub x.1 (by simpa using hb)]; rfl
  have hun : ∀ x, x ∈ us → S x.1 = true → ¬ x.1 ∈ bef (befs ops.toList) i → x.1 ≠ i ∧ ord (befs ops.toList) x.1 i = false := by
    intro x hx hSx hn
    refine ⟨fun e => (by rw [e, hS] at hSx; cases hSx), ord_false.2 ⟨fun hm => ?_, hn⟩⟩
    obtain ⟨p, hp, -, -⟩ := D.mem hx
    have := bef_sub hc x.1 p hp (hc x.1 p hp hSx) i hm
    rw [hS] at this; cases this
  have hmem : (i, u) ∈ us := List.mem_of_getElem? hu
  refine ⟨u, ha.run _ ⟨fun t c ht => ?_, fun y b hy => ?_⟩ (fun p hp hn => ?_), ?_⟩
  · obtain ⟨h1, h2⟩ := view_T ht
    unfold doneSt
    rw [appAll_T (fun x => (bef (befs ops.toList) i).contains x.1) t _ _ fun x hx hp => ?_, hff]
    · exact h1
    · cases hl : look x.2.T t with
      | none => rfl
      | some c' =>
        have hxu := (List.mem_filter.1 hx).1
        obtain ⟨hne, hod⟩ := hun x hxu (List.mem_filter.1 hx).2 (by simpa using hp)
        obtain ⟨q, hq, -, hb⟩ := D.mem hxu
        have := (D.dst hq hi hne (hb.T _ (look_mem hl))).2 hod
        rw [h2] at this; cases this
  · have h1 := view_H hy
    have h2 : look (doneSt base us S).H y = look (appAll base (us.filter fun x => (bef (befs ops.toList) i).contains x.1)).H y := by
      unfold doneSt
      rw [appAll_H (fun x => (bef (befs ops.toList) i).contains x.1) y _ _ fun x hx hp => ?_, hff]
      cases hl : look x.2.H y with
      | none => rfl
      | some c' =>
        have hxu := (List.mem_filter.1 hx).1
        obtain ⟨hne, hod⟩ := hun x hxu (List.mem_filter.1 hx).2 (by simpa using hp)
        have := (D.sees hxu hmem hne hod (look_mem hl)).1 o hi
        rw [hy] at this; cases this
    rw [get_eq, h2, ← get_eq]
    exact h1
  · cases hnh : noHeap o.op with
    | true => rw [ha.H hnh] at hp; simp at hp
    | false =>
      have h1 := view_none hnh hn
      unfold doneSt
      rw [appAll_H (fun x => (bef (befs ops.toList) i).contains x.1) p.1 _ _ fun x hx hp' => ?_, hff]
      · exact h1
      · cases hl : look x.2.H p.1 with
        | none => rfl
        | some c' =>
          have hxu := (List.mem_filter.1 hx).1
          obtain ⟨hne, hod⟩ := hun x hxu (List.mem_filter.1 hx).2 (by simpa using hp')
          exact absurd rfl ((D.sees hxu hmem hne hod (look_mem hl)).2 p hp)
  · have hil := (List.getElem?_eq_some_iff.1 hu).1
    have hdrop : us.drop i = (i, u) :: us.drop (i + 1) := by
      rw [List.drop_eq_getElem_cons hil]
      congr 1
      exact (List.getElem?_eq_some_iff.1 hu).2
    have hus : us = us.take i ++ (i, u) :: us.drop (i + 1) := by rw [← hdrop, List.take_append_drop]
    have hidx : ∀ (k : Nat) (x : Nat × U), us[k]? = some x → x.1 = k := fun k x hk => by
      have hkl := (List.getElem?_eq_some_iff.1 hk).1
      rw [D.len] at hkl
      obtain ⟨v, hv, -⟩ := D.at_ k _ (List.getElem?_eq_getElem hkl)
      rw [hk] at hv; cases hv; rfl
    have hlt : ∀ x, x ∈ us.take i → x.1 < i := fun x hx => by
      obtain ⟨k, hk⟩ := List.mem_iff_getElem?.1 hx
      rw [List.getElem?_take] at hk
      split at hk
      · rename_i hki; rw [hidx k x hk]; exact hki
      · cases hk
    have hgt : ∀ x, x ∈ us.drop (i + 1) → i < x.1 := fun x hx => by
      obtain ⟨k, hk⟩ := List.mem_iff_getElem?.1 hx
      rw [List.getElem?_drop] at hk
      rw [hidx _ x hk]; omega
    have f1 : us.filter (fun x => S x.1) = (us.take i).filter (fun x => S x.1) ++ (us.drop (i + 1)).filter (fun x => S x.1) := by
      conv => lhs; rw [hus]
      rw [List.filter_append, List.filter_cons, if_neg (by simp [hS])]
    have f2 : us.filter (fun x : Nat × U => S x.1 || x.1 == i) = (us.take i).filter (fun x => S x.1) ++ (i, u) :: (us.drop (i + 1)).filter (fun x => S x.1) := by
      conv => lhs; rw [hus]
      rw [List.filter_append, List.filter_cons, if_pos (by simp)]
      congr 1
      · exact List.filter_congr fun (x : Nat × U) hx => by have := hlt x hx; simp [Nat.ne_of_lt this]
      · congr 1
        exact List.filter_congr fun (x : Nat × U) hx => by have := hgt x hx; simp [Nat.ne_of_gt this]
    unfold doneSt
    rw [f1, f2, appAll_append, appAll_append]
    refine appAll_move (i, u) _ _ fun y hy => ?_
    have hy1 := (List.mem_filter.1 hy).1
    have hyu : y ∈ us := List.mem_of_mem_drop hy1
    have hgy := hgt y hy1
    obtain ⟨hne, hod⟩ := hun y hyu (List.mem_filter.1 hy).2 (fun hm => by have := bef_lt D.back i o hi y.1 hm; omega)
    exact D.apart hmem hyu (Ne.symm hne) (by rw [ord_comm]; exact hod)

/-- every order -/
theorem Drawn.all {B : Base} (hE : Ok B E) {R : Type} {K : St → Option R} {r : R} {Q : Exit → Act → World → Prop} (hQ : ∀ st' a' w', K st' = some r → Sim B E.nt st' a' w' → Q .normal a' w') (hK : K (appAll base us) = some r) :
    ∀ (fuel : Nat) (listed : Array Bool) (a : Act) (w : World), listed.size = ops.size → Closed ops.toList (fun j => listed.getD j false) → ((List.range ops.size).filter fun j => !listed.getD j false).length ≤ fuel →
      Sim B E.nt (doneSt base us fun j => listed.getD j false) a w → wpAny P .any ops Q fuel listed a w := by
  have alldone : ∀ (listed : Array Bool) (a : Act) (w : World), listed.size = ops.size → Closed ops.toList (fun j => listed.getD j false) → Region.ready .any ops listed = [] → Sim B E.nt (doneSt base us fun j => listed.getD j false) a w → Q .normal a w := by
    intro listed a w hsz hc hr hs
    have hall : ∀ j, j < ops.size → listed.getD j false = true := by
      intro j
      induction j using Nat.strongRecOn with
      | _ j ih =>
        intro hj
        cases hl : listed.getD j false with
        | true => rfl
        | false =>
          exfalso
          have hjr : j ∈ Region.ready .any ops listed := by
            rw [mem_ready]
            refine ⟨?_, ops[j], Array.getElem?_eq_getElem hj, fun e he hb => ?_⟩
            · have : j < listed.size := by omega
              simp [Array.getD, this] at hl ⊢
              exact hl
            · have ho : ops.toList[j]? = some ops[j] := by simp [hj]
              have hlt := backOk_spec D.back ho e (by simpa using he) hb
              exact ih e.on hlt (by omega)
          rw [hr] at hjr; simp at hjr
    refine hQ _ a w hK ?_
    have : doneSt base us (fun j => listed.getD j false) = appAll base us := by
      unfold doneSt
      congr 1
      refine List.filter_eq_self.2 fun x hx => hall x.1 ?_
      obtain ⟨o, ho, -⟩ := D.mem hx
      simpa using (List.getElem?_eq_some_iff.1 ho).1
    rwa [this] at hs
  intro fuel
  induction fuel with
  | zero =>
    intro listed a w hsz hc hf hs
    have hr : Region.ready .any ops listed = [] := by
      rw [List.eq_nil_iff_forall_not_mem]
      intro j hj
      obtain ⟨h0, o, ho, -⟩ := mem_ready.1 hj
      have hjl := (Array.getElem?_eq_some_iff.1 ho).1
      have : j ∈ (List.range ops.size).filter fun j => !listed.getD j false := by
        rw [List.mem_filter, List.mem_range]
        refine ⟨hjl, ?_⟩
        have : j < listed.size := by omega
        simp [Array.getD, this] at h0 ⊢
        exact h0
      rw [List.eq_nil_of_length_eq_zero (Nat.le_zero.1 hf)] at this
      simp at this
    exact ⟨hr, alldone listed a w hsz hc hr hs⟩
  | succ fuel ih =>
    intro listed a w hsz hc hf hs
    refine ⟨fun hr => alldone listed a w hsz hc hr hs, fun i hi => ?_⟩
    obtain ⟨h0, o, ho, hr⟩ := mem_ready.1 hi
    have hil := (Array.getElem?_eq_some_iff.1 ho).1
    have hil' : i < listed.size := by omega
    have ho' : ops.toList[i]? = some o := by simpa using ho
    have hS : listed.getD i false = false := by
      simp [Array.getD, hil'] at h0 ⊢
      exact h0
    have hset : ∀ j, (listed.setIfInBounds i true).getD j false = (listed.getD j false || j == i) := by
      intro j
      by_cases e : i = j
      · subst e; simp [hil']
      · rw [getD_set_ne false e]; simp [Ne.symm e]
    have hr' : ∀ e, e ∈ o.after.toList → Region.binds .any e = true → listed.getD e.on false = true := fun e he hb => hr e (by simpa using he) hb
    obtain ⟨u, hu, heq⟩ := D.step (S := fun j => listed.getD j false) hc ho' hS hr'
    obtain ⟨u', hu', hwp⟩ := opG_sound hE hs ho hu
    cases hu'
    refine hwp _ Q fun a' w' hs' => ih _ a' w' (by simp [hsz]) ?_ ?_ ?_
    · intro j p hj hSj e he hb
      simp only [hset, Bool.or_eq_true, beq_iff_eq] at hSj ⊢
      rcases hSj with hSj | rfl
      · exact .inl (hc j p hj hSj e he hb)
      · rw [ho'] at hj; cases hj
        exact .inl (hr' e he hb)
    · have hlt : ((List.range ops.size).filter fun j => !(listed.setIfInBounds i true).getD j false).length < ((List.range ops.size).filter fun j => !listed.getD j false).length := by
        have e : ((List.range ops.size).filter fun j => !(listed.setIfInBounds i true).getD j false) = ((List.range ops.size).filter fun j => !listed.getD j false).filter fun j => !(j == i) := by
          rw [List.filter_filter]
          refine List.filter_congr fun j _ => ?_
          rw [hset, Bool.not_or, Bool.and_comm]
        rw [e, List.length_filter_lt_length_iff_exists]
        exact ⟨i, List.mem_filter.2 ⟨List.mem_range.2 hil, by simp only [hS, Bool.not_false]⟩, by simp⟩
      omega
    · have e : (fun j => (listed.setIfInBounds i true).getD j false) = fun j => listed.getD j false || j == i := funext hset
      rw [e]
      exact hs'.eqv heq
end

theorem drawn_world {B : Base} {nt : Nat} {st : St} {a : Act} {w : World} (h : Sim B nt st a w) (k : Nat) : Sim B nt st a { w with drawn := k } := by
  obtain ⟨R0, lv, loc, h⟩ := h
  have hk := h.kill (R' := R0) (w' := { w with drawn := k }) [] (by simp) (fun _ h => h) (fun _ h => .inl h) ⟨rfl, rfl, rfl, Nat.le_refl _, fun _ _ => rfl⟩ h.rlt (by simp)
  exact ⟨R0, _, loc, hk⟩
theorem mixed : P.follows .mixedOrders = true := by kernel_rfl

theorem draw_region {B : Base} {E : Env} (hE : Ok B E) {ops : Array Oper} {gs : List Nat} {R : Type} {K : St → Option R} {r : R} {Q : Exit → Act → World → Prop} (hQ : ∀ st' a' w', K st' = some r → Sim B E.nt st' a' w' → Q .normal a' w')
    {st : St} {a : Act} {w : World} (h : Sim B E.nt st a w) (hst : statOk ops ops.toList (befs ops.toList) = true) (hq : drawK E ops ops.toList gs (befs ops.toList) (ops.toList.zipIdx.map fun p => (p.2, p.1)) st [] K = some r) (id : Nat) : (Code.region id ops true).wp P Q a w := by
  obtain ⟨us, e1, e2, e3, e4⟩ := draw_run _ _ hq
  simp only [List.nil_append] at e2 e3 e4
  have D : Drawn E ops st us := by
    refine ⟨hst, e3, by simpa using e1, fun k o hk => ?_⟩
    obtain ⟨u, hu, ha⟩ := e2 k k o (by simp only [List.getElem?_map, List.getElem?_zipIdx, hk, Option.map_some, Nat.zero_add])
    exact ⟨u, hu, ha⟩
  refine wp_region_any mixed (D.all hE hQ e4 ops.size _ a _ (by simp) ?_ ?_ ?_)
  · intro j o hj hS
    by_cases hjs : j < ops.size <;> simp [hjs] at hS
  · exact Nat.le_trans (List.length_filter_le _ _) (by simp)
  · have e : doneSt st us (fun j => (Array.replicate ops.size false).getD j false) = st := by
      unfold doneSt
      have : us.filter (fun x => (Array.replicate ops.size false).getD x.1 false) = [] := by
        rw [List.filter_eq_nil_iff]
        intro x _ hS
        by_cases hjs : x.1 < ops.size <;> simp [hjs] at hS
      rw [this]; rfl
    rw [e]
    exact drawn_world h _
end Go.Proofs.Ytnfgfdeidkhdkaa.Eng
