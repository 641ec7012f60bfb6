/- slices.Clone, by hand: an empty slice may be nil or not. -/
import Derived.Test.YtnfgfdeidkhdkaaEv
namespace Go.Proofs.Ytnfgfdeidkhdkaa.Eng
open Go.RowKit (Below)
set_option linter.unusedVariables false
set_option linter.unusedSimpArgs false

noncomputable def parts76 : Array Oper × Array Oper × Code × Code :=
  match Try.f76.body with
  | some (.seq (.region 0 o0 false) (.seq (.seq (.region 1 o1 false) c) t)) => (o0, o1, c, t)
  | _ => (#[], #[], .skip, .skip)
theorem body76 : Try.f76.body = some (.seq (.region 0 parts76.1 false) (.seq (.seq (.region 1 parts76.2.1 false) parts76.2.2.1) parts76.2.2.2)) := by kernel_rfl
def E76 : Env := ⟨8, 0, fun _ _ => none, [], fun _ _ _ => none, [], [], 0⟩
/-- the test -/
theorem test76 : ∃ o p, parts76.2.1 = #[o, p] ∧ p.op = .binOp .eql 22 (.tmp 3) (.const (.slice none 0 0)) 22 ∧ p.dst = some 4 ∧ p.guard = none ∧ p.type = 4 ∧ ∀ l, opS E76 parts76.2.1 [] o ⟨[(2, .nil .int), (0, .sl .int l)], []⟩ some = some ⟨[(3, .sl .int l)], []⟩ := ⟨_, _, rfl, rfl, rfl, rfl, rfl, fun _ => rfl⟩
theorem equalIn_nil (d : Nat) (A : Option Addr) (n c : Nat) (w : World) : (Op.equalIn (d + 1) 22 (.slice A n c) (.slice none 0 0)).run P w = .ok A.isNone w := by
  have hu : P.underlying 22 = some (.slice 3) := SK.under .int
  cases A <;> simp [Op.equalIn, run_underlying hu]
theorem equal_nil (A : Option Addr) (n c : Nat) (w : World) : (Op.equal 22 (.slice A n c) (.slice none 0 0)).run P w = .ok A.isNone w := equalIn_nil 9999 A n c w
theorem nilTest (A : Option Addr) (n c : Nat) (w : World) : (binOp .eql 22 (.slice A n c) (.slice none 0 0)).run P w = .ok (.bool A.isNone) w := by
  have h := equal_nil A n c w
  simp only [binOp, Sem.run_bind, h, Result.andThen_ok, Sem.run_pure]

theorem clone_calls (l : List Int) (hl : l.length ≤ 4294967296) : CallsC 76 [.sl .int l] true (.sl .int l) := by
  intro w R vs hR ha
  have hf : P.funcs[76]? = some Try.f76 := by kernel_rfl
  have hE : Ok ⟨w, R, fun _ => False, none⟩ E76 := ⟨fun _ _ _ _ h => (by cases h), fun _ _ _ _ h => (by cases h), .inl fun _ h => h, .inl rfl, .inl fun _ h => h⟩
  have hsz : vs.size ≤ 8 := by
    have := ha.length
    have e : vs.toList.length = vs.size := Array.length_toList ..
    simp at this
    omega
  have hb := begin_sound (w := w) hR ha (by rfl) 8 hsz
  refine calls_of_wp hf body76 ?_
  have fin : ∀ st' a' w', endK true Try.f76.results.toList st' = some (.sl .int l) → Sim ⟨w, R, fun _ => False, none⟩ E76.nt st' a' w' → a'.defers = [] ∧ ∃ v, (results Try.f76 a'.tmps).run P w' = .ok v w' ∧ (∃ v', Ending.returned v = .returned v' ∧ Below w.heap.size w w' ∧
      ∃ R' : Nat → Prop, (∀ b, R b → R' b) ∧ (∀ b, R' b → R b ∨ w.heap.size ≤ b) ∧ (∀ b, R' b → b < w'.heap.size) ∧ Res true w.heap.size w' R' (.sl .int l) v') := by
    intro st' a' w' he hs'
    obtain ⟨h1, v, h2, h3⟩ := endK_sound hs' he
    exact ⟨h1, v, h2, v, rfl, h3⟩
  have hk : regK E76 parts76.1 false ⟨parT 0 [.sl .int l], []⟩ some = some ⟨[(2, .nil .int), (0, .sl .int l)], []⟩ := by kernel_rfl
  refine wp_seq (regK_sound hE (K := some) (r := ⟨[(2, .nil .int), (0, .sl .int l)], []⟩) (st := ⟨parT 0 [.sl .int l], []⟩) ?_ ⟨R, _, _, hb⟩ hk 0)
  rintro st1 a1 w1 hst1 h1
  cases hst1
  obtain ⟨o, p, ho, hop, hdst, hg, hty, hk0'⟩ := test76
  refine wp_seq (wp_seq (wp_region ?_))
  have hk0 := hk0' l
  have hi0 : parts76.2.1[0]? = some o := by rw [ho]; rfl
  have hi1 : parts76.2.1[1]? = some p := by rw [ho]; rfl
  have hsz2 : parts76.2.1.size = 2 := by rw [ho]; rfl
  rw [hsz2]
  show wpOps P parts76.2.1 _ [0, 1] a1 w1
  rw [wpOps_cons]
  obtain ⟨u, hu, hwp⟩ := opS_sound hE h1 hi0 hk0
  cases hu
  refine hwp _ _ fun a2 w2 h2 => ?_
  rw [wpOps_cons]
  obtain ⟨R2, lv2, loc2, h2⟩ := h2
  obtain ⟨v, hv, hr⟩ := h2.tm 3 (.sl .int l) rfl
  obtain ⟨A, c, rfl, hnc, hcells⟩ := hr
  have hev : a2.eval (.tmp 3) = .slice A l.length c := by simp [Act.eval, Array.getD_eq_getD_getElem?, hv]
  have hrun : (execOp a2.eval p).run P w2 = .ok (.value (.bool A.isNone)) w2 := by
    unfold execOp
    have hev2 : a2.eval (.const (.slice none 0 0)) = .slice none 0 0 := rfl
    simp only [hop, hev, hev2]
    refine run_v _ _ ?_
    rw [eqGuard_at_slice]
    simpa using nilTest A l.length c w2
  unfold wpOp
  simp only [hi1, Region.wanted, hg, if_true]
  refine .inl (wp_value hrun ?_)
  rw [hdst]
  have h3 := h2.put (c := .bool A.isNone) (v := .bool A.isNone) (d := 4) rfl (by simp [n2, n1, n0]) (by decide) (.inl rfl)
  have hA : A.isNone = true → l = [] := by
    intro hA
    cases l with
    | nil => rfl
    | cons e l =>
      obtain ⟨ad, x, hA', -⟩ := hcells 0 (.int .i64 e) (by simp [SK.cells])
      rw [hA'] at hA; cases hA
  have key : ∀ b : Bool, (b = true → l = []) → exK E76 parts76.2.2.1 (fun st => exK E76 parts76.2.2.2 (endK true Try.f76.results.toList) (fun _ _ => none) (endK true Try.f76.results.toList) st) (fun _ _ => none) (endK true Try.f76.results.toList)
      ⟨[(4, .bool b), (3, .sl .int l), (2, .nil .int), (0, .sl .int l)], []⟩ = some (.sl .int l) := by
    intro b hb
    cases b with
    | true =>
      obtain rfl := hb rfl
      kernel_rfl
    | false =>
      have e : exK E76 parts76.2.2.1 (fun st => exK E76 parts76.2.2.2 (endK true Try.f76.results.toList) (fun _ _ => none) (endK true Try.f76.results.toList) st) (fun _ _ => none) (endK true Try.f76.results.toList)
          ⟨[(4, .bool false), (3, .sl .int l), (2, .nil .int), (0, .sl .int l)], []⟩ = bif Nat.ble l.length 4294967296 then some (.sl .int l) else none := by kernel_rfl
      rw [e, Nat.ble_eq_true_of_le hl]
      rfl
  refine exK_sound hE parts76.2.2.1 (r := CV.sl .int l) (fun st' a' w' he hs' => ?_) (fun i st' a' w' he hs' => by cases he) (fun st' a' w' he hs' => fin st' a' w' he hs') ⟨R2, lv2, loc2, h3⟩ (key _ hA)
  exact exK_sound hE parts76.2.2.2 (Q := bodyPost P Try.f76 _) (r := CV.sl .int l) (fun st' a' w' he hs' => fin st' a' w' he hs') (fun i st' a' w' he hs' => by cases he) (fun st' a' w' he hs' => fin st' a' w' he hs') hs' he
end Go.Proofs.Ytnfgfdeidkhdkaa.Eng
