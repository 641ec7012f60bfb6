/- The engine's soundness, fifth part: data by value, what is handed back, new blocks. -/
import Derived.Test.YtnfgfdeidkhdkaaEf
namespace Go.Proofs.Ytnfgfdeidkhdkaa.Eng
open Go.RowKit (Below)
set_option linter.unusedVariables false
set_option linter.unusedSimpArgs false

/-! ### data by value -/
/-- blocks that nothing turns, and those of some names -/
def RN (C : Cx) (N : Nat → Prop) (b : Nat) : Prop := C.R b ∨ ∃ x L, N x ∧ C.lv x ∧ C.loc x = some L ∧ L.g = b
def byV (w : World) (R : Nat → Prop) : Cx := ⟨w, R, fun _ => False, fun _ => none⟩

theorem down {w : World} {R : Nat → Prop} {k : SK} {e : k.T} {u : CV} (hu : u ∈ k.cells e) {y : Value} {n : Nat} (h : lev w R (n + 1) u y) : lev w R 1 u y := by
  have key : ∀ l : List Int, lev w R (n + 1) (.sl .int l) y → lev w R 1 (.sl .int l) y := by
    rintro l ⟨A, c, rfl, hn, hc⟩
    refine ⟨A, c, rfl, hn, fun i u hu => ?_⟩
    obtain ⟨a, x, hA, hR, hx, hr⟩ := hc i u hu
    refine ⟨a, x, hA, hR, hx, ?_⟩
    obtain ⟨q, -, hq⟩ := List.mem_flatMap.1 (List.mem_of_getElem? hu)
    simp only [SK.cells, List.mem_singleton] at hq
    subst hq
    cases n <;> exact hr
  cases k <;> simp only [SK.cells, List.mem_cons, List.not_mem_nil, or_false] at hu <;> (rcases hu with rfl | rfl | rfl | rfl <;> first | exact h | exact key _ h)
  all_goals first
    | (rcases hu with rfl | rfl <;> exact h)
    | (subst hu; exact h)

theorem bv0_sound {B : Base} {nt : Nat} {C : Cx} {st : St} {a : Act} (h : SimL B nt C st a) {N : Nat → Prop} {c d : CV} {v : Value} (hb : bv0 st.H c = some d) (hv : cellR C c v)
    (hN : ∀ y, y ∈ n0 c → N y) : bvR C.w (RN C N) d v := by
  unfold bv0 at hb
  split at hb
  · cases hb
    obtain ⟨A, rfl⟩ := hv
    exact ⟨A, 0, rfl, Nat.le_refl _, fun i u hu => by simp at hu⟩
  · cases hb
    exact bvR_tr (fun _ _ => rfl) (fun b hb => .inl hb) hv
  · rename_i x
    split at hb
    · rename_i ap k l hg
      cases hb
      have hlk := get_some.1 hg
      have hl : C.lv x := (h.lv x).2 ⟨_, hlk⟩
      have hv3 := hv.2 hl
      have hbl := (h.bl x _ hlk).1
      cases hL : C.loc x with
      | none =>
        rw [hL] at hv3
        simp only [blkR, hL] at hbl
        subst hbl
        obtain ⟨A, rfl⟩ := hv3
        exact ⟨A, 0, rfl, Nat.le_refl _, fun i u hu => by simp at hu⟩
      | some L =>
        rw [hL] at hv3
        simp only [blkR, hL] at hbl
        obtain ⟨b1, b2, b3, b4, cur, b5, b6, b7⟩ := hbl
        subst hv3
        refine ⟨_, _, by rw [b1], by omega, fun i u hu => ?_⟩
        obtain ⟨y, hy, hr⟩ := b7 i u hu
        refine ⟨_, y, rfl, .inr ⟨x, L, hN x (by simp [n0]), hl, hL, rfl⟩, by rw [addr_add]; exact cell_at b5 hy, ?_⟩
        obtain ⟨e, -, he⟩ := List.mem_flatMap.1 (List.mem_of_getElem? hu)
        exact lev_tr (fun _ _ => rfl) (fun b hb => .inl hb) (down he hr)
    · cases hb
  · rename_i x off len
    split at hb
    · rename_i ap k l hg
      cases hb
      have hlk := get_some.1 hg
      have hl : C.lv x := (h.lv x).2 ⟨_, hlk⟩
      have hv3 := hv.2 hl
      have hbl := (h.bl x _ hlk).1
      cases hL : C.loc x with
      | none =>
        rw [hL] at hv3
        simp only [blkR, hL] at hbl
        subst hbl
        obtain ⟨rfl, A, c, rfl⟩ := hv3
        exact ⟨A, c, by simp, Nat.zero_le _, fun i u hu => by simp at hu⟩
      | some L =>
        rw [hL] at hv3
        simp only [blkR, hL] at hbl
        obtain ⟨b1, b2, b3, b4, cur, b5, b6, b7⟩ := hbl
        obtain ⟨hle, A, c, rfl, hc, hA⟩ := hv3
        have hlen : ((l.drop off).take len).length = len := by simp; omega
        refine ⟨A, c, by rw [hlen], by omega, fun i u hu => ?_⟩
        rw [take_flat (SK.cells_len k), drop_flat (SK.cells_len k), List.getElem?_take] at hu
        split at hu
        · rename_i hi
          rw [List.getElem?_drop] at hu
          obtain ⟨y, hy, hr⟩ := b7 _ u hu
          have hpos : 0 < len := by
            rcases Nat.eq_zero_or_pos len with e | e
            · rw [e] at hi; simp at hi
            · exact e
          refine ⟨_, y, hA hpos, .inr ⟨x, L, hN x (by simp [n0]), hl, hL, rfl⟩, by rw [addr_add]; exact cell_at b5 (by rw [b2, Nat.add_assoc]; exact hy), ?_⟩
          obtain ⟨e, -, he⟩ := List.mem_flatMap.1 (List.mem_of_getElem? hu)
          exact lev_tr (fun _ _ => rfl) (fun b hb => .inl hb) (down he hr)
        · cases hu
    · cases hb
  · cases hb; exact hv
  · cases hb; exact hv
  · cases hb; exact hv
  · cases hb
theorem bv_byV {w : World} {R : Nat → Prop} {c : CV} {v : Value} (h : bvR w R c v) : cellR (byV w R) c v := bv_cell (C := byV w R) h

theorem bvs_all {f : CV → Option CV} {r s : CV → Value → Prop} : ∀ {cs ds : List CV} {vs : List Value}, bvs f cs = some ds → All2 r cs vs → (∀ c, c ∈ cs → ∀ d v, f c = some d → r c v → s d v) → All2 s ds vs
  | [], ds, [], hb, _, _ => by simp [bvs] at hb; subst hb; trivial
  | c :: cs, ds, v :: vs, hb, ha, hf => by
    simp only [bvs] at hb
    split at hb
    · cases hb
    · rename_i d hd
      split at hb
      · cases hb
      · rename_i ds' hds
        cases hb
        exact ⟨hf c (List.mem_cons_self ..) d v hd ha.1, bvs_all hds ha.2 fun c hc => hf c (List.mem_cons_of_mem _ hc)⟩
  | [], _, _ :: _, _, ha, _ => ha.elim
  | _ :: _, _, [], _, ha, _ => ha.elim

theorem bv1_sound {B : Base} {nt : Nat} {C : Cx} {st : St} {a : Act} (h : SimL B nt C st a) {N : Nat → Prop} {c d : CV} {v : Value} (hb : bv1 st.H c = some d) (hv : aggR C c v)
    (hN : ∀ y, y ∈ n1 c → N y) (hN2 : ∀ y z b, N y → look st.H y = some (some b) → z ∈ nB b → N z) : aggR (byV C.w (RN C N)) d v := by
  unfold bv1 at hb
  split at hb
  · rename_i cs
    split at hb
    · rename_i ds hds
      cases hb
      obtain ⟨vs, rfl, ha⟩ := hv
      exact ⟨vs, rfl, bvs_all hds ha fun c hc d v hd hr => bv_byV (bv0_sound h hd hr fun y hy => hN y (List.mem_flatMap.2 ⟨c, hc, hy⟩))⟩
    · cases hb
  · rename_i x o
    split at hb
    · rename_i ty cs hg
      split at hb
      · rename_i ds hds
        cases hb
        have hlk := get_some.1 hg
        have hl : C.lv x := (h.lv x).2 ⟨_, hlk⟩
        obtain ⟨L, hL, rfl⟩ := hv.2 hl
        obtain ⟨⟨L', hL', cur, ct, hcur, hcs⟩, -⟩ := h.bl x _ hlk
        rw [hL] at hL'; cases hL'
        have hNx : N x := hN x (by simp [n1, n0])
        refine ⟨L.g, L.o, .inr ⟨x, L, hNx, hl, hL, rfl⟩, rfl, fun i u hu => ?_⟩
        have hpos : ∀ (cs ds : List CV), bvs (bv0 st.H) cs = some ds → ∀ (i : Nat) u, ds[i]? = some u → ∃ c, cs[i]? = some c ∧ bv0 st.H c = some u := by
          intro cs
          induction cs with
          | nil => intro ds hb i u hu; simp [bvs] at hb; subst hb; simp at hu
          | cons c cs ih =>
            intro ds hb i u hu
            simp only [bvs] at hb
            split at hb
            · cases hb
            · rename_i d hd
              split at hb
              · cases hb
              · rename_i ds' hds
                cases hb
                cases i with
                | zero => simp at hu; subst hu; exact ⟨c, by simp, hd⟩
                | succ i => simpa using ih ds' hds i u (by simpa using hu)
        obtain ⟨c, hc, hcu⟩ := hpos cs ds hds i u hu
        obtain ⟨y, hy, hr⟩ := hcs i c hc
        exact ⟨y, cell_at hcur hy, bv0_sound h hcu hr fun z hz => hN2 x z _ hNx hlk (List.mem_flatMap.2 ⟨c, List.mem_of_getElem? hc, hz⟩)⟩
      · cases hb
    · cases hb
  · cases hb
    obtain ⟨g, o, hR, rfl, hcs⟩ := hv
    refine ⟨g, o, .inl hR, rfl, fun i u hu => ?_⟩
    obtain ⟨x, hx, hr⟩ := hcs i u hu
    exact ⟨x, hx, bvR_tr (fun _ _ => rfl) (fun b hb => .inl hb) hr⟩
  · rename_i h1 h2 h3
    have hc : aggR C c v = cellR C c v := by
      cases c <;> first | rfl | exact absurd rfl (h1 _)
    rw [hc] at hv
    exact cell_agg (bv_byV (bv0_sound h hb hv fun y hy => hN y (n1_sub hy)))

theorem bv2_sound {B : Base} {nt : Nat} {C : Cx} {st : St} {a : Act} (h : SimL B nt C st a) {N : Nat → Prop} {c d : CV} {v : Value} (hb : bv2 st.H c = some d) (hv : valR C c v)
    (hN : ∀ y, y ∈ n2 c → N y) (hN2 : ∀ y z b, N y → look st.H y = some (some b) → z ∈ nB b → N z) : valR (byV C.w (RN C N)) d v := by
  unfold bv2 at hb
  split at hb
  · rename_i f cs
    split at hb
    · rename_i ds hds
      cases hb
      obtain ⟨vs, rfl, ha⟩ := hv
      exact ⟨vs, rfl, bvs_all hds ha fun c hc d v hd hr => bv1_sound h hd hr (fun y hy => hN y (List.mem_flatMap.2 ⟨c, hc, hy⟩)) hN2⟩
    · cases hb
  · rename_i cs
    split at hb
    · rename_i ds hds
      cases hb
      obtain ⟨vs, rfl, ha⟩ := hv
      exact ⟨vs, rfl, bvs_all hds ha fun c hc d v hd hr => bv1_sound h hd hr (fun y hy => hN y (List.mem_flatMap.2 ⟨c, hc, hy⟩)) hN2⟩
    · cases hb
  · rename_i h1 h2
    have hc : valR C c v = aggR C c v := by
      cases c <;> first | rfl | exact absurd rfl (h1 _ _) | exact absurd rfl (h2 _)
    rw [hc] at hv
    exact aggR_val (bv1_sound h hb hv (fun y hy => hN y (n2_sub hy)) hN2)
end Go.Proofs.Ytnfgfdeidkhdkaa.Eng
