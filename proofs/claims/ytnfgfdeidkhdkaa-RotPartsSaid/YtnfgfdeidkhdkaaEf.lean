/- The engine's soundness, fourth part: loads, indexes, lengths, cuts. -/
import Derived.Test.YtnfgfdeidkhdkaaEe
namespace Go.Proofs.Ytnfgfdeidkhdkaa.Eng
open Go.RowKit (Below)
set_option linter.unusedVariables false
set_option linter.unusedSimpArgs false

theorem cell_agg {C : Cx} {c : CV} {v : Value} (h : cellR C c v) : aggR C c v := by
  cases c <;> first | exact h | exact False.elim h
theorem isC_n1 {c : CV} (h : c.isC = true) : n1 c = n0 c := by cases c <;> first | rfl | (simp [CV.isC] at h)
theorem mkAgg_names {t : Nat} {cs : List CV} {c : CV} (h : mkAgg t cs = some c) {y : Nat} (hy : y ∈ n1 c) : y ∈ cs.flatMap n0 := by
  unfold mkAgg at h
  split at h
  · rename_i ks hk
    by_cases hl : Nat.beq ks.length cs.length = true
    · simp only [hl, cond_true, Option.some.injEq] at h
      subst h; exact hy
    · simp [Bool.eq_false_iff.2 hl] at h
  · split at h
    · rename_i v
      by_cases hv : v.isC = true
      · simp only [hv, cond_true, Option.some.injEq] at h
        subst h
        rw [isC_n1 hv] at hy
        simpa using hy
      · simp [Bool.eq_false_iff.2 hv] at h
    · cases h
  · cases h
theorem load_gen {C : Cx} {t : Nat} {b : Bool} {ks : List CK} (hk : cks t = some (b, ks)) {ad : Addr} {cs : List CV} {c : CV} (hm : mkAgg t cs = some c)
    (hc : ∀ i u, cs[i]? = some u → ∃ x, C.w.cell? (ad.add i) = some x ∧ cellR C u x) : ∃ v, (Instr.loadAt t (.pointer (some ad))).run P C.w = .ok v C.w ∧ aggR C c v := by
  have ha := isAgg_run hk C.w
  have hs := sizeOf_run hk C.w
  unfold mkAgg at hm
  rw [hk] at hm
  cases b with
  | true =>
    simp only at hm
    by_cases hl : Nat.beq ks.length cs.length = true
    · simp only [hl, cond_true, Option.some.injEq] at hm
      subst hm
      have hl' := Nat.eq_of_beq_eq_true hl
      have hex : ∃ vs : List Value, vs.length = cs.length ∧ ∀ (i : Nat) v, vs[i]? = some v → C.w.cell? (ad.add i) = some v := by
        refine ⟨(List.range cs.length).map fun i => (C.w.cell? (ad.add i)).getD undef, by simp, fun i v hv => ?_⟩
        simp only [List.getElem?_map, Option.map_eq_some_iff] at hv
        obtain ⟨j, hj, rfl⟩ := hv
        obtain ⟨hj1, hj2⟩ := List.getElem?_eq_some_iff.1 hj
        simp at hj1 hj2
        subst hj2
        obtain ⟨x, hx, -⟩ := hc i _ (List.getElem?_eq_getElem hj1)
        simp [hx]
      obtain ⟨vs, hvl, hv⟩ := hex
      refine ⟨.agg vs.toArray, ?_, ⟨vs.toArray, rfl, All2.of (by simpa using hvl.symm) fun i u v hu hv' => ?_⟩⟩
      · have hr := run_loadCells_list (P := P) C.w ad vs (fun j v h => hv j v h)
        rw [hvl, ← hl'] at hr
        simp [Instr.loadAt, Instr.sureAddr, loadVar, ha, hs, hr]
      · obtain ⟨x, hx, hr⟩ := hc i u hu
        have := hv i v (by simpa using hv')
        rw [hx] at this
        cases this
        exact hr
    · simp [Bool.eq_false_iff.2 hl] at hm
  | false =>
    simp only at hm
    split at hm
    · rename_i v
      by_cases hv : v.isC = true
      · simp only [hv, cond_true, Option.some.injEq] at hm
        subst hm
        obtain ⟨x, hx, hr⟩ := hc 0 v (by simp)
        refine ⟨x, ?_, cell_agg hr⟩
        have hx' : C.w.cell? ad = some x := by simpa [Addr.add] using hx
        simp [Instr.loadAt, Instr.sureAddr, loadVar, ha, run_load, hx']
      · simp [Bool.eq_false_iff.2 hv] at hm
    · cases hm

theorem cell_at {w : World} {g o : Nat} {cur : Array Value} {t : TypeId} {fr : Nat × Nat} {y : Value} (hg : w.heap[g]? = some (.cells cur t fr)) (hy : cur[o]? = some y) :
    w.cell? ⟨g, o, none⟩ = some y := by simp [World.cell?, hg, hy]
theorem isC_isA {c : CV} (h : c.isC = true) : c.isA = true := by cases c <;> first | rfl | (simp [CV.isC] at h)
theorem mkAgg_isA {t : Nat} {cs : List CV} {c : CV} (h : mkAgg t cs = some c) : c.isA = true := by
  unfold mkAgg at h
  split at h
  · rename_i ks hk
    by_cases hl : Nat.beq ks.length cs.length = true
    · simp only [hl, cond_true, Option.some.injEq] at h
      subst h; rfl
    · simp [Bool.eq_false_iff.2 hl] at h
  · split at h
    · rename_i v
      by_cases hv : v.isC = true
      · simp only [hv, cond_true, Option.some.injEq] at h
        subst h
        exact isC_isA hv
      · simp [Bool.eq_false_iff.2 hv] at h
    · cases h
  · cases h
theorem cells_n0 (k : SK) (e : k.T) : (k.cells e).flatMap n0 = [] := by cases k <;> rfl

/-- a load -/
theorem loadK_sound {B : Base} {nt : Nat} {C : Cx} {st : St} {a : Act} (h : SimL B nt C st a) {t : Nat} {p : CV} {v : Value} (hv : valR C p v) (hp : ∀ y, y ∈ n2 p → ∃ o, look st.H y = some o)
    {R : Type} {K : CV → Option R} {r : R} (hk : loadK t st.H p K = some r) :
    ∃ c, K c = some r ∧ ∃ u, (Instr.loadAt t v).run P C.w = .ok u C.w ∧ valR C c u ∧ ∀ y, y ∈ n2 c → ∃ o, look st.H y = some o := by
  unfold loadK at hk
  split at hk
  · cases hk
  · rename_i b ks hks
    split at hk
    · rename_i x o
      split at hk
      · rename_i ty cs hg
        split at hk
        · rename_i c hm
          have hlk := get_some.1 hg
          have hl : C.lv x := (h.lv x).2 ⟨_, hlk⟩
          obtain ⟨⟨ad, rfl⟩, hv2⟩ := hv
          obtain ⟨L, hL, he⟩ := hv2 hl
          cases he
          obtain ⟨⟨L', hL', cur, ct, hcur, hcs⟩, -⟩ := h.bl x _ hlk
          rw [hL] at hL'; cases hL'
          obtain ⟨u, hu, hr⟩ := load_gen (C := C) hks hm (ad := ⟨L.g, L.o + o, none⟩) (fun i u hu => by
            have hu' : cs[o + i]? = some u := by
              rw [List.getElem?_take] at hu
              split at hu
              · simpa using hu
              · cases hu
            obtain ⟨y, hy, hr⟩ := hcs (o + i) u hu'
            exact ⟨y, by rw [addr_add]; exact cell_at hcur (by rw [Nat.add_assoc]; exact hy), hr⟩)
          refine ⟨c, hk, u, hu, aggR_val hr, fun y hy => ?_⟩
          have hy' := mkAgg_names hm (n1_of (mkAgg_isA hm) hy)
          obtain ⟨d, hd, hyd⟩ := List.mem_flatMap.1 hy'
          exact h.nmH x _ hlk y (List.mem_flatMap.2 ⟨d, List.mem_of_mem_drop (List.mem_of_mem_take hd), hyd⟩)
        · cases hk
      · cases hk
    · rename_i cs o
      split at hk
      · rename_i c hm
        obtain ⟨g, q, hR, rfl, hcs⟩ := hv
        obtain ⟨u, hu, hr⟩ := load_gen (C := C) hks hm (ad := ⟨g, q + o, none⟩) (fun i u hu => by
          have hu' : cs[o + i]? = some u := by
            rw [List.getElem?_take] at hu
            split at hu
            · simpa using hu
            · cases hu
          obtain ⟨y, hy, hr⟩ := hcs (o + i) u hu'
          exact ⟨y, by rw [addr_add, Nat.add_assoc]; exact hy, bv_cell hr⟩)
        refine ⟨c, hk, u, hu, aggR_val hr, fun y hy => ?_⟩
        exfalso
        have hy' := mkAgg_names hm (n1_of (mkAgg_isA hm) hy)
        obtain ⟨d, hd, hyd⟩ := List.mem_flatMap.1 hy'
        obtain ⟨i, hi⟩ := List.mem_iff_getElem?.1 (List.mem_of_mem_drop (List.mem_of_mem_take hd))
        obtain ⟨z, hz, hr⟩ := hcs i d hi
        cases d <;> first | (simp [n0] at hyd; done) | exact False.elim hr
      · cases hk
    · rename_i x i j
      split at hk
      · rename_i ap k l hg
        split at hk
        · rename_i e hle
          split at hk
          · rename_i c hm
            have hlk := get_some.1 hg
            have hl : C.lv x := (h.lv x).2 ⟨_, hlk⟩
            obtain ⟨⟨ad, rfl⟩, hv2⟩ := hv
            obtain ⟨L, hL, he⟩ := hv2 hl
            cases he
            have hb := (h.bl x _ hlk).1
            simp only [blkR, hL] at hb
            obtain ⟨b1, b2, b3, b4, cur, b5, b6, b7⟩ := hb
            obtain ⟨u, hu, hr⟩ := load_gen (C := C) hks hm (ad := ⟨L.g, L.o + i * L.s + j, none⟩) (fun q u hu => by
              have hu' : (k.cells e)[j + q]? = some u := by
                rw [List.getElem?_take] at hu
                split at hu
                · simpa using hu
                · cases hu
              have hlt : j + q < k.size := by
                have := (List.getElem?_eq_some_iff.1 hu').1
                rwa [SK.cells_len] at this
              obtain ⟨y, hy, hr⟩ := b7 (i * k.size + (j + q)) u (by rw [row_get k hle hlt]; exact hu')
              exact ⟨y, by rw [addr_add]; exact cell_at b5 (by rw [← hy, b2]; congr 1; omega), bv_cell hr⟩)
            refine ⟨c, hk, u, hu, aggR_val hr, fun y hy => ?_⟩
            exfalso
            have hy' := mkAgg_names hm (n1_of (mkAgg_isA hm) hy)
            obtain ⟨d, hd, hyd⟩ := List.mem_flatMap.1 hy'
            have : y ∈ (k.cells e).flatMap n0 := List.mem_flatMap.2 ⟨d, List.mem_of_mem_drop (List.mem_of_mem_take hd), hyd⟩
            rw [cells_n0] at this
            simp at this
          · cases hk
        · cases hk
      · cases hk
    · cases hk
theorem indexAt_run (k : SK) (ad : Addr) (n c : Nat) (ik : IntKind) (i : Int) (h0 : 0 ≤ i) (h1 : i < n) (w : World) :
    (Instr.indexAt k.ty (.slice (some ad) n c) (.int ik i)).run P w = .ok (.pointer (some (ad.add (i.toNat * k.size)))) w := by
  simp [Instr.indexAt, asIntOf, run_underlying (SK.under k), h0, h1, SK.sizeOf k]

/-- an index -/
theorem indexK_sound {B : Base} {nt : Nat} {C : Cx} {st : St} {a : Act} (h : SimL B nt C st a) {t : Nat} {s i : CV} {v u : Value} (hs : valR C s v) (hi : valR C i u)
    (hn : ∀ y, y ∈ n2 s → ∃ o, look st.H y = some o) {R : Type} {K : CV → Option R} {r : R} (hk : indexK t st.H s i K = some r) :
    ∃ c, K c = some r ∧ ∃ z, (∀ w, (Instr.indexAt t v u).run P w = .ok z w) ∧ valR C c z ∧ ∀ y, y ∈ n2 c → ∃ o, look st.H y = some o := by
  unfold indexK at hk
  split at hk
  · rename_i ik n
    obtain rfl := int_inv hi
    split at hk
    · rename_i k l
      by_cases ht : Nat.beq k.ty t = true
      · simp only [ht, cond_true] at hk
        obtain rfl := ty_eq ht
        by_cases h0 : 0 ≤ n
        · simp only [h0, decide_true, cond_true] at hk
          split at hk
          · rename_i e he
            obtain ⟨A, c, rfl, hnc, hc⟩ := hs
            have hlt : n.toNat < l.length := (List.getElem?_eq_some_iff.1 he).1
            have hcell : ∀ j, j < k.size → ∃ ad x, A = some ad ∧ C.R ad.block ∧ C.w.cell? (ad.add (n.toNat * k.size + j)) = some x ∧ ∀ u, (k.cells e)[j]? = some u → lev C.w C.R 1 u x := by
              intro j hj
              have hj' : j < (k.cells e).length := by rw [SK.cells_len]; exact hj
              obtain ⟨ad, x, hA, hR, hx, hr⟩ := hc (n.toNat * k.size + j) _ ((row_get k he hj).trans (List.getElem?_eq_getElem hj'))
              refine ⟨ad, x, hA, hR, hx, fun u hu => ?_⟩
              rw [List.getElem?_eq_getElem hj'] at hu
              cases hu
              exact hr
            obtain ⟨ad, x, rfl, hR, hx, -⟩ := hcell 0 k.size_pos
            have hsp := cell_none hx
            have hfl := addr_flat ad (n.toNat * k.size + 0) hsp
            refine ⟨_, hk, _, fun w => indexAt_run k ad _ c ik n h0 (by omega) w, ⟨ad.block, ad.off + n.toNat * k.size, hR, ?_, fun j u hu => ?_⟩, by simp [n2, n1, n0]⟩
            · simp only [Nat.add_zero] at hfl ⊢
              rw [hfl]
            · have hj : j < k.size := by
                have := (List.getElem?_eq_some_iff.1 hu).1
                rwa [SK.cells_len] at this
              obtain ⟨ad', x', hA, hR', hx', hr'⟩ := hcell j hj
              cases hA
              refine ⟨x', ?_, lev_lift (hr' u hu)⟩
              rw [addr_flat ad _ (cell_none hx'), ← Nat.add_assoc] at hx'
              exact hx'
          · cases hk
        · simp [h0] at hk
      · simp [Bool.eq_false_iff.2 ht] at hk
    · rename_i x
      split at hk
      · rename_i ap k l hg
        by_cases ht : Nat.beq k.ty t = true
        · simp only [ht, cond_true] at hk
          obtain rfl := ty_eq ht
          by_cases h0 : 0 ≤ n
          · simp only [h0, decide_true, cond_true] at hk
            by_cases h1 : n < (l.length : Int)
            · simp only [h1, decide_true, cond_true] at hk
              have hlk := get_some.1 hg
              have hl : C.lv x := (h.lv x).2 ⟨_, hlk⟩
              obtain ⟨-, hv2⟩ := hs
              have hv3 := hv2 hl
              have hb := (h.bl x _ hlk).1
              cases hL : C.loc x with
              | none => simp only [blkR, hL] at hb; subst hb; simp at h1; omega
              | some L =>
                rw [hL] at hv3
                simp only [blkR, hL] at hb
                subst hv3
                refine ⟨_, hk, _, fun w => indexAt_run k _ _ _ ik n h0 (by rw [hb.1]; exact h1) w, ⟨⟨_, rfl⟩, fun _ => ⟨L, hL, ?_⟩⟩, hn⟩
                rw [addr_add, hb.2.1]
                rfl
            · simp [h1] at hk
          · simp [h0] at hk
        · simp [Bool.eq_false_iff.2 ht] at hk
      · cases hk
    · rename_i x off len
      split at hk
      · rename_i ap k l hg
        by_cases ht : Nat.beq k.ty t = true
        · simp only [ht, cond_true] at hk
          obtain rfl := ty_eq ht
          by_cases h0 : 0 ≤ n
          · simp only [h0, decide_true, cond_true] at hk
            by_cases h1 : n < (len : Int)
            · simp only [h1, decide_true, cond_true] at hk
              have hlk := get_some.1 hg
              have hl : C.lv x := (h.lv x).2 ⟨_, hlk⟩
              obtain ⟨-, hv2⟩ := hs
              have hv3 := hv2 hl
              have hb := (h.bl x _ hlk).1
              cases hL : C.loc x with
              | none => rw [hL] at hv3; obtain ⟨rfl, -⟩ := hv3; simp at h1; omega
              | some L =>
                rw [hL] at hv3
                simp only [blkR, hL] at hb
                obtain ⟨hle, A, c, rfl, hc, hA⟩ := hv3
                obtain rfl := hA (by omega)
                refine ⟨_, hk, _, fun w => indexAt_run k _ _ _ ik n h0 h1 w, ⟨⟨_, rfl⟩, fun _ => ⟨L, hL, ?_⟩⟩, hn⟩
                rw [addr_add, hb.2.1, Nat.add_mul]
                simp [Nat.add_assoc]
            · simp [h1] at hk
          · simp [h0] at hk
        · simp [Bool.eq_false_iff.2 ht] at hk
      · cases hk
    · cases hk
  · cases hk

/-- a length -/
theorem lenK_sound {B : Base} {nt : Nat} {C : Cx} {st : St} {a : Act} (h : SimL B nt C st a) {k : SK} {s : CV} {v : Value} (hs : valR C s v)
    {R : Type} {K : CV → Option R} {r : R} (hk : lenK st.H s K = some r) (ty : TypeId) :
    ∃ c, K c = some r ∧ ∃ z, (∀ w, (Builtin.len_ #[k.ty] ty #[v]).run P w = .ok z w) ∧ valR C c z ∧ n2 c = [] := by
  have key : ∀ A n c, v = .slice A n c → ∀ w, (Builtin.len_ #[k.ty] ty #[v]).run P w = .ok (.int .i64 n) w := by
    rintro A n c rfl w
    simp [Builtin.len_, run_underlying (SK.under k), goInt]
  unfold lenK at hk
  split at hk
  · obtain ⟨A, rfl⟩ := hs
    exact ⟨_, hk, _, key _ _ _ rfl, rfl, rfl⟩
  · obtain ⟨A, c, rfl, -⟩ := hs
    exact ⟨_, hk, _, key _ _ _ rfl, rfl, rfl⟩
  · rename_i x
    split at hk
    · rename_i ap k' l hg
      have hlk := get_some.1 hg
      have hl : C.lv x := (h.lv x).2 ⟨_, hlk⟩
      have hv3 := hs.2 hl
      have hb := (h.bl x _ hlk).1
      cases hL : C.loc x with
      | none =>
        rw [hL] at hv3
        simp only [blkR, hL] at hb
        subst hb
        obtain ⟨A, rfl⟩ := hv3
        exact ⟨_, hk, _, key _ _ _ rfl, rfl, rfl⟩
      | some L =>
        rw [hL] at hv3
        simp only [blkR, hL] at hb
        subst hv3
        exact ⟨_, hk, _, key _ _ _ rfl, by rw [hb.1]; rfl, rfl⟩
    · cases hk
  · rename_i x off len
    split at hk
    · rename_i b hg
      have hlk := get_some.1 hg
      have hl : C.lv x := (h.lv x).2 ⟨_, hlk⟩
      have hv3 := hs.2 hl
      cases hL : C.loc x with
      | none =>
        rw [hL] at hv3
        obtain ⟨rfl, A, c, rfl⟩ := hv3
        exact ⟨_, hk, _, key _ _ _ rfl, rfl, rfl⟩
      | some L =>
        rw [hL] at hv3
        obtain ⟨-, A, c, rfl, -⟩ := hv3
        exact ⟨_, hk, _, key _ _ _ rfl, rfl, rfl⟩
    · cases hk
  · cases hk

/-! ### cuts -/
theorem bound_sound {B : Base} {nt : Nat} {C : Cx} {st : St} {a : Act} (h : SimL B nt C st a) {x : Option Operand} {d : Int} {R : Type} {K : Int → Option R} {r : R}
    (hk : bound st.T x d K = some r) : ∃ n, K n = some r ∧ ((x = none ∧ n = d) ∨ ∃ o ik, x = some o ∧ a.eval o = .int ik n) := by
  unfold bound at hk
  split at hk
  · exact ⟨d, hk, .inl ⟨rfl, rfl⟩⟩
  · rename_i x
    split at hk
    · rename_i ik n hn
      exact ⟨n, hk, .inr ⟨x, ik, rfl, int_inv (ev_sound h hn).1⟩⟩
    · cases hk
theorem sliceBound_run (ik : IntKind) (n : Nat) (y : Nat) (code : BoundsCode) (h : n ≤ y) (w : World) : (Instr.sliceBound (.int ik n) y code).run P w = .ok n w := by
  simp [Instr.sliceBound, asIntOf, h]
theorem slice_run (k : SK) (A : Option Addr) (len cap : Nat) (lo hi mx : Option Value) (x y m : Nat)
    (hlo : (lo = none ∧ x = 0) ∨ ∃ ik, lo = some (.int ik (x : Int))) (hhi : (hi = none ∧ y = len ∧ mx = none) ∨ ∃ ik, hi = some (.int ik (y : Int)))
    (hmx : (mx = none ∧ m = cap) ∨ ∃ ik, mx = some (.int ik (m : Int))) (h1 : x ≤ y) (h2 : y ≤ m) (h3 : m ≤ cap) (w : World) :
    (Instr.sliceAt k.ty (.slice A len cap) lo hi mx).run P w = .ok (.slice (if m = x then A else A.map (·.add (x * k.size))) (y - x) (m - x)) w := by
  have hx : x ≤ y := h1
  have s1 := fun ik code => sliceBound_run ik x y code h1 w
  have s2 := fun ik code => sliceBound_run ik y m code h2 w
  have s3 := fun ik code => sliceBound_run ik m cap code h3 w
  have s4 := fun ik code (e : m = cap) => e ▸ sliceBound_run ik y m code h2 w
  rcases hlo with ⟨rfl, rfl⟩ | ⟨k1, rfl⟩ <;> rcases hhi with ⟨rfl, rfl, hm⟩ | ⟨k2, rfl⟩ <;> rcases hmx with ⟨rfl, rfl⟩ | ⟨k3, rfl⟩ <;>
    first
    | (cases hm; done)
    | (simp [Instr.sliceAt, Instr.slice, run_underlying (SK.under k), Instr.sliceBounds, s1, s2, s3, SK.sizeOf k]; done)
theorem toNat_int {n : Int} (h : 0 ≤ n) : ((n.toNat : Nat) : Int) = n := Int.toNat_of_nonneg h

theorem sliceK_sound {B : Base} {nt : Nat} {C : Cx} {st : St} {a : Act} (h : SimL B nt C st a) {t : Nat} {s : CV} {v : Value} (hs : valR C s v) (hn : ∀ y, y ∈ n2 s → ∃ o, look st.H y = some o)
    {lo hi mx : Option Operand} {R : Type} {K : CV → Option R} {r : R} (hk : sliceK t st.T st.H s lo hi mx K = some r) :
    ∃ c, K c = some r ∧ ∃ z, (∀ w, (Instr.sliceAt t v (lo.map a.eval) (hi.map a.eval) (mx.map a.eval)).run P w = .ok z w) ∧ valR C c z ∧ ∀ y, y ∈ n2 c → ∃ o, look st.H y = some o := by
  unfold sliceK at hk
  split at hk
  · rename_i k l
    by_cases ht : (Nat.beq k.ty t && mx.isNone) = true
    · simp only [ht, cond_true] at hk
      simp only [Bool.and_eq_true] at ht
      obtain rfl := ty_eq ht.1
      obtain ⟨x, hk, hlo⟩ := bound_sound h hk
      obtain ⟨y, hk, hhi⟩ := bound_sound h hk
      by_cases h1 : 0 ≤ x
      · simp only [h1, decide_true, cond_true] at hk
        by_cases h2 : x ≤ y
        · simp only [h2, decide_true, cond_true] at hk
          by_cases h3 : y ≤ (l.length : Int)
          · simp only [h3, decide_true, cond_true] at hk
            obtain ⟨A, c, rfl, hnc, hc⟩ := hs
            obtain ⟨x, rfl⟩ := Int.eq_ofNat_of_zero_le h1
            obtain ⟨y, rfl⟩ := Int.eq_ofNat_of_zero_le (show 0 ≤ y by omega)
            have hmx : mx = none := by cases mx with | none => rfl | some _ => simp at ht
            subst hmx
            refine ⟨_, hk, _, fun w => slice_run k A l.length c _ _ _ x y c ?_ ?_ (.inl ⟨rfl, rfl⟩) (by omega) (by omega) (Nat.le_refl _) w, ?_, by simp [n2, n1, n0]⟩
            · rcases hlo with ⟨rfl, e⟩ | ⟨o, ik, rfl, e⟩
              · exact .inl ⟨rfl, by omega⟩
              · exact .inr ⟨ik, by simp [e]⟩
            · rcases hhi with ⟨rfl, e⟩ | ⟨o, ik, rfl, e⟩
              · exact .inl ⟨rfl, by omega, rfl⟩
              · exact .inr ⟨ik, by simp [e]⟩
            · have hlen : ((l.drop (x : Int).toNat).take ((y : Int).toNat - (x : Int).toNat)).length = y - x := by simp; omega
              refine ⟨if c = x then A else A.map (·.add (x * k.size)), c - x, by rw [hlen], by omega, ?_⟩
              · intro i u hu
                simp only [Int.toNat_natCast] at hu
                rw [take_flat (SK.cells_len k), drop_flat (SK.cells_len k), List.getElem?_take] at hu
                split at hu
                · rename_i hi'
                  rw [List.getElem?_drop] at hu
                  obtain ⟨ad, z, hA, hR, hz, hr⟩ := hc _ _ hu
                  have hxy : ¬ c = x := by
                    intro e
                    have : y - x = 0 := by omega
                    rw [this] at hi'
                    simp at hi'
                  subst hA
                  refine ⟨ad.add (x * k.size), z, by simp [hxy], by rw [addr_block]; exact hR, by rw [addr_add_add]; exact hz, hr⟩
                · cases hu
          · simp [h3] at hk
        · simp [h2] at hk
      · simp [h1] at hk
    · simp [Bool.eq_false_iff.2 ht] at hk
  · rename_i x
    split at hk
    · rename_i ap k l hg
      by_cases ht : (Nat.beq k.ty t && (hi.isSome || mx.isNone)) = true
      · simp only [ht, cond_true] at hk
        simp only [Bool.and_eq_true] at ht
        obtain rfl := ty_eq ht.1
        obtain ⟨x', hk1, hlo⟩ := bound_sound h hk
        clear hk
        obtain ⟨y, hk2, hhi⟩ := bound_sound h hk1
        clear hk1
        obtain ⟨m, hk, hmx⟩ := bound_sound h hk2
        clear hk2
        by_cases h1 : 0 ≤ x'
        · simp only [h1, decide_true, cond_true] at hk
          by_cases h2 : x' ≤ y
          · simp only [h2, decide_true, cond_true] at hk
            by_cases h3 : y ≤ m
            · simp only [h3, decide_true, cond_true] at hk
              by_cases h4 : m ≤ (l.length : Int)
              · simp only [h4, decide_true, cond_true] at hk
                obtain ⟨x', rfl⟩ := Int.eq_ofNat_of_zero_le h1
                obtain ⟨y, rfl⟩ := Int.eq_ofNat_of_zero_le (show 0 ≤ y by omega)
                obtain ⟨m, rfl⟩ := Int.eq_ofNat_of_zero_le (show 0 ≤ m by omega)
                have hlk := get_some.1 hg
                have hl : C.lv x := (h.lv x).2 ⟨_, hlk⟩
                have hv3 := hs.2 hl
                have hb := (h.bl x _ hlk).1
                have main : ∀ A n c, v = .slice A n c → n = l.length → n ≤ c → ∃ A' c', (∀ w, (Instr.sliceAt k.ty v (lo.map a.eval) (hi.map a.eval) (mx.map a.eval)).run P w = .ok (.slice A' (y - x') c') w) ∧ y - x' ≤ c' ∧
                    (0 < y - x' → A' = A.map (·.add (x' * k.size))) := by
                  rintro A n c rfl rfl hnc
                  rcases hmx with ⟨rfl, e⟩ | ⟨o, ik, rfl, e⟩
                  · refine ⟨_, _, fun w => slice_run k A l.length c _ _ _ x' y c ?_ ?_ (.inl ⟨rfl, rfl⟩) (by omega) (by omega) (Nat.le_refl _) w, by omega, fun hlt => by rw [if_neg (by omega)]⟩
                    · rcases hlo with ⟨rfl, e⟩ | ⟨o, ik, rfl, e⟩
                      · exact .inl ⟨rfl, by omega⟩
                      · exact .inr ⟨ik, by simp [e]⟩
                    · rcases hhi with ⟨rfl, e⟩ | ⟨o, ik, rfl, e⟩
                      · exact .inl ⟨rfl, by omega, rfl⟩
                      · exact .inr ⟨ik, by simp [e]⟩
                  · refine ⟨_, _, fun w => slice_run k A l.length c _ _ _ x' y m ?_ ?_ (.inr ⟨ik, by simp [e]⟩) (by omega) (by omega) (by omega) w, by omega, fun hlt => by rw [if_neg (by omega)]⟩
                    · rcases hlo with ⟨rfl, e⟩ | ⟨o, ik, rfl, e⟩
                      · exact .inl ⟨rfl, by omega⟩
                      · exact .inr ⟨ik, by simp [e]⟩
                    · rcases hhi with ⟨rfl, e⟩ | ⟨o, ik, rfl, e⟩
                      · simp at ht
                      · exact .inr ⟨ik, by simp [e]⟩
                cases hL : C.loc x with
                | none =>
                  rw [hL] at hv3
                  simp only [blkR, hL] at hb
                  subst hb
                  simp only [List.length_nil] at main h4
                  obtain ⟨A, rfl⟩ := hv3
                  obtain ⟨A', c', hr, hc, -⟩ := main A 0 0 rfl rfl (Nat.le_refl _)
                  refine ⟨_, hk, _, hr, ⟨⟨_, _, _, rfl⟩, fun _ => ?_⟩, hn⟩
                  rw [hL]
                  refine ⟨by simp; omega, A', c', ?_⟩
                  congr 1
                  omega
                | some L =>
                  rw [hL] at hv3
                  simp only [blkR, hL] at hb
                  obtain ⟨A', c', hr, hc, hA⟩ := main _ _ _ hv3 hb.1 hb.2.2.1
                  refine ⟨_, hk, _, hr, ⟨⟨_, _, _, rfl⟩, fun _ => ?_⟩, hn⟩
                  rw [hL]
                  refine ⟨by simp; omega, A', c', by simp, by simpa using hc, fun hlt => ?_⟩
                  rw [hA (by simpa using hlt), hb.2.1]
                  simp [addr_add]
              · simp [h4] at hk
            · simp [h3] at hk
          · simp [h2] at hk
        · simp [h1] at hk
      · simp [Bool.eq_false_iff.2 ht] at hk
    · cases hk
  · cases hk
end Go.Proofs.Ytnfgfdeidkhdkaa.Eng
