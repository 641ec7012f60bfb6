/- The engine's soundness, ninth part: appends, copies, calls that write or that keep what they are handed. -/
import Derived.Test.YtnfgfdeidkhdkaaEj
namespace Go.Proofs.Ytnfgfdeidkhdkaa.Eng
open Go.RowKit (Below)
set_option linter.unusedVariables false
set_option linter.unusedSimpArgs false

theorem Below.keepHeap {C : Cx} : True := trivial
/-- a row of ours is let go, and another one is there -/
theorem SimL.app {B : Base} {nt : Nat} {C : Cx} {st : St} {a : Act} (h : SimL B nt C st a) {x y : Nat} (hx : look st.H x = none) {b0 b : Blk} (hy : look st.H y = some (some b0)) {L : Option Lc} {w' : World}
    (h1 : w'.os = C.w.os) (h2 : w'.tape = C.w.tape) (h3 : w'.output = C.w.output) (h4 : C.w.heap.size ≤ w'.heap.size) (h5 : ∀ k, k < C.w.heap.size → (∀ M, C.loc y = some M → k ≠ M.g) → w'.heap[k]? = C.w.heap[k]?)
    (h6 : ∀ M, L = some M → M.g < w'.heap.size ∧ ((∃ M0, C.loc y = some M0 ∧ M.g = M0.g) ∨ C.w.heap.size ≤ M.g))
    (h7 : blkR ⟨w', C.R, fun z => (C.lv z ∧ z ≠ y) ∨ z = x, fun z => if z = x then L else C.loc z⟩ x b) (h8 : nB b = []) :
    SimL B nt ⟨w', C.R, fun z => (C.lv z ∧ z ≠ y) ∨ z = x, fun z => if z = x then L else C.loc z⟩ ⟨st.T, (x, some b) :: (y, none) :: st.H⟩ a := by
  have hxy : x ≠ y := fun e => by rw [e, hy] at hx; cases hx
  have hlk : ∀ z, look ((x, some b) :: (y, none) :: st.H) z = if x = z then some (some b) else if y = z then some none else look st.H z := fun z => by rw [look_cons, look_cons]
  have hly : C.lv y := (h.lv y).2 ⟨_, hy⟩
  have hRy : ∀ M, C.loc y = some M → ¬ C.R M.g := fun M hM => ((h.bl y _ hy).2 M hM).2.1
  have hkeep : ∀ k, C.R k → w'.heap[k]? = C.w.heap[k]? := fun k hk => h5 k (h.rlt k hk) fun M hM e => hRy M hM (e ▸ hk)
  have hkn : ∀ z o, look st.H z = some o → ∃ o, look ((x, some b) :: (y, none) :: st.H) z = some o := fun z o ho => by
    rw [hlk]
    split
    · exact ⟨_, rfl⟩
    · split
      · exact ⟨_, rfl⟩
      · exact ⟨o, ho⟩
  have tr : Tr C ⟨w', C.R, fun z => (C.lv z ∧ z ≠ y) ∨ z = x, fun z => if z = x then L else C.loc z⟩ (fun z => ∃ o, look st.H z = some o) := by
    refine ⟨hkeep, fun _ h => h, fun z hz hl => ?_⟩
    have hzx : z ≠ x := fun e => by
      obtain ⟨o, ho⟩ := hz
      rw [e, hx] at ho; cases ho
    rcases hl with hl | hl
    · exact ⟨hl.1, by simp [hzx]⟩
    · exact absurd hl hzx
  constructor
  · exact h.size
  · exact h.dfr
  · exact h1.trans h.os
  · exact h2.trans h.tape
  · exact h3.trans h.output
  · exact Nat.le_trans h.grow h4
  · intro k hk hm
    refine (h5 k (Nat.lt_of_lt_of_le hk h.grow) fun M hM e => ?_).trans (h.keep k hk hm)
    subst e
    rcases ((h.bl y _ hy).2 M hM).1 with o | o
    · omega
    · exact hm o
  · exact h.rsub
  · exact fun k hk => Nat.lt_of_lt_of_le (h.rlt k hk) h4
  · exact h.rnew
  · intro z
    simp only
    rw [h.lv z, hlk]
    by_cases e : x = z
    · subst e; simp
    · rw [if_neg e]
      by_cases e2 : y = z
      · subst e2
        simp [Ne.symm e]
      · rw [if_neg e2]
        simp [Ne.symm e, Ne.symm e2]
  · intro t c hc
    obtain ⟨u, hu, hr⟩ := h.tm t c hc
    exact ⟨u, hu, valR_tr tr (fun z hz => h.nmT t c hc z hz) hr⟩
  · intro z b' hb'
    simp only at hb'
    rw [hlk] at hb'
    split at hb'
    · rename_i e
      subst e
      cases hb'
      refine ⟨h7, fun M hM => ?_⟩
      simp only [if_true] at hM
      obtain ⟨q1, q2⟩ := h6 M hM
      rcases q2 with ⟨M0, hM0, e⟩ | q2
      · obtain ⟨c1, c2, c3⟩ := (h.bl y _ hy).2 M0 hM0
        rw [← e] at c1 c2
        exact ⟨c1, c2, q1⟩
      · exact ⟨.inl (Nat.le_trans h.grow q2), fun hR => absurd (h.rlt _ hR) (Nat.not_lt.2 q2), q1⟩
    · split at hb'
      · cases hb'
      · rename_i e e2
        obtain ⟨a1, a2⟩ := h.bl z b' hb'
        have hlz : C.lv z := (h.lv z).2 ⟨_, hb'⟩
        refine ⟨blkR_tr tr (by simp [Ne.symm e]) (fun M hM => h5 M.g (a2 M hM).2.2 fun M0 hM0 e' => h.dj z y M M0 hlz hly hM hM0 (Ne.symm e2) e') (fun q hq => h.nmH z b' hb' q hq) a1, fun M hM => ?_⟩
        simp only [if_neg (Ne.symm e)] at hM
        obtain ⟨c1, c2, c3⟩ := a2 M hM
        exact ⟨c1, c2, Nat.lt_of_lt_of_le c3 h4⟩
  · intro z1 z2 M1 M2 hz1 hz2 hM1 hM2 hne
    simp only at hM1 hM2
    have key : ∀ z M M', (C.lv z ∧ z ≠ y) → L = some M → C.loc z = some M' → M.g ≠ M'.g := fun z M M' hz hM hM' e => by
      rcases (h6 M hM).2 with ⟨M0, hM0, e0⟩ | q2
      · exact h.dj z y M' M0 hz.1 hly hM' hM0 hz.2 (by rw [← e, e0])
      · obtain ⟨bz, hbz⟩ := (h.lv z).1 hz.1
        have := ((h.bl z _ hbz).2 M' hM').2.2
        omega
    by_cases e1 : z1 = x
    · rw [if_pos e1] at hM1
      by_cases e2 : z2 = x
      · exact absurd (e1.trans e2.symm) hne
      · rw [if_neg e2] at hM2
        exact key z2 M1 M2 (hz2.resolve_right e2) hM1 hM2
    · rw [if_neg e1] at hM1
      by_cases e2 : z2 = x
      · rw [if_pos e2] at hM2
        exact (key z1 M2 M1 (hz1.resolve_right e1) hM2 hM1).symm
      · rw [if_neg e2] at hM2
        exact h.dj z1 z2 M1 M2 (hz1.resolve_right e1).1 (hz2.resolve_right e2).1 hM1 hM2 hne
  · intro t c hc z hz
    obtain ⟨o, ho⟩ := h.nmT t c hc z hz
    exact hkn z o ho
  · intro z b' hb' q hq
    simp only at hb'
    rw [hlk] at hb'
    split at hb'
    · cases hb'
      rw [h8] at hq; simp at hq
    · split at hb'
      · cases hb'
      · obtain ⟨o, ho⟩ := h.nmH z b' hb' q hq
        exact hkn q o ho
  · exact h.pin

theorem firstCells_run (s n m c : Nat) (A : Option Addr) (w : World) (cs : List Value) (hl : cs.length = n * s) (hs : 0 < s) (hn : ∀ (j : Nat) u, cs[j]? = some u → ∃ ad, A = some ad ∧ w.cell? (ad.add j) = some u) :
    (Builtin.firstCells s n (.slice A m c)).run P w = .ok cs.toArray w := by
  by_cases h0 : n = 0
  · subst h0
    have : cs = [] := List.eq_nil_of_length_eq_zero (by simpa using hl)
    subst this
    cases A <;> simp [Builtin.firstCells, loadCells, loadCellsFrom]
  · have hA : ∃ ad, A = some ad := by
      have : 0 < cs.length := by rw [hl]; exact Nat.mul_pos (by omega) hs
      obtain ⟨ad, hA, -⟩ := hn 0 _ (List.getElem?_eq_getElem this)
      exact ⟨ad, hA⟩
    obtain ⟨ad, rfl⟩ := hA
    exact run_firstCells_some (P := P) w s n ad m c cs hl fun j u hu => by
      obtain ⟨ad', e, hx⟩ := hn j u hu
      cases e; exact hx
/-- an append to a row -/
theorem append_run (k : SK) (ty : TypeId) (g n c m c' : Nat) (A : Option Addr) (news : List Value) (w : World) (cur : Array Value) (hg : w.heap[g]? = some (.cells cur k.el (0, 0))) (hnc : n ≤ c) (hcm : c ≤ maxLen) (hsz : cur.size = c * k.size)
    (hl : news.length = m * k.size) (hn : ∀ (j : Nat) u, news[j]? = some u → ∃ ad, A = some ad ∧ w.cell? (ad.add j) = some u) (h1 : ∀ u, u ∈ news → u.oneCell' = true) (hb : n + m ≤ 4294967296) :
    ∃ (w' : World) (cur' : Array Value) (g' cap : Nat), (Builtin.append_ #[k.ty, k.ty] ty #[.slice (some ⟨g, 0, none⟩) n c, .slice A m c']).run P w = .ok (.slice (some ⟨g', 0, none⟩) (n + m) cap) w' ∧
      w'.os = w.os ∧ w'.tape = w.tape ∧ w'.output = w.output ∧ w.heap.size ≤ w'.heap.size ∧ (∀ b, b < w.heap.size → b ≠ g → w'.heap[b]? = w.heap[b]?) ∧ (g' = g ∨ w.heap.size ≤ g') ∧ w'.heap[g']? = some (.cells cur' k.el (0, 0)) ∧
      n + m ≤ cap ∧ cap ≤ maxLen ∧ cur'.size = cap * k.size ∧ ∀ j, j < (n + m) * k.size → cur'[j]? = if j < n * k.size then cur[j]? else news[j - n * k.size]? := by
  obtain ⟨i, z, hi, hs, hby, hz, hzs⟩ := SK.info k
  have hsp := k.size_pos
  have hns : n * k.size ≤ c * k.size := Nat.mul_le_mul_right _ hnc
  have hadd : (n + m) * k.size = n * k.size + m * k.size := Nat.add_mul ..
  by_cases hroom : n + m ≤ c
  · have hfit : n * k.size + m * k.size ≤ c * k.size := by rw [← hadd]; exact Nat.mul_le_mul_right _ hroom
    have hfc := firstCells_run k.size m m c' A w news hl hsp hn
    have hst := run_storeCells_at P g (n * k.size) k.el news 0 cur w hg (by simp only [Nat.add_zero]; omega) h1
    simp only [Nat.add_zero] at hst
    obtain ⟨new, hnew⟩ : ∃ new, new = (cur.toList.take (n * k.size) ++ news ++ cur.toList.drop (n * k.size + news.length)).toArray := ⟨_, rfl⟩
    rw [← hnew] at hst
    refine ⟨w.setRow g new, new, g, c, ?_, ?_, ?_, ?_, ?_, fun b _ hb => setRow_other _ _ _ _ hb, .inl rfl, setRow_heap _ _ _ _ _ _ hg, hroom, hcm, ?_, fun j hj => ?_⟩
    · simp [Builtin.append_, run_underlying (SK.under k), sizeOf, typeInfo, hi, hs, Builtin.lenOf, hroom, hfc, Addr.add_lit, hst]
    · rfl
    · rfl
    · rfl
    · simp
    · rw [hnew]
      simp only [List.size_toArray, List.length_append, List.length_take, List.length_drop, Array.length_toList]
      omega
    · rw [hnew]
      simp only [List.getElem?_toArray]
      rw [splice_get _ _ _ _ (by simp only [Array.length_toList]; omega)]
      by_cases hjn : j < n * k.size
      · rw [if_neg (by omega), if_pos hjn]; simp
      · rw [if_pos (by omega), if_neg hjn]
  · have hg0 : c < n + m := by omega
    have hm : m ≠ 0 := by omega
    have hA : ∃ ad, A = some ad := by
      have : 0 < news.length := by rw [hl]; exact Nat.mul_pos (by omega) hsp
      obtain ⟨ad, hA, -⟩ := hn 0 _ (List.getElem?_eq_getElem this)
      exact ⟨ad, hA⟩
    obtain ⟨ad, rfl⟩ := hA
    have hge := grownCap_ge w (n + m) c k.el
    have hcm' := grownCap_le_maxLen w (n + m) c k.el (by unfold maxLen; omega)
    have hol : (cur.toList.take (n * k.size)).length = n * k.size := by simp only [List.length_take, Array.length_toList]; omega
    have hr := run_append_grow (P := P) w k.ty ty k.el i z (SK.under k) hi hz ⟨g, 0, none⟩ n c (cur.toList.take (n * k.size)) (by rw [hs]; exact hol) (fun j v hv => by
      rw [addr_add, Nat.zero_add]
      refine cell_at hg ?_
      rw [List.getElem?_take] at hv
      split at hv
      · simpa using hv
      · cases hv) ad m c' news (by rw [hs]; exact hl) (fun j u hu => by
        obtain ⟨ad', e, hx⟩ := hn j u hu
        cases e; exact hx) hg0 (by omega) (growslice_fits hg0 (Nat.le_trans (Nat.mul_le_mul hb hby) (by decide)))
    refine ⟨_, (cur.toList.take (n * k.size)).toArray ++ news.toArray ++ Builtin.zeroCells z.cells (grownCap w (n + m) c k.el - (n + m)), w.heap.size, _, hr, rfl, rfl, rfl, ?_, fun b hb _ => ?_, .inr (Nat.le_refl _), ?_, hge, hcm', ?_, fun j hj => ?_⟩
    · rw [World.size_alloc]; exact Nat.le_succ _
    · exact alloc_old w.drew _ b hb
    · exact alloc_new w.drew _
    · have h1 : (n + m) * k.size ≤ grownCap w (n + m) c k.el * k.size := Nat.mul_le_mul_right _ hge
      simp only [Array.size_append, List.size_toArray, hl, size_zeroCells, hzs, hol, ← Nat.add_mul]
      rw [Nat.add_sub_cancel' hge]
    · rw [Array.getElem?_append_left (by simp only [Array.size_append, List.size_toArray, hl, hol]; omega)]
      by_cases hjn : j < n * k.size
      · rw [Array.getElem?_append_left (by simp only [List.size_toArray, hol]; exact hjn), if_pos hjn]
        simp [List.getElem?_take, hjn]
      · rw [Array.getElem?_append_right (by simp only [List.size_toArray, hol]; omega), if_neg hjn]
        simp only [List.size_toArray, hol, List.getElem?_toArray]

theorem append_sound {B : Base} {nt : Nat} {C : Cx} {st : St} {a : Act} (h : SimL B nt C st a) {o : Oper} {c : Call} (ho : o.op = .call c) (hc : c.callee = .builtin .append) {x y : Nat} {z : CV} {k : SK} (hs : evs st.T c.args.toList c.argTypes.toList = some [.ref y, z])
    (ht : c.argTypes.toList = [k.ty, k.ty]) {l : List k.T} (hg : get st.H y = some (.arr true k l)) (hx : look st.H x = none) {R : Type} {K : List k.T → Option R} {r : R} (hk : source st.H k z K = some r) :
    ∃ l', K l' = some r ∧ (l.length + l'.length ≤ 4294967296 → Wr B nt st a o C.w (.ref x) [(x, some (.arr true k (l ++ l'))), (y, none)]) := by
  obtain ⟨h1, h2⟩ := evs_sound h hs
  obtain ⟨u, v, e, hu, hv⟩ := list2 h1
  obtain ⟨l', hK, A, cc, rfl, news, hl, hn, hr⟩ := source_R h hk hv
  refine ⟨l', hK, fun hb Kc Q hKc => ?_⟩
  have e1 : c.argTypes = #[k.ty, k.ty] := arr_of ht
  have e2 : c.args.map a.eval = #[u, .slice A l'.length cc] := arr_of (by rw [map_toList]; exact e)
  have hrun : ∀ v w', (Builtin.append_ #[k.ty, k.ty] o.type #[u, .slice A l'.length cc]).run P C.w = .ok v w' → (execOp a.eval o).run P C.w = .ok (.value v) w' := by
    intro v w' hr
    rw [call_run a o c _ ho hc, e1, e2]
    exact run_v _ _ hr
  have hlk := get_some.1 hg
  have hlv : C.lv y := (h.lv y).2 ⟨_, hlk⟩
  have hu2 := hu.2 hlv
  have hbl := (h.bl y _ hlk).1
  have fin : ∀ {w' : World} {L : Option Lc} {v : Value}, (execOp a.eval o).run P C.w = .ok (.value v) w' →
      SimL B nt ⟨w', C.R, fun z => (C.lv z ∧ z ≠ y) ∨ z = x, fun z => if z = x then L else C.loc z⟩ ⟨st.T, (x, some (.arr true k (l ++ l'))) :: (y, none) :: st.H⟩ a →
      ((∃ A n c, v = .slice A n c) ∧ (match L with
      | none => ∃ A, v = .slice A 0 0
      | some L => v = .slice (some ⟨L.g, L.o, none⟩) L.n L.c)) → o.wp P a C.w Kc Q := by
    intro w' L v hr hsim hv
    refine wp_value hr (hKc _ v ⟨hsim, ⟨hv.1, fun _ => ?_⟩, fun q hq => ?_⟩)
    · simp only [if_true]
      cases L <;> exact hv.2
    · simp only [n2, n1, n0, List.mem_singleton] at hq
      subst hq
      exact ⟨some (.arr true k (l ++ l')), by simp [look_cons]⟩
  cases hL : C.loc y with
  | none =>
    rw [hL] at hu2
    simp only [blkR, hL] at hbl
    obtain ⟨A0, rfl⟩ := hu2
    subst hbl
    rcases append_nil_run k o.type A0 A l'.length cc news C.w hl hn (by simp at hb; exact hb) with ⟨h0, hr0⟩ | ⟨w', cur, cap, hr0, a1, a2, a3, a4, a5, a6, a7, a8⟩
    · have hl0 : l' = [] := List.eq_nil_of_length_eq_zero h0
      subst hl0
      exact fin (L := none) (hrun _ _ hr0) (h.app hx hlk rfl rfl rfl (Nat.le_refl _) (fun _ _ _ => rfl) (fun M hM => by cases hM) (by simp [blkR]) rfl) ⟨⟨_, _, _, rfl⟩, ⟨_, rfl⟩⟩
    · have hsz : w'.heap.size = C.w.heap.size + 1 := by rw [a4]; simp
      refine fin (L := some ⟨C.w.heap.size, 0, l'.length, cap, k.size⟩) (hrun _ _ hr0) (h.app hx hlk a1 a2 a3 (by omega) (fun q hq _ => by rw [a4]; simp [Array.getElem?_push, Nat.ne_of_lt hq]) (fun M hM => by
        cases hM; exact ⟨by simp [hsz], .inr (Nat.le_refl _)⟩) ?_ rfl) ⟨⟨_, _, _, rfl⟩, rfl⟩
      simp only [blkR, if_true]
      refine ⟨by simp, trivial, a5, a6, cur, by rw [a4]; simp, fun _ => ⟨trivial, a7⟩, fun j u hj => ?_⟩
      simp only [List.nil_append] at hj
      obtain ⟨y', hy', hr'⟩ := hr.get hj
      refine ⟨y', by rw [Nat.zero_add]; exact a8 j y' hy', bvR_tr (fun b hb => ?_) (fun _ h => h) hr'⟩
      rw [a4]; simp [Array.getElem?_push, Nat.ne_of_lt (h.rlt b hb)]
  | some L =>
    rw [hL] at hu2
    simp only [blkR, hL] at hbl
    obtain ⟨b1, b2, b3, b4, cur, b5, b6, b7⟩ := hbl
    obtain ⟨b61, b62⟩ := b6 trivial
    obtain ⟨g, o', n', c', s'⟩ := L
    simp only at b1 b2 b3 b4 b5 b61 b62 b7 hu2
    subst b1 b2 b61 hu2
    obtain ⟨w', cur', g', cap, hr0, a1, a2, a3, a4, a5, a6, a7, a8, a9, a10, a11⟩ := append_run k o.type g l.length c' l'.length cc A news C.w cur b5 b3 b4 b62 hl hn (All2.one hr) hb
    refine fin (L := some ⟨g', 0, l.length + l'.length, cap, k.size⟩) (hrun _ _ hr0) (h.app hx hlk a1 a2 a3 a4 (fun q hq hM => a5 q hq (hM _ hL)) (fun M hM => by
      cases hM
      exact ⟨(Array.getElem?_eq_some_iff.1 a7).1, a6.imp (fun e => ⟨_, hL, e⟩) id⟩) ?_ rfl) ⟨⟨_, _, _, rfl⟩, rfl⟩
    have hRg : ∀ b, C.R b → w'.heap[b]? = C.w.heap[b]? := fun b hb => a5 b (h.rlt b hb) fun e => ((h.bl y _ hlk).2 _ hL).2.1 (e ▸ hb)
    simp only [blkR, if_true]
    refine ⟨by simp, trivial, a8, a9, cur', a7, fun _ => ⟨trivial, a10⟩, fun j u hj => ?_⟩
    have hjl : j < (l.length + l'.length) * k.size := by
      have := (List.getElem?_eq_some_iff.1 hj).1
      rwa [row_len, List.length_append] at this
    rw [List.flatMap_append] at hj
    rw [Nat.zero_add, a11 j hjl]
    by_cases hjn : j < l.length * k.size
    · rw [if_pos hjn]
      rw [List.getElem?_append_left (by rw [row_len]; exact hjn)] at hj
      obtain ⟨y', hy', hr'⟩ := b7 j u hj
      exact ⟨y', by simpa using hy', bvR_tr hRg (fun _ h => h) hr'⟩
    · rw [if_neg hjn]
      rw [List.getElem?_append_right (by rw [row_len]; omega), row_len] at hj
      obtain ⟨y', hy', hr'⟩ := hr.get hj
      exact ⟨y', hy', bvR_tr hRg (fun _ h => h) hr'⟩
end Go.Proofs.Ytnfgfdeidkhdkaa.Eng
