/- The engine's soundness, eighth part: operations that write into blocks of ours. -/
import Derived.Test.YtnfgfdeidkhdkaaEi
namespace Go.Proofs.Ytnfgfdeidkhdkaa.Eng
open Go.RowKit (Below)
set_option linter.unusedVariables false
set_option linter.unusedSimpArgs false

theorem setAt_get : ∀ (us cs : List CV) (o i : Nat), o + us.length ≤ cs.length → (setAt cs o us)[i]? = if o ≤ i ∧ i < o + us.length then us[i - o]? else cs[i]?
  | [], cs, o, i, _ => by simp only [setAt, List.length_nil, Nat.add_zero]; rw [if_neg (by omega)]
  | u :: us, cs, o, i, h => by
    simp only [List.length_cons] at h
    simp only [setAt]
    rw [setAt_get us (cs.set o u) (o + 1) i (by simp; omega)]
    by_cases e : i = o
    · subst e
      rw [if_neg (by omega), if_pos (by simp)]
      simp [show i < cs.length by omega]
    · by_cases h2 : o + 1 ≤ i ∧ i < o + 1 + us.length
      · rw [if_pos h2, if_pos (by simp only [List.length_cons]; omega), show i - o = (i - (o + 1)) + 1 by omega, List.getElem?_cons_succ]
      · rw [if_neg h2, if_neg (by simp only [List.length_cons]; omega), List.getElem?_set_ne (Ne.symm e)]
theorem splice_get {α : Type} (l vs : List α) (o i : Nat) (h : o + vs.length ≤ l.length) : (l.take o ++ vs ++ l.drop (o + vs.length))[i]? = if o ≤ i ∧ i < o + vs.length then vs[i - o]? else l[i]? := by
  have ho : (l.take o).length = o := by simp; omega
  by_cases h1 : i < o
  · rw [if_neg (by omega), List.append_assoc, List.getElem?_append_left (by omega), List.getElem?_take, if_pos h1]
  · by_cases h2 : i < o + vs.length
    · rw [if_pos (by omega), List.append_assoc, List.getElem?_append_right (by omega), ho, List.getElem?_append_left (by omega)]
    · rw [if_neg (by omega), List.getElem?_append_right (by simp; omega)]
      simp only [List.length_append, ho, List.getElem?_drop]
      congr 1; omega

/-- a block of ours is turned -/
theorem SimL.turn {B : Base} {nt : Nat} {C : Cx} {st : St} {a : Act} (h : SimL B nt C st a) {y : Nat} {b0 b : Blk} {L : Lc} (hy : look st.H y = some (some b0)) (hL : C.loc y = some L) {w' : World}
    (h1 : w'.os = C.w.os) (h2 : w'.tape = C.w.tape) (h3 : w'.output = C.w.output) (h4 : C.w.heap.size ≤ w'.heap.size) (h5 : ∀ k, k < C.w.heap.size → k ≠ L.g → w'.heap[k]? = C.w.heap[k]?)
    (h6 : blkR ⟨w', C.R, C.lv, C.loc⟩ y b) (h7 : ∀ z, z ∈ nB b → ∃ o, look st.H z = some o) : SimL B nt ⟨w', C.R, C.lv, C.loc⟩ ⟨st.T, (y, some b) :: st.H⟩ a := by
  obtain ⟨-, hown⟩ := h.bl y _ hy
  obtain ⟨o1, o2, o3⟩ := hown L hL
  have hlk : ∀ z, look ((y, some b) :: st.H) z = if y = z then some (some b) else look st.H z := fun z => look_cons y (some b) st.H z
  have hRg : ∀ k, C.R k → w'.heap[k]? = C.w.heap[k]? := fun k hk => h5 k (h.rlt k hk) fun e => o2 (e ▸ hk)
  have tr : Tr C ⟨w', C.R, C.lv, C.loc⟩ (fun _ => True) := ⟨hRg, fun _ h => h, fun _ _ hl => ⟨hl, rfl⟩⟩
  have hkn : ∀ z o, look st.H z = some o → ∃ o, look ((y, some b) :: st.H) z = some o := fun z o ho => by
    rw [hlk]
    split
    · exact ⟨_, rfl⟩
    · exact ⟨o, ho⟩
  constructor
  · exact h.size
  · exact h.dfr
  · exact h1.trans h.os
  · exact h2.trans h.tape
  · exact h3.trans h.output
  · exact Nat.le_trans h.grow h4
  · intro k hk hm
    refine (h5 k (Nat.lt_of_lt_of_le hk h.grow) fun e => ?_).trans (h.keep k hk hm)
    subst e
    rcases o1 with o1 | o1
    · omega
    · exact hm o1
  · exact h.rsub
  · exact fun k hk => Nat.lt_of_lt_of_le (h.rlt k hk) h4
  · exact h.rnew
  · intro z
    simp only
    rw [h.lv z]
    constructor
    · rintro ⟨b', hb'⟩
      rw [hlk]
      split
      · exact ⟨_, rfl⟩
      · exact ⟨b', hb'⟩
    · rintro ⟨b', hb'⟩
      rw [hlk] at hb'
      split at hb'
      · rename_i e; subst e; exact ⟨_, hy⟩
      · exact ⟨b', hb'⟩
  · intro t c hc
    obtain ⟨u, hu, hr⟩ := h.tm t c hc
    exact ⟨u, hu, valR_tr tr (fun _ _ => trivial) hr⟩
  · intro z b' hb'
    simp only at hb'
    rw [hlk] at hb'
    split at hb'
    · rename_i e
      subst e
      cases hb'
      refine ⟨h6, fun M hM => ?_⟩
      simp only at hM
      rw [hL] at hM; cases hM
      exact ⟨o1, o2, Nat.lt_of_lt_of_le o3 h4⟩
    · rename_i e
      obtain ⟨a1, a2⟩ := h.bl z b' hb'
      refine ⟨blkR_tr tr rfl (fun M hM => h5 M.g (a2 M hM).2.2 ?_) (fun _ _ => trivial) a1, fun M hM => ?_⟩
      · exact fun e' => h.dj y z L M ((h.lv y).2 ⟨_, hy⟩) ((h.lv z).2 ⟨_, hb'⟩) hL hM e e'.symm
      · obtain ⟨c1, c2, c3⟩ := a2 M hM
        exact ⟨c1, c2, Nat.lt_of_lt_of_le c3 h4⟩
  · exact h.dj
  · intro t c hc z hz
    obtain ⟨o, ho⟩ := h.nmT t c hc z hz
    exact hkn z o ho
  · intro z b' hb' q hq
    simp only at hb'
    rw [hlk] at hb'
    split at hb'
    · cases hb'
      obtain ⟨o, ho⟩ := h7 q hq
      exact hkn q o ho
    · obtain ⟨o, ho⟩ := h.nmH z b' hb' q hq
      exact hkn q o ho
  · exact h.pin
/-- blocks are let go -/
theorem SimL.kill {B : Base} {nt : Nat} {C : Cx} {st : St} {a : Act} (h : SimL B nt C st a) (ys : List Nat) (hk : ∀ y, y ∈ ys → ∃ o, look st.H y = some o) {R' : Nat → Prop} (hR : ∀ b, C.R b → R' b)
    (hR2 : ∀ b, R' b → C.R b ∨ (∃ y L, y ∈ ys ∧ C.lv y ∧ C.loc y = some L ∧ L.g = b) ∨ C.w.heap.size ≤ b) {w' : World} (hw : Below C.w.heap.size C.w w') (hRl : ∀ b, R' b → b < w'.heap.size) (hnew : ∀ y L, C.lv y → C.loc y = some L → y ∈ ys → B.w0.heap.size ≤ L.g) :
    SimL B nt ⟨w', R', fun y => C.lv y ∧ y ∉ ys, C.loc⟩ ⟨st.T, ys.map (fun y => (y, none)) ++ st.H⟩ a := by
  have hlk : ∀ z, look (ys.map (fun y => ((y, none) : Nat × Option Blk)) ++ st.H) z = if z ∈ ys then some none else look st.H z := by
    intro z
    rw [look_append]
    have : ∀ l : List Nat, look (l.map (fun y => ((y, none) : Nat × Option Blk))) z = if z ∈ l then some none else none := by
      intro l
      induction l with
      | nil => simp [look]
      | cons q l ih =>
        rw [List.map_cons, look_cons, ih]
        by_cases e : q = z
        · subst e; simp
        · rw [if_neg e]
          simp only [List.mem_cons, Ne.symm e, false_or]
    rw [this]
    by_cases hz : z ∈ ys
    · simp [hz]
    · simp [hz]
  have tr : Tr C ⟨w', R', fun y => C.lv y ∧ y ∉ ys, C.loc⟩ (fun _ => True) := ⟨fun b hb => hw.block b (h.rlt b hb), hR, fun _ _ hl => ⟨hl.1, rfl⟩⟩
  have hkn : ∀ z o, look st.H z = some o → ∃ o, look (ys.map (fun y => ((y, none) : Nat × Option Blk)) ++ st.H) z = some o := fun z o ho => by
    rw [hlk]
    split
    · exact ⟨_, rfl⟩
    · exact ⟨o, ho⟩
  constructor
  · exact h.size
  · exact h.dfr
  · exact hw.os.trans h.os
  · exact hw.tape.trans h.tape
  · exact hw.output.trans h.output
  · exact Nat.le_trans h.grow hw.size
  · exact fun k hk hm => (hw.block k (Nat.lt_of_lt_of_le hk h.grow)).trans (h.keep k hk hm)
  · exact fun b hb => hR b (h.rsub b hb)
  · exact hRl
  · intro b hb
    rcases hR2 b hb with hb | ⟨y, L, hy, hl, hL, rfl⟩ | hb
    · exact h.rnew b hb
    · exact .inr (hnew y L hl hL hy)
    · exact .inr (Nat.le_trans h.grow hb)
  · intro z
    simp only
    rw [h.lv z, hlk]
    constructor
    · rintro ⟨⟨b, hb⟩, hz⟩
      exact ⟨b, by rw [if_neg hz]; exact hb⟩
    · rintro ⟨b, hb⟩
      split at hb
      · cases hb
      · rename_i hz; exact ⟨⟨b, hb⟩, hz⟩
  · intro t c hc
    obtain ⟨u, hu, hr⟩ := h.tm t c hc
    exact ⟨u, hu, valR_tr tr (fun _ _ => trivial) hr⟩
  · intro z b hb
    simp only at hb
    rw [hlk] at hb
    split at hb
    · cases hb
    · rename_i hz
      obtain ⟨a1, a2⟩ := h.bl z b hb
      refine ⟨blkR_tr tr rfl (fun L hL => hw.block L.g (a2 L hL).2.2) (fun _ _ => trivial) a1, fun L hL => ?_⟩
      obtain ⟨c1, c2, c3⟩ := a2 L hL
      refine ⟨c1, fun hRg => ?_, Nat.lt_of_lt_of_le c3 hw.size⟩
      rcases hR2 _ hRg with hb' | ⟨y, M, hy, hl, hM, e⟩ | hb'
      · exact c2 hb'
      · exact h.dj y z M L hl ((h.lv z).2 ⟨b, hb⟩) hM hL (fun e' => hz (e' ▸ hy)) e
      · omega
  · intro y z L M hy hz
    exact h.dj y z L M hy.1 hz.1
  · intro t c hc z hz
    obtain ⟨o, ho⟩ := h.nmT t c hc z hz
    exact hkn z o ho
  · intro z b hb q hq
    simp only at hb
    rw [hlk] at hb
    split at hb
    · cases hb
    · obtain ⟨o, ho⟩ := h.nmH z b hb q hq
      exact hkn q o ho
  · exact h.pin
/-- what a called function does that writes into the row of whole numbers that it is handed first -/
def CallsM (f : Nat) (l : List Int) (args : List CV) (l' : List Int) : Prop :=
  ∀ (w : World) (R : Nat → Prop) (v0 : Value) (vs : Array Value), (∀ b, R b → b < w.heap.size) → All2 (valR (byV w R)) args vs.toList →
    ((l = [] ∧ ∃ A, v0 = .slice A 0 0) → Calls P f (#[v0] ++ vs) w fun e w' => e = .returned (.tuple #[]) ∧ Below w.heap.size w w') ∧
    (∀ (g c : Nat) (cur : Array Value), v0 = .slice (some ⟨g, 0, none⟩) l.length c → l.length ≤ c → c ≤ maxLen → ¬ R g → g < w.heap.size → w.heap[g]? = some (.cells cur 3 (0, 0)) → cur.size = c →
      (∀ (i : Nat) n, l[i]? = some n → cur[i]? = some (.int .i64 n)) →
      Calls P f (#[v0] ++ vs) w fun e w' => e = .returned (.tuple #[]) ∧ w'.os = w.os ∧ w'.tape = w.tape ∧ w'.output = w.output ∧ w.heap.size ≤ w'.heap.size ∧ (∀ k, k < w.heap.size → k ≠ g → w'.heap[k]? = w.heap[k]?) ∧
        ∃ cur' : Array Value, w'.heap[g]? = some (.cells cur' 3 (0, 0)) ∧ cur'.size = cur.size ∧ ∀ (i : Nat) n, l'[i]? = some n → cur'[i]? = some (.int .i64 n))
def MemOk (msem : Nat → List Int → List CV → Option (Bool × List Int)) : Prop := ∀ f l args l', msem f l args = some (true, l') → CallsM f l args l' ∧ callable f = true

/-- behind an operation that writes -/
def WOut (B : Base) (nt : Nat) (st : St) (a : Act) (c : CV) (H' : Hp) (D : Cx) (v : Value) : Prop :=
  SimL B nt D ⟨st.T, H' ++ st.H⟩ a ∧ valR D c v ∧ ∀ y, y ∈ n2 c → ∃ o, look (H' ++ st.H) y = some o
def Wr (B : Base) (nt : Nat) (st : St) (a : Act) (o : Oper) (w : World) (c : CV) (H' : Hp) : Prop :=
  ∀ (Kc : Act → World → Prop) (Q : Exit → Act → World → Prop), (∀ D v, WOut B nt st a c H' D v → Kc (a.put o.dst v) D.w) → o.wp P a w Kc Q

theorem wp_skip' {o : Oper} {a : Act} {w w' : World} {K : Act → World → Prop} {Q : Exit → Act → World → Prop} (h : (execOp a.eval o).run P w = .ok .skip w') (hk : K (a.put o.dst undef) w') : o.wp P a w K Q := by
  unfold Oper.wp
  rw [h]
  exact hk
theorem run_u (s : Sem Unit) (w : World) {w' : World} (h : s.run P w = .ok () w') : (do s; pure Next.skip : Sem Next).run P w = .ok .skip w' := by
  simp [h]

theorem store_run {t : Nat} {b : Bool} {ks : List CK} (hk : cks t = some (b, ks)) (g q : Nat) (v : Value) (w : World) (cur : Array Value) (t' : TypeId) (hg : w.heap[g]? = some (.cells cur t' (0, 0))) (hl : v.cells.size = ks.length)
    (hf : q + v.cells.size ≤ cur.size) (h1 : ∀ u, u ∈ v.cells.toList → u.oneCell' = true) :
    (Instr.storeAt t (.pointer (some ⟨g, q, none⟩)) v).run P w = .ok () (w.setRow g (cur.toList.take q ++ v.cells.toList ++ cur.toList.drop (q + v.cells.toList.length)).toArray) := by
  have hs := sizeOf_run hk w
  have hst := run_storeCells_at P g q t' v.cells.toList 0 cur w hg (by simpa using hf) h1
  simp only [Nat.add_zero] at hst
  unfold Instr.storeAt storeVar
  simp only [Instr.sureAddr, Sem.run_bind, Sem.run_pure, Result.andThen_ok, hs]
  rw [if_neg (by simp [hl])]
  simpa using hst

theorem cks_pos {t : Nat} {b : Bool} {ks : List CK} (h : cks t = some (b, ks)) : ks.length ≠ 0 := by
  unfold cks at h
  split at h <;> first
    | (cases h; done)
    | (simp only [Option.some.injEq, Prod.mk.injEq] at h
       obtain ⟨-, rfl⟩ := h
       decide)
/-- an element of which some cells were just written -/
theorem elem_cell {C : Cx} {k : SK} {cs : List CV} {e : k.T} (he : k.elem? cs = some e) {vs : List Value} (h : All2 (fun u z => bvR C.w C.R u z ∨ cellR C u z) cs vs) : All2 (bvR C.w C.R) (k.cells e) vs := by
  have ints : ∀ {d : CV} {l : List Int} {v : Value}, ints? d = some l → bvR C.w C.R d v ∨ cellR C d v → bvR C.w C.R (.sl .int l) v := by
    intro d l v hd hv
    unfold ints? at hd
    split at hd
    · cases hd
      rcases hv with hv | ⟨A, rfl⟩
      · exact False.elim hv
      · exact ⟨A, 0, rfl, Nat.le_refl _, fun i u hu => by simp at hu⟩
    · cases hd; exact hv.elim id id
    · cases hd
  unfold SK.elem? at he
  split at he
  · cases he
    match vs, h with
    | [v1], h => exact ⟨h.1.elim id id, trivial⟩
  · cases he
    match vs, h with
    | [v1], h => exact ⟨h.1.elim id id, trivial⟩
  · cases he
    match vs, h with
    | [v1], h => exact ⟨h.1.elim id id, trivial⟩
  · split at he
    · rename_i b n d l hl
      cases he
      match vs, h with
      | [v1, v2, v3], h => exact ⟨h.1.elim id id, h.2.1.elim id id, ints hl h.2.2.1, trivial⟩
    · cases he
  · rename_i n a b c
    split at he
    · cases he
    · rename_i a' ha
      split at he
      · cases he
      · rename_i b' hb
        split at he
        · cases he
        · rename_i c' hc
          cases he
          match vs, h with
          | [v1, v2, v3, v4], h => exact ⟨h.1.elim id id, ints ha h.2.1, ints hb h.2.2.1, ints hc h.2.2.2.1, trivial⟩
  · cases he
    match vs, h with
    | [v1, v2], h => exact ⟨h.1.elim id id, h.2.1.elim id id, trivial⟩
  · cases he
theorem store_box {B : Base} {nt : Nat} {C : Cx} {st : St} {a : Act} (h : SimL B nt C st a) {o : Oper} {t : Nat} {p x : Operand} (ho : o.op = .store t p x) {y q : Nat} {c : CV} (hp : ev 0 st.T p = some (.ptr y q)) (hx : ev t st.T x = some c)
    {b : Bool} {ks : List CK} (hk : cks t = some (b, ks)) (hl : ks.length = c.cells.length) (hc : c.cells.all CV.isC = true) {t' : Nat} {cs : List CV} (hg : get st.H y = some (.cells t' cs)) (hb : q + c.cells.length ≤ cs.length) :
    Wr B nt st a o C.w (.tup []) [(y, some (.cells t' (setAt cs q c.cells)))] := by
  intro Kc Q hK
  obtain ⟨⟨-, hv2⟩, -⟩ := ev_sound h hp
  obtain ⟨hv, hn⟩ := ev_sound h hx
  have hlk := get_some.1 hg
  have hlv : C.lv y := (h.lv y).2 ⟨_, hlk⟩
  obtain ⟨L, hL, he⟩ := hv2 hlv
  obtain ⟨⟨L', hL', cur, ct, hcur, hcs⟩, -⟩ := h.bl y _ hlk
  rw [hL] at hL'; cases hL'
  have hcells := valR_cells hv hc
  have hlen := hcells.length
  simp only [Array.length_toList] at hlen
  have hsz : L.o + cs.length ≤ cur.size := by
    rcases Nat.eq_zero_or_pos cs.length with e | e
    · have : c.cells.length = 0 := by omega
      have h0 : ks.length ≠ 0 := cks_pos hk
      omega
    · obtain ⟨z, hz, -⟩ := hcs (cs.length - 1) _ (List.getElem?_eq_getElem (by omega))
      have := (Array.getElem?_eq_some_iff.1 hz).1
      omega
  have hone : ∀ u, u ∈ (a.eval x).cells.toList → u.oneCell' = true := fun u hu => by
    obtain ⟨i, hi⟩ := List.mem_iff_getElem?.1 hu
    obtain ⟨d, -, hd⟩ := hcells.get' hi
    exact cellR_one hd
  have hr := store_run hk L.g (L.o + q) (a.eval x) C.w cur ct hcur (by omega) (by omega) hone
  suffices hT : blkR ⟨C.w.setRow L.g (cur.toList.take (L.o + q) ++ (a.eval x).cells.toList ++ cur.toList.drop (L.o + q + (a.eval x).cells.toList.length)).toArray, C.R, C.lv, C.loc⟩ y (.cells t' (setAt cs q c.cells)) ∧ ∀ z, z ∈ nB (.cells t' (setAt cs q c.cells)) → ∃ o, look st.H z = some o by
    refine wp_skip' (w' := C.w.setRow L.g _) ?_ (hK ⟨C.w.setRow L.g _, C.R, C.lv, C.loc⟩ undef ⟨h.turn (L := L) (w' := C.w.setRow L.g _) hlk hL rfl rfl rfl (Nat.le_of_eq (setRow_size ..).symm) (fun k _ hk => setRow_other _ _ _ _ hk) hT.1 hT.2, ⟨#[], rfl, trivial⟩, by simp [n2]⟩)
    unfold execOp
    simp only [ho, he]
    exact run_u _ _ hr
  refine ⟨?_, ?_⟩
  · refine ⟨L, hL, _, ct, setRow_heap _ _ _ _ _ _ hcur, fun i u hu => ?_⟩
    have hfit : L.o + q + (a.eval x).cells.toList.length ≤ cur.toList.length := by simp only [Array.length_toList]; omega
    rw [setAt_get _ _ _ _ hb] at hu
    simp only [List.getElem?_toArray]
    rw [splice_get _ _ _ _ hfit]
    have tr : Tr C ⟨C.w.setRow L.g (cur.toList.take (L.o + q) ++ (a.eval x).cells.toList ++ cur.toList.drop (L.o + q + (a.eval x).cells.toList.length)).toArray, C.R, C.lv, C.loc⟩ (fun _ => True) :=
      ⟨fun k hk => setRow_other _ _ _ _ fun e => ((h.bl y _ hlk).2 L hL).2.1 (e ▸ hk), fun _ h => h, fun _ _ hl => ⟨hl, rfl⟩⟩
    by_cases hi : q ≤ i ∧ i < q + c.cells.length
    · rw [if_pos hi] at hu
      obtain ⟨z, hz, hr⟩ := hcells.get hu
      rw [if_pos (by rw [Array.length_toList]; omega)]
      exact ⟨z, by rw [show L.o + i - (L.o + q) = i - q by omega]; exact hz, cellR_tr tr (fun _ _ => trivial) hr⟩
    · rw [if_neg hi] at hu
      obtain ⟨z, hz, hr⟩ := hcs i u hu
      rw [if_neg (by rw [Array.length_toList]; omega)]
      exact ⟨z, by simpa using hz, cellR_tr tr (fun _ _ => trivial) hr⟩
  · intro z hz
    obtain ⟨d, hd, hzd⟩ := List.mem_flatMap.1 hz
    obtain ⟨i, hi⟩ := List.mem_iff_getElem?.1 hd
    rw [setAt_get _ _ _ _ hb] at hi
    split at hi
    · exact hn z (n2_cells hc (List.mem_flatMap.2 ⟨d, List.mem_of_getElem? hi, hzd⟩))
    · exact h.nmH y _ hlk z (List.mem_flatMap.2 ⟨d, List.mem_of_getElem? hi, hzd⟩)

theorem store_row {B : Base} {nt : Nat} {C : Cx} {st : St} {a : Act} (h : SimL B nt C st a) {o : Oper} {t : Nat} {p x : Operand} (ho : o.op = .store t p x) {y i j : Nat} {c : CV} (hp : ev 0 st.T p = some (.pe y i j)) (hx : ev t st.T x = some c)
    {b : Bool} {ks : List CK} (hk : cks t = some (b, ks)) (hl : ks.length = c.cells.length) (hc : c.cells.all CV.isC = true) {ap : Bool} {k : SK} {l : List k.T} (hg : get st.H y = some (.arr ap k l)) {e e' : k.T} (he : l[i]? = some e)
    (hnl : c.cells.all nl0 = true) (hj : j + c.cells.length ≤ k.size) (he' : k.elem? (setAt (k.cells e) j c.cells) = some e') :
    Wr B nt st a o C.w (.tup []) [(y, some (.arr ap k (l.set i e')))] := by
  intro Kc Q hK
  obtain ⟨⟨-, hv2⟩, -⟩ := ev_sound h hp
  obtain ⟨hv, hn⟩ := ev_sound h hx
  have hlk := get_some.1 hg
  have hlv : C.lv y := (h.lv y).2 ⟨_, hlk⟩
  obtain ⟨L, hL, hev⟩ := hv2 hlv
  have hb := (h.bl y _ hlk).1
  simp only [blkR, hL] at hb
  obtain ⟨b1, b2, b3, b4, cur, b5, b6, b7⟩ := hb
  have hcells := valR_cells hv hc
  have hlen := hcells.length
  simp only [Array.length_toList] at hlen
  have hil : i < l.length := (List.getElem?_eq_some_iff.1 he).1
  have hks := k.size_pos
  have hsz : L.o + i * k.size + k.size ≤ cur.size := by
    obtain ⟨z, hz, -⟩ := b7 (i * k.size + (k.size - 1)) _ ((row_get k he (by omega)).trans (List.getElem?_eq_getElem (by rw [SK.cells_len]; omega)))
    have := (Array.getElem?_eq_some_iff.1 hz).1
    omega
  have hone : ∀ u, u ∈ (a.eval x).cells.toList → u.oneCell' = true := fun u hu => by
    obtain ⟨q, hq⟩ := List.mem_iff_getElem?.1 hu
    obtain ⟨d, -, hd⟩ := hcells.get' hq
    exact cellR_one hd
  have hr := store_run hk L.g (L.o + i * L.s + j) (a.eval x) C.w cur k.el b5 (by omega) (by rw [b2]; omega) hone
  suffices hT : blkR ⟨C.w.setRow L.g (cur.toList.take (L.o + i * L.s + j) ++ (a.eval x).cells.toList ++ cur.toList.drop (L.o + i * L.s + j + (a.eval x).cells.toList.length)).toArray, C.R, C.lv, C.loc⟩ y (.arr ap k (l.set i e')) by
    refine wp_skip' (w' := C.w.setRow L.g _) ?_ (hK ⟨C.w.setRow L.g _, C.R, C.lv, C.loc⟩ undef ⟨h.turn (L := L) (w' := C.w.setRow L.g _) hlk hL rfl rfl rfl (Nat.le_of_eq (setRow_size ..).symm) (fun k _ hk => setRow_other _ _ _ _ hk) hT (by simp [nB]), ⟨#[], rfl, trivial⟩, by simp [n2]⟩)
    unfold execOp
    simp only [ho, hev]
    exact run_u _ _ hr
  refine ?_
  · simp only [blkR, hL]
    have hfit : L.o + i * L.s + j + (a.eval x).cells.toList.length ≤ cur.toList.length := by simp only [Array.length_toList]; rw [b2]; omega
    refine ⟨by simp [b1], b2, b3, b4, _, setRow_heap _ _ _ _ _ _ b5, fun hap => ⟨(b6 hap).1, ?_⟩, fun q u hu => ?_⟩
    · have := (b6 hap).2
      simp only [List.size_toArray, List.length_append, List.length_take, List.length_drop, Array.length_toList] at hfit ⊢
      omega
    · have hbv : ∀ {d : CV} {z : Value}, bvR C.w C.R d z → bvR (C.w.setRow L.g (cur.toList.take (L.o + i * L.s + j) ++ (a.eval x).cells.toList ++ cur.toList.drop (L.o + i * L.s + j + (a.eval x).cells.toList.length)).toArray) C.R d z := fun hz =>
        bvR_tr (fun k hk => setRow_other _ _ _ _ fun e => ((h.bl y _ hlk).2 L hL).2.1 (Eq.subst (motive := C.R) e hk)) (fun _ h => h) hz
      have hq : q < l.length * k.size := by
        have := (List.getElem?_eq_some_iff.1 hu).1
        rwa [row_len, List.length_set] at this
      obtain ⟨i', j', hj', rfl⟩ : ∃ i' j', j' < k.size ∧ q = i' * k.size + j' := ⟨q / k.size, q % k.size, Nat.mod_lt _ hks, by rw [Nat.mul_comm]; exact (Nat.div_add_mod q k.size).symm⟩
      have hi' : i' < l.length := by
        rcases Nat.lt_or_ge i' l.length with h | h
        · exact h
        · have := Nat.mul_le_mul_right k.size h
          omega
      simp only [List.getElem?_toArray]
      rw [splice_get _ _ _ _ hfit]
      by_cases hii : i' = i
      · subst hii
        have hset : (l.set i' e')[i']? = some e' := by simp [hi']
        rw [row_get k hset hj'] at hu
        have hold : ∀ q u, (setAt (k.cells e) j c.cells)[q]? = some u → ∃ z, (if L.o + i' * L.s + j ≤ L.o + (i' * k.size + q) ∧ L.o + (i' * k.size + q) < L.o + i' * L.s + j + (a.eval x).cells.toList.length then (a.eval x).cells.toList[L.o + (i' * k.size + q) - (L.o + i' * L.s + j)]? else cur.toList[L.o + (i' * k.size + q)]?) = some z ∧ (bvR C.w C.R u z ∨ cellR C u z) := by
          intro q u hu
          rw [setAt_get _ _ _ _ (by rw [SK.cells_len]; exact hj)] at hu
          rw [b2, Array.length_toList]
          by_cases hqj : j ≤ q ∧ q < j + c.cells.length
          · rw [if_pos hqj] at hu
            obtain ⟨z, hz, hr⟩ := hcells.get hu
            rw [if_pos (by omega)]
            refine ⟨z, by rw [show L.o + (i' * k.size + q) - (L.o + i' * k.size + j) = q - j by omega]; exact hz, .inr hr⟩
          · rw [if_neg hqj] at hu
            rw [if_neg (by omega)]
            have hq : q < k.size := by
              have := (List.getElem?_eq_some_iff.1 hu).1
              rwa [SK.cells_len] at this
            obtain ⟨z, hz, hr⟩ := b7 (i' * k.size + q) u (by rw [row_get k he hq]; exact hu)
            exact ⟨z, by simpa using hz, .inl hr⟩
        generalize hF : (fun q => if L.o + i' * L.s + j ≤ L.o + (i' * k.size + q) ∧ L.o + (i' * k.size + q) < L.o + i' * L.s + j + (a.eval x).cells.toList.length then (a.eval x).cells.toList[L.o + (i' * k.size + q) - (L.o + i' * L.s + j)]? else cur.toList[L.o + (i' * k.size + q)]?) = F at *
        have hold' : ∀ q u, (setAt (k.cells e) j c.cells)[q]? = some u → ∃ z, F q = some z ∧ (bvR C.w C.R u z ∨ cellR C u z) := by rw [← hF]; exact hold
        have hall : All2 (fun u z => bvR C.w C.R u z ∨ cellR C u z) (setAt (k.cells e) j c.cells) ((List.range k.size).map fun q => (F q).getD undef) := by
          refine All2.of (by rw [setAt_len, SK.cells_len]; simp) fun q u z hu hz => ?_
          obtain ⟨z', hz', hr⟩ := hold' q u hu
          have hq : q < k.size := by
            have := (List.getElem?_eq_some_iff.1 hu).1
            rwa [setAt_len, SK.cells_len] at this
          simp only [List.getElem?_map, List.getElem?_range hq, Option.map_some, Option.some.injEq] at hz
          rw [hz'] at hz
          simp only [Option.getD_some] at hz
          subst hz
          exact hr
        obtain ⟨z, hz, hr⟩ := (elem_cell he' hall).get hu
        have hset2 : ∃ z', F j' = some z' := by
          obtain ⟨z', hz', -⟩ := hold' j' _ (List.getElem?_eq_getElem (by rw [setAt_len, SK.cells_len]; exact hj'))
          exact ⟨z', hz'⟩
        obtain ⟨z', hz'⟩ := hset2
        simp only [List.getElem?_map, List.getElem?_range hj', Option.map_some, Option.some.injEq, hz', Option.getD_some] at hz
        subst hz
        exact ⟨z', by rw [← hF] at hz'; exact hz', hbv hr⟩
      · have hset : (l.set i e')[i']? = l[i']? := List.getElem?_set_ne (Ne.symm hii)
        have hge := List.getElem?_eq_getElem hi'
        rw [row_get k (hset.trans hge) hj'] at hu
        obtain ⟨z, hz, hr⟩ := b7 (i' * k.size + j') u (by rw [row_get k hge hj']; exact hu)
        have hout : ¬ (L.o + i * L.s + j ≤ L.o + (i' * k.size + j') ∧ L.o + (i' * k.size + j') < L.o + i * L.s + j + (a.eval x).cells.toList.length) := by
          rw [Array.length_toList, b2]
          intro hh
          rcases Nat.lt_or_gt_of_ne hii with hlt | hgt
          · have := Nat.mul_le_mul_right k.size (show i' + 1 ≤ i from hlt)
            rw [Nat.succ_mul] at this
            omega
          · have := Nat.mul_le_mul_right k.size (show i + 1 ≤ i' from hgt)
            rw [Nat.succ_mul] at this
            omega
        rw [if_neg hout]
        exact ⟨z, by simpa using hz, hbv hr⟩
end Go.Proofs.Ytnfgfdeidkhdkaa.Eng
