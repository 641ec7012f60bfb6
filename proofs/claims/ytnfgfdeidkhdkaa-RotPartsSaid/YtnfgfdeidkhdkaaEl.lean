/- The engine's soundness, tenth part: copies, calls that write or that keep what they are handed; every operation that writes. -/
import Derived.Test.YtnfgfdeidkhdkaaEk
namespace Go.Proofs.Ytnfgfdeidkhdkaa.Eng
open Go.RowKit (Below)
set_option linter.unusedVariables false
set_option linter.unusedSimpArgs false

theorem copy_run0 (k : SK) (hk1 : k.size = 1) (ts ty : TypeId) (dn dc m c' : Nat) (A A' : Option Addr) (w : World) (h0 : min dn m = 0) :
    (Builtin.copy_ #[k.ty, ts] ty #[.slice A dn dc, .slice A' m c']).run P w = .ok (.int .i64 ((min dn m : Nat) : Int)) w := by
  obtain ⟨i, z, hi, hs, hby, hz, hzs⟩ := SK.info k
  have hmin : Nat.min m dn = min dn m := Nat.min_comm m dn
  have hfc := firstCells_run 1 0 m c' A' w [] (by simp) (by omega) (fun j u hu => by simp at hu)
  rw [h0] at hmin ⊢
  cases A <;> simp [Builtin.copy_, run_underlying (SK.under k), Builtin.lenOf, sizeOf, typeInfo, hi, hs, hk1, hmin, hfc, storeCells, goInt]
theorem copy_run (k : SK) (hk1 : k.size = 1) (ts ty : TypeId) (q g dn dc m c' : Nat) (A' : Option Addr) (news : List Value) (w : World) (cur : Array Value) (t : TypeId) (hg : w.heap[g]? = some (.cells cur t (0, 0)))
    (hl : news.length = m) (hn : ∀ (j : Nat) u, news[j]? = some u → ∃ ad, A' = some ad ∧ w.cell? (ad.add j) = some u) (h1 : ∀ u, u ∈ news → u.oneCell' = true) (hf : q + dn ≤ cur.size) :
    (Builtin.copy_ #[k.ty, ts] ty #[.slice (some ⟨g, q, none⟩) dn dc, .slice A' m c']).run P w = .ok (.int .i64 ((min dn m : Nat) : Int)) (w.setRow g (cur.toList.take q ++ news.take (min dn m) ++ cur.toList.drop (q + min dn m)).toArray) := by
  obtain ⟨i, z, hi, hs, hby, hz, hzs⟩ := SK.info k
  have hmin : Nat.min m dn = min dn m := Nat.min_comm m dn
  have hlen : (news.take (min dn m)).length = min dn m := by simp only [List.length_take]; omega
  have hfc := firstCells_run 1 (min dn m) m c' A' w (news.take (min dn m)) (by rw [hlen]; omega) (by omega) (fun j u hu => by
    rw [List.getElem?_take] at hu
    split at hu
    · exact hn j u hu
    · cases hu)
  have hst := run_storeCells_at P g q t (news.take (min dn m)) 0 cur w hg (by rw [hlen]; omega) (fun u hu => h1 u (List.mem_of_mem_take hu))
  simp only [Nat.add_zero, hlen] at hst
  simp [Builtin.copy_, run_underlying (SK.under k), Builtin.lenOf, sizeOf, typeInfo, hi, hs, hk1, hmin, hfc, hst, goInt]

theorem copy_sound {B : Base} {nt : Nat} {C : Cx} {st : St} {a : Act} (h : SimL B nt C st a) {o : Oper} {c : Call} (ho : o.op = .call c) (hc : c.callee = .builtin .copy) {y off len : Nat} {d z : CV} {k : SK} {ts : TypeId} (hs : evs st.T c.args.toList c.argTypes.toList = some [d, z])
    (hk1 : k.size = 1) (ht : c.argTypes.toList = [k.ty, ts]) {ap : Bool} {l : List k.T} (hg : get st.H y = some (.arr ap k l)) (hd : (d = .ref y ∧ off = 0 ∧ len = l.length) ∨ (d = .win y off len ∧ off + len ≤ l.length)) {R : Type} {K : List k.T → Option R} {r : R} (hk : source st.H k z K = some r) :
    ∃ l', K l' = some r ∧ Wr B nt st a o C.w (.int .i64 ((min len l'.length : Nat) : Int)) [(y, some (.arr ap k (l.take off ++ l'.take (min len l'.length) ++ l.drop (off + min len l'.length))))] := by
  obtain ⟨h1, h2⟩ := evs_sound h hs
  obtain ⟨u, v, e, hu, hv⟩ := list2 h1
  obtain ⟨l', hK, A, cc, rfl, news, hl, hn, hr⟩ := source_R h hk hv
  refine ⟨l', hK, fun Kc Q hKc => ?_⟩
  have e1 : c.argTypes = #[k.ty, ts] := arr_of ht
  have e2 : c.args.map a.eval = #[u, .slice A l'.length cc] := arr_of (by rw [map_toList]; exact e)
  have hrun : ∀ v w', (Builtin.copy_ #[k.ty, ts] o.type #[u, .slice A l'.length cc]).run P C.w = .ok v w' → (execOp a.eval o).run P C.w = .ok (.value v) w' := by
    intro v w' hr
    rw [call_run a o c _ ho hc, e1, e2]
    exact run_v _ _ hr
  have hlk := get_some.1 hg
  have hlv : C.lv y := (h.lv y).2 ⟨_, hlk⟩
  have hbl := (h.bl y _ hlk).1
  have hol : off + len ≤ l.length := by rcases hd with ⟨-, rfl, rfl⟩ | ⟨-, hd⟩ <;> omega
  have hu' : ∃ A0 c0, u = .slice A0 len c0 ∧ (0 < len → ∃ L, C.loc y = some L ∧ A0 = some ⟨L.g, L.o + off, none⟩) := by
    cases hL : C.loc y with
    | none =>
      simp only [blkR, hL] at hbl
      subst hbl
      simp only [List.length_nil] at hol
      have hlen0 : len = 0 := by omega
      subst hlen0
      rcases hd with ⟨rfl, -, -⟩ | ⟨rfl, -⟩
      · have := hu.2 hlv
        rw [hL] at this
        obtain ⟨A0, rfl⟩ := this
        exact ⟨_, _, rfl, fun h => by omega⟩
      · have := hu.2 hlv
        rw [hL] at this
        obtain ⟨-, A0, c0, rfl⟩ := this
        exact ⟨_, _, rfl, fun h => by omega⟩
    | some L =>
      simp only [blkR, hL] at hbl
      obtain ⟨b1, b2, b3, b4, cur, b5, b6, b7⟩ := hbl
      rcases hd with ⟨rfl, rfl, rfl⟩ | ⟨rfl, -⟩
      · have := hu.2 hlv
        rw [hL] at this
        simp only at this
        subst this
        rw [b1]
        exact ⟨_, _, rfl, fun _ => ⟨L, rfl, rfl⟩⟩
      · have := hu.2 hlv
        rw [hL] at this
        obtain ⟨-, A0, c0, rfl, hc0, hA0⟩ := this
        exact ⟨_, _, rfl, fun hp => ⟨L, rfl, by rw [hA0 hp, b2, hk1, Nat.mul_one]⟩⟩
  obtain ⟨A0, c0, rfl, hA0⟩ := hu'
  by_cases h0 : min len l'.length = 0
  · have hr0 := copy_run0 k hk1 ts o.type len c0 l'.length cc A0 A C.w h0
    have e3 : l.take off ++ l'.take (min len l'.length) ++ l.drop (off + min len l'.length) = l := by simp [h0]
    rw [e3] at hKc
    refine wp_value (hrun _ _ hr0) (hKc C _ ⟨h.eqv ⟨fun _ => rfl, fun z => ?_⟩, by simp [valR, aggR, cellR], by simp [n2, n1, n0]⟩)
    simp only [List.cons_append, List.nil_append, look_cons]
    split
    · rename_i e; subst e; exact hlk
    · rfl
  · obtain ⟨L, hL, rfl⟩ := hA0 (by omega)
    simp only [blkR, hL] at hbl
    obtain ⟨b1, b2, b3, b4, cur, b5, b6, b7⟩ := hbl
    have hls : L.o + l.length ≤ cur.size := by
      obtain ⟨z, hz, -⟩ := b7 (l.length - 1) _ (List.getElem?_eq_getElem (by rw [row_len, hk1]; omega))
      have := (Array.getElem?_eq_some_iff.1 hz).1
      omega
    rw [hk1, Nat.mul_one] at hl
    have hr0 := copy_run k hk1 ts o.type (L.o + off) L.g len c0 l'.length cc A news C.w cur k.el b5 hl hn (All2.one hr) (by omega)
    obtain ⟨new, hnew⟩ : ∃ new, new = (cur.toList.take (L.o + off) ++ news.take (min len l'.length) ++ cur.toList.drop (L.o + off + min len l'.length)).toArray := ⟨_, rfl⟩
    rw [← hnew] at hr0
    have hRg : ∀ b, C.R b → (C.w.setRow L.g new).heap[b]? = C.w.heap[b]? := fun b hb => setRow_other _ _ _ _ fun e => ((h.bl y _ hlk).2 _ hL).2.1 (e ▸ hb)
    have hnl : (news.take (min len l'.length)).length = min len l'.length := by simp only [List.length_take, hl]; omega
    have hll : (l'.take (min len l'.length)).length = min len l'.length := by simp only [List.length_take]; omega
    refine wp_value (hrun _ _ hr0) (hKc ⟨C.w.setRow L.g new, C.R, C.lv, C.loc⟩ _ ⟨h.turn (L := L) (w' := C.w.setRow L.g new) hlk hL rfl rfl rfl (Nat.le_of_eq (setRow_size ..).symm) (fun k _ hk => setRow_other _ _ _ _ hk) ?_ (by simp [nB]), by simp [valR, aggR, cellR], by simp [n2, n1, n0]⟩)
    simp only [blkR, hL]
    have hlen2 : (l.take off ++ l'.take (min len l'.length) ++ l.drop (off + min len l'.length)).length = l.length := by
      simp only [List.length_append, List.length_take, List.length_drop]; omega
    refine ⟨by rw [hlen2]; exact b1, b2, b3, b4, new, setRow_heap _ _ _ _ _ _ b5, fun hap => ⟨(b6 hap).1, ?_⟩, fun j u hj => ?_⟩
    · have := (b6 hap).2
      rw [hnew]
      simp only [List.size_toArray, List.length_append, List.length_take, List.length_drop, Array.length_toList]
      omega
    · have hj1 : j < l.length := by
        have := (List.getElem?_eq_some_iff.1 hj).1
        rwa [row_len, hlen2, hk1, Nat.mul_one] at this
      have hrg : ∀ (m : List k.T) (i : Nat), (m.flatMap k.cells)[i]? = (m[i]?).bind fun e => (k.cells e)[0]? := by
        intro m i
        cases hm : m[i]? with
        | none =>
          have : m.length ≤ i := List.getElem?_eq_none_iff.1 hm
          exact List.getElem?_eq_none_iff.2 (by rw [row_len, hk1]; omega)
        | some e =>
          have := row_get k hm (j := 0) (by omega)
          rw [hk1, Nat.mul_one, Nat.add_zero] at this
          rw [this]; rfl
      rw [hrg] at hj
      have hsp := splice_get l (l'.take (min len l'.length)) off j (by rw [hll]; omega)
      rw [hll] at hsp
      rw [hsp] at hj
      have hct : cur.toList.length = cur.size := Array.length_toList ..
      have hsp2 := splice_get cur.toList (news.take (min len l'.length)) (L.o + off) (L.o + j) (by rw [hnl]; omega)
      rw [hnl] at hsp2
      have hnw : new[L.o + j]? = if L.o + off ≤ L.o + j ∧ L.o + j < L.o + off + min len l'.length then (news.take (min len l'.length))[L.o + j - (L.o + off)]? else cur.toList[L.o + j]? := by
        rw [hnew, List.getElem?_toArray]
        exact hsp2
      rw [hnw]
      by_cases hin : off ≤ j ∧ j < off + min len l'.length
      · rw [if_pos hin] at hj
        rw [if_pos (by omega)]
        rw [List.getElem?_take, if_pos (by omega), ← hrg] at hj
        obtain ⟨z', hz', hr'⟩ := hr.get hj
        exact ⟨z', by rw [List.getElem?_take, if_pos (by omega), show L.o + j - (L.o + off) = j - off by omega]; exact hz', bvR_tr hRg (fun _ h => h) hr'⟩
      · rw [if_neg hin, ← hrg] at hj
        rw [if_neg (by omega)]
        obtain ⟨z', hz', hr'⟩ := b7 j u hj
        exact ⟨z', by simpa using hz', bvR_tr hRg (fun _ h => h) hr'⟩

/-! ### names of what is handed -/
theorem nm0_n0 {c : CV} (h : npt c = true) {y : Nat} (hy : y ∈ n0 c) : y ∈ nm0 c := by
  cases c <;> first | exact hy | (simp [npt] at h; done) | (simp [n0] at hy)
theorem nm_arr0 {H : Hp} {c d : CV} (hb : bv0 H c = some d) {y : Nat} (hy : y ∈ nm0 c) : ∃ ap k l, look H y = some (some (.arr ap k l)) := by
  cases c <;> simp only [nm0, List.mem_singleton, List.not_mem_nil] at hy
  case ref x =>
    subst hy
    simp only [bv0] at hb
    split at hb
    · rename_i ap k l hg
      exact ⟨ap, k, l, get_some.1 hg⟩
    · cases hb
  case win x o n =>
    subst hy
    simp only [bv0] at hb
    split at hb
    · rename_i ap k l hg
      exact ⟨ap, k, l, get_some.1 hg⟩
    · cases hb
theorem bvs_mem {f : CV → Option CV} : ∀ {cs ds : List CV}, bvs f cs = some ds → ∀ c, c ∈ cs → ∃ d, f c = some d
  | [], _, _, c, hc => by simp at hc
  | x :: xs, ds, h, c, hc => by
    simp only [bvs] at h
    split at h
    · cases h
    · rename_i v hv
      split at h
      · cases h
      · rename_i vs hvs
        rcases List.mem_cons.1 hc with rfl | hc
        · exact ⟨_, hv⟩
        · exact bvs_mem hvs c hc
theorem arrB {H : Hp} {y : Nat} (h : ∃ ap k l, look H y = some (some (.arr ap k l))) : ∃ b, look H y = some (some b) ∧ nB b = [] := by
  obtain ⟨ap, k, l, e⟩ := h
  exact ⟨_, e, rfl⟩
theorem nmf_sound {H : Hp} : ∀ {cs : List CV} {ys : List Nat}, nmf H cs = some ys → (∀ y, y ∈ cs.flatMap n1 → y ∈ ys) ∧ (∀ y, y ∈ ys → ∃ b, look H y = some (some b) ∧ nB b = [])
  | [], ys, h => by simp only [nmf, Option.some.injEq] at h; subst h; simp
  | c :: cs, ys, h => by
    simp only [nmf] at h
    split at h
    · cases h
    · rename_i zs hz
      obtain ⟨i1, i2⟩ := nmf_sound hz
      split at h
      · rename_i x o
        split at h
        · rename_i t ds hg
          by_cases hd : ds.all nl0 = true
          · rw [hd, cond_true] at h
            cases h
            refine ⟨fun y hy => ?_, fun y hy => ?_⟩
            · rw [List.flatMap_cons, List.mem_append] at hy
              rcases hy with hy | hy
              · simp only [n1, n0, List.mem_singleton] at hy
                subst hy; exact List.mem_cons_self ..
              · exact List.mem_cons_of_mem _ (i1 y hy)
            · rcases List.mem_cons.1 hy with rfl | hy
              · refine ⟨_, get_some.1 hg, ?_⟩
                simp only [nB, List.flatMap_eq_nil_iff]
                exact fun d hdm => nl0_n0 (List.all_eq_true.1 hd d hdm)
              · exact i2 y hy
          · rw [Bool.eq_false_iff.2 hd] at h; cases h
        · cases h
      · by_cases hn : nl1 c = true
        · rw [hn, cond_true] at h
          cases h
          refine ⟨fun y hy => ?_, i2⟩
          rw [List.flatMap_cons, nl1_n1 hn, List.nil_append] at hy
          exact i1 y hy
        · rw [Bool.eq_false_iff.2 hn] at h; cases h
theorem nms_sound {H : Hp} : ∀ {us vs : List CV} {ys : List Nat}, bvs (bv2 H) us = some vs → nms H us = some ys →
    (∀ c, c ∈ us → ∀ y, y ∈ n2 c → y ∈ ys) ∧ (∀ y, y ∈ ys → ∃ b, look H y = some (some b) ∧ nB b = [])
  | [], _, ys, _, h => by simp only [nms, Option.some.injEq] at h; subst h; simp
  | u :: us, vs, ys, hb, h => by
    simp only [bvs] at hb
    split at hb
    · cases hb
    · rename_i v hv
      split at hb
      · cases hb
      · rename_i vs' hvs
        simp only [nms] at h
        split at h
        · cases h
        · rename_i zs hz
          obtain ⟨i1, i2⟩ := nms_sound hvs hz
          have fin : ∀ ns : List Nat, ys = ns ++ zs → (∀ y, y ∈ n2 u → y ∈ ns) → (∀ y, y ∈ ns → ∃ b, look H y = some (some b) ∧ nB b = []) →
              (∀ c, c ∈ u :: us → ∀ y, y ∈ n2 c → y ∈ ys) ∧ (∀ y, y ∈ ys → ∃ b, look H y = some (some b) ∧ nB b = []) := by
            intro ns e q1 q2
            subst e
            constructor
            · intro c hc y hy
              rcases List.mem_cons.1 hc with rfl | hc
              · exact List.mem_append_left _ (q1 y hy)
              · exact List.mem_append_right _ (i1 c hc y hy)
            · intro y hy
              rcases List.mem_append.1 hy with hy | hy
              · exact q2 y hy
              · exact i2 y hy
          cases u <;> simp only [reduceCtorEq, Option.some.injEq] at h <;> try (exact fin [] h.symm (fun y hy => hy) (by simp))
          case ref x => exact fin [x] h.symm (fun y hy => hy) (fun y hy => arrB (nm_arr0 (c := .ref x) (by simpa only [bv2, bv1] using hv) hy))
          case win x o n => exact fin [x] h.symm (fun y hy => hy) (fun y hy => arrB (nm_arr0 (c := .win x o n) (by simpa only [bv2, bv1] using hv) hy))
          case fn f cs =>
            split at h
            · rename_i zs' hz'
              simp only [Option.some.injEq] at h
              obtain ⟨j1, j2⟩ := nmf_sound hz'
              exact fin zs' h.symm (fun y hy => j1 y hy) j2
            · cases h
          case agg cs =>
            by_cases hcs : cs.all npt = true
            · rw [hcs] at h
              simp only [cond_true, Option.some.injEq] at h
              refine fin _ h.symm (fun y hy => ?_) (fun y hy => ?_)
              · obtain ⟨c, hc, hy⟩ := List.mem_flatMap.1 hy
                exact List.mem_flatMap.2 ⟨c, hc, nm0_n0 (List.all_eq_true.1 hcs c hc) hy⟩
              · obtain ⟨c, hc, hy⟩ := List.mem_flatMap.1 hy
                simp only [bv2, bv1] at hv
                split at hv
                · rename_i cs' hcs'
                  obtain ⟨d, hd⟩ := bvs_mem hcs' c hc
                  exact arrB (nm_arr0 hd hy)
                · cases hv
            · rw [Bool.eq_false_iff.2 hcs] at h
              cases h
end Go.Proofs.Ytnfgfdeidkhdkaa.Eng
