/- The engine's soundness, tenth part: copies, calls that write or that keep what they are handed; every operation that writes · The engine's soundness, eleventh part: every operation that writes; one operation · The engine's soundness, twelfth part: one operation, a region in the text's order · The engine's soundness, thirteenth part: what an operation does it does alike where more is known · The engine's soundness, fourteenth part: operations do alike where more is known · The engine's soundness, fifteenth part: regions whose order is open · The engine's soundness, sixteenth part: regions whose order is open, all orders at once · The engine's soundness, seventeenth part: regions whose order is open, put together · The engine's soundness, eighteenth part: points at which what is not wanted any more is forgotten · The engine's soundness, nineteenth part: code · The engine's soundness, last part: functions · A function's run from loop to loop: what a piece of code comes to, up to the next loop's head or the function's end, is told as data; what a loop's head leads to is told of every large number of rounds · slices.Clone, by hand: an empty slice may be nil or not -/
import Derived.LoopN
import Derived.Scope
import Derived.Test.YtnfgfdeidkhdkaaMa
/- El: The engine's soundness, tenth part: copies, calls that write or that keep what they are handed; every operation that writes. -/
namespace Go.Proofs.Ytnfgfdeidkhdkaa.Eng
open Go.RowKit (Below)
set_option linter.unusedVariables false
set_option linter.unusedSimpArgs false

theorem copy_run0 (k : SK) (hk1 : k.size = 1) (ts ty : TypeId) (dn dc m c' : Nat) (A A' : Option Addr) (w : World) (h0 : min dn m = 0) :
    (Builtin.copy_ #[k.ty, ts] ty #[.slice A dn dc, .slice A' m c']).run P w = .ok (.int .i64 ((min dn m : Nat) : Int)) w := by
  obtain ⟨i, z, hi, hs, hby, hz, hzs⟩ := SK.info k
  have hmin : Nat.min m dn = min dn m := Nat.min_comm m dn
  have hfc := firstCells_run 1 0 m c' A' w [] (by simp) (by omega) (fun j u hu => by simp at hu)
  rw [h0] at hmin ⊢
  cases A <;> simp [Builtin.copy_, run_underlying (SK.under k), Builtin.lenOf, sizeOf, typeInfo, hi, hs, hk1, hmin, hfc, storeCells, goInt]
theorem copy_run (k : SK) (hk1 : k.size = 1) (ts ty : TypeId) (q g dn dc m c' : Nat) (A' : Option Addr) (news : List Value) (w : World) (cur : Array Value) (t : TypeId) (hg : w.heap[g]? = some (.cells cur t (0, 0)))
    (hl : news.length = m) (hn : ∀ (j : Nat) u, news[j]? = some u → ∃ ad, A' = some ad ∧ w.cell? (ad.add j) = some u) (h1 : ∀ u, u ∈ news → u.oneCell' = true) (hf : q + dn ≤ cur.size) :
    (Builtin.copy_ #[k.ty, ts] ty #[.slice (some ⟨g, q, none⟩) dn dc, .slice A' m c']).run P w = .ok (.int .i64 ((min dn m : Nat) : Int)) (w.setRow g (cur.toList.take q ++ news.take (min dn m) ++ cur.toList.drop (q + min dn m)).toArray) := by
  obtain ⟨i, z, hi, hs, hby, hz, hzs⟩ := SK.info k
  have hmin : Nat.min m dn = min dn m := Nat.min_comm m dn
  have hlen : (news.take (min dn m)).length = min dn m := by simp only [List.length_take]; omega
  have hfc := firstCells_run 1 (min dn m) m c' A' w (news.take (min dn m)) (by rw [hlen]; omega) (by omega) (fun j u hu => by
    rw [List.getElem?_take] at hu
    split at hu
    · exact hn j u hu
    · cases hu)
  have hst := run_storeCells_at P g q t (news.take (min dn m)) 0 cur w hg (by rw [hlen]; omega) (fun u hu => h1 u (List.mem_of_mem_take hu))
  simp only [Nat.add_zero, hlen] at hst
  simp [Builtin.copy_, run_underlying (SK.under k), Builtin.lenOf, sizeOf, typeInfo, hi, hs, hk1, hmin, hfc, hst, goInt]

theorem copy_sound {B : Base} {nt : Nat} {C : Cx} {st : St} {a : Act} (h : SimL B nt C st a) {o : Oper} {c : Call} (ho : o.op = .call c) (hc : c.callee = .builtin .copy) {y off len : Nat} {d z : CV} {k : SK} {ts : TypeId} (hs : evs st.T c.args.toList c.argTypes.toList = some [d, z])
    (hk1 : k.size = 1) (ht : c.argTypes.toList = [k.ty, ts]) {ap : Bool} {l : List k.T} (hg : get st.H y = some (.arr ap k l)) (hd : (d = .ref y ∧ off = 0 ∧ len = l.length) ∨ (d = .win y off len ∧ off + len ≤ l.length)) {R : Type} {K : List k.T → Option R} {r : R} (hk : source st.H k z K = some r) :
    ∃ l', K l' = some r ∧ Wr B nt st a o C.w (.int .i64 ((min len l'.length : Nat) : Int)) [(y, some (.arr ap k (l.take off ++ l'.take (min len l'.length) ++ l.drop (off + min len l'.length))))] := by
  obtain ⟨h1, h2⟩ := evs_sound h hs
  obtain ⟨u, v, e, hu, hv⟩ := list2 h1
  obtain ⟨l', hK, A, cc, rfl, news, hl, hn, hr⟩ := source_R h hk hv
  refine ⟨l', hK, fun Kc Q hKc => ?_⟩
  have e1 : c.argTypes = #[k.ty, ts] := arr_of ht
  have e2 : c.args.map a.eval = #[u, .slice A l'.length cc] := arr_of (by rw [map_toList]; exact e)
  have hrun : ∀ v w', (Builtin.copy_ #[k.ty, ts] o.type #[u, .slice A l'.length cc]).run P C.w = .ok v w' → (execOp a.eval o).run P C.w = .ok (.value v) w' := by
    intro v w' hr
    rw [call_run a o c _ ho hc, e1, e2]
    exact run_v _ _ hr
  have hlk := get_some.1 hg
  have hlv : C.lv y := (h.lv y).2 ⟨_, hlk⟩
  have hbl := (h.bl y _ hlk).1
  have hol : off + len ≤ l.length := by rcases hd with ⟨-, rfl, rfl⟩ | ⟨-, hd⟩ <;> omega
  have hu' : ∃ A0 c0, u = .slice A0 len c0 ∧ (0 < len → ∃ L, C.loc y = some L ∧ A0 = some ⟨L.g, L.o + off, none⟩) := by
    cases hL : C.loc y with
    | none =>
      simp only [blkR, hL] at hbl
      subst hbl
      simp only [List.length_nil] at hol
      have hlen0 : len = 0 := by omega
      subst hlen0
      rcases hd with ⟨rfl, -, -⟩ | ⟨rfl, -⟩
      · have := hu.2 hlv
        rw [hL] at this
        obtain ⟨A0, rfl⟩ := this
        exact ⟨_, _, rfl, fun h => by omega⟩
      · have := hu.2 hlv
        rw [hL] at this
        obtain ⟨-, A0, c0, rfl⟩ := this
        exact ⟨_, _, rfl, fun h => by omega⟩
    | some L =>
      simp only [blkR, hL] at hbl
      obtain ⟨b1, b2, b3, b4, cur, b5, b6, b7⟩ := hbl
      rcases hd with ⟨rfl, rfl, rfl⟩ | ⟨rfl, -⟩
      · have := hu.2 hlv
        rw [hL] at this
        simp only at this
        subst this
        rw [b1]
        exact ⟨_, _, rfl, fun _ => ⟨L, rfl, rfl⟩⟩
      · have := hu.2 hlv
        rw [hL] at this
        obtain ⟨-, A0, c0, rfl, hc0, hA0⟩ := this
        exact ⟨_, _, rfl, fun hp => ⟨L, rfl, by rw [hA0 hp, b2, hk1, Nat.mul_one]⟩⟩
  obtain ⟨A0, c0, rfl, hA0⟩ := hu'
  by_cases h0 : min len l'.length = 0
  · have hr0 := copy_run0 k hk1 ts o.type len c0 l'.length cc A0 A C.w h0
    have e3 : l.take off ++ l'.take (min len l'.length) ++ l.drop (off + min len l'.length) = l := by simp [h0]
    rw [e3] at hKc
    refine wp_value (hrun _ _ hr0) (hKc C _ ⟨h.eqv ⟨fun _ => rfl, fun z => ?_⟩, by simp [valR, aggR, cellR], by simp [n2, n1, n0]⟩)
    simp only [List.cons_append, List.nil_append, look_cons]
    split
    · rename_i e; subst e; exact hlk
    · rfl
  · obtain ⟨L, hL, rfl⟩ := hA0 (by omega)
    simp only [blkR, hL] at hbl
    obtain ⟨b1, b2, b3, b4, cur, b5, b6, b7⟩ := hbl
    have hls : L.o + l.length ≤ cur.size := by
      obtain ⟨z, hz, -⟩ := b7 (l.length - 1) _ (List.getElem?_eq_getElem (by rw [row_len, hk1]; omega))
      have := (Array.getElem?_eq_some_iff.1 hz).1
      omega
    rw [hk1, Nat.mul_one] at hl
    have hr0 := copy_run k hk1 ts o.type (L.o + off) L.g len c0 l'.length cc A news C.w cur k.el b5 hl hn (All2.one hr) (by omega)
    obtain ⟨new, hnew⟩ : ∃ new, new = (cur.toList.take (L.o + off) ++ news.take (min len l'.length) ++ cur.toList.drop (L.o + off + min len l'.length)).toArray := ⟨_, rfl⟩
    rw [← hnew] at hr0
    have hRg : ∀ b, C.R b → (C.w.setRow L.g new).heap[b]? = C.w.heap[b]? := fun b hb => setRow_other _ _ _ _ fun e => ((h.bl y _ hlk).2 _ hL).2.1 (e ▸ hb)
    have hnl : (news.take (min len l'.length)).length = min len l'.length := by simp only [List.length_take, hl]; omega
    have hll : (l'.take (min len l'.length)).length = min len l'.length := by simp only [List.length_take]; omega
    refine wp_value (hrun _ _ hr0) (hKc ⟨C.w.setRow L.g new, C.R, C.lv, C.loc⟩ _ ⟨h.turn (L := L) (w' := C.w.setRow L.g new) hlk hL rfl rfl rfl (Nat.le_of_eq (setRow_size ..).symm) (fun k _ hk => setRow_other _ _ _ _ hk) ?_ (by simp [nB]), by simp [valR, aggR, cellR], by simp [n2, n1, n0]⟩)
    simp only [blkR, hL]
    have hlen2 : (l.take off ++ l'.take (min len l'.length) ++ l.drop (off + min len l'.length)).length = l.length := by
      simp only [List.length_append, List.length_take, List.length_drop]; omega
    refine ⟨by rw [hlen2]; exact b1, b2, b3, b4, new, setRow_heap _ _ _ _ _ _ b5, fun hap => ⟨(b6 hap).1, ?_⟩, fun j u hj => ?_⟩
    · have := (b6 hap).2
      rw [hnew]
      simp only [List.size_toArray, List.length_append, List.length_take, List.length_drop, Array.length_toList]
      omega
    · have hj1 : j < l.length := by
        have := (List.getElem?_eq_some_iff.1 hj).1
        rwa [row_len, hlen2, hk1, Nat.mul_one] at this
      have hrg : ∀ (m : List k.T) (i : Nat), (m.flatMap k.cells)[i]? = (m[i]?).bind fun e => (k.cells e)[0]? := by
        intro m i
        cases hm : m[i]? with
        | none =>
          have : m.length ≤ i := List.getElem?_eq_none_iff.1 hm
          exact List.getElem?_eq_none_iff.2 (by rw [row_len, hk1]; omega)
        | some e =>
          have := row_get k hm (j := 0) (by omega)
          rw [hk1, Nat.mul_one, Nat.add_zero] at this
          rw [this]; rfl
      rw [hrg] at hj
      have hsp := splice_get l (l'.take (min len l'.length)) off j (by rw [hll]; omega)
      rw [hll] at hsp
      rw [hsp] at hj
      have hct : cur.toList.length = cur.size := Array.length_toList ..
      have hsp2 := splice_get cur.toList (news.take (min len l'.length)) (L.o + off) (L.o + j) (by rw [hnl]; omega)
      rw [hnl] at hsp2
      have hnw : new[L.o + j]? = if L.o + off ≤ L.o + j ∧ L.o + j < L.o + off + min len l'.length then (news.take (min len l'.length))[L.o + j - (L.o + off)]? else cur.toList[L.o + j]? := by
        rw [hnew, List.getElem?_toArray]
        exact hsp2
      rw [hnw]
      by_cases hin : off ≤ j ∧ j < off + min len l'.length
      · rw [if_pos hin] at hj
        rw [if_pos (by omega)]
        rw [List.getElem?_take, if_pos (by omega), ← hrg] at hj
        obtain ⟨z', hz', hr'⟩ := hr.get hj
        exact ⟨z', by rw [List.getElem?_take, if_pos (by omega), show L.o + j - (L.o + off) = j - off by omega]; exact hz', bvR_tr hRg (fun _ h => h) hr'⟩
      · rw [if_neg hin, ← hrg] at hj
        rw [if_neg (by omega)]
        obtain ⟨z', hz', hr'⟩ := b7 j u hj
        exact ⟨z', by simpa using hz', bvR_tr hRg (fun _ h => h) hr'⟩

/-! ### names of what is handed -/
theorem nm0_n0 {c : CV} (h : npt c = true) {y : Nat} (hy : y ∈ n0 c) : y ∈ nm0 c := by
  cases c <;> first | exact hy | (simp [npt] at h; done) | (simp [n0] at hy)
theorem nm_arr0 {H : Hp} {c d : CV} (hb : bv0 H c = some d) {y : Nat} (hy : y ∈ nm0 c) : ∃ ap k l, look H y = some (some (.arr ap k l)) := by
  cases c <;> simp only [nm0, List.mem_singleton, List.not_mem_nil] at hy
  case ref x =>
    subst hy
    simp only [bv0] at hb
    split at hb
    · rename_i ap k l hg
      exact ⟨ap, k, l, get_some.1 hg⟩
    · cases hb
  case win x o n =>
    subst hy
    simp only [bv0] at hb
    split at hb
    · rename_i ap k l hg
      exact ⟨ap, k, l, get_some.1 hg⟩
    · cases hb
theorem bvs_mem {f : CV → Option CV} : ∀ {cs ds : List CV}, bvs f cs = some ds → ∀ c, c ∈ cs → ∃ d, f c = some d
  | [], _, _, c, hc => by simp at hc
  | x :: xs, ds, h, c, hc => by
    simp only [bvs] at h
    split at h
    · cases h
    · rename_i v hv
      split at h
      · cases h
      · rename_i vs hvs
        rcases List.mem_cons.1 hc with rfl | hc
        · exact ⟨_, hv⟩
        · exact bvs_mem hvs c hc
theorem arrB {H : Hp} {y : Nat} (h : ∃ ap k l, look H y = some (some (.arr ap k l))) : ∃ b, look H y = some (some b) ∧ nB b = [] := by
  obtain ⟨ap, k, l, e⟩ := h
  exact ⟨_, e, rfl⟩
theorem nmf_sound {H : Hp} : ∀ {cs : List CV} {ys : List Nat}, nmf H cs = some ys → (∀ y, y ∈ cs.flatMap n1 → y ∈ ys) ∧ (∀ y, y ∈ ys → ∃ b, look H y = some (some b) ∧ nB b = [])
  | [], ys, h => by simp only [nmf, Option.some.injEq] at h; subst h; simp
  | c :: cs, ys, h => by
    simp only [nmf] at h
    split at h
    · cases h
    · rename_i zs hz
      obtain ⟨i1, i2⟩ := nmf_sound hz
      split at h
      · rename_i x o
        split at h
        · rename_i t ds hg
          by_cases hd : ds.all nl0 = true
          · rw [hd, cond_true] at h
            cases h
            refine ⟨fun y hy => ?_, fun y hy => ?_⟩
            · rw [List.flatMap_cons, List.mem_append] at hy
              rcases hy with hy | hy
              · simp only [n1, n0, List.mem_singleton] at hy
                subst hy; exact List.mem_cons_self ..
              · exact List.mem_cons_of_mem _ (i1 y hy)
            · rcases List.mem_cons.1 hy with rfl | hy
              · refine ⟨_, get_some.1 hg, ?_⟩
                simp only [nB, List.flatMap_eq_nil_iff]
                exact fun d hdm => nl0_n0 (List.all_eq_true.1 hd d hdm)
              · exact i2 y hy
          · rw [Bool.eq_false_iff.2 hd] at h; cases h
        · cases h
      · by_cases hn : nl1 c = true
        · rw [hn, cond_true] at h
          cases h
          refine ⟨fun y hy => ?_, i2⟩
          rw [List.flatMap_cons, nl1_n1 hn, List.nil_append] at hy
          exact i1 y hy
        · rw [Bool.eq_false_iff.2 hn] at h; cases h
theorem nms_sound {H : Hp} : ∀ {us vs : List CV} {ys : List Nat}, bvs (bv2 H) us = some vs → nms H us = some ys →
    (∀ c, c ∈ us → ∀ y, y ∈ n2 c → y ∈ ys) ∧ (∀ y, y ∈ ys → ∃ b, look H y = some (some b) ∧ nB b = [])
  | [], _, ys, _, h => by simp only [nms, Option.some.injEq] at h; subst h; simp
  | u :: us, vs, ys, hb, h => by
    simp only [bvs] at hb
    split at hb
    · cases hb
    · rename_i v hv
      split at hb
      · cases hb
      · rename_i vs' hvs
        simp only [nms] at h
        split at h
        · cases h
        · rename_i zs hz
          obtain ⟨i1, i2⟩ := nms_sound hvs hz
          have fin : ∀ ns : List Nat, ys = ns ++ zs → (∀ y, y ∈ n2 u → y ∈ ns) → (∀ y, y ∈ ns → ∃ b, look H y = some (some b) ∧ nB b = []) →
              (∀ c, c ∈ u :: us → ∀ y, y ∈ n2 c → y ∈ ys) ∧ (∀ y, y ∈ ys → ∃ b, look H y = some (some b) ∧ nB b = []) := by
            intro ns e q1 q2
            subst e
            constructor
            · intro c hc y hy
              rcases List.mem_cons.1 hc with rfl | hc
              · exact List.mem_append_left _ (q1 y hy)
              · exact List.mem_append_right _ (i1 c hc y hy)
            · intro y hy
              rcases List.mem_append.1 hy with hy | hy
              · exact q2 y hy
              · exact i2 y hy
          cases u <;> simp only [reduceCtorEq, Option.some.injEq] at h <;> try (exact fin [] h.symm (fun y hy => hy) (by simp))
          case ref x => exact fin [x] h.symm (fun y hy => hy) (fun y hy => arrB (nm_arr0 (c := .ref x) (by simpa only [bv2, bv1] using hv) hy))
          case win x o n => exact fin [x] h.symm (fun y hy => hy) (fun y hy => arrB (nm_arr0 (c := .win x o n) (by simpa only [bv2, bv1] using hv) hy))
          case fn f cs =>
            split at h
            · rename_i zs' hz'
              simp only [Option.some.injEq] at h
              obtain ⟨j1, j2⟩ := nmf_sound hz'
              exact fin zs' h.symm (fun y hy => j1 y hy) j2
            · cases h
          case agg cs =>
            by_cases hcs : cs.all npt = true
            · rw [hcs] at h
              simp only [cond_true, Option.some.injEq] at h
              refine fin _ h.symm (fun y hy => ?_) (fun y hy => ?_)
              · obtain ⟨c, hc, hy⟩ := List.mem_flatMap.1 hy
                exact List.mem_flatMap.2 ⟨c, hc, nm0_n0 (List.all_eq_true.1 hcs c hc) hy⟩
              · obtain ⟨c, hc, hy⟩ := List.mem_flatMap.1 hy
                simp only [bv2, bv1] at hv
                split at hv
                · rename_i cs' hcs'
                  obtain ⟨d, hd⟩ := bvs_mem hcs' c hc
                  exact arrB (nm_arr0 hd hy)
                · cases hv
            · rw [Bool.eq_false_iff.2 hcs] at h
              cases h
end Go.Proofs.Ytnfgfdeidkhdkaa.Eng
/- Em: The engine's soundness, eleventh part: every operation that writes; one operation. -/
namespace Go.Proofs.Ytnfgfdeidkhdkaa.Eng
open Go.RowKit (Below)
set_option linter.unusedVariables false
set_option linter.unusedSimpArgs false

theorem nms_closed {H : Hp} {ys : List Nat} (h : ∀ y, y ∈ ys → ∃ b, look H y = some (some b) ∧ nB b = []) : ∀ y z b, y ∈ ys → look H y = some (some b) → z ∈ nB b → z ∈ ys := by
  intro y z b hy hb hz
  obtain ⟨b', e, e2⟩ := h y hy
  rw [e] at hb
  cases hb
  rw [e2] at hz; simp at hz

/-- a call that writes into the row that it is handed first -/
theorem mcall_sound {B : Base} {nt : Nat} {C : Cx} {st : St} {a : Act} (h : SimL B nt C st a) {msem : Nat → List Int → List CV → Option (Bool × List Int)} (hm : MemOk msem) {o : Oper} {c : Call} {f : Nat} (ho : o.op = .call c) (hc : c.callee = .value (.func f))
    {y : Nat} {us vs : List CV} (hs : evs st.T c.args.toList c.argTypes.toList = some (.ref y :: us)) {l l' : List Int} (hg : get st.H y = some (.arr true .int l)) (hb : bvs (bv2 st.H) us = some vs) {ys : List Nat} (hn : nms st.H us = some ys) (hy : ¬ y ∈ ys)
    (hf : msem f l vs = some (true, l')) (hl : l'.length = l.length) : Wr B nt st a o C.w (.tup []) [(y, some (.arr true .int l'))] := by
  intro Kc Q hK
  obtain ⟨h1, h2⟩ := evs_sound h hs
  obtain ⟨hcm, hcl⟩ := hm f l vs l' hf
  obtain ⟨n1, n2'⟩ := nms_sound hb hn
  have hlk := get_some.1 hg
  have hlv : C.lv y := (h.lv y).2 ⟨_, hlk⟩
  match hargs : c.args.toList.map a.eval, h1 with
  | v0 :: ws, h1 =>
    have hrun : (execOp a.eval o).run P C.w = .ok (.enter f (#[v0] ++ ws.toArray)) C.w := by
      rw [call_func_run ho hc hcl]
      have e : c.args.map a.eval = (v0 :: ws).toArray := arr_of (by rw [map_toList]; exact hargs)
      rw [e]
      simp
    have hargsR := args_sound h (N := fun z => z ∈ ys) hb h1.2 n1 (nms_closed n2')
    obtain ⟨m1, m2⟩ := hcm C.w (RN C fun z => z ∈ ys) v0 ws.toArray (RN_lt h) (by simpa using hargsR)
    have hv := h1.1.2 hlv
    have hbl := (h.bl y _ hlk).1
    cases hL : C.loc y with
    | none =>
      rw [hL] at hv
      simp only [blkR, hL] at hbl
      subst hbl
      obtain ⟨A, rfl⟩ := hv
      refine wp_enter hrun ((m1 ⟨rfl, A, rfl⟩).mono fun e w' ⟨he, hbel⟩ => ⟨.tuple #[], he, ?_⟩)
      have hl0 : l' = [] := List.eq_nil_of_length_eq_zero hl
      subst hl0
      have hk := h.kill (R' := C.R) (w' := w') [] (by simp) (fun _ h => h) (fun _ h => .inl h) hbel (fun b hb => Nat.lt_of_lt_of_le (h.rlt b hb) hbel.size) (by simp)
      refine hK ⟨w', C.R, fun y => C.lv y ∧ y ∉ [], C.loc⟩ _ ⟨hk.eqv ⟨fun _ => rfl, fun z => ?_⟩, ⟨#[], rfl, trivial⟩, by simp [n2]⟩
      simp only [List.map_nil, List.nil_append, List.cons_append, look_cons]
      split
      · rename_i e; subst e; exact hlk
      · rfl
    | some L =>
      rw [hL] at hv
      simp only at hv
      subst hv
      simp only [blkR, hL] at hbl
      obtain ⟨b1, b2, b3, b4, cur, b5, b6, b7⟩ := hbl
      obtain ⟨o1, o2, o3⟩ := (h.bl y _ hlk).2 L hL
      have hne : ¬ RN C (fun z => z ∈ ys) L.g := by
        rintro (hR | ⟨x, M, hx, hlx, hM, e⟩)
        · exact o2 hR
        · exact h.dj y x L M hlv hlx hL hM (fun e' => hy (e' ▸ hx)) e.symm
      have hcells : ∀ (i : Nat) n, l[i]? = some n → cur[L.o + i]? = some (.int .i64 n) := by
        intro i n hi
        have := row_get .int (l := l) hi (j := 0) (by simp [SK.size])
        simp only [SK.size, Nat.mul_one, Nat.add_zero] at this
        obtain ⟨z, hz, hr⟩ := b7 i _ (this.trans (by simp [SK.cells] : (SK.int.cells n)[0]? = some (.int .i64 n)))
        rw [hz]
        exact congrArg some hr
      obtain ⟨b61, b62⟩ := b6 trivial
      rw [b61] at hrun hcells m2
      rw [b1] at hrun m2
      simp only [Nat.zero_add] at hcells
      refine wp_enter hrun ((m2 L.g L.c cur rfl (by omega) b4 hne o3 b5 (by rw [b62]; simp [SK.size]) hcells).mono fun e w' ⟨he, q1, q2, q3, q4, q5, cur', q6, q7, q8⟩ => ⟨.tuple #[], he, ?_⟩)
      have hRg : ∀ b, C.R b → w'.heap[b]? = C.w.heap[b]? := fun b hb => q5 b (h.rlt b hb) fun e => o2 (e ▸ hb)
      refine hK ⟨w', C.R, C.lv, C.loc⟩ _ ⟨h.turn hlk hL q1 q2 q3 q4 q5 ?_ (by simp [nB]), ⟨#[], rfl, trivial⟩, by simp [n2]⟩
      simp only [blkR, hL]
      refine ⟨by rw [hl]; exact b1, b2, b3, b4, cur', q6, fun _ => ⟨b61, by rw [q7]; exact b62⟩, fun i u hu => ?_⟩
      have hi : i < l'.length := by
        have := (List.getElem?_eq_some_iff.1 hu).1
        rwa [row_len, SK.size, Nat.mul_one] at this
      have hge := List.getElem?_eq_getElem hi
      have := row_get .int (l := l') hge (j := 0) (by simp [SK.size])
      simp only [SK.size, Nat.mul_one, Nat.add_zero] at this
      rw [this] at hu
      simp only [SK.cells, List.getElem?_cons_zero, Option.some.injEq] at hu
      subst hu
      exact ⟨_, by rw [b61, Nat.zero_add]; exact q8 i _ hge, rfl⟩
  | [], h1 => exact h1.elim

/-- a call that lets go of what it is handed -/
theorem kcall_sound {B : Base} {nt : Nat} {C : Cx} {st : St} {a : Act} (h : SimL B nt C st a) {sem : Sems} (hsem : SemOk sem) {o : Oper} {c : Call} {f : Nat} (ho : o.op = .call c) (hc : c.callee = .value (.func f)) (hB : ∀ b, ¬ B.mayW b)
    {us vs : List CV} (hs : evs st.T c.args.toList c.argTypes.toList = some us) (hb : bvs (bv2 st.H) us = some vs) {ys : List Nat} (hn : nms st.H us = some ys) {r' : CV} (hf : sem f vs = some (false, true, r')) :
    Wr B nt st a o C.w r' (ys.map fun y => (y, none)) := by
  intro Kc Q hK
  obtain ⟨h1, h2⟩ := evs_sound h hs
  obtain ⟨hcc, hcl⟩ := hsem f vs _ _ hf
  obtain ⟨n1, n2'⟩ := nms_sound hb hn
  have hargsR := args_sound h (N := fun z => z ∈ ys) hb h1 n1 (nms_closed n2')
  have hrun : (execOp a.eval o).run P C.w = .ok (.enter f (c.args.toList.map a.eval).toArray) C.w := by
    rw [call_func_run ho hc hcl, arr_of (map_toList a.eval c.args)]
  refine wp_enter hrun ((hcc C.w (RN C fun z => z ∈ ys) _ (RN_lt h) (by simpa using hargsR)).mono fun e w' ⟨v, he, hbel, R', r1, r2, r3, hnl, hv⟩ => ⟨v, he, ?_⟩)
  have hn2 : n2 r' = [] := nl2_n2 hnl
  have hk := h.kill (R' := R') (w' := w') ys (fun y hy => by obtain ⟨b, e, -⟩ := n2' y hy; exact ⟨_, e⟩) (fun b hb => r1 b (.inl hb))
    (fun b hb => by
      rcases r2 b hb with (hb | ⟨x, L, hx, hl, hL, e⟩) | hb
      · exact .inl hb
      · exact .inr (.inl ⟨x, L, hx, hl, hL, e⟩)
      · exact .inr (.inr hb)) hbel r3 (fun y L hl hL hy => by
      obtain ⟨b, hbk⟩ := (h.lv y).1 hl
      exact ((h.bl y b hbk).2 L hL).1.resolve_right (hB _))
  exact hK ⟨w', R', fun y => C.lv y ∧ y ∉ ys, C.loc⟩ v ⟨hk, valR_tr (C := byV w' R') (D := ⟨w', R', fun y => C.lv y ∧ y ∉ ys, C.loc⟩) (N := fun _ => False) ⟨fun b _ => rfl, fun b h => h, fun y hy => hy.elim⟩ (by rw [hn2]; simp) hv, by rw [hn2]; simp⟩

/-- a row that is cut at its end, all of it kept -/
theorem clip_sound {B : Base} {nt : Nat} {C : Cx} {st : St} {a : Act} (h : SimL B nt C st a) {o : Oper} {t : Nat} {s hi mx : Operand} (ho : o.op = .slice t s none (some hi) (some mx)) {x y : Nat} (hs : ev t st.T s = some (.ref y)) {ap : Bool} {k : SK} {l : List k.T} (hg : get st.H y = some (.arr ap k l))
    {i1 i2 : IntKind} {b m : Int} (hb : ev 3 st.T hi = some (.int i1 b)) (hm : ev 3 st.T mx = some (.int i2 m)) (ht : t = k.ty) (hbl : b = (l.length : Int)) (hml : m = (l.length : Int)) (hx : look st.H x = none) :
    Wr B nt st a o C.w (.ref x) [(x, some (.arr false k l)), (y, none)] := by
  intro Kc Q hKc
  subst ht hbl hml
  have hv := (ev_sound h hs).1
  have e1 := int_inv (ev_sound h hb).1
  have e2 := int_inv (ev_sound h hm).1
  have hlk := get_some.1 hg
  have hlv : C.lv y := (h.lv y).2 ⟨_, hlk⟩
  have hv2 := hv.2 hlv
  have hbk := (h.bl y _ hlk).1
  have hrun : ∀ (A : Option Addr) (cap : Nat), a.eval s = .slice A l.length cap → l.length ≤ cap → (execOp a.eval o).run P C.w = .ok (.value (.slice (if l.length = 0 then A else A.map (·.add (0 * k.size))) l.length l.length)) C.w := by
    intro A cap hA hle
    have hr := slice_run k A l.length cap none (some (.int i1 (l.length : Int))) (some (.int i2 (l.length : Int))) 0 l.length l.length (.inl ⟨rfl, rfl⟩) (.inr ⟨i1, rfl⟩) (.inr ⟨i2, rfl⟩) (Nat.zero_le _) (Nat.le_refl _) hle C.w
    unfold execOp
    simp only [ho, Option.map_none, Option.map_some, hA, e1, e2]
    simp only [Nat.sub_zero] at hr
    exact run_v _ _ hr
  have fin : ∀ {L : Option Lc} {v : Value}, (execOp a.eval o).run P C.w = .ok (.value v) C.w →
      SimL B nt ⟨C.w, C.R, fun z => (C.lv z ∧ z ≠ y) ∨ z = x, fun z => if z = x then L else C.loc z⟩ ⟨st.T, (x, some (.arr false k l)) :: (y, none) :: st.H⟩ a →
      ((∃ A n c, v = .slice A n c) ∧ (match L with
      | none => ∃ A, v = .slice A 0 0
      | some L => v = .slice (some ⟨L.g, L.o, none⟩) L.n L.c)) → o.wp P a C.w Kc Q := by
    intro L v hr hsim hv
    refine wp_value hr (hKc ⟨C.w, C.R, fun z => (C.lv z ∧ z ≠ y) ∨ z = x, fun z => if z = x then L else C.loc z⟩ v ⟨hsim, ⟨hv.1, fun _ => ?_⟩, fun q hq => ?_⟩)
    · simp only [if_true]
      cases L <;> exact hv.2
    · simp only [n2, n1, n0, List.mem_singleton] at hq
      subst hq
      exact ⟨some (.arr false k l), by simp [look_cons]⟩
  cases hL : C.loc y with
  | none =>
    rw [hL] at hv2
    simp only [blkR, hL] at hbk
    obtain ⟨A, hA⟩ := hv2
    subst hbk
    refine fin (L := none) (hrun A 0 hA (Nat.le_refl _)) (h.app hx hlk rfl rfl rfl (Nat.le_refl _) (fun _ _ _ => rfl) (fun M hM => by cases hM) (by simp [blkR]) rfl) ⟨⟨_, _, _, rfl⟩, ⟨_, rfl⟩⟩
  | some L =>
    rw [hL] at hv2
    simp only [blkR, hL] at hbk
    obtain ⟨b1, b2, b3, b4, cur, b5, b6, b7⟩ := hbk
    simp only at hv2
    rw [b1] at hv2
    have hr := hrun _ _ hv2 (by omega)
    by_cases h0 : l.length = 0
    · have hl0 : l = [] := List.eq_nil_of_length_eq_zero h0
      subst hl0
      exact fin (L := none) hr (h.app hx hlk rfl rfl rfl (Nat.le_refl _) (fun _ _ _ => rfl) (fun M hM => by cases hM) (by simp [blkR]) rfl) ⟨⟨_, _, _, rfl⟩, ⟨_, rfl⟩⟩
    · rw [if_neg h0] at hr
      have e : Option.map (fun x => x.add (0 * k.size)) (some (⟨L.g, L.o, none⟩ : Addr)) = some ⟨L.g, L.o, none⟩ := by
        simp only [Option.map_some, Nat.zero_mul, addr_add, Nat.add_zero]
      rw [e] at hr
      refine fin (L := some ⟨L.g, L.o, l.length, l.length, L.s⟩) hr (h.app hx hlk rfl rfl rfl (Nat.le_refl _) (fun _ _ _ => rfl) (fun M hM => by
        cases hM
        exact ⟨((h.bl y _ hlk).2 L hL).2.2, .inl ⟨L, hL, rfl⟩⟩) ?_ rfl) ⟨⟨_, _, _, rfl⟩, rfl⟩
      simp only [blkR, if_true]
      refine ⟨trivial, b2, Nat.le_refl _, by omega, cur, b5, fun hh => (by cases hh), b7⟩

/-- a row that is cut at its begin, the rest of it kept by its new name -/
theorem cut_sound {B : Base} {nt : Nat} {C : Cx} {st : St} {a : Act} (h : SimL B nt C st a) {o : Oper} {t : Nat} {s lo : Operand} (ho : o.op = .slice t s (some lo) none none) {x y : Nat} (hs : ev t st.T s = some (.ref y)) {ap : Bool} {k : SK} {l : List k.T} (hg : get st.H y = some (.arr ap k l))
    {i1 : IntKind} {b : Int} (hb : ev 3 st.T lo = some (.int i1 b)) (ht : t = k.ty) (hb0 : 0 ≤ b) (hbl : b ≤ (l.length : Int)) (hx : look st.H x = none) :
    Wr B nt st a o C.w (.ref x) [(x, some (.arr false k (l.drop b.toNat))), (y, none)] := by
  intro Kc Q hKc
  obtain ⟨n, rfl⟩ : ∃ n : Nat, b = n := ⟨b.toNat, by omega⟩
  simp only [Int.toNat_natCast] at hKc
  have hnl : n ≤ l.length := by omega
  subst ht
  have hv := (ev_sound h hs).1
  have e1 := int_inv (ev_sound h hb).1
  have hlk := get_some.1 hg
  have hlv : C.lv y := (h.lv y).2 ⟨_, hlk⟩
  have hv2 := hv.2 hlv
  have hbk := (h.bl y _ hlk).1
  have hrun : ∀ (A : Option Addr) (cap : Nat), a.eval s = .slice A l.length cap → l.length ≤ cap → (execOp a.eval o).run P C.w = .ok (.value (.slice (if cap = n then A else A.map (·.add (n * k.size))) (l.length - n) (cap - n))) C.w := by
    intro A cap hA hle
    have hr := slice_run k A l.length cap (some (.int i1 (n : Int))) none none n l.length cap (.inr ⟨i1, rfl⟩) (.inl ⟨rfl, rfl, rfl⟩) (.inl ⟨rfl, rfl⟩) hnl hle (Nat.le_refl _) C.w
    unfold execOp
    simp only [ho, Option.map_none, Option.map_some, hA, e1]
    exact run_v _ _ hr
  have fin : ∀ {L : Option Lc} {v : Value}, (execOp a.eval o).run P C.w = .ok (.value v) C.w →
      SimL B nt ⟨C.w, C.R, fun z => (C.lv z ∧ z ≠ y) ∨ z = x, fun z => if z = x then L else C.loc z⟩ ⟨st.T, (x, some (.arr false k (l.drop n))) :: (y, none) :: st.H⟩ a →
      ((∃ A n c, v = .slice A n c) ∧ (match L with
      | none => ∃ A, v = .slice A 0 0
      | some L => v = .slice (some ⟨L.g, L.o, none⟩) L.n L.c)) → o.wp P a C.w Kc Q := by
    intro L v hr hsim hv
    refine wp_value hr (hKc ⟨C.w, C.R, fun z => (C.lv z ∧ z ≠ y) ∨ z = x, fun z => if z = x then L else C.loc z⟩ v ⟨hsim, ⟨hv.1, fun _ => ?_⟩, fun q hq => ?_⟩)
    · simp only [if_true]
      cases L <;> exact hv.2
    · simp only [n2, n1, n0, List.mem_singleton] at hq
      subst hq
      exact ⟨some (.arr false k (l.drop n)), by simp [look_cons]⟩
  have noneCase : ∀ A, (execOp a.eval o).run P C.w = .ok (.value (.slice A 0 0)) C.w → l.drop n = [] → o.wp P a C.w Kc Q := by
    intro A hr h0
    refine fin (L := none) hr (h.app hx hlk rfl rfl rfl (Nat.le_refl _) (fun _ _ _ => rfl) (fun M hM => by cases hM) ?_ rfl) ⟨⟨_, _, _, rfl⟩, ⟨_, rfl⟩⟩
    simp only [blkR, if_true]
    exact h0
  cases hL : C.loc y with
  | none =>
    rw [hL] at hv2
    simp only [blkR, hL] at hbk
    obtain ⟨A, hA⟩ := hv2
    subst hbk
    have hn0 : n = 0 := by simpa using hnl
    subst hn0
    have := hrun A 0 hA (Nat.le_refl _)
    simp only [if_true, List.length_nil, Nat.sub_self] at this
    exact noneCase A this rfl
  | some L =>
    rw [hL] at hv2
    simp only [blkR, hL] at hbk
    obtain ⟨b1, b2, b3, b4, cur, b5, b6, b7⟩ := hbk
    simp only at hv2
    rw [b1] at hv2
    have hr := hrun _ _ hv2 (by omega)
    by_cases h0 : L.c = n
    · rw [if_pos h0, show l.length - n = 0 by omega, show L.c - n = 0 by omega] at hr
      exact noneCase _ hr (List.drop_eq_nil_of_le (by omega))
    · rw [if_neg h0] at hr
      have e : Option.map (fun x => x.add (n * k.size)) (some (⟨L.g, L.o, none⟩ : Addr)) = some ⟨L.g, L.o + n * k.size, none⟩ := by
        simp only [Option.map_some, addr_add]
      rw [e] at hr
      refine fin (L := some ⟨L.g, L.o + n * k.size, l.length - n, L.c - n, L.s⟩) hr (h.app hx hlk rfl rfl rfl (Nat.le_refl _) (fun _ _ _ => rfl) (fun M hM => by
        cases hM
        exact ⟨((h.bl y _ hlk).2 L hL).2.2, .inl ⟨L, hL, rfl⟩⟩) ?_ rfl) ⟨⟨_, _, _, rfl⟩, rfl⟩
      simp only [blkR, if_true]
      refine ⟨by rw [List.length_drop], b2, by omega, by omega, cur, b5, fun hh => (by cases hh), fun i u hu => ?_⟩
      rw [drop_flat (SK.cells_len k), List.getElem?_drop] at hu
      obtain ⟨z, hz, hr'⟩ := b7 _ u hu
      exact ⟨z, by rw [Nat.add_assoc]; exact hz, hr'⟩

theorem look_mem {α : Type} : ∀ {l : List (Nat × α)} {t : Nat} {c : α}, look l t = some c → (t, c) ∈ l
  | [], t, c, h => by simp [look] at h
  | (i, v) :: l, t, c, h => by
    rw [look_cons] at h
    split at h
    · rename_i e; subst e; cases h; exact List.mem_cons_self ..
    · exact List.mem_cons_of_mem _ (look_mem h)
theorem elemsF_C {f : CV → Option CV} {T : List (Nat × CV)} {k : SK} (hf : ∀ c d, f c = some d → c.isC = true) : ∀ {ps : List (Nat × Operand)} {i : Nat} {l : List k.T}, elemsF f T k i ps = some l → ∀ p, p ∈ ps → ∃ v, ev k.el T p.2 = some v ∧ ∀ c, c ∈ v.cells → ∃ d, f c = some d
  | [], _, _, _, p, hp => by simp at hp
  | (j, x) :: ps, i, l, h, p, hp => by
    simp only [elemsF] at h
    by_cases hj : Nat.beq i j = true
    · rw [hj, cond_true] at h
      split at h
      · cases h
      · rename_i v hv
        split at h
        · cases h
        · rename_i cs hcs
          split at h
          · cases h
          · rename_i e he
            split at h
            · cases h
            · rename_i es hes
              rcases List.mem_cons.1 hp with rfl | hp
              · exact ⟨v, hv, fun c hc => bvs_mem hcs c hc⟩
              · exact elemsF_C hf hes p hp
    · rw [Bool.eq_false_iff.2 hj] at h; cases h
theorem bv0_isC {H : Hp} {c d : CV} (h : bv0 H c = some d) : c.isC = true := by
  cases c <;> first | rfl | (simp [bv0] at h)
theorem bv0_nm0 {H : Hp} {c d : CV} (h : bv0 H c = some d) : n0 c = nm0 c := by
  cases c <;> first | rfl | (simp [bv0] at h)
/-- a row of structs is written out: the rows that it names are its from now on -/
theorem bslice_sound {B : Base} {nt : Nat} {C : Cx} {st : St} {a : Act} (h : SimL B nt C st a) {o : Oper} {t n : Nat} {parts : Array (Nat × Operand)} (ho : o.op = .buildSlice t n parts) (hB : ∀ b, ¬ B.mayW b) {x : Nat} {k : SK} (ht : t = k.ty) (hp' : parts.size = n) (hn0 : n ≠ 0) (hn' : n ≤ 1000)
    {l : List k.T} (hl : elemsF (bv0 st.H) st.T k 0 parts.toList = some l) (hx : look st.H x = none) :
    Wr B nt st a o C.w (.ref x) ((x, some (.arr true k l)) :: (nmE st.T k parts.toList).map fun y => (y, none)) := by
  intro Kc Q hKc
  subst ht
  obtain ⟨i, z, hi, hs, hby, hz, hzs⟩ := SK.info k
  have hsz : k.size ≤ 4 := by cases k <;> simp [SK.size]
  have hns : n * k.size ≤ 4000 := Nat.mul_le_mul hn' hsz
  have hnz : n * k.size ≠ 0 := Nat.mul_ne_zero hn0 (by have := k.size_pos; omega)
  have hmem := elemsF_C (fun _ _ => bv0_isC) hl
  have hlive : ∀ y, y ∈ nmE st.T k parts.toList → ∃ ap k' l', look st.H y = some (some (.arr ap k' l')) := by
    intro y hy
    obtain ⟨p, hp, hy⟩ := List.mem_flatMap.1 hy
    obtain ⟨v, hv, hc⟩ := hmem p hp
    rw [hv] at hy
    obtain ⟨c, hcm, hy⟩ := List.mem_flatMap.1 hy
    obtain ⟨d, hd⟩ := hc c hcm
    exact nm_arr0 hd hy
  have hk := h.kill (R' := RN C fun y => y ∈ nmE st.T k parts.toList) (w' := C.w) (nmE st.T k parts.toList) (fun y hy => by obtain ⟨ap, k', l', e⟩ := hlive y hy; exact ⟨_, e⟩) (fun b hb => .inl hb)
    (fun b hb => by
      rcases hb with hb | ⟨y, L, hy, hl, hL, e⟩
      · exact .inl hb
      · exact .inr (.inl ⟨y, L, hy, hl, hL, e⟩)) (Below.refl _ _) (RN_lt h) (fun y L hly hL hy => by
      obtain ⟨b, hbk⟩ := (h.lv y).1 hly
      exact ((h.bl y b hbk).2 L hL).1.resolve_right (hB _))
  obtain ⟨out, h1, h2, h3, h4⟩ := elemsF_sound h (R' := RN C fun y => y ∈ nmE st.T k parts.toList) (k := k) (f := fun c => bif (nm0 c).all (fun y => (nmE st.T k parts.toList).contains y) then bv0 st.H c else none) (fun c d hd => by
      by_cases hc : (nm0 c).all (fun y => (nmE st.T k parts.toList).contains y) = true
      · rw [hc, cond_true] at hd
        refine ⟨bv0_isC hd, fun v hv _ => bv0_sound h hd hv fun y hy => ?_⟩
        rw [bv0_nm0 hd] at hy
        simpa using List.all_eq_true.1 hc y hy
      · rw [Bool.eq_false_iff.2 hc] at hd; cases hd) parts.toList.length parts.toList 0 l (by
      have : ∀ (ps : List (Nat × Operand)) (i : Nat) (l : List k.T), (∀ p, p ∈ ps → ∀ v, ev k.el st.T p.2 = some v → ∀ c, c ∈ v.cells → ∀ y, y ∈ nm0 c → y ∈ nmE st.T k parts.toList) → elemsF (bv0 st.H) st.T k i ps = some l →
          elemsF (fun c => bif (nm0 c).all (fun y => (nmE st.T k parts.toList).contains y) then bv0 st.H c else none) st.T k i ps = some l := by
        intro ps
        induction ps with
        | nil => exact fun i l _ h => h
        | cons p ps ih =>
          obtain ⟨j, x⟩ := p
          intro i l hin h
          simp only [elemsF] at h ⊢
          by_cases hj : Nat.beq i j = true
          · rw [hj, cond_true] at h ⊢
            split at h
            · cases h
            · rename_i v hv
              have hcells : ∀ (cs ds : List CV), (∀ c, c ∈ cs → c ∈ v.cells) → bvs (bv0 st.H) cs = some ds → bvs (fun c => bif (nm0 c).all (fun y => (nmE st.T k parts.toList).contains y) then bv0 st.H c else none) cs = some ds := by
                intro cs
                induction cs with
                | nil => exact fun ds _ h => h
                | cons c cs ihc =>
                  intro ds hsub hh
                  simp only [bvs] at hh ⊢
                  have hc : (nm0 c).all (fun y => (nmE st.T k parts.toList).contains y) = true := by
                    rw [List.all_eq_true]
                    intro y hy
                    simpa using hin (j, x) (List.mem_cons_self ..) v hv c (hsub c (List.mem_cons_self ..)) y hy
                  rw [hc, cond_true]
                  split at hh
                  · cases hh
                  · rename_i d hd
                    split at hh
                    · cases hh
                    · rename_i ds' hds
                      rw [ihc ds' (fun c hc => hsub c (List.mem_cons_of_mem _ hc)) hds]
                      exact hh
              split at h
              · cases h
              · rename_i cs hcs
                simp only [hcells _ _ (fun _ h => h) hcs]
                split at h
                · cases h
                · rename_i e he
                  split at h
                  · cases h
                  · rename_i es hes
                    simp only [he, ih (i + 1) es (fun p hp => hin p (List.mem_cons_of_mem _ hp)) hes]
                    exact h
          · rw [Bool.eq_false_iff.2 hj] at h; cases h
      refine this _ _ _ (fun p hp v hv c hc y hy => List.mem_flatMap.2 ⟨p, hp, ?_⟩) hl
      rw [hv]
      exact List.mem_flatMap.2 ⟨c, hc, hy⟩) (by simp) [] ((Array.range (n * k.size)).map (z.cells[· % z.cells.size]!)) rfl (by simp [hp']) (by simp)
  have h1' : Instr.fill (fun i => some (i * k.size, k.size)) ((Array.range (n * k.size)).map (z.cells[· % z.cells.size]!)) (parts.map fun p => (p.1, a.eval p.2)).toList = some out := by
    rw [Array.toList_map]; exact h1
  have hrun : (Instr.buildSlice k.ty n (parts.map fun p => (p.1, a.eval p.2))).run P C.w = .ok (.slice (some ⟨C.w.heap.size, 0, none⟩) n n) (C.w.alloc (.cells out k.el (0, 0))) := by
    have hbig : ¬ (n * k.size > 2 ^ 24) := by
      have : (2 : Nat) ^ 24 = 16777216 := by decide
      omega
    have hzr : (zeroValue k.el).run P C.w = .ok z C.w := by simp only [zeroValue, typeInfo, Sem.run_bind, run_program, Result.andThen_ok, hi, Sem.run_pure, hz]
    unfold Instr.buildSlice
    simp only [Sem.run_bind, run_underlying (SK.under k), Result.andThen_ok, SK.sizeOf k, if_neg hbig, if_neg hnz, hzr, Sem.run_pure, h1', newRow, run_newObj, World.alloc_eq]
  have hlen : l.length = n := by rw [h3, Array.length_toList, hp']
  have q := QOut.row hk (x := x) (k := k) (l := l) (ap := true) (w' := C.w.alloc (.cells out k.el (0, 0))) (cur := out) (c := n) rfl rfl rfl rfl (by omega) (by unfold maxLen; omega) (by rw [h2, Array.length_toList, hp']) (by simpa using h4)
  rw [hlen] at q
  have hxk : look ((nmE st.T k parts.toList).map (fun y => ((y, none) : Nat × Option Blk)) ++ st.H) x = none := by
    rw [look_append]
    cases hm : look ((nmE st.T k parts.toList).map (fun y => ((y, none) : Nat × Option Blk))) x with
    | none => exact hx
    | some c =>
      obtain ⟨y, hy, e⟩ := List.mem_map.1 (look_mem hm)
      cases e
      obtain ⟨ap, k', l', e⟩ := hlive x hy
      rw [hx] at e; cases e
  have hadd := hk.add q (fun y hy => by
    obtain rfl : y = x := by simp only [List.length_singleton] at hy; omega
    exact hxk)
  refine wp_value ?_ (hKc _ (.slice (some ⟨C.w.heap.size, 0, none⟩) n n) ⟨hadd, q.val, fun y hy => ?_⟩)
  · unfold execOp
    simp only [ho]
    exact run_v _ _ hrun
  · simp only [n2, n1, n0, List.mem_singleton] at hy
    subst hy
    exact ⟨some (.arr true k l), by simp [look_cons]⟩

theorem wop_sound {B : Base} {nt : Nat} {C : Cx} {st : St} {a : Act} (h : SimL B nt C st a) {E : Env} (hsem : SemOk E.sem) (hmem : MemOk E.msem) (hB : (∀ b, ¬ B.mayW b) ∨ E.kill = []) (hB2 : (∀ b, ¬ B.mayW b) ∨ 0 < E.low) (o : Oper) (hw : isW E o.op st.T = true) {x : Nat} {R : Type} {K : CV → Hp → Option R} {r : R}
    (hq : wop E o.op x st K = some r) : ∃ c H', K c H' = some r ∧ ((isApp o.op = false ∨ look st.H x = none) → Wr B nt st a o C.w c H') := by
  cases ho : o.op <;> rw [ho] at hq hw <;> simp only [wop, reduceCtorEq] at hq
  case store t p x' =>
    split at hq
    · cases hq
    · rename_i pv hp
      split at hq
      · cases hq
      · rename_i c hx
        split at hq
        · cases hq
        · rename_i b ks hks
          by_cases hcc : (Nat.beq ks.length c.cells.length && c.cells.all CV.isC) = true
          · rw [hcc, cond_true] at hq
            simp only [Bool.and_eq_true] at hcc
            have hlen := Nat.eq_of_beq_eq_true hcc.1
            split at hq
            · rename_i y q
              split at hq
              · rename_i t' cs hg
                by_cases hle : Nat.ble (q + c.cells.length) cs.length = true
                · rw [hle, cond_true] at hq
                  exact ⟨_, _, hq, fun _ => store_box h ho hp hx hks hlen hcc.2 hg (Nat.le_of_ble_eq_true hle)⟩
                · rw [Bool.eq_false_iff.2 hle] at hq; cases hq
              · cases hq
            · rename_i y i j
              split at hq
              · rename_i ap k l hg
                split at hq
                · cases hq
                · rename_i e he
                  by_cases hle : (c.cells.all nl0 && Nat.ble (j + c.cells.length) k.size) = true
                  · rw [hle, cond_true] at hq
                    simp only [Bool.and_eq_true] at hle
                    split at hq
                    · rename_i e' he'
                      exact ⟨_, _, hq, fun _ => store_row h ho hp hx hks hlen hcc.2 hg he hle.1 (Nat.le_of_ble_eq_true hle.2) he'⟩
                    · cases hq
                  · rw [Bool.eq_false_iff.2 hle] at hq; cases hq
              · cases hq
            · cases hq
          · rw [Bool.eq_false_iff.2 hcc] at hq; cases hq
  case buildSlice t n parts =>
    split at hq
    · cases hq
    · rename_i k hk
      by_cases hc : (Nat.beq parts.size n && !Nat.beq n 0 && Nat.beq E.low 0 && Nat.ble n 1000) = true
      · rw [hc, cond_true] at hq
        simp only [Bool.and_eq_true, Bool.not_eq_true'] at hc
        split at hq
        · rename_i l hl
          refine ⟨_, _, hq, fun hx => bslice_sound h ho (hB2.resolve_right fun hlow => ?_) (kindOf_ty hk) (Nat.eq_of_beq_eq_true hc.1.1.1) (fun e => ?_) (Nat.le_of_ble_eq_true hc.2) hl (hx.resolve_left ?_)⟩
          · have := Nat.eq_of_beq_eq_true hc.1.2
            omega
          · rw [e] at hc; simp at hc
          · simp only [isW] at hw
            simp only [isApp, hw]
            simp
        · cases hq
      · rw [Bool.eq_false_iff.2 hc] at hq; cases hq
  case slice t s lo hi mx =>
    cases lo with
    | some lo =>
      cases hi with
      | some hi => cases hq
      | none =>
        cases mx with
        | some mx => cases hq
        | none =>
          simp only at hq
          split at hq
          · rename_i y hs
            split at hq
            · rename_i ap k l hg
              split at hq
              · rename_i i1 b hb
                by_cases h1 : Nat.beq k.ty t = true
                · rw [h1, cond_true] at hq
                  by_cases h2 : 0 ≤ b
                  · simp only [h2, decide_true, cond_true] at hq
                    by_cases h3 : b ≤ (l.length : Int)
                    · simp only [h3, decide_true, cond_true] at hq
                      exact ⟨_, _, hq, fun hx => cut_sound h ho hs hg hb (ty_eq h1) h2 h3 (hx.resolve_left (by simp [isApp]))⟩
                    · simp [h3] at hq
                  · simp [h2] at hq
                · rw [Bool.eq_false_iff.2 h1] at hq; cases hq
              · cases hq
            · cases hq
          · cases hq
    | none =>
      cases hi with
      | none => cases hq
      | some hi =>
        cases mx with
        | none => cases hq
        | some mx =>
          simp only at hq
          split at hq
          · rename_i y hs
            split at hq
            · rename_i ap k l hg
              split at hq
              · rename_i i1 b hb
                split at hq
                · rename_i i2 m hm
                  by_cases hc : (Nat.beq k.ty t && decide (b = (l.length : Int)) && decide (m = (l.length : Int))) = true
                  · rw [hc, cond_true] at hq
                    simp only [Bool.and_eq_true, decide_eq_true_eq] at hc
                    exact ⟨_, _, hq, fun hx => clip_sound h ho hs hg hb hm (ty_eq hc.1.1) hc.1.2 hc.2 (hx.resolve_left (by simp [isApp]))⟩
                  · rw [Bool.eq_false_iff.2 hc] at hq; cases hq
                · cases hq
              · cases hq
            · cases hq
          · cases hq
  case call c =>
    split at hq
    · rename_i hc
      split at hq
      · rename_i y z hs
        split at hq
        · rename_i t t' ht
          split at hq
          · rename_i k l hg
            by_cases hb : (Nat.beq t k.ty && Nat.beq t' k.ty) = true
            · rw [hb, cond_true] at hq
              simp only [Bool.and_eq_true] at hb
              obtain rfl := Nat.eq_of_beq_eq_true hb.1
              obtain rfl := Nat.eq_of_beq_eq_true hb.2
              by_cases hx : look st.H x = none
              · obtain ⟨l', hK, hwr⟩ := append_sound h ho hc hs ht hg hx hq
                by_cases hle : Nat.ble (l.length + l'.length) 4294967296 = true
                · rw [hle, cond_true] at hK
                  exact ⟨_, _, hK, fun _ => hwr (Nat.le_of_ble_eq_true hle)⟩
                · rw [Bool.eq_false_iff.2 hle] at hK; cases hK
              · obtain ⟨h1, h2⟩ := evs_sound h hs
                obtain ⟨u, v, e, hu, hv⟩ := list2 h1
                obtain ⟨l', hK, -⟩ := source_R h hq hv
                by_cases hle : Nat.ble (l.length + l'.length) 4294967296 = true
                · rw [hle, cond_true] at hK
                  exact ⟨_, _, hK, fun hh => absurd (hh.resolve_left (by simp [isApp, hc])) hx⟩
                · rw [Bool.eq_false_iff.2 hle] at hK; cases hK
            · rw [Bool.eq_false_iff.2 hb] at hq; cases hq
          · cases hq
        · cases hq
      · cases hq
    · rename_i hc
      split at hq
      · rename_i d z hs
        split at hq
        · rename_i t ts ht
          split at hq
          · rename_i y
            split at hq
            · rename_i ap k l hg
              by_cases hb : (Nat.beq k.size 1 && Nat.beq t k.ty) = true
              · rw [hb] at hq
                simp only [Bool.not_true, cond_false] at hq
                simp only [Bool.and_eq_true] at hb
                obtain rfl := Nat.eq_of_beq_eq_true hb.2
                obtain ⟨l', hK, hwr⟩ := copy_sound h ho hc hs (off := 0) (len := l.length) (Nat.eq_of_beq_eq_true hb.1) ht hg (.inl ⟨rfl, rfl, rfl⟩) hq
                refine ⟨_, _, hK, fun _ => ?_⟩
                simpa using hwr
              · rw [Bool.eq_false_iff.2 hb] at hq; cases hq
            · cases hq
          · rename_i y off len
            split at hq
            · rename_i ap k l hg
              by_cases hb : (Nat.beq k.size 1 && Nat.beq t k.ty) = true
              · rw [hb] at hq
                simp only [Bool.not_true, cond_false] at hq
                simp only [Bool.and_eq_true] at hb
                obtain rfl := Nat.eq_of_beq_eq_true hb.2
                by_cases hle : off + len ≤ l.length
                · obtain ⟨l', hK, hwr⟩ := copy_sound h ho hc hs (off := off) (len := len) (Nat.eq_of_beq_eq_true hb.1) ht hg (.inr ⟨rfl, hle⟩) hq
                  simp only [hle, decide_true, cond_true] at hK
                  exact ⟨_, _, hK, fun _ => hwr⟩
                · simp only [hle, decide_false, cond_false] at hq
                  exfalso
                  unfold source at hq
                  split at hq
                  · split at hq <;> cases hq
                  · cases hq
              · rw [Bool.eq_false_iff.2 hb] at hq; cases hq
            · cases hq
          · cases hq
        · cases hq
      · cases hq
    · rename_i f hc
      split at hq
      · cases hq
      · rename_i us hs
        by_cases hwr : E.wrs.contains f = true
        · rw [hwr, cond_true] at hq
          split at hq
          · rename_i y us
            split at hq
            · rename_i l hg
              split at hq
              · cases hq
              · rename_i vs hb
                split at hq
                · cases hq
                · rename_i ys hn
                  by_cases hy : ys.contains y = true
                  · rw [hy] at hq; cases hq
                  · rw [Bool.eq_false_iff.2 hy, cond_false] at hq
                    split at hq
                    · rename_i g l' hf
                      cases g <;> simp only [Bool.true_and, Bool.false_and, cond_false] at hq
                      · cases hq
                      by_cases hl : l'.length = l.length
                      · simp only [hl, decide_true, cond_true] at hq
                        exact ⟨_, _, hq, fun _ => mcall_sound h hmem ho hc hs hg hb hn (fun hm => hy (by simpa using hm)) hf hl⟩
                      · simp [hl] at hq
                    · cases hq
            · cases hq
          · cases hq
        · rw [Bool.eq_false_iff.2 hwr, cond_false] at hq
          split at hq
          · cases hq
          · rename_i vs hb
            split at hq
            · cases hq
            · rename_i ys hn
              split at hq
              · rename_i g r' hf
                cases g <;> simp only [cond_true, cond_false] at hq
                · cases hq
                refine ⟨_, _, hq, fun _ => kcall_sound h hsem ho hc (hB.resolve_right fun e => ?_) hs hb hn hf⟩
                simp only [isW, hc, e, Bool.eq_false_iff.2 hwr] at hw
                simp at hw
              · cases hq
    · cases hq
end Go.Proofs.Ytnfgfdeidkhdkaa.Eng
/- En: The engine's soundness, twelfth part: one operation, a region in the text's order. -/
namespace Go.Proofs.Ytnfgfdeidkhdkaa.Eng
open Go.RowKit (Below)
set_option linter.unusedVariables false
set_option linter.unusedSimpArgs false

/-- what a function's run leans on -/
structure Ok (B : Base) (E : Env) : Prop where
  sem : SemOk E.sem
  mem : MemOk E.msem
  may : (∀ b, ¬ B.mayW b) ∨ E.kill = []
  low : B.pin = none ∨ 0 < E.low
  may2 : (∀ b, ¬ B.mayW b) ∨ 0 < E.low
/-- a tmp that is written -/
theorem Ok.dst {B : Base} {E : Env} (hE : Ok B E) {d : Nat} (h : (Nat.blt d E.nt && Nat.ble E.low d) = true) : d < E.nt ∧ (B.pin = none ∨ d ≠ 0) := by
  simp only [Bool.and_eq_true, Nat.blt_eq, Nat.ble_eq] at h
  refine ⟨h.1, hE.low.imp id fun hl => ?_⟩
  omega

theorem op1_sound {B : Base} {E : Env} (hE : Ok B E) {st : St} {a : Act} {w : World} (h : Sim B E.nt st a w) (o : Oper) {R : Type} {K : U → Option R} {r : R} (hq : op1 E o st K = some r) :
    ∃ u, K u = some r ∧ ∀ (Kc : Act → World → Prop) (Q : Exit → Act → World → Prop), (∀ a' w', Sim B E.nt (st.app u) a' w' → Kc a' w') → o.wp P a w Kc Q := by
  obtain ⟨R0, lv, loc, h⟩ := h
  unfold op1 at hq
  split at hq
  · rename_i d hd
    by_cases hlt : (Nat.blt d E.nt && Nat.ble E.low d) = true
    · rw [hlt, cond_true] at hq
      obtain ⟨hdn, hdp⟩ := hE.dst hlt
      by_cases hw : isW E o.op st.T = true
      · rw [hw, cond_true] at hq
        obtain ⟨c, H', hK, hwr⟩ := wop_sound h hE.sem hE.mem hE.may hE.may2 o hw hq
        by_cases hx : (!isApp o.op || (look st.H (8 * d)).isNone) = true
        · rw [hx, cond_true] at hK
          have hx' : isApp o.op = false ∨ look st.H (8 * d) = none := by simpa using hx
          refine ⟨_, hK, fun Kc Q hKc => hwr hx' Kc Q fun D v ⟨hs, hv, hn⟩ => ?_⟩
          rw [hd]
          exact hKc _ _ ⟨D.R, D.lv, D.loc, hs.put hv hn hdn hdp⟩
        · rw [Bool.eq_false_iff.2 hx] at hK; cases hK
      · rw [Bool.eq_false_iff.2 hw, cond_false] at hq
        obtain ⟨c, bs, hK, hwr⟩ := quiet_sound h hE.sem o hq
        by_cases hx : (freshB st.H (8 * d) bs && Nat.ble bs.length 8) = true
        · rw [hx, cond_true] at hK
          simp only [Bool.and_eq_true] at hx
          have hfr := fresh_none hx.1
          refine ⟨_, hK, fun Kc Q hKc => hwr hfr Kc Q fun D v q => ?_⟩
          rw [hd]
          exact hKc _ _ ⟨D.R, D.lv, D.loc, h.quiet q hfr hdn hdp⟩
        · rw [Bool.eq_false_iff.2 hx] at hK; cases hK
    · rw [Bool.eq_false_iff.2 hlt] at hq; cases hq
  · rename_i hd
    by_cases hw : (isW E o.op st.T && !isApp o.op) = true
    · rw [hw, cond_true] at hq
      simp only [Bool.and_eq_true, Bool.not_eq_true'] at hw
      obtain ⟨c, H', hK, hwr⟩ := wop_sound h hE.sem hE.mem hE.may hE.may2 o hw.1 hq
      refine ⟨_, hK, fun Kc Q hKc => hwr (.inl hw.2) Kc Q fun D v ⟨hs, hv, hn⟩ => ?_⟩
      rw [hd]
      exact hKc _ _ ⟨D.R, D.lv, D.loc, hs⟩
    · rw [Bool.eq_false_iff.2 hw] at hq; cases hq

theorem opG_sound {B : Base} {E : Env} (hE : Ok B E) {st : St} {a : Act} {w : World} (h : Sim B E.nt st a w) {ops : Array Oper} {i : Nat} {o : Oper} (hi : ops[i]? = some o) {R : Type} {K : U → Option R} {r : R} (hq : opG E ops o st K = some r) :
    ∃ u, K u = some r ∧ ∀ (Kc : Act → World → Prop) (Q : Exit → Act → World → Prop), (∀ a' w', Sim B E.nt (st.app u) a' w' → Kc a' w') → wpOp P ops Q i Kc a w := by
  have skip : Region.wanted o (yielded ops a.tmps) = false → Sim B E.nt st a w → skipU E o K = some r → ∃ u, K u = some r ∧ ∀ (Kc : Act → World → Prop) (Q : Exit → Act → World → Prop), (∀ a' w', Sim B E.nt (st.app u) a' w' → Kc a' w') → wpOp P ops Q i Kc a w := by
    rintro hw ⟨R0, lv, loc, h'⟩ hq
    unfold skipU at hq
    split at hq
    · rename_i d' hd'
      by_cases hlt : (Nat.blt d' E.nt && Nat.ble E.low d') = true
      · rw [hlt, cond_true] at hq
        obtain ⟨hdn, hdp⟩ := hE.dst hlt
        refine ⟨_, hq, fun Kc Q hKc => ?_⟩
        unfold wpOp
        simp only [hi, hw]
        simp only [Bool.false_eq_true, if_false]
        rw [hd']
        exact hKc _ _ ⟨R0, lv, loc, h'.put (c := .tup []) ⟨#[], rfl, trivial⟩ (by simp [n2]) hdn hdp⟩
      · rw [Bool.eq_false_iff.2 hlt] at hq; cases hq
    · rename_i hd'
      refine ⟨_, hq, fun Kc Q hKc => ?_⟩
      unfold wpOp
      simp only [hi, hw]
      simp only [Bool.false_eq_true, if_false]
      rw [hd']
      exact hKc _ _ ⟨R0, lv, loc, h'⟩
  unfold opG at hq
  split at hq
  · rename_i hg
    obtain ⟨u, hK, hs⟩ := op1_sound hE h o hq
    refine ⟨u, hK, fun Kc Q hKc => ?_⟩
    unfold wpOp
    simp only [hi, Region.wanted, hg, if_true]
    exact .inl (hs Kc Q hKc)
  · rename_i g want hg
    split at hq
    · cases hq
    · rename_i d hd
      split at hq
      · rename_i b hb
        obtain ⟨R0, lv, loc, h'⟩ := h
        obtain ⟨v, hv, hr⟩ := h'.tm d _ hb
        obtain rfl : v = .bool b := hr
        have hy : yielded ops a.tmps g = some b := by simp [yielded, hd, hv]
        have hw : Region.wanted o (yielded ops a.tmps) = (b == want) := by
          simp only [Region.wanted, hg, hy]
          cases b <;> cases want <;> rfl
        by_cases hbw : (b == want) = true
        · rw [hbw, cond_true] at hq
          obtain ⟨u, hK, hs⟩ := op1_sound hE ⟨R0, lv, loc, h'⟩ o hq
          refine ⟨u, hK, fun Kc Q hKc => ?_⟩
          unfold wpOp
          simp only [hi, hw, hbw, if_true]
          exact .inl (hs Kc Q hKc)
        · rw [Bool.eq_false_iff.2 hbw, cond_false] at hq
          exact skip (by rw [hw]; exact Bool.eq_false_iff.2 hbw) ⟨R0, lv, loc, h'⟩ hq
      · rename_i hb
        obtain ⟨R0, lv, loc, h'⟩ := h
        obtain ⟨v, hv, vs, rfl, hvs⟩ := h'.tm d _ hb
        have hy : yielded ops a.tmps g = none := by simp [yielded, hd, hv]
        exact skip (by simp [Region.wanted, hg, hy]) ⟨R0, lv, loc, h'⟩ hq
      · cases hq
theorem splitK_sound {R : Type} {g : Bool} {u : U} {K : U → Option R} {r : R} (h : splitK g u K = some r) : K u = some r := by
  unfold splitK at h
  split at h
  · rename_i d b
    cases b
    · exact h
    · exact h
  · exact h
theorem opS_sound {B : Base} {E : Env} (hE : Ok B E) {st : St} {a : Act} {w : World} (h : Sim B E.nt st a w) {ops : Array Oper} {gs : List Nat} {i : Nat} {o : Oper} (hi : ops[i]? = some o) {R : Type} {K : U → Option R} {r : R} (hq : opS E ops gs o st K = some r) :
    ∃ u, K u = some r ∧ ∀ (Kc : Act → World → Prop) (Q : Exit → Act → World → Prop), (∀ a' w', Sim B E.nt (st.app u) a' w' → Kc a' w') → wpOp P ops Q i Kc a w := by
  obtain ⟨u, hK, hs⟩ := opG_sound hE h hi hq
  exact ⟨u, splitK_sound hK, hs⟩
theorem seqK_sound {B : Base} {E : Env} (hE : Ok B E) {ops : Array Oper} {gs : List Nat} {R : Type} {K : St → Option R} {r : R} {Q : Exit → Act → World → Prop} (hQ : ∀ st' a' w', K st' = some r → Sim B E.nt st' a' w' → Q .normal a' w') :
    ∀ (os : List Oper) (n : Nat), (∀ i, os[i]? = ops[n + i]?) → ∀ {st : St} {a : Act} {w : World}, Sim B E.nt st a w → seqK E ops gs os st K = some r → wpOps P ops Q (List.range' n os.length) a w
  | [], n, _, st, a, w, h, hq => by
    simp only [List.length_nil, List.range'_zero, wpOps]
    exact hQ st a w hq h
  | o :: os, n, ho, st, a, w, h, hq => by
    simp only [seqK] at hq
    have hi : ops[n]? = some o := by simpa using (ho 0).symm
    obtain ⟨u, hK, hs⟩ := opS_sound hE h hi hq
    simp only [List.length_cons, List.range'_succ, wpOps_cons]
    refine hs _ Q fun a' w' h' => seqK_sound hE hQ os (n + 1) (fun i => ?_) h' hK
    have := ho (i + 1)
    rw [List.getElem?_cons_succ] at this
    rw [this]; congr 1; omega
theorem seq_region {B : Base} {E : Env} (hE : Ok B E) {ops : Array Oper} {gs : List Nat} {R : Type} {K : St → Option R} {r : R} {Q : Exit → Act → World → Prop} (hQ : ∀ st' a' w', K st' = some r → Sim B E.nt st' a' w' → Q .normal a' w')
    {st : St} {a : Act} {w : World} (h : Sim B E.nt st a w) (hq : seqK E ops gs ops.toList st K = some r) (id : Nat) : (Code.region id ops false).wp P Q a w := by
  refine wp_region ?_
  have := seqK_sound hE hQ ops.toList 0 (fun i => by simp) h hq
  rwa [← List.range_eq_range', Array.length_toList] at this
end Go.Proofs.Ytnfgfdeidkhdkaa.Eng
/- Eo: The engine's soundness, thirteenth part: what an operation does it does alike where more is known. -/
namespace Go.Proofs.Ytnfgfdeidkhdkaa.Eng
open Go.RowKit (Below)
set_option linter.unusedVariables false
set_option linter.unusedSimpArgs false

structure St.le (s t : St) : Prop where
  T : ∀ i c, look s.T i = some c → look t.T i = some c
  H : ∀ y b, get s.H y = some b → get t.H y = some b

theorem ev_mono {s t : St} (l : s.le t) {ty : Nat} {x : Operand} {c : CV} (h : ev ty s.T x = some c) : ev ty t.T x = some c := by
  cases x <;> simp only [ev] at h ⊢
  · exact l.T _ _ h
  · exact h
  all_goals first | exact h | cases h
theorem evs_mono {s t : St} (l : s.le t) : ∀ {xs : List Operand} {ts : List Nat} {cs : List CV}, evs s.T xs ts = some cs → evs t.T xs ts = some cs
  | [], [], cs, h => h
  | x :: xs, ty :: ts, cs, h => by
    simp only [evs] at h ⊢
    split at h
    · cases h
    · rename_i v hv
      split at h
      · cases h
      · rename_i vs hvs
        simp only [ev_mono l hv, evs_mono l hvs]
        exact h
  | [], _ :: _, cs, h => by simp [evs] at h
  | _ :: _, [], cs, h => by simp [evs] at h
theorem buildP_mono {s t : St} (l : s.le t) {ty : Nat} : ∀ {ps : List (Nat × Operand)} {cs ds : List CV}, buildP ty s.T cs ps = some ds → buildP ty t.T cs ps = some ds
  | [], cs, ds, h => h
  | (i, x) :: ps, cs, ds, h => by
    simp only [buildP] at h ⊢
    split at h
    · cases h
    · rename_i off n hf
      split at h
      · cases h
      · rename_i b ks hk
        split at h
        · cases h
        · rename_i v hv
          rw [ev_mono l hv]
          simp only
          by_cases hc : (Nat.beq v.cells.length n && Nat.ble (off + n) cs.length && v.cells.all CV.isC) = true
          · rw [hc, cond_true] at h ⊢
            exact buildP_mono l h
          · rw [Bool.eq_false_iff.2 hc] at h; cases h
theorem binInt_K {R S : Type} {op : BinOp} {k : IntKind} {x y : Int} {K : CV → Option R} {r : R} (h : binInt op k x y K = some r) (K' : CV → Option S) : ∃ c, K c = some r ∧ binInt op k x y K' = K' c := by
  unfold binInt at h ⊢
  cases op <;> simp only at h ⊢ <;> first
    | (cases h; done)
    | exact ⟨_, h, rfl⟩
    | (by_cases hy : y < 0
       · simp only [hy, decide_true, cond_true] at h; cases h
       · simp only [hy, decide_false, cond_false] at h ⊢; exact ⟨_, h, rfl⟩)
    | (by_cases hy : y = 0
       · simp only [hy, decide_true, cond_true] at h; cases h
       · simp only [hy, decide_false, cond_false] at h ⊢; exact ⟨_, h, rfl⟩)
theorem binCV_K {R S : Type} {op : BinOp} {t : Nat} {a b : CV} {K : CV → Option R} {r : R} (h : binCV op t a b K = some r) (K' : CV → Option S) : ∃ c, K c = some r ∧ binCV op t a b K' = K' c := by
  unfold binCV at h ⊢
  split at h
  · rename_i k x k' y
    by_cases hk : k = k'
    · simp only [hk, decide_true, cond_true] at h ⊢
      exact binInt_K h K'
    · simp only [hk, decide_false, cond_false] at h; cases h
  · rename_i x y
    by_cases hk : Nat.beq t 4 = true
    · simp only [hk, cond_true] at h ⊢
      cases op <;> simp only at h ⊢ <;> first
        | (cases h; done)
        | exact ⟨_, h, rfl⟩
    · simp only [Bool.eq_false_iff.2 hk, cond_false] at h; cases h
  · cases h
theorem pureOp_mono {s t : St} (l : s.le t) {o : Op} {ty : Nat} {R S : Type} {K : CV → Option R} {r : R} (h : pureOp o ty s.T K = some r) (K' : CV → Option S) : ∃ c, K c = some r ∧ pureOp o ty t.T K' = K' c := by
  cases o <;> simp only [pureOp, reduceCtorEq] at h ⊢
  case move x =>
    split at h
    · rename_i v hv; exact ⟨v, h, by simp only [ev_mono l hv]⟩
    · cases h
  case assign x =>
    split at h
    · rename_i v hv; exact ⟨v, h, by simp only [ev_mono l hv]⟩
    · cases h
  case pick c x y =>
    split at h
    · rename_i b hb
      simp only [ev_mono l hb]
      cases b <;> simp only [cond_true, cond_false] at h ⊢
      · split at h
        · rename_i v hv; exact ⟨v, h, by simp only [ev_mono l hv]⟩
        · cases h
      · split at h
        · rename_i v hv; exact ⟨v, h, by simp only [ev_mono l hv]⟩
        · cases h
    · cases h
  case binOp op xt x y u =>
    split at h
    · cases h
    · rename_i p hp
      split at h
      · cases h
      · rename_i q hq
        simp only [ev_mono l hp, ev_mono l hq]
        exact binCV_K h K'
  case unOp op xt x =>
    cases op <;> simp only [reduceCtorEq] at h ⊢
    split at h
    · rename_i b hb; exact ⟨_, h, by simp only [ev_mono l hb]⟩
    · cases h
  case convert src dst x =>
    split at h
    · rename_i k n hv
      simp only [ev_mono l hv]
      split at h
      · rename_i k1 h1
        split at h
        · rename_i k2 h2
          exact ⟨_, h, by simp only [h1, h2]⟩
        · cases h
      · cases h
    · cases h
  case extract x i =>
    split at h
    · rename_i vs hv
      simp only [ev_mono l hv]
      split at h
      · rename_i v hi; exact ⟨_, h, by simp only [hi]⟩
      · cases h
    · cases h
  case fieldAddr sT x f =>
    split at h
    · cases h
    · rename_i off n hf
      split at h <;> first
        | (rename_i hv; exact ⟨_, h, by simp only [ev_mono l hv]⟩)
        | cases h
  case field sT x f =>
    by_cases hc : (Nat.beq sT 25 && Nat.beq f 0) = true
    · simp only [hc, cond_true] at h ⊢
      split at h
      · rename_i cs hv
        split at h
        · rename_i v hi; exact ⟨_, h, by simp only [ev_mono l hv, hi]⟩
        · cases h
      · cases h
    · simp only [Bool.eq_false_iff.2 hc, cond_false] at h; cases h
  case makeFunc fo first caps =>
    cases fo <;> simp only [reduceCtorEq] at h ⊢
    rename_i f
    by_cases hc : Nat.beq first.size 0 = true
    · simp only [hc, cond_true] at h ⊢
      split at h
      · rename_i vs hv
        simp only [evs_mono l hv]
        by_cases ha : vs.all CV.isA = true
        · simp only [ha, cond_true] at h ⊢; exact ⟨_, h, rfl⟩
        · simp only [Bool.eq_false_iff.2 ha, cond_false] at h; cases h
      · cases h
    · simp only [Bool.eq_false_iff.2 hc, cond_false] at h; cases h
  case nilCheck x =>
    split at h <;> first
      | (rename_i hv; exact ⟨_, h, by simp only [ev_mono l hv]⟩)
      | cases h
  case build sT parts =>
    split at h
    · cases h
    · rename_i cs hz
      split at h
      · rename_i ks hk
        by_cases hc : Nat.beq sT 122 = true
        · simp only [hc, cond_true] at h; cases h
        · simp only [Bool.eq_false_iff.2 hc, cond_false] at h ⊢
          split at h
          · rename_i ds hb; exact ⟨_, h, by simp only [buildP_mono l hb]⟩
          · cases h
      · cases h
  case call c =>
    split at h
    · rename_i hc
      split at h
      · rename_i k x k' y hv
        simp only [evs_mono l hv]
        by_cases hk : k = k'
        · simp only [hk, decide_true, cond_true] at h ⊢; exact ⟨_, h, rfl⟩
        · simp only [hk, decide_false, cond_false] at h; cases h
      · cases h
    · rename_i hc
      split at h
      · rename_i k x k' y hv
        simp only [evs_mono l hv]
        by_cases hk : k = k'
        · simp only [hk, decide_true, cond_true] at h ⊢; exact ⟨_, h, rfl⟩
        · simp only [hk, decide_false, cond_false] at h; cases h
      · cases h
    · cases h

theorem loadK_mono {s t : St} (l : s.le t) {ty : Nat} {p : CV} {R S : Type} {K : CV → Option R} {r : R} (h : loadK ty s.H p K = some r) (K' : CV → Option S) : ∃ c, K c = some r ∧ loadK ty t.H p K' = K' c := by
  unfold loadK at h ⊢
  split at h
  · cases h
  · rename_i b ks hk
    split at h
    · split at h
      · rename_i t' cs hg
        simp only [l.H _ _ hg]
        split at h
        · rename_i v hv; exact ⟨_, h, by simp only [hv]⟩
        · cases h
      · cases h
    · split at h
      · rename_i v hv; exact ⟨_, h, by simp only [hv]⟩
      · cases h
    · split at h
      · rename_i ap k l' hg
        simp only [l.H _ _ hg]
        split at h
        · rename_i e he
          split at h
          · rename_i v hv; exact ⟨_, h, by simp only [hv]⟩
          · cases h
        · cases h
      · cases h
    · cases h
theorem indexK_mono {s t : St} (l : s.le t) {ty : Nat} {p q : CV} {R S : Type} {K : CV → Option R} {r : R} (h : indexK ty s.H p q K = some r) (K' : CV → Option S) : ∃ c, K c = some r ∧ indexK ty t.H p q K' = K' c := by
  unfold indexK at h ⊢
  split at h
  · rename_i ik n
    split at h
    · rename_i k l'
      by_cases h1 : Nat.beq k.ty ty = true
      · simp only [h1, cond_true] at h ⊢
        by_cases h2 : 0 ≤ n
        · simp only [h2, decide_true, cond_true] at h ⊢
          split at h
          · rename_i e he; exact ⟨_, h, by simp only [he]⟩
          · cases h
        · simp only [h2, decide_false, cond_false] at h; cases h
      · simp only [Bool.eq_false_iff.2 h1, cond_false] at h; cases h
    · split at h
      · rename_i ap k l' hg
        simp only [l.H _ _ hg]
        by_cases h1 : Nat.beq k.ty ty = true
        · simp only [h1, cond_true] at h ⊢
          by_cases h2 : 0 ≤ n
          · simp only [h2, decide_true, cond_true] at h ⊢
            by_cases h3 : n < (l'.length : Int)
            · simp only [h3, decide_true, cond_true] at h ⊢; exact ⟨_, h, rfl⟩
            · simp only [h3, decide_false, cond_false] at h; cases h
          · simp only [h2, decide_false, cond_false] at h; cases h
        · simp only [Bool.eq_false_iff.2 h1, cond_false] at h; cases h
      · cases h
    · rename_i x off len
      split at h
      · rename_i ap k l' hg
        simp only [l.H _ _ hg]
        by_cases h1 : Nat.beq k.ty ty = true
        · simp only [h1, cond_true] at h ⊢
          by_cases h2 : 0 ≤ n
          · simp only [h2, decide_true, cond_true] at h ⊢
            by_cases h3 : n < (len : Int)
            · simp only [h3, decide_true, cond_true] at h ⊢; exact ⟨_, h, rfl⟩
            · simp only [h3, decide_false, cond_false] at h; cases h
          · simp only [h2, decide_false, cond_false] at h; cases h
        · simp only [Bool.eq_false_iff.2 h1, cond_false] at h; cases h
      · cases h
    · cases h
  · cases h
theorem lenK_mono {s t : St} (l : s.le t) {p : CV} {R S : Type} {K : CV → Option R} {r : R} (h : lenK s.H p K = some r) (K' : CV → Option S) : ∃ c, K c = some r ∧ lenK t.H p K' = K' c := by
  unfold lenK at h ⊢
  split at h
  · exact ⟨_, h, rfl⟩
  · exact ⟨_, h, rfl⟩
  · split at h
    · rename_i hg; exact ⟨_, h, by simp only [l.H _ _ hg]⟩
    · cases h
  · split at h
    · rename_i hg; exact ⟨_, h, by simp only [l.H _ _ hg]⟩
    · cases h
  · cases h
theorem bound_mono {s t : St} (l : s.le t) {x : Option Operand} {d : Int} {R S : Type} {K : Int → Option R} {r : R} (h : bound s.T x d K = some r) : ∃ n, K n = some r ∧ ∀ K' : Int → Option S, bound t.T x d K' = K' n := by
  unfold bound at h
  split at h
  · exact ⟨_, h, fun K' => rfl⟩
  · split at h
    · rename_i hv; exact ⟨_, h, fun K' => by simp only [bound, ev_mono l hv]⟩
    · cases h
theorem sliceK_mono {s t : St} (l : s.le t) {ty : Nat} {p : CV} {lo hi mx : Option Operand} {R S : Type} {K : CV → Option R} {r : R} (h : sliceK ty s.T s.H p lo hi mx K = some r) (K' : CV → Option S) : ∃ c, K c = some r ∧ sliceK ty t.T t.H p lo hi mx K' = K' c := by
  unfold sliceK at h ⊢
  split at h
  · rename_i k l'
    by_cases hc : (Nat.beq k.ty ty && mx.isNone) = true
    · simp only [hc, cond_true] at h ⊢
      obtain ⟨x, h, e⟩ := bound_mono (S := S) l h
      obtain ⟨y, h, e'⟩ := bound_mono (S := S) l h
      simp only [e, e']
      by_cases h1 : 0 ≤ x
      · simp only [h1, decide_true, cond_true] at h ⊢
        by_cases h2 : x ≤ y
        · simp only [h2, decide_true, cond_true] at h ⊢
          by_cases h3 : y ≤ (l'.length : Int)
          · simp only [h3, decide_true, cond_true] at h ⊢; exact ⟨_, h, rfl⟩
          · simp only [h3, decide_false, cond_false] at h; cases h
        · simp only [h2, decide_false, cond_false] at h; cases h
      · simp only [h1, decide_false, cond_false] at h; cases h
    · simp only [Bool.eq_false_iff.2 hc, cond_false] at h; cases h
  · split at h
    · rename_i ap k l' hg
      simp only [l.H _ _ hg]
      by_cases hc : (Nat.beq k.ty ty && (hi.isSome || mx.isNone)) = true
      · simp only [hc, cond_true] at h ⊢
        obtain ⟨x, h, e⟩ := bound_mono (S := S) l h
        obtain ⟨y, h, e'⟩ := bound_mono (S := S) l h
        obtain ⟨z, h, e''⟩ := bound_mono (S := S) l h
        simp only [e, e', e'']
        by_cases h1 : 0 ≤ x
        · simp only [h1, decide_true, cond_true] at h ⊢
          by_cases h2 : x ≤ y
          · simp only [h2, decide_true, cond_true] at h ⊢
            by_cases h3 : y ≤ z
            · simp only [h3, decide_true, cond_true] at h ⊢
              by_cases h4 : z ≤ (l'.length : Int)
              · simp only [h4, decide_true, cond_true] at h ⊢; exact ⟨_, h, rfl⟩
              · simp only [h4, decide_false, cond_false] at h; cases h
            · simp only [h3, decide_false, cond_false] at h; cases h
          · simp only [h2, decide_false, cond_false] at h; cases h
        · simp only [h1, decide_false, cond_false] at h; cases h
      · simp only [Bool.eq_false_iff.2 hc, cond_false] at h; cases h
    · cases h
  · cases h

theorem bv0_mono {s t : St} (l : s.le t) {c d : CV} (h : bv0 s.H c = some d) : bv0 t.H c = some d := by
  unfold bv0 at h ⊢
  split at h <;> first
    | exact h
    | (split at h
       · rename_i hg; simp only [l.H _ _ hg]; exact h
       · cases h)
    | cases h
theorem bvs_mono {f g : CV → Option CV} (hfg : ∀ c d, f c = some d → g c = some d) : ∀ {cs ds : List CV}, bvs f cs = some ds → bvs g cs = some ds
  | [], ds, h => h
  | c :: cs, ds, h => by
    simp only [bvs] at h ⊢
    split at h
    · cases h
    · rename_i v hv
      split at h
      · cases h
      · rename_i vs hvs
        simp only [hfg _ _ hv, bvs_mono hfg hvs]
        exact h
theorem bv1_mono {s t : St} (l : s.le t) {c d : CV} (h : bv1 s.H c = some d) : bv1 t.H c = some d := by
  unfold bv1 at h ⊢
  split at h
  · skip
    split at h
    · rename_i hb; simp only [bvs_mono (fun _ _ => bv0_mono l) hb]; exact h
    · cases h
  · skip
    split at h
    · rename_i hg
      simp only [l.H _ _ hg]
      split at h
      · rename_i hb; simp only [bvs_mono (fun _ _ => bv0_mono l) hb]; exact h
      · cases h
    · cases h
  · exact h
  · exact bv0_mono l h
theorem bv2_mono {s t : St} (l : s.le t) {c d : CV} (h : bv2 s.H c = some d) : bv2 t.H c = some d := by
  unfold bv2 at h ⊢
  split at h
  · skip
    split at h
    · rename_i hb; simp only [bvs_mono (fun _ _ => bv1_mono l) hb]; exact h
    · cases h
  · skip
    split at h
    · rename_i hb; simp only [bvs_mono (fun _ _ => bv1_mono l) hb]; exact h
    · cases h
  · exact bv1_mono l h
theorem elemsF_mono {s t : St} (l : s.le t) {k : SK} {f g : CV → Option CV} (hfg : ∀ c d, f c = some d → g c = some d) : ∀ {ps : List (Nat × Operand)} {i : Nat} {es : List k.T}, elemsF f s.T k i ps = some es → elemsF g t.T k i ps = some es
  | [], i, es, h => h
  | (j, x) :: ps, i, es, h => by
    simp only [elemsF] at h ⊢
    by_cases hj : Nat.beq i j = true
    · rw [hj, cond_true] at h ⊢
      split at h
      · cases h
      · rename_i v hv
        simp only [ev_mono l hv]
        split at h
        · cases h
        · rename_i cs hcs
          rw [bvs_mono hfg hcs]
          simp only
          split at h
          · cases h
          · rename_i e he
            split at h
            · cases h
            · rename_i es' hes
              simp only [elemsF_mono l hfg hes]
              exact h
    · rw [Bool.eq_false_iff.2 hj] at h; cases h
theorem bvn_iff {H : Hp} {c d : CV} : bvn H c = some d ↔ bv0 H c = some d ∧ nm0 c = [] := by
  cases c <;> simp [bvn, bv0, nm0]
theorem bvn_mono {s t : St} (l : s.le t) {c d : CV} (h : bvn s.H c = some d) : bvn t.H c = some d :=
  bvn_iff.2 ⟨bv0_mono l (bvn_iff.1 h).1, (bvn_iff.1 h).2⟩
theorem elems_mono {s t : St} (l : s.le t) {k : SK} {ps : List (Nat × Operand)} {i : Nat} {es : List k.T} (h : elems s.H s.T k i ps = some es) : elems t.H t.T k i ps = some es := elemsF_mono l (fun _ _ => bvn_mono l) h
theorem source_mono {s t : St} (l : s.le t) {k : SK} {x : CV} {R S : Type} {K : List k.T → Option R} {r : R} (h : source s.H k x K = some r) : ∃ m, K m = some r ∧ ∀ K' : List k.T → Option S, source t.H k x K' = K' m := by
  unfold source at h
  split at h
  · rename_i k' l' hb
    split at h
    · rename_i e
      subst e
      exact ⟨_, h, fun K' => by simp only [source, bv0_mono l hb]; simp⟩
    · cases h
  · cases h
end Go.Proofs.Ytnfgfdeidkhdkaa.Eng
/- Ep: The engine's soundness, fourteenth part: operations do alike where more is known. -/
namespace Go.Proofs.Ytnfgfdeidkhdkaa.Eng
open Go.RowKit (Below)
set_option linter.unusedVariables false
set_option linter.unusedSimpArgs false

theorem quiet_mono {s t : St} (l : s.le t) {sem : Sems} {o : Op} {ty x : Nat} {R S : Type} {K : CV → List Blk → Option R} {r : R} (h : quiet sem o ty x s K = some r) (K' : CV → List Blk → Option S) :
    ∃ c bs, K c bs = some r ∧ quiet sem o ty x t K' = K' c bs := by
  have pure : pureOp o ty s.T (fun v => K v []) = some r → ∃ c bs, K c bs = some r ∧ pureOp o ty t.T (fun v => K' v []) = K' c bs := fun h => by
    obtain ⟨c, hk, e⟩ := pureOp_mono l h (fun v => K' v [])
    exact ⟨c, [], hk, e⟩
  cases o <;> simp only [quiet] at h ⊢ <;> try (exact pure h)
  case load ty' p =>
    split at h
    · rename_i v hv
      simp only [ev_mono l hv]
      obtain ⟨c, hk, e⟩ := loadK_mono l h (fun v => K' v [])
      exact ⟨c, [], hk, e⟩
    · cases h
  case indexAddr ty' p q =>
    split at h
    · cases h
    · rename_i v hv
      split at h
      · cases h
      · rename_i u hu
        simp only [ev_mono l hv, ev_mono l hu]
        obtain ⟨c, hk, e⟩ := indexK_mono l h (fun v => K' v [])
        exact ⟨c, [], hk, e⟩
  case slice ty' p lo hi mx =>
    split at h
    · rename_i v hv
      simp only [ev_mono l hv]
      obtain ⟨c, hk, e⟩ := sliceK_mono l h (fun v => K' v [])
      exact ⟨c, [], hk, e⟩
    · cases h
  case alloc ty' =>
    split at h
    · exact ⟨_, _, h, rfl⟩
    · cases h
  case box ty' v =>
    split at h
    · cases h
    · rename_i u hu
      simp only [ev_mono l hu]
      split at h
      · cases h
      · rename_i b ks hk
        by_cases hc : (Nat.beq ks.length u.cells.length && u.cells.all CV.isC) = true
        · simp only [hc, cond_true] at h ⊢; exact ⟨_, _, h, rfl⟩
        · simp only [Bool.eq_false_iff.2 hc, cond_false] at h; cases h
  case buildSlice ty' n parts =>
    split at h
    · cases h
    · rename_i k hk
      by_cases h1 : Nat.beq parts.size n = true
      · simp only [h1, cond_true] at h ⊢
        by_cases h2 : Nat.beq n 0 = true
        · simp only [h2, cond_true] at h ⊢; exact ⟨_, _, h, rfl⟩
        · simp only [Bool.eq_false_iff.2 h2, cond_false] at h ⊢
          split at h
          · rename_i es hes
            simp only [elems_mono l hes]
            by_cases h3 : Nat.ble n 1000 = true
            · simp only [h3, cond_true] at h ⊢
              by_cases h4 : ((sem 300000 []).isSome && decide (k = .int)) = true
              · rw [h4, cond_true] at h
                rw [h4]
                exact ⟨_, _, h, rfl⟩
              · rw [Bool.eq_false_iff.2 h4, cond_false] at h
                rw [Bool.eq_false_iff.2 h4]
                exact ⟨_, _, h, rfl⟩
            · simp only [Bool.eq_false_iff.2 h3, cond_false] at h; cases h
          · cases h
      · simp only [Bool.eq_false_iff.2 h1, cond_false] at h; cases h
  case makeSlice ty' n c =>
    split at h
    · cases h
    · rename_i k hk
      split at h
      · rename_i ik n' hn
        simp only [ev_mono l hn]
        split at h
        · rename_i ik' c' hc
          simp only [ev_mono l hc]
          split at h
          · rename_i z hz
            by_cases h1 : c' = n'
            · simp only [h1, decide_true, cond_true] at h ⊢
              by_cases h2 : 0 ≤ n'
              · simp only [h2, decide_true, cond_true] at h ⊢
                by_cases h3 : n' ≤ 4294967296
                · simp only [h3, decide_true, cond_true] at h ⊢; exact ⟨_, _, h, rfl⟩
                · simp only [h3, decide_false, cond_false] at h; cases h
              · simp only [h2, decide_false, cond_false] at h; cases h
            · simp only [h1, decide_false, cond_false] at h; cases h
          · cases h
        · cases h
      · cases h
  case call c =>
    cases hc : c.callee with
    | builtin b =>
      rw [hc] at h
      cases b <;> simp only [reduceCtorEq] at h ⊢
      case len =>
        split at h
        · rename_i v hv
          simp only [evs_mono l hv]
          split at h
          · split at h
            · obtain ⟨c, hk, e⟩ := lenK_mono l h (fun v => K' v [])
              exact ⟨c, [], hk, e⟩
            · cases h
          · cases h
        · cases h
      case append =>
        split at h
        · rename_i k y hv
          simp only [evs_mono l hv]
          split at h
          · rename_i t1 t2 ht
            by_cases h1 : (Nat.beq t1 k.ty && Nat.beq t2 k.ty) = true
            · simp only [h1, cond_true] at h ⊢
              obtain ⟨m, h, e⟩ := source_mono (S := S) l h
              rw [e]
              by_cases h2 : Nat.ble m.length 4294967296 = true
              · simp only [h2, cond_true] at h ⊢; exact ⟨_, _, h, rfl⟩
              · simp only [Bool.eq_false_iff.2 h2, cond_false] at h; cases h
            · simp only [Bool.eq_false_iff.2 h1, cond_false] at h; cases h
          · cases h
        · cases h
      case min => exact pure h
      case max => exact pure h
    | invoke r' m => rw [hc] at h; cases h
    | value g =>
      rw [hc] at h
      cases g with
      | func f =>
        simp only at h ⊢
        split at h
        · cases h
        · rename_i us hus
          simp only [evs_mono l hus]
          split at h
          · cases h
          · rename_i vs hvs
            simp only [bvs_mono (fun _ _ => bv2_mono l) hvs]
            split at h
            · rename_i g r' hs
              cases g <;> simp only [cond_true, cond_false] at h ⊢
              · cases h
              exact ⟨_, _, h, rfl⟩
            · rename_i g r' hs
              cases g <;> simp only [cond_true, cond_false] at h ⊢
              · cases h
              by_cases hn : us.all nl2 = true
              · simp only [hn, cond_true] at h ⊢; exact ⟨_, _, h, rfl⟩
              · simp only [Bool.eq_false_iff.2 hn, cond_false] at h; cases h
            · cases h
      | tmp i =>
        simp only at h ⊢
        split at h
        · rename_i f caps hf
          simp only [ev_mono l hf]
          split at h
          · cases h
          · rename_i us hus
            simp only [evs_mono l hus]
            split at h
            · cases h
            · rename_i vs hvs
              simp only [bvs_mono (fun _ _ => bv2_mono l) hvs]
              split at h
              · rename_i g r' hs
                cases g <;> simp only [cond_true, cond_false] at h ⊢
                · cases h
                exact ⟨_, _, h, rfl⟩
              · cases h
        · cases h
      | const v =>
        simp only at h ⊢
        split at h
        · rename_i f caps hf
          simp only [ev_mono l hf]
          split at h
          · cases h
          · rename_i us hus
            simp only [evs_mono l hus]
            split at h
            · cases h
            · rename_i vs hvs
              simp only [bvs_mono (fun _ _ => bv2_mono l) hvs]
              split at h
              · rename_i g r' hs
                cases g <;> simp only [cond_true, cond_false] at h ⊢
                · cases h
                exact ⟨_, _, h, rfl⟩
              · cases h
        · cases h
      | global g =>
        simp only [ev] at h
        cases h

theorem nmf_mono {s t : St} (l : s.le t) : ∀ {cs : List CV} {ys : List Nat}, nmf s.H cs = some ys → nmf t.H cs = some ys
  | [], ys, h => h
  | c :: cs, ys, h => by
    simp only [nmf] at h ⊢
    split at h
    · cases h
    · rename_i zs hz
      rw [nmf_mono l hz]
      simp only
      split at h
      · split at h
        · rename_i hg
          simp only [l.H _ _ hg]
          exact h
        · cases h
      · exact h
theorem nms_mono {s t : St} (l : s.le t) : ∀ {us : List CV} {ys : List Nat}, nms s.H us = some ys → nms t.H us = some ys
  | [], ys, h => h
  | u :: us, ys, h => by
    simp only [nms] at h ⊢
    split at h
    · cases h
    · rename_i zs hz
      rw [nms_mono l hz]
      simp only
      cases u <;> simp only at h ⊢ <;> try (exact h)
      case fn f cs =>
        split at h
        · rename_i zs' hz'
          rw [nmf_mono l hz']
          exact h
        · cases h
theorem wop_mono {s t : St} (l : s.le t) {E : Env} {o : Op} {x : Nat} {R S : Type} {K : CV → Hp → Option R} {r : R} (h : wop E o x s K = some r) (K' : CV → Hp → Option S) :
    ∃ c H, K c H = some r ∧ wop E o x t K' = K' c H := by
  cases o <;> simp only [wop, reduceCtorEq] at h ⊢
  case store ty p v =>
    split at h
    · cases h
    · rename_i a ha
      split at h
      · cases h
      · rename_i c hv
        simp only [ev_mono l ha, ev_mono l hv]
        split at h
        · cases h
        · rename_i b ks hk
          by_cases hc : (Nat.beq ks.length c.cells.length && c.cells.all CV.isC) = true
          · simp only [hc, cond_true] at h ⊢
            split at h
            · rename_i y q
              split at h
              · rename_i t' cs hg
                simp only [l.H _ _ hg]
                by_cases h1 : Nat.ble (q + c.cells.length) cs.length = true
                · simp only [h1, cond_true] at h ⊢; exact ⟨_, _, h, rfl⟩
                · simp only [Bool.eq_false_iff.2 h1, cond_false] at h; cases h
              · cases h
            · rename_i y i j
              split at h
              · rename_i ap k m hg
                simp only [l.H _ _ hg]
                split at h
                · cases h
                · rename_i e he
                  by_cases h1 : (c.cells.all nl0 && Nat.ble (j + c.cells.length) k.size) = true
                  · simp only [h1, cond_true] at h ⊢
                    split at h
                    · rename_i e' he'
                      exact ⟨_, _, h, rfl⟩
                    · cases h
                  · simp only [Bool.eq_false_iff.2 h1, cond_false] at h; cases h
              · cases h
            · cases h
          · simp only [Bool.eq_false_iff.2 hc, cond_false] at h; cases h
  case buildSlice ty' n parts =>
    split at h
    · cases h
    · rename_i k hk
      by_cases hc : (Nat.beq parts.size n && !Nat.beq n 0 && Nat.beq E.low 0 && Nat.ble n 1000) = true
      · rw [hc, cond_true] at h
        rw [hc, cond_true]
        split at h
        · rename_i es hes
          have hn : nmE t.T k parts.toList = nmE s.T k parts.toList := by
            have hm := elemsF_C (fun _ _ => bv0_isC) hes
            revert hm
            generalize parts.toList = ps
            intro hm
            induction ps with
            | nil => rfl
            | cons p ps ih =>
              obtain ⟨v, hv, -⟩ := hm p (List.mem_cons_self ..)
              have e := ih fun q hq => hm q (List.mem_cons_of_mem _ hq)
              unfold nmE at e ⊢
              simp only [List.flatMap_cons, hv, ev_mono l hv, e]
          simp only [elemsF_mono l (fun _ _ => bv0_mono l) hes, hn]
          exact ⟨_, _, h, rfl⟩
        · cases h
      · rw [Bool.eq_false_iff.2 hc] at h; cases h
  case slice t1 s1 lo hi mx =>
    cases lo with
    | some lo =>
      cases hi with
      | some hi => cases h
      | none =>
        cases mx with
        | some mx => cases h
        | none =>
          simp only at h ⊢
          split at h
          · rename_i y hs
            simp only [ev_mono l hs]
            split at h
            · rename_i ap k m hg
              simp only [l.H _ _ hg]
              split at h
              · rename_i i1 b hb
                simp only [ev_mono l hb]
                by_cases h1 : Nat.beq k.ty t1 = true
                · rw [h1, cond_true] at h
                  rw [h1, cond_true]
                  by_cases h2 : 0 ≤ b
                  · simp only [h2, decide_true, cond_true] at h ⊢
                    by_cases h3 : b ≤ (m.length : Int)
                    · simp only [h3, decide_true, cond_true] at h ⊢
                      exact ⟨_, _, h, rfl⟩
                    · simp [h3] at h
                  · simp [h2] at h
                · rw [Bool.eq_false_iff.2 h1] at h; cases h
              · cases h
            · cases h
          · cases h
    | none =>
      cases hi with
      | none => cases h
      | some hi =>
        cases mx with
        | none => cases h
        | some mx =>
          simp only at h ⊢
          split at h
          · rename_i y hs
            simp only [ev_mono l hs]
            split at h
            · rename_i ap k m hg
              simp only [l.H _ _ hg]
              split at h
              · rename_i i1 b hb
                simp only [ev_mono l hb]
                split at h
                · rename_i i2 m2 hm
                  simp only [ev_mono l hm]
                  by_cases hc : (Nat.beq k.ty t1 && decide (b = (m.length : Int)) && decide (m2 = (m.length : Int))) = true
                  · rw [hc, cond_true] at h
                    rw [hc, cond_true]
                    exact ⟨_, _, h, rfl⟩
                  · rw [Bool.eq_false_iff.2 hc] at h; cases h
                · cases h
              · cases h
            · cases h
          · cases h
  case call c =>
    split at h
    · split at h
      · rename_i y z hv
        simp only [evs_mono l hv]
        split at h
        · rename_i t1 t2 ht
          split at h
          · rename_i k m hg
            simp only [l.H _ _ hg]
            by_cases h1 : (Nat.beq t1 k.ty && Nat.beq t2 k.ty) = true
            · simp only [h1, cond_true] at h ⊢
              obtain ⟨m', h, e⟩ := source_mono (S := S) l h
              rw [e]
              by_cases h2 : Nat.ble (m.length + m'.length) 4294967296 = true
              · simp only [h2, cond_true] at h ⊢; exact ⟨_, _, h, rfl⟩
              · simp only [Bool.eq_false_iff.2 h2, cond_false] at h; cases h
            · simp only [Bool.eq_false_iff.2 h1, cond_false] at h; cases h
          · cases h
        · cases h
      · cases h
    · split at h
      · rename_i d z hv
        simp only [evs_mono l hv]
        split at h
        · rename_i t1 t2 ht
          split at h
          · split at h
            · rename_i ap k m hg
              simp only [l.H _ _ hg]
              by_cases h1 : (Nat.beq k.size 1 && Nat.beq t1 k.ty) = true
              · simp only [h1, Bool.not_true, cond_false] at h ⊢
                obtain ⟨m', h, e⟩ := source_mono (S := S) l h
                rw [e]
                exact ⟨_, _, h, rfl⟩
              · simp only [Bool.eq_false_iff.2 h1, Bool.not_false, cond_true] at h; cases h
            · cases h
          · rename_i y off len
            split at h
            · rename_i ap k m hg
              simp only [l.H _ _ hg]
              by_cases h1 : (Nat.beq k.size 1 && Nat.beq t1 k.ty) = true
              · simp only [h1, Bool.not_true, cond_false] at h ⊢
                obtain ⟨m', h, e⟩ := source_mono (S := S) l h
                rw [e]
                by_cases h2 : off + len ≤ m.length
                · simp only [h2, decide_true, cond_true] at h ⊢; exact ⟨_, _, h, rfl⟩
                · simp only [h2, decide_false, cond_false] at h; cases h
              · simp only [Bool.eq_false_iff.2 h1, Bool.not_false, cond_true] at h; cases h
            · cases h
          · cases h
        · cases h
      · cases h
    · rename_i f hc
      split at h
      · cases h
      · rename_i us hus
        simp only [evs_mono l hus]
        by_cases hw : E.wrs.contains f = true
        · simp only [hw, cond_true] at h ⊢
          split at h
          · rename_i y us
            split at h
            · rename_i m hg
              simp only [l.H _ _ hg]
              split at h
              · cases h
              · rename_i vs hvs
                simp only [bvs_mono (fun _ _ => bv2_mono l) hvs]
                split at h
                · cases h
                · rename_i ys hys
                  rw [nms_mono l hys]
                  simp only
                  by_cases hy : ys.contains y = true
                  · simp only [hy, cond_true] at h; cases h
                  · simp only [Bool.eq_false_iff.2 hy, cond_false] at h ⊢
                    split at h
                    · rename_i g m' hm'
                      cases g <;> simp only [Bool.true_and, Bool.false_and, cond_false] at h ⊢
                      · cases h
                      by_cases hl : m'.length = m.length
                      · simp only [hl, decide_true, cond_true] at h ⊢; exact ⟨_, _, h, rfl⟩
                      · simp only [hl, decide_false, cond_false] at h; cases h
                    · cases h
            · cases h
          · cases h
        · simp only [Bool.eq_false_iff.2 hw, cond_false] at h ⊢
          split at h
          · cases h
          · rename_i vs hvs
            simp only [bvs_mono (fun _ _ => bv2_mono l) hvs]
            split at h
            · cases h
            · rename_i ys hys
              rw [nms_mono l hys]
              simp only
              split at h
              · rename_i g r' hs
                cases g <;> simp only [cond_true, cond_false] at h ⊢
                · cases h
                exact ⟨_, _, h, rfl⟩
              · cases h
    · cases h
end Go.Proofs.Ytnfgfdeidkhdkaa.Eng
/- Eq: The engine's soundness, fifteenth part: regions whose order is open. -/
namespace Go.Proofs.Ytnfgfdeidkhdkaa.Eng
open Go.RowKit (Below)
set_option linter.unusedVariables false
set_option linter.unusedSimpArgs false

theorem isW_mono {s t : St} (l : s.le t) {E : Env} {o : Op} : isW E o s.T = isW E o t.T ∨ (isW E o s.T = true ∧ ∀ {R : Type} (x : Nat) (K : CV → Hp → Option R), wop E o x s K = none) := by
  cases o <;> try (exact .inl rfl)
  case slice t1 s1 lo hi mx => cases lo <;> cases hi <;> cases mx <;> first | exact .inl rfl | (cases s1 <;> exact .inl rfl)
  case call c =>
    simp only [isW]
    cases hc : c.callee with
    | builtin b =>
      cases b <;> try (exact .inl rfl)
      case append =>
        simp only
        cases hs : evs s.T c.args.toList c.argTypes.toList with
        | none =>
          refine .inr ⟨rfl, fun x K => ?_⟩
          simp only [wop, hc, hs]
        | some vs =>
          rw [evs_mono l hs]
          exact .inl rfl
    | invoke r m => exact .inl rfl
    | value g => cases g <;> exact .inl rfl

/-- what an operation does, where more is known -/
structure Alike (E : Env) (ops : Array Oper) (o : Oper) (s : St) (u : U) : Prop where
  T : ∀ p, p ∈ u.T → o.dst = some p.1
  H : noHeap o.op = true → u.H = []
  run : ∀ t : St, s.le t → (∀ p, p ∈ u.H → look s.H p.1 = none → look t.H p.1 = none) → opG E ops o t some = some u

theorem noHeap_W {E : Env} {o : Op} {T : List (Nat × CV)} (h : noHeap o = true) : isW E o T = false := by cases o <;> first | rfl | (simp [noHeap] at h)
theorem noHeap_quiet {R : Type} {sem : Sems} {o : Op} {t x : Nat} {st : St} {K : CV → List Blk → Option R} (h : noHeap o = true) : quiet sem o t x st K = pureOp o t st.T fun v => K v [] := by
  cases o <;> first | rfl | (simp [noHeap] at h)
theorem nameB_mem : ∀ {bs : List Blk} {x : Nat} {p : Nat × Option Blk}, p ∈ nameB x bs → x ≤ p.1 ∧ p.1 < x + bs.length
  | [], x, p, h => by simp [nameB] at h
  | b :: bs, x, p, h => by
    simp only [nameB, List.mem_cons] at h
    rcases h with rfl | h
    · simp
    · have := nameB_mem h
      simp only [List.length_cons]; omega
theorem fresh_of : ∀ {bs : List Blk} {x : Nat} {H : Hp}, (∀ y, x ≤ y ∧ y < x + bs.length → look H y = none) → freshB H x bs = true
  | [], x, H, h => rfl
  | b :: bs, x, H, h => by
    simp only [freshB, Bool.and_eq_true]
    refine ⟨by rw [h x ⟨Nat.le_refl _, by simp⟩], fresh_of fun y hy => h y ⟨by omega, by simp only [List.length_cons]; omega⟩⟩
theorem nameB_has : ∀ {bs : List Blk} {x y : Nat}, x ≤ y ∧ y < x + bs.length → ∃ p, p ∈ nameB x bs ∧ p.1 = y
  | [], x, y, h => by simp at h; omega
  | b :: bs, x, y, h => by
    by_cases e : y = x
    · subst e; exact ⟨_, List.mem_cons_self .., rfl⟩
    · obtain ⟨p, hp, e'⟩ := nameB_has (bs := bs) (x := x + 1) (y := y) ⟨by omega, by simp only [List.length_cons] at h; omega⟩
      exact ⟨p, List.mem_cons_of_mem _ hp, e'⟩

theorem wop_uni {s : St} {E : Env} {o : Op} {x : Nat} {R : Type} {K : CV → Hp → Option R} {r : R} (h : wop E o x s K = some r) :
    ∃ c H, K c H = some r ∧ wop E o x s (fun c H => some (c, H)) = some (c, H) ∧ ∀ {t : St} (l : s.le t) {S : Type} (K' : CV → Hp → Option S), wop E o x t K' = K' c H := by
  obtain ⟨c, H, hK, e⟩ := wop_mono (t := s) ⟨fun _ _ h => h, fun _ _ h => h⟩ h (fun c H => some (c, H))
  refine ⟨c, H, hK, e, fun l S K' => ?_⟩
  obtain ⟨c', H', hK', e'⟩ := wop_mono l e K'
  cases hK'
  exact e'
theorem quiet_uni {s : St} {sem : Sems} {o : Op} {ty x : Nat} {R : Type} {K : CV → List Blk → Option R} {r : R} (h : quiet sem o ty x s K = some r) :
    ∃ c bs, K c bs = some r ∧ quiet sem o ty x s (fun c H => some (c, H)) = some (c, bs) ∧ ∀ {t : St} (l : s.le t) {S : Type} (K' : CV → List Blk → Option S), quiet sem o ty x t K' = K' c bs := by
  obtain ⟨c, H, hK, e⟩ := quiet_mono (t := s) ⟨fun _ _ h => h, fun _ _ h => h⟩ h (fun c H => some (c, H))
  refine ⟨c, H, hK, e, fun l S K' => ?_⟩
  obtain ⟨c', H', hK', e'⟩ := quiet_mono l e K'
  cases hK'
  exact e'
theorem wop_app {s : St} {E : Env} {o : Op} {x : Nat} {c : CV} {H : Hp} (ha : isApp o = true) (h : wop E o x s (fun c H => some (c, H)) = some (c, H)) : ∃ p, p ∈ H ∧ p.1 = x := by
  cases o <;> simp only [isApp, Bool.false_eq_true] at ha
  case buildSlice t1 n parts =>
    simp only [wop] at h
    split at h
    · cases h
    · rename_i k hk
      by_cases hc : (Nat.beq parts.size n && !Nat.beq n 0 && Nat.beq E.low 0 && Nat.ble n 1000) = true
      · rw [hc, cond_true] at h
        split at h
        · cases h
          exact ⟨_, List.mem_cons_self .., rfl⟩
        · cases h
      · rw [Bool.eq_false_iff.2 hc] at h; cases h
  case slice t1 s1 lo hi mx =>
    cases lo with
    | some lo =>
      cases hi with
      | some hi => cases ha
      | none =>
        cases mx with
        | some mx => cases ha
        | none =>
          simp only [wop] at h
          split at h
          · split at h
            · rename_i k m hg
              split at h
              · rename_i i1 b hb
                by_cases h1 : Nat.beq k.ty t1 = true
                · rw [h1, cond_true] at h
                  by_cases h2 : 0 ≤ b
                  · simp only [h2, decide_true, cond_true] at h
                    by_cases h3 : b ≤ (m.length : Int)
                    · simp only [h3, decide_true, cond_true] at h
                      cases h
                      exact ⟨_, List.mem_cons_self .., rfl⟩
                    · simp [h3] at h
                  · simp [h2] at h
                · rw [Bool.eq_false_iff.2 h1] at h; cases h
              · cases h
            · cases h
          · cases h
    | none =>
      cases hi with
      | none => cases ha
      | some hi =>
        cases mx with
        | none => cases ha
        | some mx =>
          simp only [wop] at h
          split at h
          · split at h
            · rename_i k m hg
              split at h
              · rename_i i1 b hb
                split at h
                · rename_i i2 m2 hm
                  by_cases hc : (Nat.beq k.ty t1 && decide (b = (m.length : Int)) && decide (m2 = (m.length : Int))) = true
                  · rw [hc, cond_true] at h
                    cases h
                    exact ⟨_, List.mem_cons_self .., rfl⟩
                  · rw [Bool.eq_false_iff.2 hc] at h; cases h
                · cases h
              · cases h
            · cases h
          · cases h
  rename_i cl
  simp only [wop] at h
  split at ha
  · rename_i hc
    simp only [hc] at h
    split at h
    · split at h
      · rename_i t1 t2 ht
        split at h
        · rename_i k m hg
          by_cases h1 : (Nat.beq t1 k.ty && Nat.beq t2 k.ty) = true
          · rw [h1, cond_true] at h
            obtain ⟨m', h, -⟩ := source_mono (S := Nat) (t := s) ⟨fun _ _ h => h, fun _ _ h => h⟩ h
            by_cases h2 : Nat.ble (m.length + m'.length) 4294967296 = true
            · rw [h2, cond_true] at h
              cases h
              exact ⟨_, List.mem_cons_self .., rfl⟩
            · rw [Bool.eq_false_iff.2 h2] at h; cases h
          · rw [Bool.eq_false_iff.2 h1] at h; cases h
        · cases h
      · cases h
    · cases h
  · cases ha

theorem op1_alike {E : Env} {o : Oper} {s : St} {R : Type} {K : U → Option R} {r : R} (h : op1 E o s K = some r) :
    ∃ u, K u = some r ∧ (∀ p, p ∈ u.T → o.dst = some p.1) ∧ (noHeap o.op = true → u.H = []) ∧ ∀ t : St, s.le t → (∀ p, p ∈ u.H → look s.H p.1 = none → look t.H p.1 = none) → op1 E o t some = some u := by
  unfold op1 at h
  split at h
  · rename_i d hd
    by_cases hlt : (Nat.blt d E.nt && Nat.ble E.low d) = true
    · rw [hlt, cond_true] at h
      by_cases hw : isW E o.op s.T = true
      · rw [hw, cond_true] at h
        obtain ⟨c, H, hK, hp, e⟩ := wop_uni h
        by_cases hx : (!isApp o.op || (look s.H (8 * d)).isNone) = true
        · rw [hx, cond_true] at hK
          refine ⟨_, hK, fun p hp => ?_, fun hn => ?_, fun t l hf => ?_⟩
          · simp only [List.mem_singleton] at hp
            subst hp; exact hd
          · rw [noHeap_W hn] at hw; cases hw
          · have hw' : isW E o.op t.T = true := by
              rcases isW_mono (E := E) (o := o.op) l with e | ⟨-, hno⟩
              · rw [← e]; exact hw
              · rw [hno] at h; cases h
            have hx' : (!isApp o.op || (look t.H (8 * d)).isNone) = true := by
              simp only [Bool.or_eq_true, Bool.not_eq_true', Option.isNone_iff_eq_none] at hx ⊢
              by_cases ha : isApp o.op = true
              · right
                obtain ⟨p, hp, e⟩ := wop_app ha hp
                rw [← e]
                exact hf p hp (by rw [e]; exact hx.resolve_left (by rw [ha]; simp))
              · exact .inl (Bool.eq_false_iff.2 ha)
            unfold op1
            simp only [hd, hlt, cond_true, hw', e l, hx']
        · rw [Bool.eq_false_iff.2 hx] at hK; cases hK
      · rw [Bool.eq_false_iff.2 hw, cond_false] at h
        obtain ⟨c, bs, hK, hp, e⟩ := quiet_uni h
        by_cases hx : (freshB s.H (8 * d) bs && Nat.ble bs.length 8) = true
        · rw [hx, cond_true] at hK
          simp only [Bool.and_eq_true] at hx
          refine ⟨_, hK, fun p hp => ?_, fun hn => ?_, fun t l hf => ?_⟩
          · simp only [List.mem_singleton] at hp
            subst hp; exact hd
          · rw [noHeap_quiet hn] at hp
            obtain ⟨c', hK', -⟩ := pureOp_mono (t := s) ⟨fun _ _ h => h, fun _ _ h => h⟩ hp (fun _ => (none : Option Nat))
            cases hK'
            rfl
          · have hw' : isW E o.op t.T = false := by
              rcases isW_mono (E := E) (o := o.op) l with e | ⟨hh, -⟩
              · rw [← e]; exact Bool.eq_false_iff.2 hw
              · exact absurd hh hw
            have hx' : freshB t.H (8 * d) bs = true := fresh_of fun y hy => by
              obtain ⟨p, hp, e⟩ := nameB_has hy
              rw [← e]
              exact hf p hp (by rw [e]; exact fresh_none hx.1 y hy)
            unfold op1
            simp only [hd, hlt, cond_true, hw', cond_false, e l, hx', hx.2, Bool.and_self]
        · rw [Bool.eq_false_iff.2 hx] at hK; cases hK
    · rw [Bool.eq_false_iff.2 hlt] at h; cases h
  · rename_i hd
    by_cases hw : (isW E o.op s.T && !isApp o.op) = true
    · rw [hw, cond_true] at h
      simp only [Bool.and_eq_true, Bool.not_eq_true'] at hw
      obtain ⟨c, H, hK, hp, e⟩ := wop_uni h
      refine ⟨_, hK, fun p hp => by simp at hp, fun hn => ?_, fun t l hf => ?_⟩
      · rw [noHeap_W hn] at hw; cases hw.1
      · have hw' : isW E o.op t.T = true := by
          rcases isW_mono (E := E) (o := o.op) l with e | ⟨-, hno⟩
          · rw [← e]; exact hw.1
          · rw [hno] at h; cases h
        unfold op1
        simp only [hd, hw', hw.2, Bool.not_false, Bool.and_self, cond_true, e l]
    · rw [Bool.eq_false_iff.2 hw] at h; cases h

theorem opG_alike {E : Env} {ops : Array Oper} {o : Oper} {s : St} {R : Type} {K : U → Option R} {r : R} (h : opG E ops o s K = some r) : ∃ u, K u = some r ∧ Alike E ops o s u := by
  have skip : skipU E o K = some r → ∃ u, K u = some r ∧ (∀ p, p ∈ u.T → o.dst = some p.1) ∧ (noHeap o.op = true → u.H = []) ∧ skipU E o some = some u := by
    intro h
    unfold skipU at h
    split at h
    · rename_i d' hd'
      by_cases hlt : (Nat.blt d' E.nt && Nat.ble E.low d') = true
      · rw [hlt, cond_true] at h
        refine ⟨_, h, fun p hp => ?_, fun _ => rfl, ?_⟩
        · simp only [List.mem_singleton] at hp
          subst hp; exact hd'
        · simp only [skipU, hd', hlt, cond_true]
      · rw [Bool.eq_false_iff.2 hlt] at h; cases h
    · rename_i hd'
      refine ⟨_, h, fun p hp => by simp at hp, fun _ => rfl, ?_⟩
      simp only [skipU, hd']
  unfold opG at h
  split at h
  · rename_i hg
    obtain ⟨u, hK, a1, a2, a3⟩ := op1_alike h
    refine ⟨u, hK, a1, a2, fun t l hf => ?_⟩
    unfold opG
    simp only [hg]
    exact a3 t l hf
  · rename_i g want hg
    split at h
    · cases h
    · rename_i d hd
      split at h
      · rename_i b hb
        by_cases hbw : (b == want) = true
        · rw [hbw, cond_true] at h
          obtain ⟨u, hK, a1, a2, a3⟩ := op1_alike h
          refine ⟨u, hK, a1, a2, fun t l hf => ?_⟩
          unfold opG
          simp only [hg, hd, l.T _ _ hb, hbw, cond_true]
          exact a3 t l hf
        · rw [Bool.eq_false_iff.2 hbw, cond_false] at h
          obtain ⟨u, hK, a1, a2, a3⟩ := skip h
          refine ⟨u, hK, a1, a2, fun t l hf => ?_⟩
          unfold opG
          simp only [hg, hd, l.T _ _ hb, Bool.eq_false_iff.2 hbw, cond_false]
          exact a3
      · rename_i hb
        obtain ⟨u, hK, a1, a2, a3⟩ := skip h
        refine ⟨u, hK, a1, a2, fun t l hf => ?_⟩
        unfold opG
        simp only [hg, hd, l.T _ _ hb]
        exact a3
      · cases h
theorem opS_alike {E : Env} {ops : Array Oper} {gs : List Nat} {o : Oper} {s : St} {R : Type} {K : U → Option R} {r : R} (h : opS E ops gs o s K = some r) : ∃ u, K u = some r ∧ Alike E ops o s u := by
  obtain ⟨u, hK, hs⟩ := opG_alike h
  exact ⟨u, splitK_sound hK, hs⟩
end Go.Proofs.Ytnfgfdeidkhdkaa.Eng
/- Er: The engine's soundness, sixteenth part: regions whose order is open, all orders at once. -/
namespace Go.Proofs.Ytnfgfdeidkhdkaa.Eng
open Go.RowKit (Below)
set_option linter.unusedVariables false
set_option linter.unusedSimpArgs false

/-! ### updates in another order -/
theorem St.eqv.refl (s : St) : s.eqv s := ⟨fun _ => rfl, fun _ => rfl⟩
theorem St.eqv.trans {s t u : St} (h : s.eqv t) (h' : t.eqv u) : s.eqv u := ⟨fun i => (h.1 i).trans (h'.1 i), fun i => (h.2 i).trans (h'.2 i)⟩
theorem app_eqv {s t : St} (h : s.eqv t) (u : U) : (s.app u).eqv (t.app u) := ⟨fun i => by simp only [St.app, look_append, h.1], fun i => by simp only [St.app, look_append, h.2]⟩
theorem appAll_eqv : ∀ (us : List (Nat × U)) {s t : St}, s.eqv t → (appAll s us).eqv (appAll t us)
  | [], _, _, h => h
  | u :: us, _, _, h => appAll_eqv us (app_eqv h u.2)
/-- two updates of which none touches what the other one does -/
def U.apart (u v : U) : Prop := (∀ i, look u.T i = none ∨ look v.T i = none) ∧ ∀ i, look u.H i = none ∨ look v.H i = none
theorem app_swap (s : St) {u v : U} (h : u.apart v) : ((s.app u).app v).eqv ((s.app v).app u) := by
  refine ⟨fun i => ?_, fun i => ?_⟩
  · simp only [St.app, look_append]
    rcases h.1 i with e | e <;> rw [e] <;> cases look u.T i <;> cases look v.T i <;> rfl
  · simp only [St.app, look_append]
    rcases h.2 i with e | e <;> rw [e] <;> cases look u.H i <;> cases look v.H i <;> rfl
theorem appAll_snoc : ∀ (us : List (Nat × U)) (s : St) (x : Nat × U), appAll s (us ++ [x]) = (appAll s us).app x.2
  | [], s, x => rfl
  | u :: us, s, x => appAll_snoc us (s.app u.2) x
theorem appAll_append : ∀ (us vs : List (Nat × U)) (s : St), appAll s (us ++ vs) = appAll (appAll s us) vs
  | [], vs, s => rfl
  | u :: us, vs, s => appAll_append us vs (s.app u.2)
theorem appAll_move (x : Nat × U) : ∀ (us : List (Nat × U)) (s : St), (∀ y, y ∈ us → x.2.apart y.2) → ((appAll s us).app x.2).eqv (appAll (s.app x.2) us)
  | [], s, _ => St.eqv.refl _
  | u :: us, s, h => (appAll_move x us (s.app u.2) fun y hy => h y (List.mem_cons_of_mem _ hy)).trans (appAll_eqv us ⟨fun i => ((app_swap s (h u (List.mem_cons_self ..))).1 i).symm, fun i => ((app_swap s (h u (List.mem_cons_self ..))).2 i).symm⟩)
theorem appAll_T (p : Nat × U → Bool) (t : Nat) : ∀ (us : List (Nat × U)) (s : St), (∀ y, y ∈ us → p y = false → look y.2.T t = none) → look (appAll s us).T t = look (appAll s (us.filter p)).T t := by
  have cong : ∀ (us : List (Nat × U)) (s s' : St), look s.T t = look s'.T t → look (appAll s us).T t = look (appAll s' us).T t := by
    intro us
    induction us with
    | nil => exact fun s s' h => h
    | cons u us ih => exact fun s s' h => ih _ _ (by simp only [St.app, look_append, h])
  intro us
  induction us with
  | nil => exact fun s _ => rfl
  | cons u us ih =>
    intro s h
    have ih' := fun s => ih s fun y hy => h y (List.mem_cons_of_mem _ hy)
    rw [List.filter_cons]
    by_cases hp : p u = true
    · rw [if_pos hp]; exact ih' _
    · rw [if_neg hp]
      refine (ih' _).trans (cong _ _ _ ?_)
      simp only [St.app, look_append, h u (List.mem_cons_self ..) (Bool.eq_false_iff.2 hp)]
theorem appAll_H (p : Nat × U → Bool) (t : Nat) : ∀ (us : List (Nat × U)) (s : St), (∀ y, y ∈ us → p y = false → look y.2.H t = none) → look (appAll s us).H t = look (appAll s (us.filter p)).H t := by
  have cong : ∀ (us : List (Nat × U)) (s s' : St), look s.H t = look s'.H t → look (appAll s us).H t = look (appAll s' us).H t := by
    intro us
    induction us with
    | nil => exact fun s s' h => h
    | cons u us ih => exact fun s s' h => ih _ _ (by simp only [St.app, look_append, h])
  intro us
  induction us with
  | nil => exact fun s _ => rfl
  | cons u us ih =>
    intro s h
    have ih' := fun s => ih s fun y hy => h y (List.mem_cons_of_mem _ hy)
    rw [List.filter_cons]
    by_cases hp : p u = true
    · rw [if_pos hp]; exact ih' _
    · rw [if_neg hp]
      refine (ih' _).trans (cong _ _ _ ?_)
      simp only [St.app, look_append, h u (List.mem_cons_self ..) (Bool.eq_false_iff.2 hp)]

/-! ### what lies ahead of an operation -/
theorem snocInd {α : Type} {m : List α → Prop} (h0 : m []) (h1 : ∀ l a, m l → m (l ++ [a])) (l : List α) : m l := by
  rw [← List.reverse_reverse l]
  induction l.reverse with
  | nil => exact h0
  | cons a l ih => rw [List.reverse_cons]; exact h1 _ _ ih
theorem befs_snoc (os : List Oper) (o : Oper) : befs (os ++ [o]) = befStep (befs os) o := by simp [befs]
theorem befs_len : ∀ os : List Oper, (befs os).length = os.length := by
  intro os
  induction os using snocInd with
  | h0 => rfl
  | h1 os o ih => rw [befs_snoc]; simp [befStep, ih]
theorem befs_get : ∀ (os : List Oper) (i : Nat) (o : Oper), os[i]? = some o → bef (befs os) i = dd (o.after.toList.flatMap fun e => bif Region.binds .any e then e.on :: (((befs os).take i)[e.on]?).getD [] else []) := by
  intro os
  induction os using snocInd with
  | h0 => intro i o h; simp at h
  | h1 os p ih =>
    intro i o h
    rw [befs_snoc]
    by_cases hi : i < os.length
    · rw [List.getElem?_append_left hi] at h
      have := ih i o h
      have hl : i < (befs os).length := by rw [befs_len]; exact hi
      unfold bef at this ⊢
      rw [befStep, List.getElem?_append_left hl, this, List.take_append_of_le_length (Nat.le_of_lt hl)]
    · have hi' : i = os.length := by
        have := (List.getElem?_eq_some_iff.1 h).1
        simp at this; omega
      subst hi'
      simp at h
      subst h
      unfold bef
      have hl : (befs os).length = os.length := befs_len os
      rw [befStep, ← hl, List.getElem?_append_right (Nat.le_refl _), Nat.sub_self, List.getElem?_cons_zero, Option.getD_some, List.take_left]

/-- what is done so far holds with each operation all that it waits for -/
def Closed (os : List Oper) (S : Nat → Bool) : Prop := ∀ j o, os[j]? = some o → S j = true → ∀ e, e ∈ o.after.toList → Region.binds .any e = true → S e.on = true
theorem bef_sub {os : List Oper} {S : Nat → Bool} (hc : Closed os S) : ∀ (j : Nat) (o : Oper), os[j]? = some o → (∀ e, e ∈ o.after.toList → Region.binds .any e = true → S e.on = true) → ∀ q, q ∈ bef (befs os) j → S q = true := by
  intro j
  induction j using Nat.strongRecOn with
  | _ j ih =>
    intro o ho he q hq
    rw [befs_get os j o ho] at hq
    obtain ⟨e, hem, hq⟩ := List.mem_flatMap.1 (dd_mem hq)
    by_cases hb : Region.binds .any e = true
    · rw [hb, cond_true] at hq
      have hS := he e hem hb
      rcases List.mem_cons.1 hq with rfl | hq
      · exact hS
      · rw [List.getElem?_take] at hq
        by_cases hlt : e.on < j
        · rw [if_pos hlt] at hq
          have hjl := (List.getElem?_eq_some_iff.1 ho).1
          have hlo : e.on < os.length := by omega
          exact ih e.on hlt os[e.on] (List.getElem?_eq_getElem hlo) (fun e' he' hb' => hc e.on _ (List.getElem?_eq_getElem hlo) hS e' he' hb') q hq
        · rw [if_neg hlt] at hq; simp at hq
    · rw [Bool.eq_false_iff.2 hb, cond_false] at hq; simp at hq
theorem backOk_spec {os : List Oper} (h : backOk os = true) {i : Nat} {o : Oper} (hi : os[i]? = some o) : ∀ e, e ∈ o.after.toList → Region.binds .any e = true → e.on < i := by
  intro e he hb
  unfold backOk at h
  have := List.all_eq_true.1 h (o, i) (List.mem_zipIdx_iff_getElem?.2 hi)
  have := List.all_eq_true.1 this e he
  simpa [hb] using this
theorem bef_lt {os : List Oper} (h : backOk os = true) : ∀ (j : Nat) (o : Oper), os[j]? = some o → ∀ q, q ∈ bef (befs os) j → q < j := by
  intro j
  induction j using Nat.strongRecOn with
  | _ j ih =>
    intro o ho q hq
    rw [befs_get os j o ho] at hq
    obtain ⟨e, hem, hq⟩ := List.mem_flatMap.1 (dd_mem hq)
    by_cases hb : Region.binds .any e = true
    · rw [hb, cond_true] at hq
      have hlt := backOk_spec h ho e hem hb
      rcases List.mem_cons.1 hq with rfl | hq
      · exact hlt
      · rw [List.getElem?_take, if_pos hlt] at hq
        have hjl := (List.getElem?_eq_some_iff.1 ho).1
        have hlo : e.on < os.length := by omega
        exact Nat.lt_trans (ih e.on hlt _ (List.getElem?_eq_getElem hlo) q hq) hlt
    · rw [Bool.eq_false_iff.2 hb, cond_false] at hq; simp at hq

/-! ### what an operation may see -/
theorem look_filter (p : Nat → Bool) (t : Nat) (c : CV) : ∀ T : List (Nat × CV), look (T.filter fun q => p q.1) t = some c → look T t = some c ∧ p t = true
  | [], h => by simp [look] at h
  | (i, v) :: T, h => by
    rw [List.filter_cons] at h
    by_cases hp : p i = true
    · rw [if_pos hp, look_cons] at h
      rw [look_cons]
      split at h
      · rename_i e; subst e; rw [if_pos rfl]; exact ⟨h, hp⟩
      · rename_i e; rw [if_neg e]; exact look_filter p t c T h
    · rw [if_neg hp] at h
      rw [look_cons]
      obtain ⟨h1, h2⟩ := look_filter p t c T h
      by_cases e : i = t
      · subst e; exact absurd h2 hp
      · rw [if_neg e]; exact ⟨h1, h2⟩
def hideB : Option Blk → Option Blk
  | some (.arr _ _ _) => none
  | b => b
theorem look_hide : ∀ (H : Hp) (y : Nat), look (hideArr H) y = (look H y).map hideB
  | [], y => rfl
  | (x, b) :: H, y => by
    have : hideArr ((x, b) :: H) = (x, hideB b) :: hideArr H := by
      unfold hideArr
      rw [List.map_cons]
      congr 1
      cases b with
      | none => rfl
      | some b => cases b <;> rfl
    rw [this, look_cons, look_cons, look_hide H y]
    split <;> rfl
theorem view_T {ops : Array Oper} {os : List Oper} {B : List (List Nat)} {i : Nat} {o : Oper} {st : St} {t : Nat} {c : CV} (h : look (view ops os B i o st).T t = some c) : look st.T t = some c ∧ (readsOf ops o).contains t = true :=
  look_filter (fun q => (readsOf ops o).contains q) t c st.T h
theorem view_H {ops : Array Oper} {os : List Oper} {B : List (List Nat)} {i : Nat} {o : Oper} {st : St} {y : Nat} {b : Blk} (h : get (view ops os B i o st).H y = some b) : get st.H y = some b := by
  unfold view at h
  simp only at h
  by_cases hn : noHeap o.op = true
  · rw [hn, cond_true] at h; cases h
  · rw [Bool.eq_false_iff.2 hn, cond_false] at h
    revert h
    cases (isLoad o.op && (List.range os.length).any fun j => !Nat.beq j i && !ord B i j && (match os[j]? with | some p => isStore p.op | none => false)) with
    | false => exact fun h => h
    | true =>
      intro h
      rw [cond_true, get_eq, look_hide] at h
      rw [get_eq]
      cases hl : look st.H y with
      | none => rw [hl] at h; cases h
      | some q =>
        rw [hl] at h
        cases q with
        | none => cases h
        | some q => cases q <;> first | exact h | cases h
theorem view_none {ops : Array Oper} {os : List Oper} {B : List (List Nat)} {i : Nat} {o : Oper} {st : St} {y : Nat} (hn : noHeap o.op = false) (h : look (view ops os B i o st).H y = none) : look st.H y = none := by
  unfold view at h
  simp only [hn, cond_false] at h
  revert h
  cases (isLoad o.op && (List.range os.length).any fun j => !Nat.beq j i && !ord B i j && (match os[j]? with | some p => isStore p.op | none => false)) with
  | false => exact fun h => h
  | true =>
    intro h
    rw [cond_true, look_hide] at h
    cases hl : look st.H y with
    | none => rfl
    | some q => rw [hl] at h; cases h

theorem draw_run {E : Env} {ops : Array Oper} {os : List Oper} {gs : List Nat} {B : List (List Nat)} {base : St} {R : Type} {K : St → Option R} {r : R} : ∀ (rest : List (Nat × Oper)) (us0 : List (Nat × U)), drawK E ops os gs B rest base us0 K = some r →
    ∃ us1 : List (Nat × U), us1.length = rest.length ∧ (∀ k i o, rest[k]? = some (i, o) → ∃ u, us1[k]? = some (i, u) ∧ Alike E ops o (viewAt ops os B base (us0 ++ us1.take k) i o) u) ∧ segOk ops os B base (us0 ++ us1) = true ∧ K (appAll base (us0 ++ us1)) = some r
  | [], us0, h => by
    simp only [drawK] at h
    by_cases hs : segOk ops os B base us0 = true
    · rw [hs, cond_true] at h
      exact ⟨[], rfl, by simp, by simpa using hs, by simpa using h⟩
    · rw [Bool.eq_false_iff.2 hs] at h; cases h
  | (i, o) :: rest, us0, h => by
    simp only [drawK] at h
    obtain ⟨u, hK, ha⟩ := opS_alike h
    obtain ⟨us1, e1, e2, e3, e4⟩ := draw_run rest (us0 ++ [(i, u)]) hK
    refine ⟨(i, u) :: us1, by simp [e1], fun k i' o' hk => ?_, by simpa using e3, by simpa using e4⟩
    cases k with
    | zero =>
      simp only [List.getElem?_cons_zero, Option.some.injEq, Prod.mk.injEq] at hk
      obtain ⟨rfl, rfl⟩ := hk
      exact ⟨u, rfl, by simpa using ha⟩
    | succ k =>
      obtain ⟨u', h1, h2⟩ := e2 k i' o' (by simpa using hk)
      exact ⟨u', by simpa using h1, by simpa using h2⟩
end Go.Proofs.Ytnfgfdeidkhdkaa.Eng
/- Es: The engine's soundness, seventeenth part: regions whose order is open, put together. -/
namespace Go.Proofs.Ytnfgfdeidkhdkaa.Eng
open Go.RowKit (Below)
set_option linter.unusedVariables false
set_option linter.unusedSimpArgs false

theorem ord_false {B : List (List Nat)} {i j : Nat} : ord B i j = false ↔ ¬ j ∈ bef B i ∧ ¬ i ∈ bef B j := by
  unfold ord
  simp [Bool.or_eq_false_iff]
theorem ord_comm (B : List (List Nat)) (i j : Nat) : ord B i j = ord B j i := by unfold ord; rw [Bool.or_comm]

/-- a region's run in the text's order -/
structure Drawn (E : Env) (ops : Array Oper) (base : St) (us : List (Nat × U)) : Prop where
  stat : statOk ops ops.toList (befs ops.toList) = true
  seg : segOk ops ops.toList (befs ops.toList) base us = true
  len : us.length = ops.toList.length
  at_ : ∀ k o, ops.toList[k]? = some o → ∃ u, us[k]? = some (k, u) ∧ Alike E ops o (viewAt ops ops.toList (befs ops.toList) base (us.take k) k o) u

section
variable {E : Env} {ops : Array Oper} {base : St} {us : List (Nat × U)} (D : Drawn E ops base us)
include D
theorem Drawn.back : backOk ops.toList = true := by
  have := D.stat
  unfold statOk at this
  simp only [Bool.and_eq_true] at this
  exact this.1
theorem Drawn.dst {i j : Nat} {o p : Oper} {d : Nat} (hi : ops.toList[i]? = some o) (hj : ops.toList[j]? = some p) (hne : i ≠ j) (hd : o.dst = some d) : p.dst ≠ some d ∧ (ord (befs ops.toList) i j = false → (readsOf ops p).contains d = false) := by
  have := D.stat
  unfold statOk at this
  simp only [Bool.and_eq_true] at this
  have h1 := List.all_eq_true.1 this.2 (o, i) (List.mem_zipIdx_iff_getElem?.2 hi)
  simp only [hd] at h1
  have h2 := List.all_eq_true.1 h1 (p, j) (List.mem_zipIdx_iff_getElem?.2 hj)
  have hb : Nat.beq i j = false := Bool.eq_false_iff.2 fun e => hne (Nat.eq_of_beq_eq_true e)
  simp only [hb, Bool.false_or, Bool.and_eq_true, Bool.or_eq_true, Bool.not_eq_true'] at h2
  refine ⟨fun e => ?_, fun ho => h2.2.resolve_left (by rw [ho]; simp)⟩
  have := h2.1
  rw [e] at this
  simp at this
theorem Drawn.mem {x : Nat × U} (hx : x ∈ us) : ∃ o, ops.toList[x.1]? = some o ∧ us[x.1]? = some x ∧ Alike E ops o (viewAt ops ops.toList (befs ops.toList) base (us.take x.1) x.1 o) x.2 := by
  obtain ⟨k, hk⟩ := List.mem_iff_getElem?.1 hx
  have hkl := (List.getElem?_eq_some_iff.1 hk).1
  rw [D.len] at hkl
  obtain ⟨u, hu, ha⟩ := D.at_ k _ (List.getElem?_eq_getElem hkl)
  rw [hk] at hu
  cases hu
  exact ⟨_, List.getElem?_eq_getElem hkl, hk, ha⟩
theorem Drawn.view {i : Nat} {o : Oper} (hi : ops.toList[i]? = some o) : viewAt ops ops.toList (befs ops.toList) base (us.take i) i o = viewAt ops ops.toList (befs ops.toList) base us i o := by
  unfold viewAt
  congr 2
  conv => rhs; rw [← List.take_append_drop i us, List.filter_append]
  have : (us.drop i).filter (fun u => (bef (befs ops.toList) i).contains u.1) = [] := by
    rw [List.filter_eq_nil_iff]
    intro x hx hc
    obtain ⟨k, hk⟩ := List.mem_iff_getElem?.1 hx
    rw [List.getElem?_drop] at hk
    have hkl := (List.getElem?_eq_some_iff.1 hk).1
    rw [D.len] at hkl
    obtain ⟨u, hu, -⟩ := D.at_ (i + k) _ (List.getElem?_eq_getElem hkl)
    rw [hk] at hu
    cases hu
    have := bef_lt D.back i o hi (i + k) (by simpa using hc)
    omega
  rw [this, List.append_nil]
theorem Drawn.sees {x y : Nat × U} (hx : x ∈ us) (hy : y ∈ us) (hne : x.1 ≠ y.1) (ho : ord (befs ops.toList) x.1 y.1 = false) {h : Nat × Option Blk} (hh : h ∈ x.2.H) :
    (∀ o, ops.toList[y.1]? = some o → get (viewAt ops ops.toList (befs ops.toList) base us y.1 o).H h.1 = none) ∧ ∀ k, k ∈ y.2.H → k.1 ≠ h.1 := by
  have := D.seg
  unfold segOk at this
  have h1 := List.all_eq_true.1 (List.all_eq_true.1 (List.all_eq_true.1 this x hx) h hh) y hy
  have hb : Nat.beq x.1 y.1 = false := Bool.eq_false_iff.2 fun e => hne (Nat.eq_of_beq_eq_true e)
  simp only [hb, ho, Bool.false_or, Bool.and_eq_true] at h1
  refine ⟨fun o hoo => ?_, fun k hk e => ?_⟩
  · have := h1.1
    rw [hoo] at this
    simp only at this
    cases hg : get (viewAt ops ops.toList (befs ops.toList) base us y.1 o).H h.1 with
    | none => rfl
    | some b => rw [hg] at this; cases this
  · have := List.all_eq_true.1 h1.2 k hk
    rw [e] at this
    simp at this
theorem Drawn.apart {x y : Nat × U} (hx : x ∈ us) (hy : y ∈ us) (hne : x.1 ≠ y.1) (ho : ord (befs ops.toList) x.1 y.1 = false) : x.2.apart y.2 := by
  obtain ⟨o, ho1, -, ha⟩ := D.mem hx
  obtain ⟨p, hp1, -, hb⟩ := D.mem hy
  refine ⟨fun i => ?_, fun i => ?_⟩
  · cases h1 : look x.2.T i with
    | none => exact .inl rfl
    | some c =>
      cases h2 : look y.2.T i with
      | none => exact .inr rfl
      | some d => exact absurd (hb.T _ (look_mem h2)) (D.dst ho1 hp1 hne (ha.T _ (look_mem h1))).1
  · cases h1 : look x.2.H i with
    | none => exact .inl rfl
    | some c =>
      cases h2 : look y.2.H i with
      | none => exact .inr rfl
      | some d => exact absurd rfl ((D.sees hx hy hne ho (h := (i, c)) (look_mem h1)).2 (i, d) (look_mem h2))

/-- what holds where these operations are done -/
def doneSt (base : St) (us : List (Nat × U)) (S : Nat → Bool) : St := appAll base (us.filter fun x => S x.1)

theorem Drawn.step {S : Nat → Bool} (hc : Closed ops.toList S) {i : Nat} {o : Oper} (hi : ops.toList[i]? = some o) (hS : S i = false) (hr : ∀ e, e ∈ o.after.toList → Region.binds .any e = true → S e.on = true) :
    ∃ u, opG E ops o (doneSt base us S) some = some u ∧ ((doneSt base us S).app u).eqv (doneSt base us fun j => S j || j == i) := by
  obtain ⟨u, hu, ha⟩ := D.at_ i o hi
  rw [D.view hi] at ha
  have hsub := bef_sub hc i o hi hr
  have hff : (us.filter fun x => S x.1).filter (fun x => (bef (befs ops.toList) i).contains x.1) = us.filter fun x => (bef (befs ops.toList) i).contains x.1 := by
    rw [List.filter_filter]
    refine List.filter_congr fun x _ => ?_
    cases hb : (bef (befs ops.toList) i).contains x.1 with
    | false => rfl
    | true => rw [hsub x.1 (by simpa using hb)]; rfl
  have hun : ∀ x, x ∈ us → S x.1 = true → ¬ x.1 ∈ bef (befs ops.toList) i → x.1 ≠ i ∧ ord (befs ops.toList) x.1 i = false := by
    intro x hx hSx hn
    refine ⟨fun e => (by rw [e, hS] at hSx; cases hSx), ord_false.2 ⟨fun hm => ?_, hn⟩⟩
    obtain ⟨p, hp, -, -⟩ := D.mem hx
    have := bef_sub hc x.1 p hp (hc x.1 p hp hSx) i hm
    rw [hS] at this; cases this
  have hmem : (i, u) ∈ us := List.mem_of_getElem? hu
  refine ⟨u, ha.run _ ⟨fun t c ht => ?_, fun y b hy => ?_⟩ (fun p hp hn => ?_), ?_⟩
  · obtain ⟨h1, h2⟩ := view_T ht
    unfold doneSt
    rw [appAll_T (fun x => (bef (befs ops.toList) i).contains x.1) t _ _ fun x hx hp => ?_, hff]
    · exact h1
    · cases hl : look x.2.T t with
      | none => rfl
      | some c' =>
        have hxu := (List.mem_filter.1 hx).1
        obtain ⟨hne, hod⟩ := hun x hxu (List.mem_filter.1 hx).2 (by simpa using hp)
        obtain ⟨q, hq, -, hb⟩ := D.mem hxu
        have := (D.dst hq hi hne (hb.T _ (look_mem hl))).2 hod
        rw [h2] at this; cases this
  · have h1 := view_H hy
    have h2 : look (doneSt base us S).H y = look (appAll base (us.filter fun x => (bef (befs ops.toList) i).contains x.1)).H y := by
      unfold doneSt
      rw [appAll_H (fun x => (bef (befs ops.toList) i).contains x.1) y _ _ fun x hx hp => ?_, hff]
      cases hl : look x.2.H y with
      | none => rfl
      | some c' =>
        have hxu := (List.mem_filter.1 hx).1
        obtain ⟨hne, hod⟩ := hun x hxu (List.mem_filter.1 hx).2 (by simpa using hp)
        have := (D.sees hxu hmem hne hod (look_mem hl)).1 o hi
        rw [hy] at this; cases this
    rw [get_eq, h2, ← get_eq]
    exact h1
  · cases hnh : noHeap o.op with
    | true => rw [ha.H hnh] at hp; simp at hp
    | false =>
      have h1 := view_none hnh hn
      unfold doneSt
      rw [appAll_H (fun x => (bef (befs ops.toList) i).contains x.1) p.1 _ _ fun x hx hp' => ?_, hff]
      · exact h1
      · cases hl : look x.2.H p.1 with
        | none => rfl
        | some c' =>
          have hxu := (List.mem_filter.1 hx).1
          obtain ⟨hne, hod⟩ := hun x hxu (List.mem_filter.1 hx).2 (by simpa using hp')
          exact absurd rfl ((D.sees hxu hmem hne hod (look_mem hl)).2 p hp)
  · have hil := (List.getElem?_eq_some_iff.1 hu).1
    have hdrop : us.drop i = (i, u) :: us.drop (i + 1) := by
      rw [List.drop_eq_getElem_cons hil]
      congr 1
      exact (List.getElem?_eq_some_iff.1 hu).2
    have hus : us = us.take i ++ (i, u) :: us.drop (i + 1) := by rw [← hdrop, List.take_append_drop]
    have hidx : ∀ (k : Nat) (x : Nat × U), us[k]? = some x → x.1 = k := fun k x hk => by
      have hkl := (List.getElem?_eq_some_iff.1 hk).1
      rw [D.len] at hkl
      obtain ⟨v, hv, -⟩ := D.at_ k _ (List.getElem?_eq_getElem hkl)
      rw [hk] at hv; cases hv; rfl
    have hlt : ∀ x, x ∈ us.take i → x.1 < i := fun x hx => by
      obtain ⟨k, hk⟩ := List.mem_iff_getElem?.1 hx
      rw [List.getElem?_take] at hk
      split at hk
      · rename_i hki; rw [hidx k x hk]; exact hki
      · cases hk
    have hgt : ∀ x, x ∈ us.drop (i + 1) → i < x.1 := fun x hx => by
      obtain ⟨k, hk⟩ := List.mem_iff_getElem?.1 hx
      rw [List.getElem?_drop] at hk
      rw [hidx _ x hk]; omega
    have f1 : us.filter (fun x => S x.1) = (us.take i).filter (fun x => S x.1) ++ (us.drop (i + 1)).filter (fun x => S x.1) := by
      conv => lhs; rw [hus]
      rw [List.filter_append, List.filter_cons, if_neg (by simp [hS])]
    have f2 : us.filter (fun x : Nat × U => S x.1 || x.1 == i) = (us.take i).filter (fun x => S x.1) ++ (i, u) :: (us.drop (i + 1)).filter (fun x => S x.1) := by
      conv => lhs; rw [hus]
      rw [List.filter_append, List.filter_cons, if_pos (by simp)]
      congr 1
      · exact List.filter_congr fun (x : Nat × U) hx => by have := hlt x hx; simp [Nat.ne_of_lt this]
      · congr 1
        exact List.filter_congr fun (x : Nat × U) hx => by have := hgt x hx; simp [Nat.ne_of_gt this]
    unfold doneSt
    rw [f1, f2, appAll_append, appAll_append]
    refine appAll_move (i, u) _ _ fun y hy => ?_
    have hy1 := (List.mem_filter.1 hy).1
    have hyu : y ∈ us := List.mem_of_mem_drop hy1
    have hgy := hgt y hy1
    obtain ⟨hne, hod⟩ := hun y hyu (List.mem_filter.1 hy).2 (fun hm => by have := bef_lt D.back i o hi y.1 hm; omega)
    exact D.apart hmem hyu (Ne.symm hne) (by rw [ord_comm]; exact hod)

/-- every order -/
theorem Drawn.all {B : Base} (hE : Ok B E) {R : Type} {K : St → Option R} {r : R} {Q : Exit → Act → World → Prop} (hQ : ∀ st' a' w', K st' = some r → Sim B E.nt st' a' w' → Q .normal a' w') (hK : K (appAll base us) = some r) :
    ∀ (fuel : Nat) (listed : Array Bool) (a : Act) (w : World), listed.size = ops.size → Closed ops.toList (fun j => listed.getD j false) → ((List.range ops.size).filter fun j => !listed.getD j false).length ≤ fuel →
      Sim B E.nt (doneSt base us fun j => listed.getD j false) a w → wpAny P .any ops Q fuel listed a w := by
  have alldone : ∀ (listed : Array Bool) (a : Act) (w : World), listed.size = ops.size → Closed ops.toList (fun j => listed.getD j false) → Region.ready .any ops listed = [] → Sim B E.nt (doneSt base us fun j => listed.getD j false) a w → Q .normal a w := by
    intro listed a w hsz hc hr hs
    have hall : ∀ j, j < ops.size → listed.getD j false = true := by
      intro j
      induction j using Nat.strongRecOn with
      | _ j ih =>
        intro hj
        cases hl : listed.getD j false with
        | true => rfl
        | false =>
          exfalso
          have hjr : j ∈ Region.ready .any ops listed := by
            rw [mem_ready]
            refine ⟨?_, ops[j], Array.getElem?_eq_getElem hj, fun e he hb => ?_⟩
            · have : j < listed.size := by omega
              simp [Array.getD, this] at hl ⊢
              exact hl
            · have ho : ops.toList[j]? = some ops[j] := by simp [hj]
              have hlt := backOk_spec D.back ho e (by simpa using he) hb
              exact ih e.on hlt (by omega)
          rw [hr] at hjr; simp at hjr
    refine hQ _ a w hK ?_
    have : doneSt base us (fun j => listed.getD j false) = appAll base us := by
      unfold doneSt
      congr 1
      refine List.filter_eq_self.2 fun x hx => hall x.1 ?_
      obtain ⟨o, ho, -⟩ := D.mem hx
      simpa using (List.getElem?_eq_some_iff.1 ho).1
    rwa [this] at hs
  intro fuel
  induction fuel with
  | zero =>
    intro listed a w hsz hc hf hs
    have hr : Region.ready .any ops listed = [] := by
      rw [List.eq_nil_iff_forall_not_mem]
      intro j hj
      obtain ⟨h0, o, ho, -⟩ := mem_ready.1 hj
      have hjl := (Array.getElem?_eq_some_iff.1 ho).1
      have : j ∈ (List.range ops.size).filter fun j => !listed.getD j false := by
        rw [List.mem_filter, List.mem_range]
        refine ⟨hjl, ?_⟩
        have : j < listed.size := by omega
        simp [Array.getD, this] at h0 ⊢
        exact h0
      rw [List.eq_nil_of_length_eq_zero (Nat.le_zero.1 hf)] at this
      simp at this
    exact ⟨hr, alldone listed a w hsz hc hr hs⟩
  | succ fuel ih =>
    intro listed a w hsz hc hf hs
    refine ⟨fun hr => alldone listed a w hsz hc hr hs, fun i hi => ?_⟩
    obtain ⟨h0, o, ho, hr⟩ := mem_ready.1 hi
    have hil := (Array.getElem?_eq_some_iff.1 ho).1
    have hil' : i < listed.size := by omega
    have ho' : ops.toList[i]? = some o := by simpa using ho
    have hS : listed.getD i false = false := by
      simp [Array.getD, hil'] at h0 ⊢
      exact h0
    have hset : ∀ j, (listed.setIfInBounds i true).getD j false = (listed.getD j false || j == i) := by
      intro j
      by_cases e : i = j
      · subst e; simp [hil']
      · rw [getD_set_ne false e]; simp [Ne.symm e]
    have hr' : ∀ e, e ∈ o.after.toList → Region.binds .any e = true → listed.getD e.on false = true := fun e he hb => hr e (by simpa using he) hb
    obtain ⟨u, hu, heq⟩ := D.step (S := fun j => listed.getD j false) hc ho' hS hr'
    obtain ⟨u', hu', hwp⟩ := opG_sound hE hs ho hu
    cases hu'
    refine hwp _ Q fun a' w' hs' => ih _ a' w' (by simp [hsz]) ?_ ?_ ?_
    · intro j p hj hSj e he hb
      simp only [hset, Bool.or_eq_true, beq_iff_eq] at hSj ⊢
      rcases hSj with hSj | rfl
      · exact .inl (hc j p hj hSj e he hb)
      · rw [ho'] at hj; cases hj
        exact .inl (hr' e he hb)
    · have hlt : ((List.range ops.size).filter fun j => !(listed.setIfInBounds i true).getD j false).length < ((List.range ops.size).filter fun j => !listed.getD j false).length := by
        have e : ((List.range ops.size).filter fun j => !(listed.setIfInBounds i true).getD j false) = ((List.range ops.size).filter fun j => !listed.getD j false).filter fun j => !(j == i) := by
          rw [List.filter_filter]
          refine List.filter_congr fun j _ => ?_
          rw [hset, Bool.not_or, Bool.and_comm]
        rw [e, List.length_filter_lt_length_iff_exists]
        exact ⟨i, List.mem_filter.2 ⟨List.mem_range.2 hil, by simp only [hS, Bool.not_false]⟩, by simp⟩
      omega
    · have e : (fun j => (listed.setIfInBounds i true).getD j false) = fun j => listed.getD j false || j == i := funext hset
      rw [e]
      exact hs'.eqv heq
end

theorem drawn_world {B : Base} {nt : Nat} {st : St} {a : Act} {w : World} (h : Sim B nt st a w) (k : Nat) : Sim B nt st a { w with drawn := k } := by
  obtain ⟨R0, lv, loc, h⟩ := h
  have hk := h.kill (R' := R0) (w' := { w with drawn := k }) [] (by simp) (fun _ h => h) (fun _ h => .inl h) ⟨rfl, rfl, rfl, Nat.le_refl _, fun _ _ => rfl⟩ h.rlt (by simp)
  exact ⟨R0, _, loc, hk⟩
theorem mixed : P.follows .mixedOrders = true := by kernel_rfl

theorem draw_region {B : Base} {E : Env} (hE : Ok B E) {ops : Array Oper} {gs : List Nat} {R : Type} {K : St → Option R} {r : R} {Q : Exit → Act → World → Prop} (hQ : ∀ st' a' w', K st' = some r → Sim B E.nt st' a' w' → Q .normal a' w')
    {st : St} {a : Act} {w : World} (h : Sim B E.nt st a w) (hst : statOk ops ops.toList (befs ops.toList) = true) (hq : drawK E ops ops.toList gs (befs ops.toList) (ops.toList.zipIdx.map fun p => (p.2, p.1)) st [] K = some r) (id : Nat) : (Code.region id ops true).wp P Q a w := by
  obtain ⟨us, e1, e2, e3, e4⟩ := draw_run _ _ hq
  simp only [List.nil_append] at e2 e3 e4
  have D : Drawn E ops st us := by
    refine ⟨hst, e3, by simpa using e1, fun k o hk => ?_⟩
    obtain ⟨u, hu, ha⟩ := e2 k k o (by simp only [List.getElem?_map, List.getElem?_zipIdx, hk, Option.map_some, Nat.zero_add])
    exact ⟨u, hu, ha⟩
  refine wp_region_any mixed (D.all hE hQ e4 ops.size _ a _ (by simp) ?_ ?_ ?_)
  · intro j o hj hS
    by_cases hjs : j < ops.size <;> simp [hjs] at hS
  · exact Nat.le_trans (List.length_filter_le _ _) (by simp)
  · have e : doneSt st us (fun j => (Array.replicate ops.size false).getD j false) = st := by
      unfold doneSt
      have : us.filter (fun x => (Array.replicate ops.size false).getD x.1 false) = [] := by
        rw [List.filter_eq_nil_iff]
        intro x _ hS
        by_cases hjs : x.1 < ops.size <;> simp [hjs] at hS
      rw [this]; rfl
    rw [e]
    exact drawn_world h _
end Go.Proofs.Ytnfgfdeidkhdkaa.Eng
/- Et: The engine's soundness, eighteenth part: points at which what is not wanted any more is forgotten. -/
namespace Go.Proofs.Ytnfgfdeidkhdkaa.Eng
open Go.RowKit (Below)
set_option linter.unusedVariables false
set_option linter.unusedSimpArgs false

/-- a name for a row that is still nothing -/
theorem SimL.name {B : Base} {nt : Nat} {C : Cx} {st : St} {a : Act} (h : SimL B nt C st a) {x : Nat} (hx : look st.H x = none) (k : SK) :
    SimL B nt (C.add1 C.w x none) ⟨st.T, (x, some (.arr true k [])) :: st.H⟩ a := by
  have hlk : ∀ z, look ((x, some (.arr true k [])) :: st.H) z = if x = z then some (some (.arr true k [])) else look st.H z := fun z => look_cons ..
  have tr : Tr C (C.add1 C.w x none) (fun z => ∃ o, look st.H z = some o) := by
    refine ⟨fun _ _ => rfl, fun _ h => h, fun z ⟨o, ho⟩ hl => ?_⟩
    have hzx : z ≠ x := fun e => by rw [e, hx] at ho; cases ho
    exact ⟨hl.resolve_right hzx, by simp [Cx.add1, hzx]⟩
  have hkn : ∀ z o, look st.H z = some o → ∃ o, look ((x, some (.arr true k [])) :: st.H) z = some o := fun z o ho => by
    rw [hlk]; split
    · exact ⟨_, rfl⟩
    · exact ⟨o, ho⟩
  constructor
  · exact h.size
  · exact h.dfr
  · exact h.os
  · exact h.tape
  · exact h.output
  · exact h.grow
  · exact h.keep
  · exact h.rsub
  · exact h.rlt
  · exact h.rnew
  · intro z
    simp only [Cx.add1]
    rw [h.lv z, hlk]
    by_cases e : x = z
    · subst e; simp
    · rw [if_neg e]; simp [Ne.symm e]
  · intro t c hc
    obtain ⟨u, hu, hr⟩ := h.tm t c hc
    exact ⟨u, hu, valR_tr tr (fun z hz => h.nmT t c hc z hz) hr⟩
  · intro z b hb
    simp only at hb
    rw [hlk] at hb
    split at hb
    · rename_i e; subst e; cases hb
      refine ⟨by simp [blkR, Cx.add1], fun L hL => ?_⟩
      simp [Cx.add1] at hL
    · rename_i e
      obtain ⟨a1, a2⟩ := h.bl z b hb
      refine ⟨blkR_tr tr (by simp [Cx.add1, Ne.symm e]) (fun _ _ => rfl) (fun q hq => h.nmH z b hb q hq) a1, fun L hL => a2 L ?_⟩
      simpa [Cx.add1, Ne.symm e] using hL
  · intro y z L M hy hz hL hM hne
    simp only [Cx.add1] at hy hz hL hM
    by_cases e1 : y = x
    · rw [if_pos e1] at hL; cases hL
    · by_cases e2 : z = x
      · rw [if_pos e2] at hM; cases hM
      · rw [if_neg e1] at hL; rw [if_neg e2] at hM
        exact h.dj y z L M (hy.resolve_right e1) (hz.resolve_right e2) hL hM hne
  · intro t c hc z hz
    obtain ⟨o, ho⟩ := h.nmT t c hc z hz
    exact hkn z o ho
  · intro z b hb q hq
    simp only at hb
    rw [hlk] at hb
    split at hb
    · cases hb; simp [nB] at hq
    · obtain ⟨o, ho⟩ := h.nmH z b hb q hq
      exact hkn q o ho
  · exact h.pin

theorem thaw1_sound {B : Base} {nt : Nat} {st : St} {a : Act} {w : World} (h : Sim B nt st a w) (x : Nat × Option Nat × SK) : Sim B nt (thaw1 st x) a w := by
  obtain ⟨t, j, k⟩ := x
  cases j with
  | none =>
    simp only [thaw1]
    split
    · rename_i k' ht
      by_cases hk : k' = k
      · simp only [hk, decide_true, cond_true]
        split
        · rename_i hx
          obtain ⟨R0, lv, loc, h⟩ := h
          have h' := h.name hx k
          obtain ⟨v, hv, A, rfl⟩ := h.tm t _ ht
          have hlt : t < nt := by
            have := (Array.getElem?_eq_some_iff.1 hv).1
            rw [h.size] at this; exact this
          refine ⟨R0, _, _, { h' with tm := fun t' c' hc => ?_, nmT := fun t' c' hc y hy => ?_ }⟩
          · simp only [look_cons] at hc
            by_cases e : t = t'
            · subst e
              rw [if_pos rfl] at hc
              cases hc
              exact ⟨_, hv, ⟨_, _, _, rfl⟩, fun _ => by simp [Cx.add1]⟩
            · rw [if_neg e] at hc
              exact h'.tm t' c' hc
          · simp only [look_cons] at hc
            by_cases e : t = t'
            · rw [if_pos e] at hc
              cases hc
              simp only [n2, n1, n0, List.mem_singleton] at hy
              subst hy
              exact ⟨some (.arr true k []), by simp [look_cons]⟩
            · rw [if_neg e] at hc
              exact h'.nmT t' c' hc y hy
        · exact h
      · simp only [hk, decide_false, cond_false]
        exact h
    · exact h
  | some j =>
    simp only [thaw1]
    split
    · rename_i x ht
      split
      · rename_i t' cs hg
        split
        · rename_i k' hj
          by_cases hk : k' = k
          · simp only [hk, decide_true, cond_true]
            split
            · rename_i hx
              obtain ⟨R0, lv, loc, h⟩ := h
              have h' := h.name hx k
              have hlk := get_some.1 hg
              have hne : 24000 + 64 * t + j ≠ x := fun e => by rw [e, hlk] at hx; cases hx
              have hlk' : look ((24000 + 64 * t + j, some (Blk.arr true k [])) :: st.H) x = some (some (.cells t' cs)) := by
                rw [look_cons, if_neg hne]; exact hlk
              obtain ⟨⟨L, hL, cur, ct, hcur, hcs⟩, -⟩ := h'.bl x _ hlk'
              have h2 := h'.turn (w' := w) (b := .cells t' (cs.set j (.ref (24000 + 64 * t + j)))) hlk' hL rfl rfl rfl (Nat.le_refl _) (fun _ _ _ => rfl) ⟨L, hL, cur, ct, hcur, fun i u hu => ?_⟩ (fun z hz => ?_)
              · exact ⟨R0, _, _, h2⟩
              · by_cases e : j = i
                · subst e
                  have hjl := (List.getElem?_eq_some_iff.1 hj).1
                  rw [List.getElem?_set_self hjl] at hu
                  cases hu
                  obtain ⟨y, hy, hr⟩ := hcs j _ hj
                  obtain ⟨A, rfl⟩ := hr
                  exact ⟨_, hy, ⟨_, _, _, rfl⟩, fun _ => by simp [Cx.add1]⟩
                · rw [List.getElem?_set_ne e] at hu
                  exact hcs i u hu
              · obtain ⟨c, hc, hz⟩ := List.mem_flatMap.1 hz
                rcases List.mem_or_eq_of_mem_set hc with hc | rfl
                · exact h'.nmH x _ hlk' z (List.mem_flatMap.2 ⟨c, hc, hz⟩)
                · simp only [n0, List.mem_singleton] at hz
                  subst hz
                  exact ⟨some (.arr true k []), by simp [look_cons]⟩
            · exact h
          · simp only [hk, decide_false, cond_false]
            exact h
        · exact h
      · exact h
    · exact h
theorem thaw_sound {B : Base} {nt : Nat} {a : Act} {w : World} : ∀ (xs : List (Nat × Option Nat × SK)) {st : St}, Sim B nt st a w → Sim B nt (xs.foldl thaw1 st) a w
  | [], _, h => h
  | x :: xs, _, h => thaw_sound xs (thaw1_sound h x)

theorem ren_some : ∀ {xs : List Nat} {n x y : Nat}, ren n xs x = some y → ∃ i, y = n + i ∧ xs[i]? = some x
  | [], n, x, y, h => by simp [ren] at h
  | z :: xs, n, x, y, h => by
    simp only [ren] at h
    by_cases e : Nat.beq z x = true
    · rw [e, cond_true] at h
      cases h
      exact ⟨0, rfl, by rw [Nat.eq_of_beq_eq_true e]; rfl⟩
    · rw [Bool.eq_false_iff.2 e, cond_false] at h
      obtain ⟨i, h1, h2⟩ := ren_some h
      exact ⟨i + 1, by omega, by simpa using h2⟩
theorem srcs_nodup {st : St} : ∀ {ss : List (Nat × Option Nat)} {xs : List Nat}, srcs st ss = some xs → xs.Nodup
  | [], xs, h => by simp only [srcs, Option.some.injEq] at h; subst h; exact List.nodup_nil
  | a :: ss, xs, h => by
    simp only [srcs] at h
    split at h
    · exact srcs_nodup h
    · rename_i x hx
      split at h
      · cases h
      · rename_i ys hys
        by_cases hc : ys.contains x = true
        · rw [hc, cond_true] at h; cases h; exact srcs_nodup hys
        · rw [Bool.eq_false_iff.2 hc, cond_false] at h
          cases h
          exact List.nodup_cons.2 ⟨by simpa using hc, srcs_nodup hys⟩
theorem keepT_get {st : St} {xs : List Nat} : ∀ {ts : List Nat} {T : List (Nat × CV)}, keepT st xs ts = some T → ∀ t c, look T t = some c → ∃ c0, look st.T t = some c0 ∧ rnT xs c0 = some c
  | [], T, h, t, c, hc => by simp only [keepT, Option.some.injEq] at h; subst h; simp [look] at hc
  | u :: ts, T, h, t, c, hc => by
    simp only [keepT] at h
    split at h
    · exact keepT_get h t c hc
    · rename_i v hv
      split at h
      · cases h
      · rename_i v' hv'
        split at h
        · cases h
        · rename_i r hr
          cases h
          rw [look_cons] at hc
          split at hc
          · rename_i e; subst e; cases hc; exact ⟨v, hv, hv'⟩
          · exact keepT_get hr t c hc
theorem keepH_get {st : St} {xs : List Nat} : ∀ {ys : List Nat} {n : Nat} {H : Hp}, keepH st xs n ys = some H → ∀ m o, look H m = some o → ∃ i y, m = n + i ∧ ys[i]? = some y ∧ rnB xs (get st.H y) = some o
  | [], n, H, h, m, o, hm => by simp only [keepH, Option.some.injEq] at h; subst h; simp [look] at hm
  | y :: ys, n, H, h, m, o, hm => by
    simp only [keepH] at h
    split at h
    · cases h
    · rename_i b hb
      split at h
      · cases h
      · rename_i r hr
        cases h
        rw [look_cons] at hm
        split at hm
        · rename_i e; subst e; cases hm; exact ⟨0, y, rfl, rfl, hb⟩
        · obtain ⟨i, z, h1, h2, h3⟩ := keepH_get hr m o hm
          exact ⟨i + 1, z, by omega, by simpa using h2, h3⟩
theorem keepH_has {st : St} {xs : List Nat} : ∀ {ys : List Nat} {n : Nat} {H : Hp}, keepH st xs n ys = some H → ∀ i y, ys[i]? = some y → ∃ b b', look H (n + i) = some (some b') ∧ look st.H y = some (some b) ∧ rnB xs (some b) = some (some b')
  | [], n, H, h, i, y, hi => by simp at hi
  | z :: ys, n, H, h, i, y, hi => by
    simp only [keepH] at h
    split at h
    · cases h
    · rename_i o ho
      split at h
      · cases h
      · rename_i r hr
        cases h
        cases i with
        | zero =>
          simp only [List.getElem?_cons_zero, Option.some.injEq] at hi
          subst hi
          cases hg : get st.H z with
          | none => rw [hg] at ho; cases ho
          | some b =>
            rw [hg] at ho
            have : ∃ b', o = some b' := by
              cases b <;> simp only [rnB] at ho
              · cases ho; exact ⟨_, rfl⟩
              · split at ho
                · cases ho; exact ⟨_, rfl⟩
                · cases ho
            obtain ⟨b', rfl⟩ := this
            exact ⟨b, b', by simp [look_cons], get_some.1 hg, ho⟩
        | succ i =>
          obtain ⟨b, b', h1, h2, h3⟩ := keepH_has hr i y (by simpa using hi)
          refine ⟨b, b', ?_, h2, h3⟩
          rw [look_cons, if_neg (by omega), show n + (i + 1) = n + 1 + i by omega]
          exact h1

/-- what stands behind the new names -/
def renCx (C : Cx) (xs : List Nat) : Cx := ⟨C.w, C.R, fun m => ∃ i y, m = 8000 + i ∧ xs[i]? = some y ∧ C.lv y, fun m => if 8000 ≤ m then (xs[m - 8000]?).bind C.loc else none⟩
theorem renCx_at {C : Cx} {xs : List Nat} {x y : Nat} (h : ren 8000 xs x = some y) : ((renCx C xs).lv y → C.lv x) ∧ (renCx C xs).loc y = C.loc x := by
  obtain ⟨i, rfl, hi⟩ := ren_some h
  refine ⟨?_, ?_⟩
  · rintro ⟨j, z, e, hz, hl⟩
    obtain rfl : i = j := by omega
    rw [hi] at hz; cases hz; exact hl
  · simp only [renCx]
    rw [if_pos (by omega), Nat.add_sub_cancel_left, hi]; rfl
theorem rn_tr {C : Cx} {xs : List Nat} : Tr C (renCx C xs) (fun _ => False) := ⟨fun _ _ => rfl, fun _ h => h, fun _ h => h.elim⟩
theorem rn0_cell {C : Cx} {xs : List Nat} {c d : CV} (h : rn0 xs c = some d) {v : Value} (hv : cellR C c v) : cellR (renCx C xs) d v ∧ ∀ y, y ∈ n0 d → ∃ i z, y = 8000 + i ∧ xs[i]? = some z := by
  have triv : ∀ {c : CV}, n0 c = [] → cellR C c v → cellR (renCx C xs) c v ∧ ∀ y, y ∈ n0 c → ∃ i z, y = 8000 + i ∧ xs[i]? = some z := fun hn hv =>
    ⟨cellR_tr rn_tr (by rw [hn]; simp) hv, by rw [hn]; simp⟩
  by_cases hni : ∃ k, c = .nil k
  · obtain ⟨k, rfl⟩ := hni
    simp only [rn0, Option.some.injEq] at h
    subst h
    obtain ⟨A, rfl⟩ := hv
    exact ⟨⟨A, 0, rfl, Nat.le_refl 0, fun i u hu => by simp at hu⟩, fun y hy => by simp [n0] at hy⟩
  cases c <;> simp only [rn0, reduceCtorEq, Option.some.injEq] at h <;> try (first | (exact absurd ⟨_, rfl⟩ hni) | (subst h; exact triv rfl hv))
  case ref x =>
    split at h
    · rename_i y hy
      cases h
      obtain ⟨q1, q2⟩ := renCx_at (C := C) hy
      obtain ⟨i, hi, hi2⟩ := ren_some hy
      refine ⟨⟨hv.1, fun hl => ?_⟩, fun z hz => ?_⟩
      · rw [q2]; exact hv.2 (q1 hl)
      · simp only [n0, List.mem_singleton] at hz; exact ⟨i, x, hz.trans hi, hi2⟩
    · cases h
  case win x o l =>
    split at h
    · rename_i y hy
      cases h
      obtain ⟨q1, q2⟩ := renCx_at (C := C) hy
      obtain ⟨i, hi, hi2⟩ := ren_some hy
      refine ⟨⟨hv.1, fun hl => ?_⟩, fun z hz => ?_⟩
      · rw [q2]; exact hv.2 (q1 hl)
      · simp only [n0, List.mem_singleton] at hz; exact ⟨i, x, hz.trans hi, hi2⟩
    · cases h
  case ptr x o =>
    split at h
    · rename_i y hy
      cases h
      obtain ⟨q1, q2⟩ := renCx_at (C := C) hy
      obtain ⟨i, hi, hi2⟩ := ren_some hy
      refine ⟨⟨hv.1, fun hl => ?_⟩, fun z hz => ?_⟩
      · rw [q2]; exact hv.2 (q1 hl)
      · simp only [n0, List.mem_singleton] at hz; exact ⟨i, x, hz.trans hi, hi2⟩
    · cases h
  case pe x o l =>
    split at h
    · rename_i y hy
      cases h
      obtain ⟨q1, q2⟩ := renCx_at (C := C) hy
      obtain ⟨i, hi, hi2⟩ := ren_some hy
      refine ⟨⟨hv.1, fun hl => ?_⟩, fun z hz => ?_⟩
      · rw [q2]; exact hv.2 (q1 hl)
      · simp only [n0, List.mem_singleton] at hz; exact ⟨i, x, hz.trans hi, hi2⟩
    · cases h
  case agg cs => exact hv.elim
theorem rnC_rn0 {xs : List Nat} {c d : CV} (h : rnC xs c = some d) : rn0 xs c = some d := by cases c <;> first | exact h | (simp [rnC] at h)
theorem bvs_rn {C : Cx} {xs : List Nat} {f : CV → Option CV} (hf : ∀ c d, f c = some d → rn0 xs c = some d) : ∀ {cs ds : List CV} {vs : List Value}, bvs f cs = some ds → All2 (cellR C) cs vs →
    All2 (cellR (renCx C xs)) ds vs ∧ ∀ y, y ∈ ds.flatMap n0 → ∃ i z, y = 8000 + i ∧ xs[i]? = some z
  | [], ds, [], h, _ => by simp only [bvs, Option.some.injEq] at h; subst h; exact ⟨trivial, by simp⟩
  | c :: cs, ds, v :: vs, h, hv => by
    simp only [bvs] at h
    split at h
    · cases h
    · rename_i d hd
      split at h
      · cases h
      · rename_i ds' hds
        cases h
        obtain ⟨a1, a2⟩ := rn0_cell (hf _ _ hd) hv.1
        obtain ⟨b1, b2⟩ := bvs_rn hf hds hv.2
        refine ⟨⟨a1, b1⟩, fun y hy => ?_⟩
        rw [List.flatMap_cons, List.mem_append] at hy
        exact hy.elim (a2 y) (b2 y)
  | [], _, _ :: _, _, h => h.elim
  | _ :: _, _, [], _, h => h.elim
theorem bvs_get {f : CV → Option CV} : ∀ {cs ds : List CV}, bvs f cs = some ds → ∀ (j : Nat) u, ds[j]? = some u → ∃ u0, cs[j]? = some u0 ∧ f u0 = some u
  | [], ds, h, j, u, hj => by simp only [bvs, Option.some.injEq] at h; subst h; simp at hj
  | c :: cs, ds, h, j, u, hj => by
    simp only [bvs] at h
    split at h
    · cases h
    · rename_i d hd
      split at h
      · cases h
      · rename_i ds' hds
        cases h
        cases j with
        | zero => simp only [List.getElem?_cons_zero, Option.some.injEq] at hj; subst hj; exact ⟨c, rfl, hd⟩
        | succ j =>
          obtain ⟨u0, h1, h2⟩ := bvs_get hds j u (by simpa using hj)
          exact ⟨u0, by simpa using h1, h2⟩
theorem rnT_val {C : Cx} {xs : List Nat} {c d : CV} (h : rnT xs c = some d) {v : Value} (hv : valR C c v) : valR (renCx C xs) d v ∧ ∀ y, y ∈ n2 d → ∃ i z, y = 8000 + i ∧ xs[i]? = some z := by
  have key : ∀ c, c.isC = true → rn0 xs c = some d → cellR C c v → valR (renCx C xs) d v ∧ ∀ y, y ∈ n2 d → ∃ i z, y = 8000 + i ∧ xs[i]? = some z := by
    intro c hc h hv
    obtain ⟨a1, a2⟩ := rn0_cell h hv
    have hd : d.isC = true := by
      cases c <;> simp only [rn0, reduceCtorEq, Option.some.injEq] at h <;> first
        | (subst h; rfl)
        | (split at h
           · cases h; rfl
           · cases h)
        | (simp [CV.isC] at hc)
    refine ⟨cellR_val a1, fun y hy => a2 y ?_⟩
    rw [← isC_n1 hd]
    exact n1_of (isC_isA hd) hy
  cases c <;> simp only [rnT] at h <;> try (exact key _ rfl h hv)
  case agg cs =>
    simp only [rn0] at h
    split at h
    · rename_i ds hds
      cases h
      obtain ⟨vs, rfl, ha⟩ := hv
      obtain ⟨b1, b2⟩ := bvs_rn (fun _ _ => rnC_rn0) hds ha
      exact ⟨⟨vs, rfl, b1⟩, b2⟩
    · cases h
  case tup cs => simp [rn0] at h
  case fn f cs =>
    by_cases hn : cs.all nl1 = true
    · rw [hn, cond_true] at h
      cases h
      have : n2 (.fn f cs) = [] := nl2_n2 (by simpa [nl2] using hn)
      exact ⟨valR_tr rn_tr (by rw [this]; simp) hv, by rw [this]; simp⟩
    · rw [Bool.eq_false_iff.2 hn] at h; cases h

theorem norm_sound {B : Base} {nt : Nat} {st : St} {a : Act} {w : World} (h : Sim B nt st a w) {an : Ann} {R : Type} {K : St → Option R} {r : R} (hq : norm an st K = some r) : ∃ st', K st' = some r ∧ Sim B nt st' a w := by
  unfold norm at hq
  split at hq
  · cases hq
  · rename_i xs hxs
    split at hq
    · cases hq
    · rename_i T hT
      split at hq
      · cases hq
      · rename_i H hH
        refine ⟨_, hq, ?_⟩
        have h1 := thaw_sound an.thaw h
        generalize an.thaw.foldl thaw1 st = s at h1 hT hH hxs
        obtain ⟨R0, lv, loc, h1⟩ := h1
        have hnd := srcs_nodup hxs
        refine ⟨R0, _, _, (?_ : SimL B nt (renCx ⟨w, R0, lv, loc⟩ xs) ⟨T, H⟩ a)⟩
        have hkn : ∀ y, (∃ i z, y = 8000 + i ∧ xs[i]? = some z) → ∃ o, look H y = some o := by
          rintro y ⟨i, z, rfl, hz⟩
          obtain ⟨b, b', q1, -, -⟩ := keepH_has hH i z hz
          exact ⟨_, q1⟩
        have hblk : ∀ m b', look H m = some (some b') → ∃ i x b, m = 8000 + i ∧ xs[i]? = some x ∧ look s.H x = some (some b) ∧ rnB xs (some b) = some (some b') := by
          intro m b' hm
          obtain ⟨i, x, e1, e2, e3⟩ := keepH_get hH m _ hm
          cases hg : get s.H x with
          | none => rw [hg] at e3; cases e3
          | some b => rw [hg] at e3; exact ⟨i, x, b, e1, e2, get_some.1 hg, e3⟩
        have hloc : ∀ i x, xs[i]? = some x → (renCx ⟨w, R0, lv, loc⟩ xs).loc (8000 + i) = loc x := fun i x hi => by
          simp only [renCx]
          rw [if_pos (by omega), Nat.add_sub_cancel_left, hi]; rfl
        constructor
        · exact h1.size
        · exact h1.dfr
        · exact h1.os
        · exact h1.tape
        · exact h1.output
        · exact h1.grow
        · exact h1.keep
        · exact h1.rsub
        · exact h1.rlt
        · exact h1.rnew
        · intro m
          constructor
          · rintro ⟨i, y, rfl, hy, hl⟩
            obtain ⟨b, b', q1, -, -⟩ := keepH_has hH i y hy
            exact ⟨b', q1⟩
          · rintro ⟨b', hb'⟩
            obtain ⟨i, x, b, e1, e2, e3, -⟩ := hblk m b' hb'
            exact ⟨i, x, e1, e2, (h1.lv x).2 ⟨b, e3⟩⟩
        · intro t c hc
          obtain ⟨c0, q1, q2⟩ := keepT_get hT t c hc
          obtain ⟨v, hv, hr⟩ := h1.tm t c0 q1
          exact ⟨v, hv, (rnT_val q2 hr).1⟩
        · intro m b' hb'
          obtain ⟨i, x, b, rfl, e2, e3, e4⟩ := hblk m b' hb'
          obtain ⟨a1, a2⟩ := h1.bl x b e3
          have hl := hloc i x e2
          refine ⟨?_, fun L hL => a2 L (by rw [hl] at hL; exact hL)⟩
          cases b with
          | arr ap k l =>
            simp only [rnB, Option.some.injEq] at e4
            subst e4
            unfold blkR
            rw [hl]
            exact a1
          | cells t cs =>
            simp only [rnB] at e4
            split at e4
            · rename_i ds hds
              simp only [Option.some.injEq] at e4
              subst e4
              obtain ⟨L, hL, cur, ct, hcur, hcs⟩ := a1
              refine ⟨L, by rw [hl]; exact hL, cur, ct, hcur, fun j u hu => ?_⟩
              obtain ⟨u0, g1, g2⟩ := bvs_get hds j u hu
              obtain ⟨y, hy, hr⟩ := hcs j u0 g1
              exact ⟨y, hy, (rn0_cell g2 hr).1⟩
            · cases e4
        · rintro y z L M ⟨i, x, rfl, hx, hlx⟩ ⟨j, x', rfl, hx', hlx'⟩ hL hM hne
          rw [hloc i x hx] at hL
          rw [hloc j x' hx'] at hM
          refine h1.dj x x' L M hlx hlx' hL hM fun e => hne ?_
          subst e
          have : i = j := (List.getElem?_inj (List.getElem?_eq_some_iff.1 hx).1 hnd).1 (hx.trans hx'.symm)
          rw [this]
        · intro t c hc y hy
          obtain ⟨c0, q1, q2⟩ := keepT_get hT t c hc
          obtain ⟨v, hv, hr⟩ := h1.tm t c0 q1
          exact hkn y ((rnT_val q2 hr).2 y hy)
        · intro m b' hb' y hy
          obtain ⟨i, x, b, rfl, e2, e3, e4⟩ := hblk m b' hb'
          cases b with
          | arr ap k l =>
            simp only [rnB, Option.some.injEq] at e4
            subst e4
            simp [nB] at hy
          | cells t cs =>
            simp only [rnB] at e4
            split at e4
            · rename_i ds hds
              simp only [Option.some.injEq] at e4
              subst e4
              obtain ⟨L, hL, cur, ct, hcur, hcs⟩ := (h1.bl x _ e3).1
              obtain ⟨u, hu, hy⟩ := List.mem_flatMap.1 hy
              obtain ⟨j, hj⟩ := List.mem_iff_getElem?.1 hu
              obtain ⟨u0, g1, g2⟩ := bvs_get hds j u hj
              obtain ⟨v, hv, hr⟩ := hcs j u0 g1
              exact hkn y ((rn0_cell g2 hr).2 y hy)
            · cases e4
        · exact h1.pin
end Go.Proofs.Ytnfgfdeidkhdkaa.Eng
/- Eu: The engine's soundness, nineteenth part: code. -/
namespace Go.Proofs.Ytnfgfdeidkhdkaa.Eng
open Go.RowKit (Below)
set_option linter.unusedVariables false
set_option linter.unusedSimpArgs false

theorem regK_sound {B : Base} {E : Env} (hE : Ok B E) {ops : Array Oper} {draw : Bool} {R : Type} {K : St → Option R} {r : R} {Q : Exit → Act → World → Prop} (hQ : ∀ st' a' w', K st' = some r → Sim B E.nt st' a' w' → Q .normal a' w')
    {st : St} {a : Act} {w : World} (h : Sim B E.nt st a w) (hq : regK E ops draw st K = some r) (id : Nat) : (Code.region id ops draw).wp P Q a w := by
  cases draw with
  | false => exact seq_region hE hQ h hq id
  | true =>
    simp only [regK] at hq
    by_cases hs : statOk ops ops.toList (befs ops.toList) = true
    · rw [hs, cond_true] at hq
      exact draw_region hE hQ h hs hq id
    · rw [Bool.eq_false_iff.2 hs] at hq; cases hq

theorem normL_sound {B : Base} {E : Env} {st : St} {a : Act} {w : World} (h : Sim B E.nt st a w) {c : Code} {R : Type} {K : St → Option R} {r : R} (hq : normL E c st K = some r) : ∃ st', K st' = some r ∧ Sim B E.nt st' a w := by
  unfold normL at hq
  split at hq
  · exact ⟨st, hq, h⟩
  · exact norm_sound h hq
theorem exK_sound {B : Base} {E : Env} (hE : Ok B E) {R : Type} {r : R} : ∀ (c : Code) {kn : St → Option R} {ke : Nat → St → Option R} {kr : St → Option R} {st : St} {a : Act} {w : World} {Q : Exit → Act → World → Prop},
    (∀ st' a' w', kn st' = some r → Sim B E.nt st' a' w' → Q .normal a' w') → (∀ i st' a' w', ke i st' = some r → Sim B E.nt st' a' w' → Q (.exit i) a' w') → (∀ st' a' w', kr st' = some r → Sim B E.nt st' a' w' → Q .ret a' w') →
    Sim B E.nt st a w → exK E c kn ke kr st = some r → c.wp P Q a w := by
  intro c
  induction c with
  | skip =>
    intro kn ke kr st a w Q hn he hr h hq
    exact wp_skip (hn st a w hq h)
  | region id ops draw =>
    intro kn ke kr st a w Q hn he hr h hq
    simp only [exK] at hq
    split at hq
    · exact regK_sound hE hn h hq id
    · obtain ⟨st', hq, h'⟩ := norm_sound h hq
      exact regK_sound hE hn h' hq id
  | seq x y ihx ihy =>
    intro kn ke kr st a w Q hn he hr h hq
    simp only [exK] at hq
    exact wp_seq (ihx (kn := fun st => exK E y kn ke kr st) (fun st' a' w' hk hs => ihy hn he hr hs hk) he hr h hq)
  | cond c x y ihx ihy =>
    intro kn ke kr st a w Q hn he hr h hq
    simp only [exK] at hq
    split at hq
    · rename_i t ht
      obtain ⟨R0, lv, loc, h'⟩ := h
      have hv : a.eval c = .bool t := (ev_sound h' ht).1
      refine wp_cond hv ?_
      cases t with
      | true => exact ihx hn he hr ⟨R0, lv, loc, h'⟩ hq
      | false => exact ihy hn he hr ⟨R0, lv, loc, h'⟩ hq
    · cases hq
  | block id c ih =>
    intro kn ke kr st a w Q hn he hr h hq
    simp only [exK] at hq
    refine wp_block (ih (ke := fun i st => bif Nat.beq i id then kn st else ke i st) (fun st' a' w' hk hs => hn st' a' w' hk hs) (fun i st' a' w' hk hs => ?_) (fun st' a' w' hk hs => hr st' a' w' hk hs) h hq)
    simp only [Exit.inBlock]
    by_cases e : i = id
    · subst e
      have : Nat.beq i i = true := Nat.beq_refl i
      rw [this, cond_true] at hk
      rw [if_pos rfl]
      exact hn st' a' w' hk hs
    · have : Nat.beq i id = false := Bool.eq_false_iff.2 fun e' => e (Nat.eq_of_beq_eq_true e')
      rw [this, cond_false] at hk
      rw [if_neg e]
      exact he i st' a' w' hk hs
  | loop c ih =>
    intro kn ke kr st a w Q hn he hr h hq
    simp only [exK] at hq
    refine wp_loop_rounds E.fuel ?_
    revert hq h
    generalize E.fuel = n
    induction n generalizing st a w with
    | zero => intro h hq; cases hq
    | succ n ihn =>
      intro h hq
      simp only [loopK] at hq
      rw [rounds_succ]
      obtain ⟨st1, hq, h⟩ := normL_sound h hq
      exact ih (kn := loopK (normL E c) (fun again st => exK E c again ke kr st) n) (fun st' a' w' hk hs => ihn hs hk) he hr h hq
  | exit id =>
    intro kn ke kr st a w Q hn he hr h hq
    exact wp_exit (he id st a w hq h)
  | scope c ih =>
    intro kn ke kr st a w Q hn he hr h hq
    exact wp_scope_straight (ih (Q := Exit.noGoto Q) hn he hr h hq)
  | label l =>
    intro kn ke kr st a w Q hn he hr h hq
    exact wp_label (hn st a w hq h)
  | ret =>
    intro kn ke kr st a w Q hn he hr h hq
    exact wp_ret (hr st a w hq h)
  | rangeFunc f ps x y _ _ => intro kn ke kr st a w Q hn he hr h hq; cases hq
  | goto l => intro kn ke kr st a w Q hn he hr h hq; cases hq
  | refuse why => intro kn ke kr st a w Q hn he hr h hq; cases hq

/-! ### a function's begin -/
theorem look_part : ∀ (vs : List CV) (i t : Nat), look (parT i vs) t = if i ≤ t then vs[t - i]? else none
  | [], i, t => by simp [parT, look]
  | v :: vs, i, t => by
    simp only [parT]
    rw [look_cons, look_part vs (i + 1) t]
    by_cases e : i = t
    · subst e; simp
    · rw [if_neg e]
      by_cases h : i + 1 ≤ t
      · rw [if_pos h, if_pos (by omega), show t - i = (t - (i + 1)) + 1 by omega, List.getElem?_cons_succ]
      · rw [if_neg h, if_neg (by omega)]
theorem byV_names {w : World} {R : Nat → Prop} {C : Cx} (hw : C.w = w) (hR : ∀ b, R b → C.R b) (hl : ∀ x, ¬ C.lv x) {c : CV} {v : Value} (h : valR (byV w R) c v) : valR C c v := by
  subst hw
  exact valR_tr (C := byV C.w R) (D := C) (N := fun _ => True) ⟨fun _ _ => rfl, hR, fun x _ hx => (hl x hx).elim⟩ (fun _ _ => trivial) h
/-- arguments name no block -/
def noNames (args : List CV) : Bool := args.all fun c => (n2 c).isEmpty
theorem begin_sound {w : World} {R : Nat → Prop} (hR : ∀ b, R b → b < w.heap.size) {args : List CV} {vs : Array Value} (ha : All2 (valR (byV w R)) args vs.toList) (hn : noNames args = true) (nt : Nat) (hle : vs.size ≤ nt) :
    SimL ⟨w, R, fun _ => False, none⟩ nt ⟨w, R, fun _ => False, fun _ => none⟩ ⟨parT 0 args, []⟩ { tmps := vs ++ Array.replicate (nt - vs.size) undef, defers := [] } := by
  have hlen := ha.length
  constructor
  · simp; omega
  · rfl
  · rfl
  · rfl
  · rfl
  · exact Nat.le_refl _
  · exact fun _ _ _ => rfl
  · exact fun _ h => h
  · exact hR
  · exact fun _ h => .inl h
  · intro x; simp [look]
  · intro t c hc
    simp only [look_part, Nat.zero_le, if_true, Nat.sub_zero] at hc
    obtain ⟨v, hv, hr⟩ := ha.get hc
    have hv' : vs[t]? = some v := by simpa using hv
    have hlt := (Array.getElem?_eq_some_iff.1 hv').1
    exact ⟨v, by rw [Array.getElem?_append_left hlt]; exact hv', hr⟩
  · intro x b hb; simp [look] at hb
  · intro x y L M hx; exact hx.elim
  · intro t c hc x hx
    simp only [look_part, Nat.zero_le, if_true, Nat.sub_zero] at hc
    have := List.all_eq_true.1 hn c (List.mem_of_getElem? hc)
    simp only [List.isEmpty_iff] at this
    rw [this] at hx; simp at hx
  · intro y b hb; simp [look] at hb
  · intro v hv; cases hv

/-! ### a function's end -/
def readR (tmps : Array Value) : ResultVar → Sem Value
  | .tmp t => pure (tmps.getD t undef)
  | .cell a t => do loadVar t (← asAddr (tmps.getD a undef))
theorem resOf_sound {B : Base} {nt : Nat} {C : Cx} {st : St} {a : Act} (h : SimL B nt C st a) {rv : ResultVar} {c : CV} (hc : resOf st rv = some c) : ∃ v, (readR a.tmps rv).run P C.w = .ok v C.w ∧ valR C c v ∧ (∀ y, y ∈ n2 c → ∃ o, look st.H y = some o) := by
  cases rv with
  | tmp t =>
    obtain ⟨v, hv, hr⟩ := h.tm t c hc
    refine ⟨v, ?_, hr, h.nmT t c hc⟩
    have : a.tmps.getD t undef = v := by simp [Array.getD_eq_getD_getElem?, hv]
    simp [readR, this]
  | cell p t =>
    simp only [resOf] at hc
    split at hc
    · rename_i q hq
      obtain ⟨v, hv, hr⟩ := h.tm p q hq
      obtain ⟨c', hk, u, hu, hr', hn⟩ := loadK_sound h hr (h.nmT p q hq) hc
      cases hk
      refine ⟨u, ?_, hr', hn⟩
      have : a.tmps.getD p undef = v := by simp [Array.getD_eq_getD_getElem?, hv]
      have hs : ∀ {x : Value} {w' : World}, (Instr.loadAt t v).run P C.w = .ok x w' → (do loadVar t (← asAddr v) : Sem Value).run P C.w = .ok x w' := by
        intro x w' hx
        cases v with
        | pointer ad =>
          cases ad with
          | none => simp [Instr.loadAt, Instr.sureAddr] at hx
          | some ad => simpa [Instr.loadAt, Instr.sureAddr, asAddr] using hx
        | _ => simp [Instr.loadAt, Instr.sureAddr] at hx
      simp only [readR, this]
      exact hs hu
    · cases hc
theorem ress_sound {B : Base} {nt : Nat} {C : Cx} {st : St} {a : Act} (h : SimL B nt C st a) : ∀ {rs : List ResultVar} {cs : List CV}, ress st rs = some cs → ∃ vs : List Value, (rs.mapM (readR a.tmps)).run P C.w = .ok vs C.w ∧ All2 (valR C) cs vs ∧ ∀ c, c ∈ cs → ∀ y, y ∈ n2 c → ∃ o, look st.H y = some o
  | [], cs, hc => by simp only [ress, Option.some.injEq] at hc; subst hc; exact ⟨[], by simp, trivial, by simp⟩
  | rv :: rs, cs, hc => by
    simp only [ress] at hc
    split at hc
    · cases hc
    · rename_i c hc'
      split at hc
      · cases hc
      · rename_i cs' hcs
        cases hc
        obtain ⟨v, hv, hr, hn⟩ := resOf_sound h hc'
        obtain ⟨vs, hvs, hrs, hns⟩ := ress_sound h hcs
        refine ⟨v :: vs, by simp [List.mapM_cons, hv, hvs], ⟨hr, hrs⟩, fun d hd => ?_⟩
        rcases List.mem_cons.1 hd with rfl | hd
        · exact hn
        · exact hns d hd
theorem results_run {fn : Func} {tmps : Array Value} {w : World} {vs : List Value} (h : (fn.results.toList.mapM (readR tmps)).run P w = .ok vs w) : (results fn tmps).run P w = .ok (if h : vs.length = 1 then vs[0] else .tuple vs.toArray) w := by
  have e : fn.results.mapM (readR tmps) = List.toArray <$> fn.results.toList.mapM (readR tmps) := Array.mapM_eq_mapM_toList
  have e2 : (results fn tmps) = (do let vs ← fn.results.mapM (readR tmps); pure (if h : vs.size = 1 then vs[0] else .tuple vs)) := by
    unfold results
    congr 1
  rw [e2, e]
  simp [h]
end Go.Proofs.Ytnfgfdeidkhdkaa.Eng
/- Ev: The engine's soundness, last part: functions. -/
namespace Go.Proofs.Ytnfgfdeidkhdkaa.Eng
open Go.RowKit (Below)
set_option linter.unusedVariables false
set_option linter.unusedSimpArgs false

/-! ### handed back as new memory -/
structure OutR (C : Cx) (x : Nat) (ns : List (Option Nat)) (seen seen' : List Nat) (bs : List Blk) (q : Cx → Prop) (m : List Nat) : Prop where
  len : ns.length = bs.length
  rel : ∀ D : Cx, D.w = C.w → (∀ (i : Nat) (o : Option Nat), ns[i]? = some o → D.loc (x + i) = o.bind C.loc) → q D
  nm : ∀ y, y ∈ m → x ≤ y ∧ y < x + ns.length
  bl : ∀ (i : Nat) (b : Blk), bs[i]? = some b → nB b = [] ∧ ∀ D : Cx, D.w = C.w → D.loc (x + i) = ((ns[i]?).join).bind C.loc → blkR D (x + i) b
  sn : ∀ y, y ∈ seen' ↔ y ∈ seen ∨ some y ∈ ns
  new : ∀ y, some y ∈ ns → ¬ y ∈ seen ∧ C.lv y
  inj : ∀ (i j y : Nat), ns[i]? = some (some y) → ns[j]? = some (some y) → i = j
theorem OutR.none {C : Cx} {x : Nat} {seen : List Nat} {rel : Cx → Prop} (h : ∀ D : Cx, rel D) : OutR C x [] seen seen [] rel [] :=
  ⟨rfl, fun D _ _ => h D, by simp, by simp, by simp, by simp, by simp⟩
theorem OutR.append {C : Cx} {x : Nat} {n1 n2 : List (Option Nat)} {s s' s'' : List Nat} {b1 b2 : List Blk} {r1 r2 : Cx → Prop} {m1 m2 : List Nat} (h1 : OutR C x n1 s s' b1 r1 m1) (h2 : OutR C (x + b1.length) n2 s' s'' b2 r2 m2) :
    OutR C x (n1 ++ n2) s s'' (b1 ++ b2) (fun D => r1 D ∧ r2 D) (m1 ++ m2) := by
  have e := h1.len
  constructor
  · simp [h1.len, h2.len]
  · intro D hw hl
    refine ⟨h1.rel D hw fun i o hi => hl i o ?_, h2.rel D hw fun i o hi => ?_⟩
    · rw [List.getElem?_append_left (List.getElem?_eq_some_iff.1 hi).1]; exact hi
    · have := hl (n1.length + i) o (by rw [List.getElem?_append_right (by omega), Nat.add_sub_cancel_left]; exact hi)
      rw [← this]; congr 1; omega
  · intro y hy
    rw [List.length_append]
    rcases List.mem_append.1 hy with hy | hy
    · have := h1.nm y hy; omega
    · have := h2.nm y hy; omega
  · intro i b hb
    by_cases hi : i < b1.length
    · rw [List.getElem?_append_left hi] at hb
      obtain ⟨q1, q2⟩ := h1.bl i b hb
      refine ⟨q1, fun D hw hl => q2 D hw ?_⟩
      rw [List.getElem?_append_left (by omega)] at hl; exact hl
    · rw [List.getElem?_append_right (by omega)] at hb
      obtain ⟨q1, q2⟩ := h2.bl _ b hb
      refine ⟨q1, fun D hw hl => ?_⟩
      have := q2 D hw (by
        rw [List.getElem?_append_right (by omega), e] at hl
        rw [show x + b1.length + (i - b1.length) = x + i by omega]; exact hl)
      rwa [show x + b1.length + (i - b1.length) = x + i by omega] at this
  · intro y
    rw [h2.sn, h1.sn, List.mem_append, or_assoc]
  · intro y hy
    rcases List.mem_append.1 hy with hy | hy
    · exact h1.new y hy
    · obtain ⟨q1, q2⟩ := h2.new y hy
      exact ⟨fun h => q1 ((h1.sn y).2 (.inl h)), q2⟩
  · intro i j y hi hj
    have no : ∀ {p q : Nat}, n1[p]? = some (some y) → n2[q]? = some (some y) → False := fun hp hq =>
      (h2.new y (List.mem_of_getElem? hq)).1 ((h1.sn y).2 (.inr (List.mem_of_getElem? hp)))
    by_cases h1' : i < n1.length
    · rw [List.getElem?_append_left h1'] at hi
      by_cases h2' : j < n1.length
      · rw [List.getElem?_append_left h2'] at hj
        exact h1.inj i j y hi hj
      · rw [List.getElem?_append_right (by omega)] at hj
        exact (no hi hj).elim
    · rw [List.getElem?_append_right (by omega)] at hi
      by_cases h2' : j < n1.length
      · rw [List.getElem?_append_left h2'] at hj
        exact (no hj hi).elim
      · rw [List.getElem?_append_right (by omega)] at hj
        have := h2.inj _ _ y hi hj
        omega
theorem OutR.imp {C : Cx} {x : Nat} {n1 : List (Option Nat)} {s s' : List Nat} {b1 : List Blk} {r1 r2 : Cx → Prop} {m1 : List Nat} (h : OutR C x n1 s s' b1 r1 m1) (hr : ∀ D, r1 D → r2 D) : OutR C x n1 s s' b1 r2 m1 :=
  { h with rel := fun D hw hl => hr D (h.rel D hw hl) }

theorem plain_bv {k : SK} (hk : k.plain = true) {e : k.T} {u : CV} (hu : u ∈ k.cells e) {w w' : World} {R R' : Nat → Prop} {y : Value} (h : bvR w R u y) : bvR w' R' u y := by
  cases k <;> simp only [SK.plain, Bool.false_eq_true] at hk <;> simp only [SK.cells, List.mem_cons, List.not_mem_nil, or_false] at hu
  case int => subst hu; exact h
  case eno => subst hu; exact h
  case bool => subst hu; exact h
  case item => rcases hu with rfl | rfl <;> exact h

theorem out0_sound {B : Base} {nt : Nat} {C : Cx} {st : St} {a : Act} (h : SimL B nt C st a) {x : Nat} {seen seen' : List Nat} {c d : CV} {v : Value} (ho : out0 st.H seen c = some (d, seen')) (hv : cellR C c v) :
    ∃ ns, OutR C x ns seen seen' (own0 x d).2 (fun D => cellR D (own0 x d).1 v) (n0 (own0 x d).1) := by
  unfold out0 at ho
  split at ho
  · rename_i k
    by_cases hk : k.plain = true
    · simp only [hk, cond_true] at ho
      cases ho
      obtain ⟨A, rfl⟩ := hv
      refine ⟨[none], ⟨rfl, fun D hw hl => ?_, fun y hy => ?_, fun i b hb => ?_, by simp, by simp, fun i j y hi hj => ?_⟩⟩
      · have := hl 0 none rfl
        simp only [own0, cellR]
        refine ⟨⟨_, _, _, rfl⟩, fun _ => ?_⟩
        rw [show D.loc x = none from this]
        exact ⟨A, rfl⟩
      · simp only [own0, n0, List.mem_singleton] at hy
        subst hy; simp
      · cases i with
        | zero =>
          simp only [own0, List.getElem?_cons_zero, Option.some.injEq] at hb
          subst hb
          refine ⟨rfl, fun D hw hl => ?_⟩
          simp only [blkR]
          rw [show D.loc (x + 0) = none from hl]
          trivial
        | succ i => simp [own0] at hb
      · cases i <;> simp at hi
    · simp only [Bool.eq_false_iff.2 hk, cond_false] at ho; cases ho
  · rename_i y
    by_cases hs : seen.contains y = true
    · simp only [hs, cond_true] at ho; cases ho
    · simp only [Bool.eq_false_iff.2 hs, cond_false] at ho
      split at ho
      · rename_i ap k l hg
        by_cases hk : k.plain = true
        · simp only [hk, cond_true] at ho
          cases ho
          have hlk := get_some.1 hg
          have hlv : C.lv y := (h.lv y).2 ⟨_, hlk⟩
          have hv2 := hv.2 hlv
          have hbl := (h.bl y _ hlk).1
          refine ⟨[some y], ⟨rfl, fun D hw hl => ?_, fun z hz => ?_, fun i b hb => ?_, fun z => ?_, fun z hz => ?_, fun i j z hi hj => ?_⟩⟩
          · have := hl 0 (some y) rfl
            simp only [own0, cellR]
            refine ⟨hv.1, fun _ => ?_⟩
            rw [show D.loc x = C.loc y from this]
            exact hv2
          · simp only [own0, n0, List.mem_singleton] at hz
            subst hz; simp
          · cases i with
            | zero =>
              simp only [own0, List.getElem?_cons_zero, Option.some.injEq] at hb
              subst hb
              refine ⟨rfl, fun D hw hl => ?_⟩
              have hl' : D.loc (x + 0) = C.loc y := hl
              simp only [blkR] at hbl ⊢
              rw [hl']
              cases hL : C.loc y with
              | none => rw [hL] at hbl; exact hbl
              | some L =>
                rw [hL] at hbl
                obtain ⟨b1, b2, b3, b4, cur, b5, b6, b7⟩ := hbl
                refine ⟨b1, b2, b3, b4, cur, by rw [hw]; exact b5, fun hh => (by cases hh), fun i u hu => ?_⟩
                obtain ⟨z, hz, hr⟩ := b7 i u hu
                obtain ⟨e, -, he⟩ := List.mem_flatMap.1 (List.mem_of_getElem? hu)
                exact ⟨z, hz, plain_bv hk he hr⟩
            | succ i => simp [own0] at hb
          · simp only [List.mem_cons, List.mem_singleton, Option.some.injEq]
            constructor
            · rintro (rfl | h)
              · exact .inr (.inl rfl)
              · exact .inl h
            · rintro (h | h | h)
              · exact .inr h
              · exact .inl h
              · simp at h
          · simp only [List.mem_singleton, Option.some.injEq] at hz
            subst hz
            exact ⟨by simpa using hs, hlv⟩
          · cases i <;> cases j <;> simp at hi hj
            rfl
        · simp only [Bool.eq_false_iff.2 hk, cond_false] at ho; cases ho
      · cases ho
  · cases ho; exact ⟨[], OutR.none fun D => hv⟩
  · cases ho; exact ⟨[], OutR.none fun D => hv⟩
  · cases ho; exact ⟨[], OutR.none fun D => hv⟩
  · cases ho
theorem outs_sound {C : Cx} {f : List Nat → CV → Option (CV × List Nat)} {own : Nat → CV → CV × List Blk} {rel : Cx → CV → Value → Prop} {nm : CV → List Nat}
    (hf : ∀ (x : Nat) (seen seen' : List Nat) (c d : CV) (v : Value), f seen c = some (d, seen') → rel C c v → ∃ ns, OutR C x ns seen seen' (own x d).2 (fun D => rel D (own x d).1 v) (nm (own x d).1)) :
    ∀ (cs : List CV) (x : Nat) (seen seen' : List Nat) (ds : List CV) (vs : List Value), outs f seen cs = some (ds, seen') → All2 (rel C) cs vs →
      ∃ ns, OutR C x ns seen seen' (owns own x ds).2 (fun D => All2 (rel D) (owns own x ds).1 vs) ((owns own x ds).1.flatMap nm)
  | [], x, seen, seen', ds, [], h, _ => by
    simp only [outs, Option.some.injEq, Prod.mk.injEq] at h
    obtain ⟨rfl, rfl⟩ := h
    exact ⟨[], OutR.none fun D => trivial⟩
  | c :: cs, x, seen, seen', ds, v :: vs, h, hv => by
    simp only [outs] at h
    split at h
    · cases h
    · rename_i d s1 hd
      split at h
      · cases h
      · rename_i ds' s2 hds
        cases h
        obtain ⟨n1, h1⟩ := hf x seen s1 c d v hd hv.1
        obtain ⟨n2, h2⟩ := outs_sound hf cs (x + (own x d).2.length) s1 _ ds' vs hds hv.2
        exact ⟨n1 ++ n2, (h1.append h2).imp fun D h => h⟩
  | [], _, _, _, _, _ :: _, _, h => h.elim
  | _ :: _, _, _, _, _, [], _, h => h.elim
theorem own1_not {x : Nat} {d : CV} (h : ∀ cs, d ≠ .agg cs) : own1 x d = own0 x d := by
  cases d <;> first | rfl | exact absurd rfl (h _)
theorem own2_not {x : Nat} {d : CV} (h : ∀ cs, d ≠ .tup cs) (h2 : (own1 x d).1.isA = true) : own2 x d = own1 x d := by
  unfold own2
  split
  · exact absurd rfl (h _)
  · simp [own1, own0, CV.isA] at h2
  · rfl
theorem out0_form {H : Hp} {seen seen' : List Nat} {c d : CV} (h : out0 H seen c = some (d, seen')) : c.isC = true ∧ (∀ cs, d ≠ .agg cs) ∧ (∀ cs, d ≠ .tup cs) ∧ ∀ x, (own0 x d).1.isC = true := by
  cases c <;> simp only [out0, reduceCtorEq] at h
  case nil k =>
    by_cases hk : k.plain = true
    · rw [hk, cond_true] at h; cases h; exact ⟨rfl, by simp, by simp, fun _ => rfl⟩
    · rw [Bool.eq_false_iff.2 hk] at h; cases h
  case ref y =>
    by_cases hs : seen.contains y = true
    · rw [hs] at h; cases h
    · rw [Bool.eq_false_iff.2 hs, cond_false] at h
      split at h
      · rename_i ap k l hg
        by_cases hk : k.plain = true
        · rw [hk, cond_true] at h; cases h; exact ⟨rfl, by simp, by simp, fun _ => rfl⟩
        · rw [Bool.eq_false_iff.2 hk] at h; cases h
      · cases h
  all_goals (cases h; exact ⟨rfl, by simp, by simp, fun _ => rfl⟩)
theorem out1_sound {B : Base} {nt : Nat} {C : Cx} {st : St} {a : Act} (h : SimL B nt C st a) {x : Nat} {seen seen' : List Nat} {c d : CV} {v : Value} (ho : out1 st.H seen c = some (d, seen')) (hv : aggR C c v) :
    ∃ ns, OutR C x ns seen seen' (own1 x d).2 (fun D => aggR D (own1 x d).1 v) (n1 (own1 x d).1) := by
  unfold out1 at ho
  split at ho
  · rename_i cs
    split at ho
    · rename_i ds s' hds
      cases ho
      obtain ⟨vs, rfl, ha⟩ := hv
      obtain ⟨ns, hns⟩ := outs_sound (own := own0) (rel := cellR) (nm := n0) (fun x s s' c d v hc hr => out0_sound h hc hr) cs x seen _ ds vs.toList hds ha
      exact ⟨ns, hns.imp fun D hD => ⟨vs, rfl, hD⟩⟩
    · cases ho
  · rename_i hna
    obtain ⟨f1, f2, f3, f4⟩ := out0_form ho
    have hc : aggR C c v = cellR C c v := by cases c <;> first | rfl | exact absurd rfl (hna _)
    rw [hc] at hv
    obtain ⟨ns, hns⟩ := out0_sound h (x := x) ho hv
    rw [own1_not f2]
    refine ⟨ns, ?_⟩
    rw [isC_n1 (f4 x)]
    exact hns.imp fun D hD => cell_agg hD
theorem out2_sound {B : Base} {nt : Nat} {C : Cx} {st : St} {a : Act} (h : SimL B nt C st a) {x : Nat} {c d : CV} {v : Value} (ho : out2 st.H c = some d) (hv : valR C c v) :
    ∃ ns seen', OutR C x ns [] seen' (own2 x d).2 (fun D => valR D (own2 x d).1 v) (n2 (own2 x d).1) := by
  unfold out2 at ho
  split at ho
  · rename_i cs
    split at ho
    · rename_i ds s' hds
      cases ho
      obtain ⟨vs, rfl, ha⟩ := hv
      obtain ⟨ns, hns⟩ := outs_sound (own := own1) (rel := aggR) (nm := n1) (fun x s s' c d v hc hr => out1_sound h hc hr) cs x [] _ ds vs.toList hds ha
      exact ⟨ns, s', hns.imp fun D hD => ⟨vs, rfl, hD⟩⟩
    · cases ho
  · rename_i hnt
    split at ho
    · rename_i d' s' hd
      cases ho
      have key : (∀ cs, d ≠ .tup cs) ∧ c.isA = true ∧ (own1 x d).1.isA = true := by
        unfold out1 at hd
        split at hd
        · split at hd
          · cases hd; exact ⟨by simp, rfl, rfl⟩
          · cases hd
        · obtain ⟨f1, f2, f3, f4⟩ := out0_form hd
          rw [own1_not f2]
          exact ⟨f3, isC_isA f1, isC_isA (f4 x)⟩
      obtain ⟨ns, hns⟩ := out1_sound h (x := x) hd (valR_agg hv key.2.1)
      rw [own2_not key.1 key.2.2]
      refine ⟨ns, s', ?_⟩
      have en : n2 (own1 x d).1 = n1 (own1 x d).1 := by
        revert key
        generalize (own1 x d).1 = q
        intro key
        cases q <;> first | rfl | (simp [CV.isA] at key)
      rw [en]
      exact hns.imp fun D hD => aggR_val hD
    · cases ho

theorem bv0_nl0 {H : Hp} {c d : CV} (h : bv0 H c = some d) : nl0 d = true ∧ d.isC = true := by
  cases c <;> simp only [bv0, reduceCtorEq] at h <;> first
    | (cases h; exact ⟨rfl, rfl⟩)
    | (split at h
       · cases h; exact ⟨rfl, rfl⟩
       · cases h)
theorem bvs_nl {f : CV → Option CV} {p : CV → Bool} (hf : ∀ c d, f c = some d → p d = true) : ∀ {cs ds : List CV}, bvs f cs = some ds → ds.all p = true
  | [], ds, h => by simp only [bvs, Option.some.injEq] at h; subst h; rfl
  | c :: cs, ds, h => by
    simp only [bvs] at h
    split at h
    · cases h
    · rename_i d hd
      split at h
      · cases h
      · rename_i ds' hds
        cases h
        simp [hf _ _ hd, bvs_nl hf hds]
theorem isC_nl1 {d : CV} (h : nl0 d = true) (hc : d.isC = true) : nl1 d = true := by cases d <;> first | exact h | (simp [CV.isC] at hc)
theorem bv1_nl1 {H : Hp} {c d : CV} (h : bv1 H c = some d) : nl1 d = true ∧ d.isA = true := by
  unfold bv1 at h
  split at h
  · split at h
    · rename_i hcs; cases h; exact ⟨bvs_nl (fun c d h => (bv0_nl0 h).1) hcs, rfl⟩
    · cases h
  · split at h
    · split at h
      · cases h; exact ⟨rfl, rfl⟩
      · cases h
    · cases h
  · cases h; exact ⟨rfl, rfl⟩
  · obtain ⟨h1, h2⟩ := bv0_nl0 h
    exact ⟨isC_nl1 h1 h2, isC_isA h2⟩
theorem bv2_nl2 {H : Hp} {c d : CV} (h : bv2 H c = some d) : nl2 d = true := by
  unfold bv2 at h
  split at h
  · split at h
    · rename_i hcs; cases h; exact bvs_nl (fun c d h => (bv1_nl1 h).1) hcs
    · cases h
  · split at h
    · rename_i hcs; cases h; exact bvs_nl (fun c d h => (bv1_nl1 h).1) hcs
    · cases h
  · obtain ⟨h1, h2⟩ := bv1_nl1 h
    cases d <;> first | exact h1 | (simp [CV.isA] at h2)

/-! ### the end of a function's run -/
theorem one_sound {C : Cx} {cs : List CV} {vs : List Value} (h : All2 (valR C) cs vs) (hA : cs.length = 1 ∨ cs.all CV.isA = true) : valR C (oneOf cs) (if h : vs.length = 1 then vs[0] else .tuple vs.toArray) := by
  match cs, vs, h with
  | [], [], _ => exact ⟨#[], rfl, trivial⟩
  | [c], [v], h => exact h.1
  | c :: c' :: cs, v :: v' :: vs, h =>
    have hA' := hA.resolve_left (by simp)
    simp only [oneOf, List.length_cons]
    rw [dif_neg (by omega)]
    refine ⟨_, rfl, ?_⟩
    simp only [List.all_eq_true] at hA'
    exact h.mono fun c hc v hv => valR_agg hv (hA' c hc)
theorem oneOf_names {cs : List CV} {Pn : Nat → Prop} (h : ∀ c, c ∈ cs → ∀ y, y ∈ n2 c → Pn y) (hA : cs.length = 1 ∨ cs.all CV.isA = true) : ∀ y, y ∈ n2 (oneOf cs) → Pn y := by
  match cs with
  | [] => intro y hy; simp [oneOf, n2] at hy
  | [c] => exact h c (List.mem_cons_self ..)
  | c :: c' :: cs =>
    have hA' := hA.resolve_left (by simp)
    simp only [List.all_eq_true] at hA'
    intro y hy
    obtain ⟨d, hd, hy⟩ := List.mem_flatMap.1 hy
    exact h d hd y (n2_sub hy)
theorem bv2_isA {H : Hp} {cs : List CV} {d : CV} (h : bv2 H (oneOf cs) = some d) : cs.length = 1 ∨ cs.all CV.isA = true := by
  match cs with
  | [] => exact .inr rfl
  | [c] => exact .inl rfl
  | c :: c' :: cs =>
    right
    simp only [oneOf, bv2] at h
    split at h
    · rename_i ds hds
      rw [List.all_eq_true]
      intro e he
      obtain ⟨d, hd⟩ := bvs_mem hds e he
      cases e <;> first | rfl | (simp [bv1, bv0] at hd)
    · cases h
theorem outs_mem {f : List Nat → CV → Option (CV × List Nat)} : ∀ {cs : List CV} {seen : List Nat} {r : List CV × List Nat}, outs f seen cs = some r → ∀ c, c ∈ cs → ∃ s r, f s c = some r
  | [], _, _, _, c, hc => by simp at hc
  | x :: xs, seen, r, h, c, hc => by
    simp only [outs] at h
    split at h
    · cases h
    · rename_i d s1 hd
      split at h
      · cases h
      · rename_i ds s2 hds
        rcases List.mem_cons.1 hc with rfl | hc
        · exact ⟨_, _, hd⟩
        · exact outs_mem hds c hc
theorem out2_isA {H : Hp} {cs : List CV} {d : CV} (h : out2 H (oneOf cs) = some d) : cs.length = 1 ∨ cs.all CV.isA = true := by
  match cs with
  | [] => exact .inr rfl
  | [c] => exact .inl rfl
  | c :: c' :: cs =>
    right
    simp only [oneOf, out2] at h
    split at h
    · rename_i ds s hds
      rw [List.all_eq_true]
      intro e he
      obtain ⟨s, r, hd⟩ := outs_mem hds e he
      cases e <;> first | rfl | (simp [out1, out0] at hd)
    · cases h

theorem endK_sound {w : World} {R : Nat → Prop} {nt : Nat} {st : St} {a : Act} {w' : World} (h : Sim ⟨w, R, fun _ => False, none⟩ nt st a w') {own : Bool} {fn : Func} {r : CV} (he : endK own fn.results.toList st = some r) :
    a.defers = [] ∧ ∃ v, (results fn a.tmps).run P w' = .ok v w' ∧ Below w.heap.size w w' ∧
      ∃ R' : Nat → Prop, (∀ b, R b → R' b) ∧ (∀ b, R' b → R b ∨ w.heap.size ≤ b) ∧ (∀ b, R' b → b < w'.heap.size) ∧ Res own w.heap.size w' R' r v := by
  obtain ⟨R0, lv, loc, h⟩ := h
  refine ⟨h.dfr, ?_⟩
  have hbel : Below w.heap.size w w' := ⟨h.os, h.tape, h.output, h.grow, fun b hb => h.keep b hb (fun h => h)⟩
  unfold endK at he
  split at he
  · cases he
  · rename_i cs hcs
    obtain ⟨vs, hvs, hr, hn⟩ := ress_sound h hcs
    have hres := results_run hvs
    cases own with
    | true =>
      simp only at he
      have hA := out2_isA he
      have hv := one_sound hr hA
      refine ⟨_, hres, hbel, R, fun _ h => h, fun b hb => .inl hb, fun b hb => h.rlt b (h.rsub b hb), fun x => ?_⟩
      obtain ⟨ns, seen', ho⟩ := out2_sound h (x := x) he hv
      have hget : ∀ i o, ns[i]? = some o → (ownCx w' x (ns.map fun o => o.bind loc)).loc (x + i) = o.bind loc := fun i o hi => by
        have hil := (List.getElem?_eq_some_iff.1 hi).1
        simp only [ownCx, List.length_map]
        rw [if_pos ⟨by omega, by omega⟩, Nat.add_sub_cancel_left, List.getElem?_map, hi]
        rfl
      refine ⟨ns.map fun o => o.bind loc, by simp [ho.len], ho.rel _ rfl hget, fun y hy => by simpa using ho.nm y hy, fun i b hb => ?_, fun i L hL => ?_, fun i j L M hij hL hM => ?_⟩
      · obtain ⟨q1, q2⟩ := ho.bl i b hb
        refine ⟨q2 _ rfl ?_, q1⟩
        have hil : i < ns.length := by rw [ho.len]; exact (List.getElem?_eq_some_iff.1 hb).1
        rw [hget i _ (List.getElem?_eq_getElem hil), List.getElem?_eq_getElem hil]
        rfl
      · rw [List.getElem?_map] at hL
        cases hi : ns[i]? with
        | none => rw [hi] at hL; cases hL
        | some o =>
          rw [hi] at hL
          cases o with
          | none => cases hL
          | some y =>
            simp only [Option.map_some, Option.bind_some, Option.some.injEq] at hL
            obtain ⟨-, hl⟩ := ho.new y (List.mem_of_getElem? hi)
            obtain ⟨b, hb⟩ := (h.lv y).1 hl
            obtain ⟨a1, a2, a3⟩ := (h.bl y b hb).2 L hL
            exact ⟨a1.resolve_right (fun h => h), a3⟩
      · rw [List.getElem?_map] at hL hM
        cases hi : ns[i]? with
        | none => rw [hi] at hL; cases hL
        | some o =>
          rw [hi] at hL
          cases o with
          | none => cases hL
          | some y =>
            cases hj : ns[j]? with
            | none => rw [hj] at hM; cases hM
            | some o' =>
              rw [hj] at hM
              cases o' with
              | none => cases hM
              | some z =>
                simp only [Option.map_some, Option.bind_some, Option.some.injEq] at hL hM
                refine h.dj y z L M (ho.new y (List.mem_of_getElem? hi)).2 (ho.new z (List.mem_of_getElem? hj)).2 hL hM fun e => hij ?_
                subst e
                exact ho.inj i j y hi hj
    | false =>
      simp only at he
      have hA := bv2_isA he
      have hv := one_sound hr hA
      refine ⟨_, hres, hbel, RN ⟨w', R0, lv, loc⟩ (fun _ => True), fun b hb => .inl (h.rsub b hb), fun b hb => ?_, RN_lt h, bv2_nl2 he, ?_⟩
      · rcases hb with hb | ⟨x, L, -, hl, hL, rfl⟩
        · exact h.rnew b hb
        · obtain ⟨b, hb⟩ := (h.lv x).1 hl
          exact .inr (((h.bl x b hb).2 L hL).1.resolve_right (fun h => h))
      · exact bv2_sound h he hv (fun _ _ => trivial) (fun _ _ _ _ _ _ => trivial)

/-- a function's run in the engine, and what it says of the program -/
theorem runF_calls {E : Env} (hs : SemOk E.sem) (hm : MemOk E.msem) {f : Nat} {fn : Func} (hf : P.funcs[f]? = some fn) {own : Bool} {args : List CV} (hn : noNames args = true) (hl : args.length ≤ fn.ntmps) (hnt : E.nt = fn.ntmps) {r : CV}
    (h : runF E own fn args = some r) : CallsC f args own r := by
  intro w R vs hR ha
  unfold runF at h
  split at h
  · cases h
  · rename_i c hc
    refine calls_of_wp hf hc ?_
    have hsz : vs.size ≤ E.nt := by
      have := ha.length
      have e : vs.toList.length = vs.size := Array.length_toList ..
      omega
    have hb := begin_sound (w := w) hR ha hn E.nt hsz
    rw [hnt] at hb
    have hE : Ok ⟨w, R, fun _ => False, none⟩ E := ⟨hs, hm, .inl fun _ h => h, .inl rfl, .inl fun _ h => h⟩
    have fin : ∀ st' a' w', endK own fn.results.toList st' = some r → Sim ⟨w, R, fun _ => False, none⟩ E.nt st' a' w' → a'.defers = [] ∧ ∃ v, (results fn a'.tmps).run P w' = .ok v w' ∧ (∃ v', Ending.returned v = .returned v' ∧ Below w.heap.size w w' ∧
        ∃ R' : Nat → Prop, (∀ b, R b → R' b) ∧ (∀ b, R' b → R b ∨ w.heap.size ≤ b) ∧ (∀ b, R' b → b < w'.heap.size) ∧ Res own w.heap.size w' R' r v') := by
      intro st' a' w' he hs'
      obtain ⟨h1, v, h2, h3⟩ := endK_sound hs' he
      exact ⟨h1, v, h2, v, rfl, h3⟩
    refine exK_sound hE c (Q := bodyPost P fn _) (fun st' a' w' he hs' => fin st' a' w' he hs') (fun i st' a' w' he hs' => by cases he) (fun st' a' w' he hs' => fin st' a' w' he hs') ⟨R, fun _ => False, fun _ => none, ?_⟩ h
    rw [hnt]; exact hb

/-! ### a function that writes into the row that it is handed first -/
/-- its begin; 'L': where the row lies -/
theorem beginM_sound {w : World} {R : Nat → Prop} (hR : ∀ b, R b → b < w.heap.size) {l : List Int} {args : List CV} {v0 : Value} {vs : Array Value} (ha : All2 (valR (byV w R)) args vs.toList) (hn : noNames args = true) (nt : Nat) (hle : vs.size + 1 ≤ nt)
    (L : Option Lc) (mayW : Nat → Prop) (hv : valR ⟨w, R, fun x => x = 90000, fun x => if x = 90000 then L else none⟩ (.ref 90000) v0) (hb : blkR ⟨w, R, fun x => x = 90000, fun x => if x = 90000 then L else none⟩ 90000 (.arr true .int l))
    (hL : ∀ M, L = some M → mayW M.g ∧ ¬ R M.g ∧ M.g < w.heap.size) :
    SimL ⟨w, R, mayW, some v0⟩ nt ⟨w, R, fun x => x = 90000, fun x => if x = 90000 then L else none⟩ ⟨parT 0 (.ref 90000 :: args), [(90000, some (.arr true .int l))]⟩ { tmps := (#[v0] ++ vs) ++ Array.replicate (nt - (#[v0] ++ vs).size) undef, defers := [] } := by
  have hlen := ha.length
  have hsz : (#[v0] ++ vs).size = vs.size + 1 := by simp; omega
  have hlk : ∀ z, look [(90000, some (Blk.arr true .int l))] z = if 90000 = z then some (some (Blk.arr true .int l)) else none := fun z => by rw [look_cons]; rfl
  have hall : All2 (valR ⟨w, R, fun x => x = 90000, fun x => if x = 90000 then L else none⟩) (.ref 90000 :: args) (#[v0] ++ vs).toList := by
    have e : (#[v0] ++ vs).toList = v0 :: vs.toList := by simp
    rw [e]
    refine ⟨hv, ha.mono fun c hc v hv => ?_⟩
    have := List.all_eq_true.1 hn c hc
    simp only [List.isEmpty_iff] at this
    exact valR_tr (C := byV w R) (D := ⟨w, R, fun x => x = 90000, fun x => if x = 90000 then L else none⟩) (N := fun _ => False) ⟨fun _ _ => rfl, fun _ h => h, fun x hx => hx.elim⟩ (by rw [this]; simp) hv
  constructor
  · simp only [Array.size_append, Array.size_replicate] at hsz ⊢; omega
  · rfl
  · rfl
  · rfl
  · rfl
  · exact Nat.le_refl _
  · exact fun _ _ _ => rfl
  · exact fun _ h => h
  · exact hR
  · exact fun _ h => .inl h
  · intro x
    simp only [hlk]
    constructor
    · rintro rfl; exact ⟨.arr true .int l, by simp⟩
    · rintro ⟨b, hb⟩
      split at hb
      · rename_i e; exact e.symm
      · cases hb
  · intro t c hc
    simp only [look_part, Nat.zero_le, if_true, Nat.sub_zero] at hc
    obtain ⟨v, hv, hr⟩ := hall.get hc
    have hv' : (#[v0] ++ vs)[t]? = some v := by rw [← Array.getElem?_toList]; exact hv
    have hlt := (Array.getElem?_eq_some_iff.1 hv').1
    exact ⟨v, by rw [Array.getElem?_append_left hlt]; exact hv', hr⟩
  · intro x b hb'
    simp only [hlk] at hb'
    split at hb'
    · rename_i e
      subst e
      cases hb'
      refine ⟨hb, fun M hM => ?_⟩
      simp only [if_true] at hM
      obtain ⟨q1, q2, q3⟩ := hL M hM
      exact ⟨.inr q1, q2, q3⟩
    · cases hb'
  · rintro x y L M rfl rfl - - hne
    exact absurd rfl hne
  · intro t c hc x hx
    simp only [look_part, Nat.zero_le, if_true, Nat.sub_zero] at hc
    simp only [hlk]
    cases t with
    | zero =>
      simp only [List.getElem?_cons_zero, Option.some.injEq] at hc
      subst hc
      simp only [n2, n1, n0, List.mem_singleton] at hx
      subst hx
      exact ⟨some (.arr true .int l), by simp⟩
    | succ t =>
      have := List.all_eq_true.1 hn c (List.mem_of_getElem? (by simpa using hc))
      simp only [List.isEmpty_iff] at this
      rw [this] at hx; simp at hx
  · intro y b hb' x hx
    simp only [hlk] at hb'
    split at hb'
    · cases hb'; simp [nB] at hx
    · cases hb'
  · intro v hv
    cases hv
    have h0 : (#[v0] ++ vs)[0]? = some v0 := by rw [Array.getElem?_append_left (by simp)]; rfl
    rw [Array.getElem?_append_left (by omega)]
    exact h0

theorem runM_calls {E : Env} (hs : SemOk E.sem) (hm : MemOk E.msem) (hk : E.kill = []) (hlow : 0 < E.low) {f : Nat} {fn : Func} (hf : P.funcs[f]? = some fn) (hres : fn.results = #[]) {l l' : List Int} {args : List CV} (hn : noNames args = true) (hl : args.length + 1 ≤ fn.ntmps) (hnt : E.nt = fn.ntmps)
    (h : runM E fn l args = some l') : CallsM f l args l' := by
  intro w R v0 vs hR ha
  unfold runM at h
  split at h
  · cases h
  · rename_i c hc
    have hsz : vs.size + 1 ≤ E.nt := by
      have := ha.length
      have e : vs.toList.length = vs.size := Array.length_toList ..
      omega
    have run0 : ∀ (tmps : Array Value) (w' : World), (results fn tmps).run P w' = .ok (.tuple #[]) w' := fun tmps w' => by
      have : (fn.results.toList.mapM (readR tmps)).run P w' = .ok [] w' := by rw [hres]; rfl
      have := results_run this
      simpa using this
    -- what holds at the end
    have fin : ∀ (L : Option Lc) (mayW : Nat → Prop), valR ⟨w, R, fun x => x = 90000, fun x => if x = 90000 then L else none⟩ (.ref 90000) v0 → blkR ⟨w, R, fun x => x = 90000, fun x => if x = 90000 then L else none⟩ 90000 (.arr true .int l) →
        (∀ M, L = some M → mayW M.g ∧ ¬ R M.g ∧ M.g < w.heap.size) →
        ∀ Q : World → Prop, (∀ w' : World, w'.os = w.os → w'.tape = w.tape → w'.output = w.output → w.heap.size ≤ w'.heap.size → (∀ b, b < w.heap.size → ¬ mayW b → w'.heap[b]? = w.heap[b]?) →
          (((∃ A, v0 = .slice A 0 0) ∧ l' = []) ∨ ∃ (L : Lc) (cur : Array Value), v0 = .slice (some ⟨L.g, 0, none⟩) L.n L.c ∧ L.n = l'.length ∧ w'.heap[L.g]? = some (.cells cur 3 (0, 0)) ∧ cur.size = L.c ∧ ∀ (i : Nat) n, l'[i]? = some n → cur[i]? = some (.int .i64 n)) → Q w') →
        Calls P f (#[v0] ++ vs) w fun e w' => e = .returned (.tuple #[]) ∧ Q w' := by
      intro L mayW hv hb hL Q hQ
      have hbeg := beginM_sound (w := w) hR (l := l) ha hn E.nt hsz L mayW hv hb hL
      have hE : Ok ⟨w, R, mayW, some v0⟩ E := ⟨hs, hm, .inr hk, .inr hlow, .inr hlow⟩
      refine calls_of_wp hf hc ?_
      rw [hnt] at hbeg
      have key : ∀ st' a' w', endM st' = some l' → Sim ⟨w, R, mayW, some v0⟩ E.nt st' a' w' → a'.defers = [] ∧ ∃ v, (results fn a'.tmps).run P w' = .ok v w' ∧ (Ending.returned v = .returned (.tuple #[]) ∧ Q w') := by
        intro st' a' w' he hs'
        obtain ⟨R0, lv, loc, hs'⟩ := hs'
        refine ⟨hs'.dfr, _, run0 _ _, rfl, hQ w' hs'.os hs'.tape hs'.output hs'.grow hs'.keep ?_⟩
        unfold endM at he
        split at he
        · rename_i y hy
          split at he
          · rename_i m hg
            cases he
            obtain ⟨v, hv', hr⟩ := hs'.tm 0 _ hy
            have := hs'.pin v0 rfl
            rw [hv'] at this
            cases this
            have hlk := get_some.1 hg
            have hlv : lv y := (hs'.lv y).2 ⟨_, hlk⟩
            have hr2 := hr.2 hlv
            have hbl := (hs'.bl y _ hlk).1
            simp only at hr2
            simp only [blkR] at hbl
            cases hly : loc y with
            | none =>
              rw [hly] at hr2 hbl
              exact .inl ⟨hr2, hbl⟩
            | some M =>
              rw [hly] at hr2 hbl
              obtain ⟨b1, b2, b3, b4, cur, b5, b6, b7⟩ := hbl
              obtain ⟨b61, b62⟩ := b6 trivial
              simp only at hr2
              rw [b61] at hr2 b7
              refine .inr ⟨M, cur, hr2, b1, b5, by rw [b62]; simp [SK.size], fun i n hi => ?_⟩
              have := row_get .int (l := l') hi (j := 0) (by simp [SK.size])
              simp only [SK.size, Nat.mul_one, Nat.add_zero] at this
              obtain ⟨z, hz, hr⟩ := b7 i _ (this.trans (by simp [SK.cells] : (SK.int.cells n)[0]? = some (.int .i64 n)))
              rw [Nat.zero_add] at hz
              rw [hz]
              exact congrArg some hr
          · cases he
        · cases he
      refine exK_sound hE c (Q := bodyPost P fn _) (fun st' a' w' he hs' => key st' a' w' he hs') (fun i st' a' w' he hs' => by cases he) (fun st' a' w' he hs' => key st' a' w' he hs') ⟨R, fun x => x = 90000, fun x => if x = 90000 then L else none, ?_⟩ h
      rw [hnt]; exact hbeg
    constructor
    · rintro ⟨rfl, A, rfl⟩
      exact fin none (fun _ => False) ⟨⟨_, _, _, rfl⟩, fun _ => by simp⟩ (by simp [blkR]) (by simp) _ fun w' h1 h2 h3 h4 h5 _ => ⟨h1, h2, h3, h4, fun b hb => h5 b hb (fun h => h)⟩
    · rintro g c' cur rfl hlc hcm hng hg hcur hcs hcells
      by_cases h0 : c' = 0
      · have hl0 : l = [] := List.eq_nil_of_length_eq_zero (by omega)
        subst h0 hl0
        refine fin none (fun _ => False) ⟨⟨_, _, _, rfl⟩, fun _ => by simp⟩ (by simp [blkR]) (by simp) _ fun w' h1 h2 h3 h4 h5 h6 => ⟨h1, h2, h3, h4, fun b hb _ => h5 b hb (fun h => h), cur, (h5 g hg (fun h => h)).trans hcur, rfl, ?_⟩
        have hl' : l' = [] := by
          rcases h6 with ⟨-, h⟩ | ⟨L, cu, e, e2, -⟩
          · exact h
          · simp only [Value.slice.injEq, List.length_nil] at e
            exact List.eq_nil_of_length_eq_zero (by omega)
        subst hl'
        simp
      · refine fin (some ⟨g, 0, l.length, c', 1⟩) (fun b => b = g) ⟨⟨_, _, _, rfl⟩, fun _ => by simp⟩ ?_ (fun M hM => by cases hM; exact ⟨rfl, hng, hg⟩) _ fun w' h1 h2 h3 h4 h5 h6 => ?_
        · simp only [blkR, if_true]
          refine ⟨trivial, rfl, hlc, hcm, cur, hcur, fun _ => ⟨trivial, by simp [SK.size, hcs]⟩, fun i u hu => ?_⟩
          have hi : i < l.length := by
            have := (List.getElem?_eq_some_iff.1 hu).1
            rwa [row_len, SK.size, Nat.mul_one] at this
          have hge := List.getElem?_eq_getElem hi
          have := row_get .int (l := l) hge (j := 0) (by simp [SK.size])
          simp only [SK.size, Nat.mul_one, Nat.add_zero] at this
          rw [this] at hu
          simp only [SK.cells, List.getElem?_cons_zero, Option.some.injEq] at hu
          subst hu
          exact ⟨_, by rw [Nat.zero_add]; exact hcells i _ hge, rfl⟩
        · rcases h6 with ⟨⟨A, e⟩, -⟩ | ⟨L, cu, e, e2, e3, e4, e5⟩
          · simp only [Value.slice.injEq] at e
            exact absurd e.2.2 h0
          · simp only [Value.slice.injEq, Option.some.injEq, Addr.mk.injEq] at e
            obtain ⟨⟨e6, -, -⟩, e7, e8⟩ := e
            rw [← e6] at e3
            exact ⟨h1, h2, h3, h4, fun b hb hne => h5 b hb hne, cu, e3, by rw [e4, ← e8, hcs], e5⟩
end Go.Proofs.Ytnfgfdeidkhdkaa.Eng
/- Gd: A function's run from loop to loop: what a piece of code comes to, up to the next loop's head or the function's end, is told as data; what a loop's head leads to is told of every large number of rounds. -/
namespace Go.Proofs.Ytnfgfdeidkhdkaa.Eng
set_option linter.unusedVariables false

/-! ### what comes behind does not matter -/
theorem le_refl' (s : St) : s.le s := ⟨fun _ _ h => h, fun _ _ h => h⟩
theorem quiet_nat {s : St} {sem : Sems} {o : Op} {ty x : Nat} {R : Type} {K : CV → List Blk → Option R} {r : R} (h : quiet sem o ty x s K = some r) :
    ∃ c bs, K c bs = some r ∧ ∀ {S : Type} (K' : CV → List Blk → Option S), quiet sem o ty x s K' = K' c bs := by
  obtain ⟨c, bs, h1, -, h3⟩ := quiet_uni h
  exact ⟨c, bs, h1, fun K' => h3 (le_refl' s) K'⟩
theorem wop_nat {s : St} {E : Env} {o : Op} {x : Nat} {R : Type} {K : CV → Hp → Option R} {r : R} (h : wop E o x s K = some r) :
    ∃ c H, K c H = some r ∧ ∀ {S : Type} (K' : CV → Hp → Option S), wop E o x s K' = K' c H := by
  obtain ⟨c, bs, h1, -, h3⟩ := wop_uni h
  exact ⟨c, bs, h1, fun K' => h3 (le_refl' s) K'⟩
theorem op1_nat {E : Env} {o : Oper} {s : St} {R : Type} {K : U → Option R} {r : R} (h : op1 E o s K = some r) : ∃ u, K u = some r ∧ ∀ {S : Type} (K' : U → Option S), op1 E o s K' = K' u := by
  unfold op1 at h
  split at h
  · rename_i d hd
    by_cases hlt : (Nat.blt d E.nt && Nat.ble E.low d) = true
    · rw [hlt, cond_true] at h
      by_cases hw : isW E o.op s.T = true
      · rw [hw, cond_true] at h
        obtain ⟨c, H, hK, e⟩ := wop_nat h
        by_cases hx : (!isApp o.op || (look s.H (8 * d)).isNone) = true
        · rw [hx, cond_true] at hK
          refine ⟨_, hK, fun K' => ?_⟩
          unfold op1
          simp only [hd, hlt, cond_true, hw, e, hx]
        · rw [Bool.eq_false_iff.2 hx] at hK; cases hK
      · rw [Bool.eq_false_iff.2 hw, cond_false] at h
        obtain ⟨c, bs, hK, e⟩ := quiet_nat h
        by_cases hx : (freshB s.H (8 * d) bs && Nat.ble bs.length 8) = true
        · rw [hx, cond_true] at hK
          refine ⟨_, hK, fun K' => ?_⟩
          unfold op1
          simp only [hd, hlt, cond_true, Bool.eq_false_iff.2 hw, cond_false, e, hx]
        · rw [Bool.eq_false_iff.2 hx] at hK; cases hK
    · rw [Bool.eq_false_iff.2 hlt] at h; cases h
  · rename_i hd
    by_cases hw : (isW E o.op s.T && !isApp o.op) = true
    · rw [hw, cond_true] at h
      obtain ⟨c, H, hK, e⟩ := wop_nat h
      refine ⟨_, hK, fun K' => ?_⟩
      unfold op1
      simp only [hd, hw, cond_true, e]
    · rw [Bool.eq_false_iff.2 hw] at h; cases h
theorem skipU_nat {E : Env} {o : Oper} {R : Type} {K : U → Option R} {r : R} (h : skipU E o K = some r) : ∃ u, K u = some r ∧ ∀ {S : Type} (K' : U → Option S), skipU E o K' = K' u := by
  unfold skipU at h
  split at h
  · rename_i d' hd'
    by_cases hlt : (Nat.blt d' E.nt && Nat.ble E.low d') = true
    · rw [hlt, cond_true] at h
      exact ⟨_, h, fun K' => by simp only [skipU, hd', hlt, cond_true]⟩
    · rw [Bool.eq_false_iff.2 hlt] at h; cases h
  · rename_i hd'
    exact ⟨_, h, fun K' => by simp only [skipU, hd']⟩
theorem opG_nat {E : Env} {ops : Array Oper} {o : Oper} {s : St} {R : Type} {K : U → Option R} {r : R} (h : opG E ops o s K = some r) : ∃ u, K u = some r ∧ ∀ {S : Type} (K' : U → Option S), opG E ops o s K' = K' u := by
  unfold opG at h
  split at h
  · rename_i hg
    obtain ⟨u, hK, a⟩ := op1_nat h
    refine ⟨u, hK, fun K' => ?_⟩
    unfold opG
    simp only [hg]
    exact a K'
  · rename_i g want hg
    split at h
    · cases h
    · rename_i d hd
      split at h
      · rename_i b hb
        by_cases hbw : (b == want) = true
        · rw [hbw, cond_true] at h
          obtain ⟨u, hK, a⟩ := op1_nat h
          refine ⟨u, hK, fun K' => ?_⟩
          unfold opG
          simp only [hg, hd, hb, hbw, cond_true]
          exact a K'
        · rw [Bool.eq_false_iff.2 hbw, cond_false] at h
          obtain ⟨u, hK, a⟩ := skipU_nat h
          refine ⟨u, hK, fun K' => ?_⟩
          unfold opG
          simp only [hg, hd, hb, Bool.eq_false_iff.2 hbw, cond_false]
          exact a K'
      · rename_i hb
        obtain ⟨u, hK, a⟩ := skipU_nat h
        refine ⟨u, hK, fun K' => ?_⟩
        unfold opG
        simp only [hg, hd, hb]
        exact a K'
      · cases h
theorem splitK_eq {R : Type} (g : Bool) (u : U) (K : U → Option R) : splitK g u K = K u := by
  unfold splitK
  split
  · rename_i d b
    cases b <;> rfl
  · rfl
theorem opS_nat {E : Env} {ops : Array Oper} {gs : List Nat} {o : Oper} {s : St} {R : Type} {K : U → Option R} {r : R} (h : opS E ops gs o s K = some r) : ∃ u, K u = some r ∧ ∀ {S : Type} (K' : U → Option S), opS E ops gs o s K' = K' u := by
  unfold opS at h
  obtain ⟨u, hK, a⟩ := opG_nat h
  simp only [splitK_eq] at hK
  refine ⟨u, hK, fun K' => ?_⟩
  unfold opS
  rw [a, splitK_eq]
theorem seqK_nat {E : Env} {ops : Array Oper} {gs : List Nat} {R : Type} {K : St → Option R} {r : R} : ∀ (os : List Oper) (s : St), seqK E ops gs os s K = some r → ∃ u, K u = some r ∧ ∀ {S : Type} (K' : St → Option S), seqK E ops gs os s K' = K' u
  | [], s, h => ⟨s, h, fun _ => rfl⟩
  | o :: os, s, h => by
    simp only [seqK] at h
    obtain ⟨u, hK, a⟩ := opS_nat h
    obtain ⟨v, hv, b⟩ := seqK_nat os _ hK
    exact ⟨v, hv, fun K' => by simp only [seqK, a, b]⟩
theorem drawK_nat {E : Env} {ops : Array Oper} {os : List Oper} {gs : List Nat} {B : List (List Nat)} {R : Type} {base : St} {K : St → Option R} {r : R} : ∀ (rest : List (Nat × Oper)) (us : List (Nat × U)), drawK E ops os gs B rest base us K = some r → ∃ u, K u = some r ∧ ∀ {S : Type} (K' : St → Option S), drawK E ops os gs B rest base us K' = K' u
  | [], us, h => by
    simp only [drawK] at h
    by_cases hs : segOk ops os B base us = true
    · rw [hs, cond_true] at h
      exact ⟨_, h, fun K' => by simp only [drawK, hs, cond_true]⟩
    · rw [Bool.eq_false_iff.2 hs] at h; cases h
  | (i, o) :: rest, us, h => by
    simp only [drawK] at h
    obtain ⟨u, hK, a⟩ := opS_nat h
    obtain ⟨v, hv, b⟩ := drawK_nat rest _ hK
    exact ⟨v, hv, fun K' => by simp only [drawK, a, b]⟩
theorem regK_nat {E : Env} {ops : Array Oper} {d : Bool} {R : Type} {st : St} {K : St → Option R} {r : R} (h : regK E ops d st K = some r) : ∃ u, K u = some r ∧ ∀ {S : Type} (K' : St → Option S), regK E ops d st K' = K' u := by
  cases d with
  | false => exact seqK_nat _ _ h
  | true =>
    simp only [regK] at h
    by_cases hs : statOk ops ops.toList (befs ops.toList) = true
    · rw [hs, cond_true] at h
      obtain ⟨u, hu, a⟩ := drawK_nat _ _ h
      exact ⟨u, hu, fun K' => by simp only [regK, hs, cond_true, a]⟩
    · rw [Bool.eq_false_iff.2 hs] at h; cases h
theorem norm_nat {a : Ann} {R : Type} {st : St} {K : St → Option R} {r : R} (h : norm a st K = some r) : ∃ u, K u = some r ∧ ∀ {S : Type} (K' : St → Option S), norm a st K' = K' u := by
  unfold norm at h
  split at h
  · cases h
  · rename_i xs hx
    split at h
    · cases h
    · rename_i T hT
      split at h
      · cases h
      · rename_i H hH
        exact ⟨_, h, fun K' => by simp only [norm, hx, hT, hH]⟩
theorem normL_nat {E : Env} {c : Code} {R : Type} {st : St} {K : St → Option R} {r : R} (h : normL E c st K = some r) : ∃ u, K u = some r ∧ ∀ {S : Type} (K' : St → Option S), normL E c st K' = K' u := by
  unfold normL at h
  split at h
  · rename_i hn
    exact ⟨_, h, fun K' => by simp only [normL, hn]⟩
  · rename_i a ha
    obtain ⟨u, hu, b⟩ := norm_nat h
    exact ⟨u, hu, fun K' => by simp only [normL, ha, b]⟩

/-! ### code, from loop to loop -/
/-- what surrounds a piece of code -/
inductive Fr where
  | seq (b : Code)
  | blk (i : Nat)
  | loop (c : Code)
/-- where a piece of code comes to: the function's end, or a loop's head -/
inductive Leaf where
  | ret (v : CV)
  | at (K : List Fr) (c : Code) (st : St)
noncomputable def exT (E : Env) : Code → List Fr → (St → Option Leaf) → (Nat → St → Option Leaf) → (St → Option Leaf) → St → Option Leaf
  | .skip, _, kn, _, _, st => kn st
  | .region id ops draw, _, kn, _, _, st => match look E.pts id with
    | none => regK E ops draw st kn
    | some a => norm a st fun st => regK E ops draw st kn
  | .seq a b, K, kn, ke, kr, st => exT E a (.seq b :: K) (fun st => exT E b K kn ke kr st) ke kr st
  | .cond c a b, K, kn, ke, kr, st => match ev 4 st.T c with
    | some (.bool t) => bif t then exT E a K kn ke kr st else exT E b K kn ke kr st
    | _ => none
  | .block id c, K, kn, ke, kr, st => exT E c (.blk id :: K) kn (fun i st => bif Nat.beq i id then kn st else ke i st) kr st
  | .loop c, K, _, _, _, st => normL E c st fun st => some (.at K c st)
  | .exit id, _, _, ke, _, st => ke id st
  | .scope c, K, kn, ke, kr, st => exT E c K kn ke kr st
  | .label _, _, kn, _, _, st => kn st
  | .ret, _, _, _, kr, st => kr st
  | _, _, _, _, _, _ => none
/-- what comes behind a piece of code: its end; an exit -/
noncomputable def kT (E : Env) (kr : St → Option Leaf) : List Fr → (St → Option Leaf) × (Nat → St → Option Leaf)
  | [] => (kr, fun _ _ => none)
  | .seq b :: K => (fun st => exT E b K (kT E kr K).1 (kT E kr K).2 kr st, (kT E kr K).2)
  | .blk i :: K => ((kT E kr K).1, fun j st => bif Nat.beq j i then (kT E kr K).1 st else (kT E kr K).2 j st)
  | .loop c :: K => (fun st => normL E c st fun st => some (.at K c st), (kT E kr K).2)
noncomputable def kX (E : Env) (kr : St → Option CV) : List Fr → List Nat → (St → Option CV) × (Nat → St → Option CV)
  | [], _ => (kr, fun _ _ => none)
  | .seq b :: K, F => (fun st => exK E b (kX E kr K F).1 (kX E kr K F).2 kr st, (kX E kr K F).2)
  | .blk i :: K, F => ((kX E kr K F).1, fun j st => bif Nat.beq j i then (kX E kr K F).1 st else (kX E kr K F).2 j st)
  | .loop c :: K, n :: F => (fun st => loopK (normL E c) (fun again st => exK E c again (kX E kr K F).2 kr st) n st, (kX E kr K F).2)
  | .loop _ :: _, [] => (fun _ => none, fun _ _ => none)
def loops : List Fr → Nat
  | [] => 0
  | .loop _ :: K => loops K + 1
  | .seq _ :: K => loops K
  | .blk _ :: K => loops K
def Big (N : Nat) (F : List Nat) : Prop := ∀ n, n ∈ F → N ≤ n
/-- at a loop's head, with so many rounds left -/
noncomputable def atL (E : Env) (kr : St → Option CV) (K : List Fr) (c : Code) (F : List Nat) (st : St) : Option CV :=
  exK E c (kX E kr (.loop c :: K) F).1 (kX E kr (.loop c :: K) F).2 kr st
/-- a leaf comes to it -/
def LeafOk (E : Env) (kr : St → Option CV) (N : Nat) (r : CV) : Leaf → Prop
  | .ret v => v = r
  | .at K c st => ∀ F : List Nat, F.length = loops K + 1 → Big N F → atL E kr K c F st = some r
/-- the end, as a leaf -/
def krT (kr : St → Option CV) (st : St) : Option Leaf :=
  match kr st with
  | some v => some (.ret v)
  | none => none
theorem krT_ok {kr : St → Option CV} {st : St} {l : Leaf} {E : Env} {N : Nat} {r : CV} (h : krT kr st = some l) (hl : LeafOk E kr N r l) : kr st = some r := by
  unfold krT at h
  split at h
  · rename_i v hv
    cases h
    rw [hv]; exact congrArg some hl
  · cases h
section
variable {E : Env} {kr : St → Option CV} {N : Nat} {r : CV} {l : Leaf} {fu : Nat}
theorem exT_ok (hfu : E.fuel = fu + 1) (hN : N ≤ fu) (hl : LeafOk E kr N r l) : ∀ (c : Code) (K : List Fr) (F : List Nat) (kn : St → Option Leaf) (ke : Nat → St → Option Leaf) (st : St),
    F.length = loops K → Big N F →
    (∀ st, kn st = some l → (kX E kr K F).1 st = some r) → (∀ i st, ke i st = some l → (kX E kr K F).2 i st = some r) →
    exT E c K kn ke (krT kr) st = some l → exK E c (kX E kr K F).1 (kX E kr K F).2 kr st = some r := by
  intro c
  induction c with
  | skip => intro K F kn ke st hF hB hn he h; exact hn _ h
  | region id ops draw =>
    intro K F kn ke st hF hB hn he h
    simp only [exT] at h
    simp only [exK]
    split at h
    · rename_i hp
      obtain ⟨u, hu, a⟩ := regK_nat h
      simp only [hp]
      rw [a]
      exact hn _ hu
    · rename_i q hp
      obtain ⟨v, hv, b⟩ := norm_nat h
      obtain ⟨u, hu, a⟩ := regK_nat hv
      simp only [hp]
      rw [b, a]
      exact hn _ hu
  | seq a b iha ihb =>
    intro K F kn ke st hF hB hn he h
    simp only [exT] at h
    simp only [exK]
    exact iha (.seq b :: K) F _ ke st hF hB (fun st h => ihb K F kn ke st hF hB hn he h) he h
  | cond x a b iha ihb =>
    intro K F kn ke st hF hB hn he h
    simp only [exT] at h
    simp only [exK]
    split at h
    · rename_i t ht
      simp only [ht]
      cases t
      · exact ihb K F kn ke st hF hB hn he h
      · exact iha K F kn ke st hF hB hn he h
    · cases h
  | block id c ih =>
    intro K F kn ke st hF hB hn he h
    simp only [exT] at h
    simp only [exK]
    refine ih (.blk id :: K) F kn _ st hF hB hn (fun i st h => ?_) h
    simp only [kX]
    by_cases hi : Nat.beq i id = true
    · rw [hi] at h ⊢; exact hn _ h
    · rw [Bool.eq_false_iff.2 hi] at h ⊢; exact he _ _ h
  | loop c ih =>
    intro K F kn ke st hF hB hn he h
    simp only [exT] at h
    obtain ⟨u, hu, a⟩ := normL_nat h
    cases hu
    simp only [exK, hfu, loopK]
    rw [a]
    exact hl (fu :: F) (by simp [hF]) (fun n hn => by
      rcases List.mem_cons.1 hn with rfl | hn
      · exact hN
      · exact hB n hn)
  | exit id => intro K F kn ke st hF hB hn he h; exact he _ _ h
  | scope c ih => intro K F kn ke st hF hB hn he h; exact ih K F kn ke st hF hB hn he h
  | label s => intro K F kn ke st hF hB hn he h; exact hn _ h
  | ret => intro K F kn ke st hF hB hn he h; exact krT_ok h hl
  | _ => intro K F kn ke st hF hB hn he h; simp only [exT, reduceCtorEq] at h
theorem kT_ok (hfu : E.fuel = fu + 1) (hN : N ≤ fu) (hl : LeafOk E kr N r l) : ∀ (K : List Fr) (F : List Nat), F.length = loops K → Big (N + 1) F →
    (∀ st, (kT E (krT kr) K).1 st = some l → (kX E kr K F).1 st = some r) ∧ (∀ i st, (kT E (krT kr) K).2 i st = some l → (kX E kr K F).2 i st = some r)
  | [], F, hF, hB => ⟨fun st h => krT_ok h hl, fun i st h => by cases h⟩
  | .seq b :: K, F, hF, hB => by
    obtain ⟨h1, h2⟩ := kT_ok hfu hN hl K F hF hB
    exact ⟨fun st h => exT_ok hfu hN hl b K F _ _ st hF (fun n hn => Nat.le_of_succ_le (hB n hn)) h1 h2 h, h2⟩
  | .blk i :: K, F, hF, hB => by
    obtain ⟨h1, h2⟩ := kT_ok hfu hN hl K F hF hB
    refine ⟨h1, fun j st h => ?_⟩
    simp only [kT, kX] at h ⊢
    by_cases hi : Nat.beq j i = true
    · rw [hi] at h ⊢; exact h1 _ h
    · rw [Bool.eq_false_iff.2 hi] at h ⊢; exact h2 _ _ h
  | .loop c :: K, n :: F, hF, hB => by
    have hF' : F.length = loops K := by simpa [loops] using hF
    obtain ⟨h1, h2⟩ := kT_ok hfu hN hl K F hF' (fun m hm => hB m (List.mem_cons_of_mem _ hm))
    refine ⟨fun st h => ?_, h2⟩
    simp only [kT, kX] at h ⊢
    obtain ⟨u, hu, a⟩ := normL_nat h
    cases hu
    have hn := hB n (List.mem_cons_self ..)
    obtain ⟨m, rfl⟩ : ∃ m, n = m + 1 := ⟨n - 1, by omega⟩
    simp only [loopK]
    rw [a]
    exact hl (m :: F) (by simp [hF']) (fun k hk => by
      rcases List.mem_cons.1 hk with rfl | hk
      · omega
      · exact Nat.le_of_succ_le (hB k (List.mem_cons_of_mem _ hk)))
  | .loop c :: K, [], hF, hB => by simp [loops] at hF
end
/-- what a loop's head leads to, up to the next one -/
noncomputable def cutL (E : Env) (kr : St → Option CV) (K : List Fr) (c : Code) (st : St) : Option Leaf :=
  exT E c (.loop c :: K) (kT E (krT kr) (.loop c :: K)).1 (kT E (krT kr) (.loop c :: K)).2 (krT kr) st
/-- what a function's begin leads to -/
noncomputable def cutB (E : Env) (kr : St → Option CV) (fn : Func) (st : St) : Option Leaf :=
  match fn.body with
  | none => none
  | some c => exT E c [] (krT kr) (fun _ _ => none) (krT kr) st
/-- a leaf leads to it, whatever the number of rounds, if it is large -/
def Lead (E : Nat → Env) (kr : St → Option CV) (r : CV) (l : Leaf) : Prop := ∃ N, ∀ fu, N ≤ fu → LeafOk (E fu) kr N r l
def Good (E : Nat → Env) (kr : St → Option CV) (o : Option Leaf) (r : CV) : Prop := ∃ l, o = some l ∧ Lead E kr r l
def Fuel (E : Nat → Env) : Prop := ∀ fu, (E fu).fuel = fu
theorem Lead.ret {E : Nat → Env} {kr : St → Option CV} {r : CV} : Lead E kr r (.ret r) := ⟨0, fun _ _ => rfl⟩
theorem lead_ret {E : Nat → Env} {kr : St → Option CV} {r v : CV} : Lead E kr r (.ret v) ↔ v = r := ⟨fun ⟨N, h⟩ => h N (Nat.le_refl N), fun h => ⟨0, fun _ _ => h⟩⟩
theorem Lead.at {E : Nat → Env} (hE : Fuel E) {kr : St → Option CV} {r : CV} {K : List Fr} {c : Code} {st : St} {o : Option Leaf} (ho : ∀ fu, cutL (E fu) kr K c st = o) (h : Good E kr o r) : Lead E kr r (.at K c st) := by
  obtain ⟨l, rfl, N, hl⟩ := h
  refine ⟨N + 1, fun fu hfu F hF hB => ?_⟩
  obtain ⟨m, rfl⟩ : ∃ m, fu = m + 1 := ⟨fu - 1, by omega⟩
  have hm : N ≤ m := by omega
  have hF' : F.length = loops (.loop c :: K) := by simpa [loops] using hF
  obtain ⟨h1, h2⟩ := kT_ok (hE (m + 1)) hm (hl (m + 1) (by omega)) (.loop c :: K) F hF' hB
  exact exT_ok (hE (m + 1)) hm (hl (m + 1) (by omega)) c (.loop c :: K) F _ _ st hF' (fun n hn => Nat.le_of_succ_le (hB n hn)) h1 h2 (ho (m + 1))
theorem good_some {E : Nat → Env} {kr : St → Option CV} {r : CV} {l : Leaf} : Good E kr (some l) r ↔ Lead E kr r l := ⟨fun ⟨_, h, h'⟩ => by cases h; exact h', fun h => ⟨l, rfl, h⟩⟩
theorem good_ret {E : Nat → Env} {kr : St → Option CV} {r v : CV} : Good E kr (some (.ret v)) r ↔ v = r := good_some.trans lead_ret
theorem good_none {E : Nat → Env} {kr : St → Option CV} {r : CV} : Good E kr none r ↔ False :=
  ⟨fun h => (by obtain ⟨_, h, _⟩ := h; cases h), False.elim⟩
/-- 'the thing that is there' -/
@[reducible] def ob {α β : Type} (o : Option α) (f : α → Option β) : Option β := match o with
  | some x => f x
  | none => none
theorem ob_some {α β : Type} (x : α) (f : α → Option β) : ob (some x) f = f x := rfl
theorem ob_none {α β : Type} (f : α → Option β) : ob none f = none := rfl
/-- the whole function's run -/
def RunF (E : Nat → Env) (own : Bool) (fn : Func) (args : List CV) (r : CV) : Prop := ∃ N, ∀ fu, N ≤ fu → runF (E fu) own fn args = some r
theorem RunF.of {E : Nat → Env} (hE : Fuel E) {own : Bool} {fn : Func} {args : List CV} {r : CV} {o : Option Leaf} (ho : ∀ fu, cutB (E fu) (endK own fn.results.toList) fn ⟨parT 0 args, []⟩ = o) (h : Good E (endK own fn.results.toList) o r) : RunF E own fn args r := by
  obtain ⟨l, rfl, N, hl⟩ := h
  refine ⟨N + 1, fun fu hfu => ?_⟩
  obtain ⟨m, rfl⟩ : ∃ m, fu = m + 1 := ⟨fu - 1, by omega⟩
  have hm : N ≤ m := by omega
  have ho := ho (m + 1)
  unfold cutB at ho
  unfold runF
  split at ho
  · cases ho
  · rename_i c hc
    rw [hc]
    exact exT_ok (hE (m + 1)) hm (hl (m + 1) (by omega)) c [] [] _ _ _ rfl (fun n hn => by cases hn) (fun st h => krT_ok h (hl (m + 1) (by omega))) (fun i st h => by cases h) ho
theorem RunF.uniq {E : Nat → Env} {own : Bool} {fn : Func} {args : List CV} {r s : CV} (h : RunF E own fn args r) (h' : RunF E own fn args s) : r = s := by
  obtain ⟨N, h⟩ := h
  obtain ⟨M, h'⟩ := h'
  have := h (max N M) (Nat.le_max_left ..)
  rw [h' (max N M) (Nat.le_max_right ..)] at this
  exact (Option.some.inj this).symm
/-- a function that writes into the row that it is handed first -/
def RunM (E : Nat → Env) (fn : Func) (l : List Int) (args : List CV) (l' : List Int) : Prop := ∃ N, ∀ fu, N ≤ fu → runM (E fu) fn l args = some l'
def endR (st : St) : Option CV := match endM st with | some l => some (.sl .int l) | none => none
theorem RunM.uniq {E : Nat → Env} {fn : Func} {l : List Int} {args : List CV} {r s : List Int} (h : RunM E fn l args r) (h' : RunM E fn l args s) : r = s := by
  obtain ⟨N, h⟩ := h
  obtain ⟨M, h'⟩ := h'
  have := h (max N M) (Nat.le_max_left ..)
  rw [h' (max N M) (Nat.le_max_right ..)] at this
  exact (Option.some.inj this).symm

theorem exK_to {E : Env} {R S : Type} {r : R} {s : S} : ∀ (c : Code) {kn : St → Option R} {ke : Nat → St → Option R} {kr : St → Option R} {kn' : St → Option S} {ke' : Nat → St → Option S} {kr' : St → Option S} {st : St},
    (∀ st, kn st = some r → kn' st = some s) → (∀ i st, ke i st = some r → ke' i st = some s) → (∀ st, kr st = some r → kr' st = some s) → exK E c kn ke kr st = some r → exK E c kn' ke' kr' st = some s := by
  intro c
  induction c with
  | skip => intro kn ke kr kn' ke' kr' st hn he hr h; exact hn _ h
  | region id ops draw =>
    intro kn ke kr kn' ke' kr' st hn he hr h
    simp only [exK] at h ⊢
    split at h
    · rename_i hp
      obtain ⟨u, hu, a⟩ := regK_nat h
      rw [a]
      exact hn _ hu
    · rename_i q hp
      obtain ⟨v, hv, b⟩ := norm_nat h
      obtain ⟨u, hu, a⟩ := regK_nat hv
      rw [b, a]
      exact hn _ hu
  | seq a b iha ihb => intro kn ke kr kn' ke' kr' st hn he hr h; exact iha (fun st h => ihb hn he hr h) he hr h
  | cond x a b iha ihb =>
    intro kn ke kr kn' ke' kr' st hn he hr h
    simp only [exK] at h ⊢
    split at h
    · rename_i t ht
      cases t
      · exact ihb hn he hr h
      · exact iha hn he hr h
    · cases h
  | block id c ih =>
    intro kn ke kr kn' ke' kr' st hn he hr h
    refine ih hn (fun i st h => ?_) hr h
    by_cases hi : Nat.beq i id = true
    · simp only [hi] at h ⊢; exact hn _ h
    · simp only [Bool.eq_false_iff.2 hi] at h ⊢; exact he _ _ h
  | loop c ih =>
    intro kn ke kr kn' ke' kr' st hn he hr h
    simp only [exK] at h ⊢
    revert h
    generalize E.fuel = n
    induction n generalizing st with
    | zero => intro h; cases h
    | succ n ihn =>
      intro h
      simp only [loopK] at h ⊢
      obtain ⟨u, hu, a⟩ := normL_nat h
      rw [a]
      exact ih (fun st h => ihn h) he hr hu
  | exit id => intro kn ke kr kn' ke' kr' st hn he hr h; exact he _ _ h
  | scope c ih => intro kn ke kr kn' ke' kr' st hn he hr h; exact ih hn he hr h
  | label s => intro kn ke kr kn' ke' kr' st hn he hr h; exact hn _ h
  | ret => intro kn ke kr kn' ke' kr' st hn he hr h; exact hr _ h
  | _ => intro kn ke kr kn' ke' kr' st hn he hr h; simp only [exK, reduceCtorEq] at h
theorem RunM.of {E : Nat → Env} (hE : Fuel E) {fn : Func} {l : List Int} {args : List CV} {l' : List Int} {o : Option Leaf} (ho : ∀ fu, cutB (E fu) endR fn ⟨parT 0 (.ref 90000 :: args), [(90000, some (.arr true .int l))]⟩ = o) (h : Good E endR o (.sl .int l')) : RunM E fn l args l' := by
  obtain ⟨lf, rfl, N, hl⟩ := h
  refine ⟨N + 1, fun fu hfu => ?_⟩
  obtain ⟨m, rfl⟩ : ∃ m, fu = m + 1 := ⟨fu - 1, by omega⟩
  have hm : N ≤ m := by omega
  have ho := ho (m + 1)
  have key : ∀ st, endR st = some (.sl .int l') → endM st = some l' := by
    intro st h
    unfold endR at h
    split at h
    · rename_i l hl
      cases h; exact hl
    · cases h
  unfold cutB at ho
  unfold runM
  split at ho
  · cases ho
  · rename_i c hc
    rw [hc]
    exact exK_to c key (fun i st h => by cases h) key (exT_ok (hE (m + 1)) hm (hl (m + 1) (by omega)) c [] [] _ _ _ rfl (fun n hn => by cases hn) (fun st h => krT_ok h (hl (m + 1) (by omega))) (fun i st h => by cases h) ho)

/-! ### what is told of a called function -/
noncomputable def okP {α : Type} (p : α → Prop) : Bool := @decide (∃ a, p a) (Classical.propDecidable _)
noncomputable def valP {α : Type} [Nonempty α] (p : α → Prop) : α := Classical.epsilon p
theorem okP_val {α : Type} [Nonempty α] {p : α → Prop} (h : okP p = true) : p (valP p) := Classical.epsilon_spec (by simpa [okP] using h)
theorem okP_of {α : Type} [Nonempty α] {p : α → Prop} {a : α} (h : p a) (hu : ∀ b, p b → b = a) : okP p = true ∧ valP p = a := by
  have : okP p = true := by simp only [okP, decide_eq_true_eq]; exact ⟨a, h⟩
  exact ⟨this, hu _ (okP_val this)⟩
abbrev Ent := List CV → Option (Bool × Bool × CV)
def EntOk (f : Nat) (g : Ent) : Prop := ∀ args own r, g args = some (own, true, r) → CallsC f args own r ∧ callable f = true
def semOf (es : List (Nat × Ent)) : Sems := fun f args => match look es f with
  | some g => g args
  | none => none
inductive EntsOk : List (Nat × Ent) → Prop
  | nil : EntsOk []
  | cons {f : Nat} {g : Ent} {es : List (Nat × Ent)} : EntOk f g → EntsOk es → EntsOk ((f, g) :: es)
theorem EntsOk.sem : ∀ {es : List (Nat × Ent)}, EntsOk es → SemOk (semOf es)
  | [], _ => fun f args own r h => by cases h
  | (f', g) :: es, .cons h1 h2 => fun f args own r h => by
    simp only [semOf, look] at h
    by_cases hf : Nat.beq f' f = true
    · rw [hf, cond_true] at h
      obtain rfl := Nat.eq_of_beq_eq_true hf
      exact h1 args own r h
    · rw [Bool.eq_false_iff.2 hf, cond_false] at h
      exact h2.sem f args own r h
theorem EntOk.or {f : Nat} {g g' : Ent} (h : EntOk f g) (h' : EntOk f g') : EntOk f fun args => match g args with | some x => some x | none => g' args := fun args own r e => by
  simp only at e
  split at e
  · rename_i x hx
    exact h args own r (hx.trans e)
  · exact h' args own r e
/-- literals of whole numbers are told by value -/
def litE : Ent := fun _ => some (true, false, .unk)
theorem litE_ok : EntOk 300000 litE := fun args own r h => by
  unfold litE at h
  cases h
abbrev EntM := List Int → List CV → Option (Bool × List Int)
def EntMOk (f : Nat) (g : EntM) : Prop := ∀ l args l', g l args = some (true, l') → CallsM f l args l' ∧ callable f = true
def memOf (es : List (Nat × EntM)) : Nat → List Int → List CV → Option (Bool × List Int) := fun f l args => match look es f with
  | some g => g l args
  | none => none
inductive EntsMOk : List (Nat × EntM) → Prop
  | nil : EntsMOk []
  | cons {f : Nat} {g : EntM} {es : List (Nat × EntM)} : EntMOk f g → EntsMOk es → EntsMOk ((f, g) :: es)
theorem EntsMOk.mem : ∀ {es : List (Nat × EntM)}, EntsMOk es → MemOk (memOf es)
  | [], _ => fun f l args l' h => by cases h
  | (f', g) :: es, .cons h1 h2 => fun f l args l' h => by
    simp only [memOf, look] at h
    by_cases hf : Nat.beq f' f = true
    · rw [hf, cond_true] at h
      obtain rfl := Nat.eq_of_beq_eq_true hf
      exact h1 l args l' h
    · rw [Bool.eq_false_iff.2 hf, cond_false] at h
      exact h2.mem f l args l' h
/-- a run is what a call comes to -/
theorem RunF.calls {E : Nat → Env} (hs : ∀ fu, SemOk (E fu).sem) (hm : ∀ fu, MemOk (E fu).msem) {f : Nat} {fn : Func} (hf : P.funcs[f]? = some fn) {own : Bool} {args : List CV} (hn : noNames args = true) (hl : args.length ≤ fn.ntmps) (hnt : ∀ fu, (E fu).nt = fn.ntmps) {r : CV} (h : RunF E own fn args r) : CallsC f args own r := by
  obtain ⟨N, h⟩ := h
  exact runF_calls (hs N) (hm N) hf hn hl (hnt N) (h N (Nat.le_refl N))
theorem RunM.calls {E : Nat → Env} (hs : ∀ fu, SemOk (E fu).sem) (hm : ∀ fu, MemOk (E fu).msem) (hk : ∀ fu, (E fu).kill = []) (hlow : ∀ fu, 0 < (E fu).low) {f : Nat} {fn : Func} (hf : P.funcs[f]? = some fn) (hres : fn.results = #[]) {l l' : List Int} {args : List CV} (hn : noNames args = true) (hl : args.length + 1 ≤ fn.ntmps) (hnt : ∀ fu, (E fu).nt = fn.ntmps) (h : RunM E fn l args l') : CallsM f l args l' := by
  obtain ⟨N, h⟩ := h
  exact runM_calls (hs N) (hm N) (hk N) (hlow N) hf hres hn hl (hnt N) (h N (Nat.le_refl N))
/-- a net's rows -/
@[ext] structure NetV where
  N : Int
  T : List Int
  X : List Int
  C : List Int
/-- a part -/
@[ext] structure PartV where
  R : Bool
  A : Int
  D : List Int
/-- a cut -/
@[ext] structure CutV where
  I : List Bool
  S : Int
  Y : List Int
instance : Nonempty NetV := ⟨⟨0, [], [], []⟩⟩
instance : Nonempty PartV := ⟨⟨false, 0, []⟩⟩
instance : Nonempty CutV := ⟨⟨[], 0, []⟩⟩
/-- a loop's surroundings and its body, by its number -/
def findL : Code → Nat → List Fr → Option (List Fr × Code)
  | .seq a b, i, K => match findL a i (.seq b :: K) with
    | some x => some x
    | none => findL b i K
  | .cond _ a b, i, K => match findL a i K with
    | some x => some x
    | none => findL b i K
  | .block j c, i, K => findL c i (.blk j :: K)
  | .scope c, i, K => findL c i K
  | .loop c, i, K => bif Nat.beq (loopId c) i then some (K, c) else findL c i (.loop c :: K)
  | _, _, _ => none
noncomputable def theK (fn : Func) (i : Nat) : List Fr := match fn.body with
  | some c => match findL c i [] with
    | some x => x.1
    | none => []
  | none => []
noncomputable def theC (fn : Func) (i : Nat) : Code := match fn.body with
  | some c => match findL c i [] with
    | some x => x.2
    | none => .skip
  | none => .skip
end Go.Proofs.Ytnfgfdeidkhdkaa.Eng
/- Fa: slices.Clone, by hand: an empty slice may be nil or not. -/
namespace Go.Proofs.Ytnfgfdeidkhdkaa.Eng
open Go.RowKit (Below)
set_option linter.unusedVariables false
set_option linter.unusedSimpArgs false

noncomputable def parts76 : Array Oper × Array Oper × Code × Code :=
  match Try.f76.body with
  | some (.seq (.region 0 o0 false) (.seq (.seq (.region 1 o1 false) c) t)) => (o0, o1, c, t)
  | _ => (#[], #[], .skip, .skip)
theorem body76 : Try.f76.body = some (.seq (.region 0 parts76.1 false) (.seq (.seq (.region 1 parts76.2.1 false) parts76.2.2.1) parts76.2.2.2)) := by kernel_rfl
def E76 : Env := ⟨8, 0, fun _ _ => none, [], fun _ _ _ => none, [], [], 0⟩
/-- the test -/
theorem test76 : ∃ o p, parts76.2.1 = #[o, p] ∧ p.op = .binOp .eql 22 (.tmp 3) (.const (.slice none 0 0)) 22 ∧ p.dst = some 4 ∧ p.guard = none ∧ p.type = 4 ∧ ∀ l, opS E76 parts76.2.1 [] o ⟨[(2, .nil .int), (0, .sl .int l)], []⟩ some = some ⟨[(3, .sl .int l)], []⟩ := ⟨_, _, rfl, rfl, rfl, rfl, rfl, fun _ => rfl⟩
theorem equalIn_nil (d : Nat) (A : Option Addr) (n c : Nat) (w : World) : (Op.equalIn (d + 1) 22 (.slice A n c) (.slice none 0 0)).run P w = .ok A.isNone w := by
  have hu : P.underlying 22 = some (.slice 3) := SK.under .int
  cases A <;> simp [Op.equalIn, run_underlying hu]
theorem equal_nil (A : Option Addr) (n c : Nat) (w : World) : (Op.equal 22 (.slice A n c) (.slice none 0 0)).run P w = .ok A.isNone w := equalIn_nil 9999 A n c w
theorem nilTest (A : Option Addr) (n c : Nat) (w : World) : (binOp .eql 22 (.slice A n c) (.slice none 0 0)).run P w = .ok (.bool A.isNone) w := by
  have h := equal_nil A n c w
  simp only [binOp, Sem.run_bind, h, Result.andThen_ok, Sem.run_pure]

theorem clone_calls (l : List Int) (hl : l.length ≤ 4294967296) : CallsC 76 [.sl .int l] true (.sl .int l) := by
  intro w R vs hR ha
  have hf : P.funcs[76]? = some Try.f76 := by kernel_rfl
  have hE : Ok ⟨w, R, fun _ => False, none⟩ E76 := ⟨fun _ _ _ _ h => (by cases h), fun _ _ _ _ h => (by cases h), .inl fun _ h => h, .inl rfl, .inl fun _ h => h⟩
  have hsz : vs.size ≤ 8 := by
    have := ha.length
    have e : vs.toList.length = vs.size := Array.length_toList ..
    simp at this
    omega
  have hb := begin_sound (w := w) hR ha (by rfl) 8 hsz
  refine calls_of_wp hf body76 ?_
  have fin : ∀ st' a' w', endK true Try.f76.results.toList st' = some (.sl .int l) → Sim ⟨w, R, fun _ => False, none⟩ E76.nt st' a' w' → a'.defers = [] ∧ ∃ v, (results Try.f76 a'.tmps).run P w' = .ok v w' ∧ (∃ v', Ending.returned v = .returned v' ∧ Below w.heap.size w w' ∧
      ∃ R' : Nat → Prop, (∀ b, R b → R' b) ∧ (∀ b, R' b → R b ∨ w.heap.size ≤ b) ∧ (∀ b, R' b → b < w'.heap.size) ∧ Res true w.heap.size w' R' (.sl .int l) v') := by
    intro st' a' w' he hs'
    obtain ⟨h1, v, h2, h3⟩ := endK_sound hs' he
    exact ⟨h1, v, h2, v, rfl, h3⟩
  have hk : regK E76 parts76.1 false ⟨parT 0 [.sl .int l], []⟩ some = some ⟨[(2, .nil .int), (0, .sl .int l)], []⟩ := by kernel_rfl
  refine wp_seq (regK_sound hE (K := some) (r := ⟨[(2, .nil .int), (0, .sl .int l)], []⟩) (st := ⟨parT 0 [.sl .int l], []⟩) ?_ ⟨R, _, _, hb⟩ hk 0)
  rintro st1 a1 w1 hst1 h1
  cases hst1
  obtain ⟨o, p, ho, hop, hdst, hg, hty, hk0'⟩ := test76
  refine wp_seq (wp_seq (wp_region ?_))
  have hk0 := hk0' l
  have hi0 : parts76.2.1[0]? = some o := by rw [ho]; rfl
  have hi1 : parts76.2.1[1]? = some p := by rw [ho]; rfl
  have hsz2 : parts76.2.1.size = 2 := by rw [ho]; rfl
  rw [hsz2]
  show wpOps P parts76.2.1 _ [0, 1] a1 w1
  rw [wpOps_cons]
  obtain ⟨u, hu, hwp⟩ := opS_sound hE h1 hi0 hk0
  cases hu
  refine hwp _ _ fun a2 w2 h2 => ?_
  rw [wpOps_cons]
  obtain ⟨R2, lv2, loc2, h2⟩ := h2
  obtain ⟨v, hv, hr⟩ := h2.tm 3 (.sl .int l) rfl
  obtain ⟨A, c, rfl, hnc, hcells⟩ := hr
  have hev : a2.eval (.tmp 3) = .slice A l.length c := by simp [Act.eval, Array.getD_eq_getD_getElem?, hv]
  have hrun : (execOp a2.eval p).run P w2 = .ok (.value (.bool A.isNone)) w2 := by
    unfold execOp
    have hev2 : a2.eval (.const (.slice none 0 0)) = .slice none 0 0 := rfl
    simp only [hop, hev, hev2]
    refine run_v _ _ ?_
    rw [eqGuard_at_slice]
    simpa using nilTest A l.length c w2
  unfold wpOp
  simp only [hi1, Region.wanted, hg, if_true]
  refine .inl (wp_value hrun ?_)
  rw [hdst]
  have h3 := h2.put (c := .bool A.isNone) (v := .bool A.isNone) (d := 4) rfl (by simp [n2, n1, n0]) (by decide) (.inl rfl)
  have hA : A.isNone = true → l = [] := by
    intro hA
    cases l with
    | nil => rfl
    | cons e l =>
      obtain ⟨ad, x, hA', -⟩ := hcells 0 (.int .i64 e) (by simp [SK.cells])
      rw [hA'] at hA; cases hA
  have key : ∀ b : Bool, (b = true → l = []) → exK E76 parts76.2.2.1 (fun st => exK E76 parts76.2.2.2 (endK true Try.f76.results.toList) (fun _ _ => none) (endK true Try.f76.results.toList) st) (fun _ _ => none) (endK true Try.f76.results.toList)
      ⟨[(4, .bool b), (3, .sl .int l), (2, .nil .int), (0, .sl .int l)], []⟩ = some (.sl .int l) := by
    intro b hb
    cases b with
    | true =>
      obtain rfl := hb rfl
      kernel_rfl
    | false =>
      have e : exK E76 parts76.2.2.1 (fun st => exK E76 parts76.2.2.2 (endK true Try.f76.results.toList) (fun _ _ => none) (endK true Try.f76.results.toList) st) (fun _ _ => none) (endK true Try.f76.results.toList)
          ⟨[(4, .bool false), (3, .sl .int l), (2, .nil .int), (0, .sl .int l)], []⟩ = bif Nat.ble l.length 4294967296 then some (.sl .int l) else none := by kernel_rfl
      rw [e, Nat.ble_eq_true_of_le hl]
      rfl
  refine exK_sound hE parts76.2.2.1 (r := CV.sl .int l) (fun st' a' w' he hs' => ?_) (fun i st' a' w' he hs' => by cases he) (fun st' a' w' he hs' => fin st' a' w' he hs') ⟨R2, lv2, loc2, h3⟩ (key _ hA)
  exact exK_sound hE parts76.2.2.2 (Q := bodyPost P Try.f76 _) (r := CV.sl .int l) (fun st' a' w' he hs' => fin st' a' w' he hs') (fun i st' a' w' he hs' => by cases he) (fun st' a' w' he hs' => fin st' a' w' he hs') hs' he
/-- the row that is told, as it lies -/
def endW (k : SK) (st : St) : Option CV :=
  match look st.T 2 with
  | some (.ref y) => match get st.H y with
    | some (.arr true k' l) => bif decide (k' = k) then some (.sl k' l) else none
    | _ => none
  | some (.nil k') => bif decide (k' = k) then some (.sl k' []) else none
  | _ => none
theorem endW_sound {w : World} {R : Nat → Prop} {nt : Nat} {st : St} {a : Act} {w' : World} (h : Sim ⟨w, R, fun _ => False, none⟩ nt st a w') {k : SK} (hpl : k.plain = true) {l : List k.T} (he : endW k st = some (.sl k l)) {fn : Func} (hf : fn.results.toList = [.tmp 2]) :
    a.defers = [] ∧ ∃ v, (results fn a.tmps).run P w' = .ok v w' ∧ Below w.heap.size w w' ∧
      ∃ R' : Nat → Prop, (∀ b, R b → R' b) ∧ (∀ b, R' b → R b ∨ w.heap.size ≤ b) ∧ (∀ b, R' b → b < w'.heap.size) ∧ Res true w.heap.size w' R' (.fn 999 [.sl k l]) v := by
  obtain ⟨R0, lv, loc, h⟩ := h
  refine ⟨h.dfr, ?_⟩
  have hbel : Below w.heap.size w w' := ⟨h.os, h.tape, h.output, h.grow, fun b hb => h.keep b hb (fun h => h)⟩
  have fin : ∀ {c : CV} {v : Value}, look st.T 2 = some c → a.tmps[2]? = some v → (∀ x, ∃ L : Option Lc, cellR (ownCx w' x [L]) (.ref x) v ∧ blkR (ownCx w' x [L]) x (.arr true k l) ∧ ∀ M, L = some M → w.heap.size ≤ M.g ∧ M.g < w'.heap.size) →
      ∃ v, (results fn a.tmps).run P w' = .ok v w' ∧ Below w.heap.size w w' ∧ ∃ R' : Nat → Prop, (∀ b, R b → R' b) ∧ (∀ b, R' b → R b ∨ w.heap.size ≤ b) ∧ (∀ b, R' b → b < w'.heap.size) ∧ Res true w.heap.size w' R' (.fn 999 [.sl k l]) v := by
    intro c v hc hv hx
    have hrun : (fn.results.toList.mapM (readR a.tmps)).run P w' = .ok [v] w' := by
      have e : a.tmps.getD 2 undef = v := by simp [Array.getD_eq_getD_getElem?, hv]
      rw [hf]
      show ((readR a.tmps (.tmp 2) >>= fun x => (do pure [x] : Sem (List Value))) : Sem (List Value)).run P w' = _
      simp only [readR, e, Sem.run_bind, Sem.run_pure, Result.andThen_ok]
    have hres := results_run hrun
    simp only [List.length_singleton, dif_pos, List.getElem_cons_zero] at hres
    refine ⟨v, hres, hbel, R, fun _ h => h, fun b hb => .inl hb, fun b hb => h.rlt b (h.rsub b hb), fun x => ?_⟩
    obtain ⟨L, h1, h2, h3⟩ := hx x
    refine ⟨[L], rfl, h1, fun y hy => ?_, fun i b hb => ?_, fun i M hM => ?_, fun i j M M' hij hM hM' => ?_⟩
    · simp only [own2, n2, n1, n0, List.mem_singleton] at hy
      subst hy; simp
    · cases i with
      | zero =>
        simp only [own2, List.getElem?_cons_zero, Option.some.injEq] at hb
        subst hb
        exact ⟨h2, rfl⟩
      | succ i => simp [own2] at hb
    · cases i with
      | zero =>
        simp only [List.getElem?_cons_zero, Option.some.injEq] at hM
        exact h3 M hM
      | succ i => simp at hM
    · cases i <;> cases j <;> simp at hM hM' hij
  have hloc : ∀ (x : Nat) (L : Option Lc), (ownCx w' x [L]).loc x = L := fun x L => by simp [ownCx]
  unfold endW at he
  split at he
  · rename_i y hy
    split at he
    · rename_i k' l' hg
      by_cases hk : k' = k
      · subst hk
        simp only [decide_true, cond_true, Option.some.injEq, CV.sl.injEq, heq_eq_eq, true_and] at he
        subst he
        obtain ⟨v, hv, hr⟩ := h.tm 2 _ hy
        have hlk := get_some.1 hg
        have hlv : lv y := (h.lv y).2 ⟨_, hlk⟩
        obtain ⟨hb, hb2⟩ := h.bl y _ hlk
        refine fin hy hv fun x => ⟨loc y, ⟨hr.1, fun _ => ?_⟩, ?_, fun M hM => ?_⟩
        · rw [hloc]
          exact hr.2 hlv
        · simp only [blkR] at hb ⊢
          rw [hloc]
          cases hL : loc y with
          | none => rw [hL] at hb; exact hb
          | some L =>
            rw [hL] at hb
            obtain ⟨b1, b2, b3, b4, cur, b5, b6, b7⟩ := hb
            refine ⟨b1, b2, b3, b4, cur, b5, b6, fun i u hu => ?_⟩
            obtain ⟨z, hz, hr'⟩ := b7 i u hu
            obtain ⟨e, -, he⟩ := List.mem_flatMap.1 (List.mem_of_getElem? hu)
            exact ⟨z, hz, plain_bv hpl he hr'⟩
        · obtain ⟨a1, a2, a3⟩ := hb2 M hM
          exact ⟨a1.resolve_right (fun h => h), a3⟩
      · simp [hk] at he
    · cases he
  · rename_i k' hy
    by_cases hk : k' = k
    · subst hk
      simp only [decide_true, cond_true, Option.some.injEq, CV.sl.injEq, heq_eq_eq, true_and] at he
      subst he
      obtain ⟨v, hv, A, rfl⟩ := h.tm 2 _ hy
      refine fin hy hv fun x => ⟨none, ⟨⟨_, _, _, rfl⟩, fun _ => ?_⟩, ?_, fun M hM => by cases hM⟩
      · rw [hloc]; exact ⟨A, rfl⟩
      · simp only [blkR]
        rw [hloc]; trivial
    · simp [hk] at he
  · cases he

theorem cloneW_calls (l : List Int) (hl : l.length ≤ 4294967296) : CallsC 76 [.sl .int l] true (.fn 999 [.sl .int l]) := by
  intro w R vs hR ha
  have hf : P.funcs[76]? = some Try.f76 := by kernel_rfl
  have hE : Ok ⟨w, R, fun _ => False, none⟩ E76 := ⟨fun _ _ _ _ h => (by cases h), fun _ _ _ _ h => (by cases h), .inl fun _ h => h, .inl rfl, .inl fun _ h => h⟩
  have hsz : vs.size ≤ 8 := by
    have := ha.length
    have e : vs.toList.length = vs.size := Array.length_toList ..
    simp at this
    omega
  have hb := begin_sound (w := w) hR ha (by rfl) 8 hsz
  refine calls_of_wp hf body76 ?_
  have fin : ∀ st' a' w', endW .int st' = some (.sl .int l) → Sim ⟨w, R, fun _ => False, none⟩ E76.nt st' a' w' → a'.defers = [] ∧ ∃ v, (results Try.f76 a'.tmps).run P w' = .ok v w' ∧ (∃ v', Ending.returned v = .returned v' ∧ Below w.heap.size w w' ∧
      ∃ R' : Nat → Prop, (∀ b, R b → R' b) ∧ (∀ b, R' b → R b ∨ w.heap.size ≤ b) ∧ (∀ b, R' b → b < w'.heap.size) ∧ Res true w.heap.size w' R' (.fn 999 [.sl .int l]) v') := by
    intro st' a' w' he hs'
    obtain ⟨h1, v, h2, h3⟩ := endW_sound hs' rfl he (by kernel_rfl : Try.f76.results.toList = [.tmp 2])
    exact ⟨h1, v, h2, v, rfl, h3⟩
  have hk : regK E76 parts76.1 false ⟨parT 0 [.sl .int l], []⟩ some = some ⟨[(2, .nil .int), (0, .sl .int l)], []⟩ := by kernel_rfl
  refine wp_seq (regK_sound hE (K := some) (r := ⟨[(2, .nil .int), (0, .sl .int l)], []⟩) (st := ⟨parT 0 [.sl .int l], []⟩) ?_ ⟨R, _, _, hb⟩ hk 0)
  rintro st1 a1 w1 hst1 h1
  cases hst1
  obtain ⟨o, p, ho, hop, hdst, hg, hty, hk0'⟩ := test76
  refine wp_seq (wp_seq (wp_region ?_))
  have hk0 := hk0' l
  have hi0 : parts76.2.1[0]? = some o := by rw [ho]; rfl
  have hi1 : parts76.2.1[1]? = some p := by rw [ho]; rfl
  have hsz2 : parts76.2.1.size = 2 := by rw [ho]; rfl
  rw [hsz2]
  show wpOps P parts76.2.1 _ [0, 1] a1 w1
  rw [wpOps_cons]
  obtain ⟨u, hu, hwp⟩ := opS_sound hE h1 hi0 hk0
  cases hu
  refine hwp _ _ fun a2 w2 h2 => ?_
  rw [wpOps_cons]
  obtain ⟨R2, lv2, loc2, h2⟩ := h2
  obtain ⟨v, hv, hr⟩ := h2.tm 3 (.sl .int l) rfl
  obtain ⟨A, c, rfl, hnc, hcells⟩ := hr
  have hev : a2.eval (.tmp 3) = .slice A l.length c := by simp [Act.eval, Array.getD_eq_getD_getElem?, hv]
  have hrun : (execOp a2.eval p).run P w2 = .ok (.value (.bool A.isNone)) w2 := by
    unfold execOp
    have hev2 : a2.eval (.const (.slice none 0 0)) = .slice none 0 0 := rfl
    simp only [hop, hev, hev2]
    refine run_v _ _ ?_
    rw [eqGuard_at_slice]
    simpa using nilTest A l.length c w2
  unfold wpOp
  simp only [hi1, Region.wanted, hg, if_true]
  refine .inl (wp_value hrun ?_)
  rw [hdst]
  have h3 := h2.put (c := .bool A.isNone) (v := .bool A.isNone) (d := 4) rfl (by simp [n2, n1, n0]) (by decide) (.inl rfl)
  have hA : A.isNone = true → l = [] := by
    intro hA
    cases l with
    | nil => rfl
    | cons e l =>
      obtain ⟨ad, x, hA', -⟩ := hcells 0 (.int .i64 e) (by simp [SK.cells])
      rw [hA'] at hA; cases hA
  have key : ∀ b : Bool, (b = true → l = []) → exK E76 parts76.2.2.1 (fun st => exK E76 parts76.2.2.2 (endW .int) (fun _ _ => none) (endW .int) st) (fun _ _ => none) (endW .int)
      ⟨[(4, .bool b), (3, .sl .int l), (2, .nil .int), (0, .sl .int l)], []⟩ = some (.sl .int l) := by
    intro b hb
    cases b with
    | true =>
      obtain rfl := hb rfl
      kernel_rfl
    | false =>
      have e : exK E76 parts76.2.2.1 (fun st => exK E76 parts76.2.2.2 (endW .int) (fun _ _ => none) (endW .int) st) (fun _ _ => none) (endW .int)
          ⟨[(4, .bool false), (3, .sl .int l), (2, .nil .int), (0, .sl .int l)], []⟩ = bif Nat.ble l.length 4294967296 then some (.sl .int l) else none := by kernel_rfl
      rw [e, Nat.ble_eq_true_of_le hl]
      rfl
  refine exK_sound hE parts76.2.2.1 (r := CV.sl .int l) (fun st' a' w' he hs' => ?_) (fun i st' a' w' he hs' => by cases he) (fun st' a' w' he hs' => fin st' a' w' he hs') ⟨R2, lv2, loc2, h3⟩ (key _ hA)
  exact exK_sound hE parts76.2.2.2 (Q := bodyPost P Try.f76 _) (r := CV.sl .int l) (fun st' a' w' he hs' => fin st' a' w' he hs') (fun i st' a' w' he hs' => by cases he) (fun st' a' w' he hs' => fin st' a' w' he hs') hs' he
end Go.Proofs.Ytnfgfdeidkhdkaa.Eng
