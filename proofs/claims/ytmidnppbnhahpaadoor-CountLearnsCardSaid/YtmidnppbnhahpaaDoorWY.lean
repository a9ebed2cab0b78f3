import Derived.Test.YtmidnppbnhahpaaDoorWX
import Derived.Test.YtmidnppbnhahpaaDoorSrt
import Derived.Maps.OwnOps
import Derived.Shelf.SlSortCmp.NoneTotal
namespace Go.Proofs.Er
open Go Go.RowKit Go.Shelf Go.Proofs Go.Sort
attribute [local go_sem] Oper.semAt_some

/-- A row whose one cell is stored anew. -/
theorem Row.store {W : World} {e sz g n cap : Nat} {xs : List Value} (h : Row W e sz (.slice (some ⟨g, 0, none⟩) n cap) n xs) (j : Nat) (u : Value) : Row (W.setCell ⟨g, j, none⟩ u) e sz (.slice (some ⟨g, 0, none⟩) n cap) n (xs.set j u) := by
  obtain ⟨h1, h2⟩ := h
  rcases h2 with ⟨h2, _⟩ | ⟨g', cap', cur, hg, _, hh, hcap, hmax, hcs, ht⟩
  · cases h2
  · injection hg with hg1 hg2 hg3
    injection hg1 with hg1
    injection hg1 with hg1
    subst hg1 hg3
    refine ⟨by simpa using h1, .inr ⟨g, cap, cur.setIfInBounds j u, rfl, Nat.zero_le _, ?_, hcap, hmax, by simpa using hcs, ?_⟩⟩
    · simp only [World.setCell, Array.getElem?_modify, if_true, hh, Option.map_some, Option.isSome_none, Bool.false_eq_true, if_false]
    · rw [Array.toList_setIfInBounds, List.take_set, ht]
theorem flat_set (l : List Blk) (k : Nat) (x : Blk) (hx : l[k]? = some x) (y : Int) : (l.flatMap cBlk).set (k * 3 + 2) (.int .i64 y) = (l.set k ⟨x.f, x.t, y⟩).flatMap cBlk := by
  induction l generalizing k with
  | nil => simp at hx
  | cons a l ih =>
    cases k with
    | zero => simp at hx; subst hx; simp [cBlk]
    | succ k =>
      simp only [List.flatMap_cons, List.set_cons_succ]
      rw [List.set_append_right _ _ (by simp [cBlk]; omega)]
      congr 1
      rw [← ih k (by simpa using hx)]
      congr 1
      simp [cBlk]; omega

/-- What the map of places says. -/
def PlaceM (out : List Blk) (m : Lit → Option Int) : Prop := ∀ f t kl, keyOf Tryd.prog 79 (.agg #[.string f, .string t]) = some kl → m kl = (keyIdx out f t).map Int.ofNat
theorem PlaceM.hit {out : List Blk} {m : Lit → Option Int} (h : PlaceM out m) (b : Blk) (hk : (keyIdx out b.f b.t).isSome = true) : PlaceM (addB out b) m := by
  intro f t kl hkl
  rw [h f t kl hkl, addB_eq, if_pos hk]
  unfold keyIdx
  rw [keysL_hit]
set_option maxRecDepth 1000000 in
theorem PlaceM.miss {out : List Blk} {m : Lit → Option Int} (h : PlaceM out m) (b : Blk) (hk : keyIdx out b.f b.t = none) (kb : Lit) (hkb : keyOf Tryd.prog 79 (.agg #[.string b.f, .string b.t]) = some kb) : PlaceM (addB out b) (updF m kb out.length) := by
  intro f t kl hkl
  rw [addB_eq, hk]
  simp only [Option.isSome_none, Bool.false_eq_true, if_false]
  rw [keyIdx_miss hk]
  by_cases e : (b.f, b.t) = (f, t)
  · rw [if_pos e]
    obtain ⟨e1, e2⟩ := Prod.mk.inj e
    subst e1 e2
    have hkl' := Option.some.inj (hkb.symm.trans hkl)
    rw [← hkl', updF_same]
    rfl
  · rw [if_neg e, updF_other]
    · exact h f t kl hkl
    · rintro rfl
      have := sidesLaw.inj hkb hkl
      injection this with this
      simp at this
      exact e (by rw [this.1, this.2])
/-- The table under way: out in a row, the places in the map. -/
structure TabI (w W : World) (mb : Nat) (v : Value) (out : List Blk) (i : Nat) : Prop where
  kept : Below w.heap.size w W
  row : Row W 69 3 v out.length (out.flatMap cBlk)
  loc : ∀ k, v.ownBlock = some k → w.heap.size ≤ k
  lm : w.heap.size ≤ mb
  ne : v.ownBlock ≠ some mb
  map : ∃ m, MapF W Tryd.prog 79 3 mb i m ∧ PlaceM out m
  small : ∀ x ∈ out, 0 ≤ x.n ∧ x.n ≤ i * 1073741824
  str : ∀ x ∈ out, x.f.size ≤ 1000000000 ∧ x.t.size ≤ 1000000000

theorem sortBlk_calls (l : List Blk) (v : Value) (w : World) (h : Row w 69 3 v l.length (l.flatMap cBlk)) (hnd : (keysL l).Nodup) (hl : l.length ≤ 1000000) :
    Calls Tryd.prog 36 #[v, .func (.func 37) #[] #[]] w fun e w' => e = .returned (.tuple #[]) ∧ Row w' 69 3 v (isortB l).length ((isortB l).flatMap cBlk) ∧ KeptOn (fun k => v.ownBlock ≠ some k) w w' := by
  have h0 := h
  rcases h.2 with ⟨rfl, hn⟩ | ⟨g, cap, cur, rfl, _, _, _, _⟩
  · have : l = [] := List.length_eq_zero_iff.1 hn
    subst this
    refine (AnyF.slices_SortFunc_none Tryd.sortBlock none 0 _ w).mono ?_
    rintro e w' ⟨rfl, rfl⟩
    exact ⟨rfl, h0, KeptOn.refl _ _⟩
  · have hH := holdsK_of_row cBlk_len rfl h0
    have := AnyQ.slices_SortFunc Tryd.sortBlock 3 (fun _ => by kernel_rfl) (fun _ => by kernel_rfl) cBlk cBlk_len cBlk_one blkCmp swo 37 #[] g 0 cap l.toArray w
      (enters_of Tryd.func37 (by kernel_rfl) rfl) (fun m os dk hs x y => (compare_calls x y _).mono fun e w' ⟨he, hg⟩ => ⟨he, hg⟩) hH (h0.lt g rfl) (by simp; omega)
    rw [show (l.toArray).size = l.length by simp] at this
    refine this.mono ?_
    rintro e w' ⟨rfl, d', n, os, hp, hs, rfl⟩
    have hd := sort_eq hnd (by simpa using hp) (by simpa using hs)
    have hsz : d'.size = l.length := by have := hp.1; simpa using this
    have hrow := row_putRowK cBlk_len h0 n d' hsz
    have hlen : (isortB l).length = l.length := (isort_perm l).length_eq
    refine ⟨rfl, ?_, ?_⟩
    · rw [hlen, ← hd]
      exact hrow.below (kept_grow _ _)
    · have k1 : KeptOn (fun k => k ≠ g) w (putRowK cBlk 3 (Sort.ahead w n) g 0 d') := kept_putRow id w n g 0 _
      have k2 := k1.trans (KeptOn.of_all (S := fun _ => True) (kept_grow (putRowK cBlk 3 (Sort.ahead w n) g 0 d') os)) (fun _ _ _ => trivial)
      exact k2.imp (fun k _ hk => by simpa [Value.ownBlock, eq_comm] using hk)
theorem each_ok {l : List Blk} (h : eachF l = 0) : ∀ b ∈ l, blkCheck b = 0 := by
  induction l with
  | nil => intro b hb; simp at hb
  | cons a l ih =>
    unfold eachF at h
    split at h
    · rename_i h1; exact absurd h h1
    · rename_i h1
      intro b hb
      rcases List.mem_cons.1 hb with rfl | hb
      · omega
      · exact ih h b hb
theorem check_n {b : Blk} (h : blkCheck b = 0) : 1 ≤ b.n ∧ b.n ≤ 1073741824 := by
  unfold blkCheck at h
  split at h
  · cases h
  · split at h
    · cases h
    · split at h
      · cases h
      · split at h
        · cases h
        · omega

set_option maxHeartbeats 2000000 in
set_option maxRecDepth 100000 in
theorem table_calls (l : List Blk) (v : Value) (S : Nat → Prop) (w : World) (h : Sl w S 3 v l.length (l.flatMap cBlk)) (hl : l.length ≤ 1000000) (hT : Tabs w) (hsz : ∀ b ∈ l, b.f.size ≤ 1000000000 ∧ b.t.size ≤ 1000000000) :
    Calls Tryd.prog 14 #[v] w fun e w' => ∃ u, e = .returned (.tuple #[u, .int .i64 (tableF l).2]) ∧ Below w.heap.size w w' ∧ Row w' 69 3 u (tableF l).1.length ((tableF l).1.flatMap cBlk) ∧ ∀ k, u.ownBlock = some k → w.heap.size ≤ k := by
  obtain ⟨A, c, rfl, hq⟩ := h.cellsQ
  have CE := each_calls l _ S w h (by omega) hT hsz
  by_cases he : eachF l = 0
  · have hn := fun b hb => check_n (each_ok he b hb)
    have CS := fun W (hB : Below w.heap.size w W) => sum_calls l _ S W (h.below hB) (by omega) (fun b hb => ⟨by have := (hn b hb).1; omega, (hn b hb).2⟩)
    rw [he] at CE
    cases hs : sumOk 0 l
    · have ht : tableF l = ([], 6) := by simp [tableF, he, hs]
      rw [ht]
      rw [hs] at CS
      have HCS := Lib.hid CS
      clear ht he hs CS hn hq h hT hsz
      go_enter Tryd.func14, Tryd.ntmps14
      go_wp2_with fail
      refine CE.mono ?_
      rintro e w1 ⟨rfl, hB1⟩
      have HB1 := Lib.hid hB1
      clear hB1 CE
      go_wp2_with fail
      refine (HCS.out w1 HB1.out).mono ?_
      rintro e w2 ⟨⟨n, rfl⟩, hB2⟩
      have HB2 := Lib.hid (HB1.out.trans (hB2.mono HB1.out.size))
      clear hB2 HCS HB1
      go_wp2
      go_ret2
      exact ⟨_, rfl, HB2.out, Row.nil _ _ _, by intro k h; cases h⟩
    · have ht : tableF l = if 4096 < (dedupF l).length then ([], 6) else (isortB (dedupF l), 0) := by simp [tableF, he, hs]
      obtain ⟨R, hR⟩ : ∃ R, R = tableF l := ⟨_, rfl⟩
      rw [← hR]
      rw [ht] at hR
      rw [hs] at CS
      have HCS := Lib.hid CS
      have HR := Lib.hid hR
      have HN := Lib.hid hn
      have HQ := Lib.hid hq
      have HZ := Lib.hid hsz
      clear ht he hs CS hn hq h hT hsz hR
      go_enter Tryd.func14, Tryd.ntmps14
      go_wp2_with fail
      refine CE.mono ?_
      rintro e w1 ⟨rfl, hB1⟩
      have HB1 := Lib.hid hB1
      clear hB1 CE
      go_wp2_with fail
      refine (HCS.out w1 HB1.out).mono ?_
      rintro e w2 ⟨⟨n, rfl⟩, hB2⟩
      have HB2 := Lib.hid (HB1.out.trans (hB2.mono HB1.out.size))
      clear hB2 HCS HB1
      have hmm := @run_makeMap Tryd.prog
      go_wp2_with fail
      have h20 : TabI w2 (w2.alloc (.map #[] 0)) w2.heap.size (.slice none 0 0) [] 0 :=
        ⟨(Below.refl _ _).alloc (Nat.le_refl _) _, Row.nil _ _ _, by simp [Value.ownBlock], Nat.le_refl _, by simp [Value.ownBlock], ⟨_, MapF.made _ _ _ _, fun f t kl _ => rfl⟩, by simp, by simp⟩
      generalize w2.alloc (.map #[] 0) = w3 at h20 ⊢
      generalize w2.heap.size = mb at h20 ⊢
      go_loopw [8, 28] (fun ov iv W => ∃ i : Nat, iv = .int .i64 i ∧ i ≤ l.length ∧ TabI w2 W mb ov (dedupF (l.take i)) i) (fun _ iv _ => l.length - (intOf iv).toNat)
      case atStart => exact ⟨0, rfl, by omega, h20⟩
      case round =>
        obtain ⟨i, rfl, hi, hTI⟩ := hrel
        clear h20
        rcases Nat.lt_or_ge i l.length with hlt | hge
        · have hb1 : (i : Int) < (l.length : Int) := by omega
          obtain ⟨b, hb⟩ : ∃ b, l[i]? = some b := ⟨l[i], List.getElem?_eq_getElem hlt⟩
          obtain ⟨ga, off, rfl, h0, h1, h2⟩ := HQ.out i b hb
          have hBw := HB2.out.trans (hTI.kept.mono HB2.out.size)
          have e0 := cellB hBw h0
          have e1 := cellB hBw h1
          have e2 := cellB hBw h2
          have hz := HZ.out b (List.mem_of_getElem? hb)
          have hbn := HN.out b (List.mem_of_getElem? hb)
          have htk : dedupF (l.take (i + 1)) = addB (dedupF (l.take i)) b := by rw [List.take_add_one, hb]; exact dedup_snoc _ _
          have HTK := Lib.hid htk
          have hnd := dedup_nodup (l.take i)
          have hlen := dedup_len (l.take i)
          have hlt2 : (l.take i).length ≤ i := by simp; omega
          generalize dedupF (l.take i) = out at hTI HTK hnd hlen
          obtain ⟨kl, hkl⟩ := sidesKey b.f b.t (by unfold maxLen; omega) (by unfold maxLen; omega)
          obtain ⟨m, hm, hpm⟩ := hTI.map
          have hba : Below wr.heap.size wr (wr.alloc (.cells #[.string b.f, .string b.t, .int .i64 b.n] 69)) := (Below.refl _ _).alloc (Nat.le_refl _) _
          have hm1 := hm.below hba
          have hmk := hpm _ _ _ hkl
          have HTI := Lib.hid hTI
          have HPM := Lib.hid hpm
          have HKL := Lib.hid hkl
          have HND := Lib.hid hnd
          have HBA := Lib.hid hba
          have HM1 := Lib.hid hm1
          clear hTI htk hnd h0 h1 h2 hBw hba hm1 hm hpm
          cases hki : keyIdx out b.f b.t with
          | some k =>
            rw [hki] at hmk
            have hkl2 := keyIdx_lt hki
            obtain ⟨x, hx⟩ : ∃ x, out[k]? = some x := ⟨out[k], List.getElem?_eq_getElem hkl2⟩
            have hc : (m kl).getD 0 = (k : Int) := by rw [hmk]; rfl
            have hok : (m kl).isSome = true := by rw [hmk]; rfl
            have HKI := Lib.hid hki
            have hrow1 := HTI.out.row.below HBA.out
            obtain ⟨g, cap, rfl, hh⟩ : ∃ g cap, u8 = .slice (some ⟨g, 0, none⟩) out.length cap ∧ ∃ cur, (wr.alloc (.cells #[.string b.f, .string b.t, .int .i64 b.n] 69)).heap[g]? = some (.cells cur 69 (0, 0)) := by
              rcases hrow1.2 with ⟨_, hn0⟩ | ⟨g, cap, cur, hu, _, hh, _⟩
              · omega
              · exact ⟨g, cap, hu, cur, hh⟩
            obtain ⟨cur, hh⟩ := hh
            have hxm := List.mem_of_getElem? hx
            have hsm := HTI.out.small x hxm
            have hst := HTI.out.str x hxm
            have q2 : (wr.alloc (.cells #[.string b.f, .string b.t, .int .i64 b.n] 69)).cell? ⟨g, k * 3 + 2, none⟩ = some (.int .i64 x.n) := by
              have := hrow1.cells rfl (k * 3 + 2) (.int .i64 x.n) (by rw [flat_at cBlk 3 cBlk_len out k 2 x hx (by omega)]; rfl)
              rw [add_zero_] at this
              exact this
            have q3 := frozen_of_row _ _ (k * 3 + 2) _ _ hh
            have q4 : IntKind.i64.wrap (x.n + b.n) = x.n + b.n := IntWalk.i64_in _ (by
              have : (i : Int) * 1073741824 ≤ 1000000 * 1073741824 := by omega
              omega)
            have q5 : (k : Int) < (out.length : Int) := by omega
            have q6 : (0 : Int) ≤ (k : Int) := by omega
            have q7 : g ≠ wr.heap.size := fun e => by have := HTI.out.row.lt g rfl; omega
            have hset := hit_set HND.out HKI.out hx
            have hadd : addB out b = out.set k ⟨x.f, x.t, x.n + b.n⟩ := by rw [addB_eq, HKI.out]; exact hset
            have HADD := Lib.hid hadd
            have HROW1 := Lib.hid hrow1
            have HX := Lib.hid hx
            have HSM := Lib.hid hsm
            have HST := Lib.hid hst
            clear hmk hki hset hadd hrow1 hx hsm hst hh
            go_wp2_with (first | (at_lookup; refine wpList_lookF rfl _ _ 77 rfl HM1.out sidesLaw Tryd.underlying77 Tryd.underlying3 (zeroI _) rfl _ kl rfl hkl _ true hc hok ?_))
            go_region
            go_wp2_with fail
            refine ⟨⟨i + 1, by push_cast; rfl, by omega, ?_⟩, by simp [intOf]; omega⟩
            rw [HTK.out]
            have hTI := HTI.out
            have hkept2 := hTI.kept.trans (HBA.out.mono hTI.kept.size)
            refine ⟨(hkept2.setCell (p := ⟨g, k * 3 + 2, none⟩) (hTI.loc g rfl) _).drew, ?_, hTI.loc, hTI.lm, hTI.ne, ⟨m, ?_, HPM.out.hit b (by rw [HKI.out]; rfl)⟩, ?_, ?_⟩
            · rw [HADD.out, List.length_set, ← flat_set out k x HX.out]
              exact (Row.store HROW1.out (k * 3 + 2) _).drew
            · exact (HM1.out.keep (S := fun z => z ≠ g) (((KeptOn.refl _ _).setCell _ _ (fun _ h => h rfl)).drew) (fun e => hTI.ne (by rw [e]; rfl))).mono (by omega)
            · rw [HADD.out]
              intro y hy
              rcases List.mem_or_eq_of_mem_set hy with hy | rfl
              · have := hTI.small y hy
                exact ⟨this.1, by push_cast; omega⟩
              · have := HSM.out
                refine ⟨?_, ?_⟩ <;> simp only <;> push_cast <;> omega
            · rw [HADD.out]
              intro y hy
              rcases List.mem_or_eq_of_mem_set hy with hy | rfl
              · exact hTI.str y hy
              · exact HST.out
          | none =>
            rw [hki] at hmk
            have hc : (m kl).getD 0 = 0 := by rw [hmk]; rfl
            have hok : (m kl).isSome = false := by rw [hmk]; rfl
            have hadd : addB out b = out ++ [b] := by rw [addB_eq, hki]; rfl
            have HKI := Lib.hid hki
            have HADD := Lib.hid hadd
            have hrow1 := HTI.out.row.below HBA.out
            have HROW1 := Lib.hid hrow1
            obtain ⟨Au, cu, rfl, _⟩ := hrow1.form
            have hwf : (Lit.int .i64 (out.length : Int)).wf = true := WalkArith.wf_i64 (by omega)
            have hvar : ∀ W2, KeptOn (fun k => k ≠ mb) (wr.alloc (.cells #[.string b.f, .string b.t, .int .i64 b.n] 69)) W2 → W2.heap[wr.heap.size]? = some (.cells #[.string b.f, .string b.t, .int .i64 b.n] 69 (0, 0)) := fun W2 hk => by
              have hlt : mb < wr.heap.size := by obtain ⟨m', hm', _⟩ := HTI.out.map; exact hm'.lt
              exact (hk.block _ (by simp) (by omega)).trans (heap_alloc_new _ _)
            have HVAR := Lib.hid hvar
            have hll : out.length + 1 ≤ 1000001 := by omega
            clear hmk hki hadd hrow1 hvar
            go_wp2_with (first
              | (at_builtin; refine wpList_append1 rfl _ _ 24 rfl 69 3 40 69 (.agg #[.string ⟨#[]⟩, .string ⟨#[]⟩, .int .i64 0]) Tryd.underlying24 Tryd.info69 rfl (by decide) _ _ _ rfl HRW.out #[.string b.f, .string b.t, .int .i64 b.n] rfl rfl (one3 rfl rfl rfl) (bd1 hll (by decide)) (bd2 hll (by decide)) ?_; intro g cap w5 hrow5 hg5 hloc5)
              | (at_lookup; refine wpList_lookF rfl _ _ 77 rfl HM1.out sidesLaw Tryd.underlying77 Tryd.underlying3 (zeroI _) rfl _ kl rfl hkl _ false hc hok ?_)
              | (at_mapUpdate; refine wpList_storeF rfl _ _ _ 77 rfl HM1.out sidesLaw Tryd.underlying77 Tryd.underlying3 (by unfold maxLen; omega) rfl _ kl rfl hkl _ rfl hwf ?_; intro W2 hM2 hk2; have hv := HVAR.out W2 hk2; have v0 := cell_at (o := 0) hv rfl; have v1 := cell_at (o := 1) hv rfl; have v2 := cell_at (o := 2) hv rfl; have HRW := Lib.hid (HROW1.out.keep hk2 (fun k hk e => HTI.out.ne (by rw [hk, e])))))
            have hTI := HTI.out
            have hkept2 := hTI.kept.trans (HBA.out.mono hTI.kept.size)
            have hkept3 := hkept2.trans (hk2.below hkept2.size (fun k hk e => by have := hTI.lm; omega))
            have hkept4 := hkept3.trans ((KeptOn.of_grown hg5).below hkept3.size (fun k hk e => by have := hTI.loc k e.symm; omega))
            refine ⟨⟨i + 1, by push_cast; rfl, by omega, ?_⟩, by simp [intOf]; omega⟩
            rw [HTK.out]
            refine ⟨hkept4, ?_, ?_, hTI.lm, ?_, ⟨updF m kl out.length, ?_, HPM.out.miss b HKI.out kl HKL.out⟩, ?_, ?_⟩
            · rw [HADD.out]
              simpa [cBlk] using hrow5
            · intro k hk
              have : g = k := by simpa [Value.ownBlock] using hk
              subst this
              rcases hloc5 with h | h
              · exact hTI.loc _ h
              · have := hkept3.size; omega
            · intro e
              have : g = mb := by simpa [Value.ownBlock] using e
              subst this
              rcases hloc5 with h | h
              · exact hTI.ne h
              · have := hM2.lt; omega
            · exact hM2.keep (KeptOn.of_grown hg5) (fun e => hTI.ne e.symm)
            · rw [HADD.out]
              intro y hy
              rcases List.mem_append.1 hy with hy | hy
              · have := hTI.small y hy
                exact ⟨this.1, by push_cast; omega⟩
              · obtain rfl : y = b := by simpa using hy
                exact ⟨by omega, by push_cast; omega⟩
            · rw [HADD.out]
              intro y hy
              rcases List.mem_append.1 hy with hy | hy
              · exact hTI.str y hy
              · obtain rfl : y = b := by simpa using hy
                exact hz
        · have hil : i = l.length := by omega
          subst hil
          rw [List.take_length] at hTI
          have hb1 : ¬ (l.length : Int) < (l.length : Int) := by omega
          have hnd := dedup_nodup l
          have hlen := dedup_len l
          generalize dedupF l = out at hTI HR hnd hlen
          have HTI := Lib.hid hTI
          have HND := Lib.hid hnd
          obtain ⟨Au, cu, rfl, _⟩ := hTI.row.form
          have HBf := Lib.hid (HB2.out.trans (hTI.kept.mono HB2.out.size))
          have hs2 := HB2.out.size
          clear hTI hnd
          by_cases hm : 4096 < out.length
          · have hmi : (4096 : Int) < (out.length : Int) := by omega
            have hr : R = ([], 6) := by rw [HR.out, if_pos hm]
            clear HR hm
            subst hr
            go_wp2_with fail
            go_ret2
            exact ⟨_, rfl, HBf.out, Row.nil _ _ _, by intro k h; cases h⟩
          · have hmi : ¬ (4096 : Int) < (out.length : Int) := by omega
            have hr : R = (isortB out, 0) := by rw [HR.out, if_neg hm]
            have C := sortBlk_calls out _ wr HTI.out.row HND.out (by omega)
            clear HR hm
            subst hr
            go_wp2_with fail
            refine C.mono ?_
            rintro e w9 ⟨rfl, hr9, hk9⟩
            have HR9 := Lib.hid hr9
            have HK9 := Lib.hid hk9
            clear hr9 hk9 C
            go_wp2
            go_ret2
            refine ⟨_, rfl, ?_, HR9.out, fun k hk => by have := HTI.out.loc k hk; omega⟩
            exact HBf.out.trans (HK9.out.below HBf.out.size (fun k hk e => by have := HTI.out.loc k e; omega))
  · have ht : tableF l = ([], eachF l) := by simp [tableF, he]
    rw [ht]
    generalize eachF l = ec at CE he ⊢
    have hb : (ec != 0) = true := by simpa using he
    have HE := Lib.hid he
    clear ht he hq h hT hsz
    go_enter Tryd.func14, Tryd.ntmps14
    go_wp2_with fail
    refine CE.mono ?_
    rintro e w1 ⟨rfl, hB1⟩
    have HB1 := Lib.hid hB1
    clear hB1 CE
    go_wp2
    go_ret2
    exact ⟨_, rfl, HB1.out, Row.nil _ _ _, by intro k h; cases h⟩
end Go.Proofs.Er
