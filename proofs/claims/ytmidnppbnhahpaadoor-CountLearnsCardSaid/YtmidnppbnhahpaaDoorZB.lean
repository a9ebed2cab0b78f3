import Derived.Test.YtmidnppbnhahpaaDoorZA
namespace Go.Proofs.Er
open Go Go.RowKit Go.Shelf Go.Proofs Go.Sort
attribute [local go_sem] Oper.semAt_some

theorem Tryd.info26 : (Tryd.prog.info? 26).map (fun i => (i.zero, i.size, i.bytes)) = some (some (.agg #[.string ⟨#[]⟩, .string ⟨#[]⟩]), 2, 32) := by kernel_rfl
def sameP (l : List Pr) : List Pr := l.map fun p => ⟨p.t, p.t⟩
theorem pairsGo_ok (l : List Pr) (h : ∀ p ∈ l, (pairF p.n p.t).2 = 0) (acc : List Blk) : pairsGo l acc = (acc ++ allP l, 0) := by
  induction l generalizing acc with
  | nil => simp [pairsGo, allP]
  | cons p l ih =>
    rw [pairsGo, if_neg (by rw [h p (by simp)]; simp), ih (fun q hq => h q (by simp [hq]))]
    simp [allP]
theorem pairsF_ok (l : List Pr) (hl : l.length ≤ 65536) (h : ∀ p ∈ l, (pairF p.n p.t).2 = 0) : pairsF l = tableF (allP l) := by
  unfold pairsF
  rw [if_neg (by omega), pairsGo_ok l h]
  simp
theorem pairsGo_err (l : List Pr) (i : Nat) (p : Pr) (hp : l[i]? = some p) (hj : ∀ (j : Nat) (q : Pr), j < i → l[j]? = some q → (pairF q.n q.t).2 = 0) (he : (pairF p.n p.t).2 ≠ 0) (acc : List Blk) : (pairsGo l acc).2 ≠ 0 := by
  induction l generalizing acc i with
  | nil => simp at hp
  | cons q l ih =>
    cases i with
    | zero =>
      simp at hp; subst hp
      rw [pairsGo, if_pos he]; exact he
    | succ i =>
      have := hj 0 q (by omega) rfl
      rw [pairsGo, if_neg (by rw [this]; simp)]
      exact ih i (by simpa using hp) (fun j r hj' hr => hj (j + 1) r (by omega) (by simpa using hr)) _
theorem pairsF_err (l : List Pr) (hl : l.length ≤ 65536) (i : Nat) (p : Pr) (hp : l[i]? = some p) (hj : ∀ (j : Nat) (q : Pr), j < i → l[j]? = some q → (pairF q.n q.t).2 = 0) (he : (pairF p.n p.t).2 ≠ 0) : (pairsF l).2 ≠ 0 := by
  unfold pairsF
  have := pairsGo_err l i p hp hj he []
  rw [if_neg (by omega), if_pos this]
  exact this
/-- The law: of a text and itself nothing is learnt. -/
def SameSaid : Prop := ∀ n t, (pairF n t).2 = 0 → pairF t t = ([], 0)
theorem sameP_F (hsame : SameSaid) (l : List Pr) (hl : l.length ≤ 65536) (h : ∀ p ∈ l, (pairF p.n p.t).2 = 0) : pairsF (sameP l) = ([], 0) := by
  have hok : ∀ p ∈ sameP l, (pairF p.n p.t).2 = 0 := by
    intro p hp
    obtain ⟨q, hq, rfl⟩ := List.mem_map.1 hp
    rw [hsame q.n q.t (h q hq)]
  rw [pairsF_ok (sameP l) (by simp [sameP]; omega) hok]
  have : allP (sameP l) = [] := by
    unfold allP
    refine List.flatMap_eq_nil_iff.2 fun p hp => ?_
    obtain ⟨q, hq, rfl⟩ := List.mem_map.1 hp
    rw [hsame q.n q.t (h q hq)]
  rw [this]
  rfl

set_option maxHeartbeats 2000000 in
set_option maxRecDepth 100000 in
theorem countLearns_calls (hsame : SameSaid) (l : List Pr) (v : Value) (S : Nat → Prop) (w : World) (h : Sl w S 2 v l.length (l.flatMap cPr)) (hT : Tabs w) (hgw : 0 < w.heap.size ∧ 1 < w.heap.size)
    (hbig : l.length ≤ 4611686018427387904) (hreach : ∀ p ∈ l, p.n.size + p.t.size ≤ 4611686018427387904) :
    Calls Tryd.prog 3 #[v] w fun e w' => e = .returned (.bool true) ∧ Below w.heap.size w w' := by
  obtain ⟨A, c, rfl, hq⟩ := h.cellsP
  have CA := alive06_calls w hT
  by_cases hl : 60 < l.length
  · have hli : (60 : Int) < (l.length : Int) := by omega
    clear hq h hT
    go_enter Tryd.func3, Tryd.ntmps3
    go_wp2_with fail
    refine CA.mono ?_
    rintro e w1 ⟨rfl, hB1⟩
    have HB1 := Lib.hid hB1
    clear hB1 CA
    go_wp2
    go_ret
    exact ⟨rfl, HB1.out⟩
  · have hli : ¬ (60 : Int) < (l.length : Int) := by omega
    have HQ := Lib.hid hq
    have HS := Lib.hid h
    have HT := Lib.hid hT
    have HGW := Lib.hid hgw
    have HRE := Lib.hid hreach
    have HSAME := Lib.hid hsame
    clear hq h hT hgw hreach hsame
    go_enter Tryd.func3, Tryd.ntmps3
    go_wp2_with fail
    refine CA.mono ?_
    rintro e w1 ⟨rfl, hB1⟩
    have HB1 := Lib.hid hB1
    clear hB1 CA
    go_wp2_with fail
    go_loopw [3, 4, 24] (fun av sv iv W => ∃ i : Nat, iv = .int .i64 i ∧ i ≤ l.length ∧ Below w.heap.size w W ∧ Row W 69 3 av (allP (l.take i)).length ((allP (l.take i)).flatMap cBlk) ∧ (∀ k, av.ownBlock = some k → w.heap.size ≤ k) ∧
        Row W 26 2 sv (sameP (l.take i)).length ((sameP (l.take i)).flatMap cPr) ∧ (∀ k, sv.ownBlock = some k → w.heap.size ≤ k) ∧ (∀ k, av.ownBlock = some k → sv.ownBlock ≠ some k) ∧
        (∀ (j : Nat) (q : Pr), j < i → l[j]? = some q → (pairF q.n q.t).2 = 0 ∧ q.n.size + q.t.size ≤ 300)) (fun _ _ iv _ => l.length - (intOf iv).toNat)
    case atStart => exact ⟨0, rfl, by omega, HB1.out, Row.nil _ _ _, by simp [Value.ownBlock], Row.nil _ _ _, by simp [Value.ownBlock], by simp [Value.ownBlock], fun j q hj => by omega⟩
    case round =>
      obtain ⟨i, rfl, hi, hB, hra, hla, hrs, hls, hne, hok⟩ := hrel
      rcases Nat.lt_or_ge i l.length with hlt | hge
      · have hb1 : (i : Int) < (l.length : Int) := by omega
        obtain ⟨p, hp⟩ : ∃ p, l[i]? = some p := ⟨l[i], List.getElem?_eq_getElem hlt⟩
        obtain ⟨g, off, rfl, h0, h1⟩ := HQ.out i p hp
        have e0 := cellB hB h0
        have e1 := cellB hB h1
        have hre := HRE.out p (List.mem_of_getElem? hp)
        have q0 : IntKind.i64.wrap ((p.n.size : Int) + (p.t.size : Int)) = (p.n.size : Int) + p.t.size := IntWalk.i64_in _ (by omega)
        have hBa := hB.alloc hB.size (.cells #[.string p.n, .string p.t] 26)
        have HBA := Lib.hid hBa
        have HP := Lib.hid hp
        have HOK := Lib.hid hok
        have HRA := Lib.hid hra
        have HLA := Lib.hid hla
        have HRS := Lib.hid hrs
        have HLS := Lib.hid hls
        have HNE := Lib.hid hne
        clear hB h0 h1 hBa hp hok hra hla hrs hls hne
        by_cases h3 : 300 < p.n.size + p.t.size
        · have h3i : (300 : Int) < (p.n.size : Int) + p.t.size := by omega
          go_wp2_with fail
          go_ret
          exact ⟨rfl, HBA.out⟩
        · have h3i : ¬ (300 : Int) < (p.n.size : Int) + p.t.size := by omega
          have C := pair_calls p.n p.t (wr.alloc (.cells #[.string p.n, .string p.t] 26)) (HT.out.below HBA.out) ⟨Nat.lt_of_lt_of_le HGW.out.1 HBA.out.size, Nat.lt_of_lt_of_le HGW.out.2 HBA.out.size⟩ (by omega) (by omega)
          by_cases hk : (pairF p.n p.t).2 = 0
          · rw [hk] at C
            have HK := Lib.hid hk
            clear hk
            go_wp2_with fail
            refine C.mono ?_
            rintro e w2 ⟨u, rfl, hB2, hrow2, hloc2⟩
            have hn0 : (wr.alloc (.cells #[.string p.n, .string p.t] 26)).heap[wr.heap.size]? = some (.cells #[.string p.n, .string p.t] 26 (0, 0)) := heap_alloc_new _ _
            have hn2 := (hB2.block wr.heap.size (by simp)).trans hn0
            have hbw : Below wr.heap.size wr (wr.alloc (.cells #[.string p.n, .string p.t] 26)) := (Below.refl _ _).alloc (Nat.le_refl _) _
            have hB2w := hbw.trans (hB2.mono hbw.size)
            have HB2 := Lib.hid (HBA.out.trans (hB2.mono HBA.out.size))
            have HR2 := Lib.hid hrow2
            have HRV := Lib.hid (HRA.out.below hB2w)
            have HRW := Lib.hid (HRS.out.below hB2w)
            have hsm := pairF_small p.n p.t
            have hal := allP_len (l.take i)
            have hbig2 : (allP (l.take i)).length ≤ 12000 := by simp at hal; omega
            have q1 : (allP (l.take i)).length + (pairF p.n p.t).1.length ≤ 1000200 := by omega
            have q2 : (sameP (l.take i)).length + 1 ≤ 1000 := by simp [sameP]; omega
            have HN2 := Lib.hid hn2
            clear hB2 hrow2 hloc2 C hn0 hn2 hbw hB2w hsm hal
            go_wp2_with (at_builtin; refine wpList_appendR rfl _ _ 24 rfl 69 3 40 (.agg #[.string ⟨#[]⟩, .string ⟨#[]⟩, .int .i64 0]) Tryd.underlying24 Tryd.info69 rfl (by decide) _ _ _ rfl HRV.out _ _ _ rfl HR2.out ?_ ?_ ?_ ?_)
            case refine_1 =>
              intro y hy
              obtain ⟨b, _, hb⟩ := List.mem_flatMap.1 hy
              exact cBlk_one b y hb
            case refine_2 => omega
            case refine_3 => omega
            intro v3 w3 hr3 hg3 hl3
            have hlw := HB2.out.size
            have hn3 : w3.heap[wr.heap.size]? = some (.cells #[.string p.n, .string p.t] 26 (0, 0)) := (hg3.block _ (Array.getElem?_eq_some_iff.1 HN2.out).1 (fun e => by have := HRA.out.lt _ e.symm; omega)).trans HN2.out
            have v0 : w3.cell? ⟨wr.heap.size, 0, none⟩ = some (.string p.n) := cell_at (o := 0) hn3 rfl
            have v1 : w3.cell? ⟨wr.heap.size, 1, none⟩ = some (.string p.t) := cell_at (o := 1) hn3 rfl
            have hrs3 := HRW.out.keep (KeptOn.of_grown hg3) (fun k hk e => HNE.out k e.symm hk)
            have H3 := Lib.hid hr3
            have HL3 := Lib.hid hl3
            have HG3 := Lib.hid hg3
            have HRS3 := Lib.hid hrs3
            have hB3 := HB2.out.trans ((KeptOn.of_grown hg3).below HB2.out.size (fun k hk e => by have := HLA.out k e.symm; omega))
            have HB3 := Lib.hid hB3
            clear hr3 hl3 hg3 hrs3 hn3 hB3
            go_wp2_with (at_builtin; refine wpList_append1 rfl _ _ 22 rfl 26 2 32 26 (.agg #[.string ⟨#[]⟩, .string ⟨#[]⟩]) Tryd.underlying22 Tryd.info26 rfl (by decide) _ _ _ rfl HRS3.out #[.string p.t, .string p.t] rfl rfl (one2 rfl rfl) (bd1 q2 (by decide)) (bd2 q2 (by decide)) ?_; intro g4 cap4 w4 hr4 hg4 hl4)
            have hB4 := HB3.out.trans ((KeptOn.of_grown hg4).below HB3.out.size (fun k hk e => by have := HLS.out k e.symm; omega))
            have hta : allP (l.take (i + 1)) = allP (l.take i) ++ (pairF p.n p.t).1 := by rw [List.take_add_one, HP.out]; simp [allP]
            have hts : sameP (l.take (i + 1)) = sameP (l.take i) ++ [⟨p.t, p.t⟩] := by rw [List.take_add_one, HP.out]; simp [sameP]
            refine ⟨⟨i + 1, by push_cast; rfl, by omega, hB4, ?_, ?_, ?_, ?_, ?_, ?_⟩, by simp [intOf]; omega⟩
            · rw [hta, List.length_append, List.flatMap_append]
              refine H3.out.keep (KeptOn.of_grown hg4) (fun k hk e => ?_)
              rcases HL3.out k hk with h | h
              · exact HNE.out k h e.symm
              · have := HRW.out.lt k e.symm; omega
            · intro k hk
              rcases HL3.out k hk with h | h
              · exact HLA.out k h
              · have := HB2.out.size; omega
            · rw [hts]; simpa [cPr] using hr4
            · intro k hk
              have : g4 = k := by simpa [Value.ownBlock] using hk
              subst this
              rcases hl4 with h | h
              · exact HLS.out _ h
              · have := HB3.out.size; omega
            · intro k hk e
              have : g4 = k := by simpa [Value.ownBlock] using e
              subst this
              rcases hl4 with h | h
              · rcases HL3.out _ hk with h' | h'
                · exact HNE.out _ h' h
                · have := HRW.out.lt _ h; omega
              · have := H3.out.lt _ hk; omega
            · intro j q hj hq
              rcases Nat.lt_or_ge j i with h | h
              · exact HOK.out j q h hq
              · have : j = i := by omega
                subst this
                rw [HP.out] at hq
                injection hq with hq
                rw [← hq]; exact ⟨HK.out, by omega⟩
          · have CP := fun W (hB : Below w.heap.size w W) => pairs_calls l _ S W (HS.out.below hB) (by omega) (HT.out.below hB) ⟨Nat.lt_of_lt_of_le HGW.out.1 hB.size, Nat.lt_of_lt_of_le HGW.out.2 hB.size⟩ (fun i' p' hp' hj' => by
              rcases Nat.lt_trichotomy i' i with h | h | h
              · have := (HOK.out i' p' h hp').2; omega
              · subst h; rw [HP.out] at hp'; injection hp' with hp'; subst hp'; omega
              · exact absurd (hj' i p h HP.out) hk)
            have herr := pairsF_err l (by omega) i p HP.out (fun j q hj hq => (HOK.out j q hj hq).1) hk
            generalize (pairF p.n p.t).2 = ec at C hk
            generalize pairsF l = R at CP herr
            have hb0 : (ec != 0) = true := by simpa using hk
            have hb2 : (R.2 != 0) = true := by simpa using herr
            have HCP := Lib.hid CP
            clear hk herr CP
            go_wp2_with fail
            refine C.mono ?_
            rintro e w2 ⟨u, rfl, hB2, hrow2, hloc2⟩
            have HB2 := Lib.hid (HBA.out.trans (hB2.mono HBA.out.size))
            clear hB2 hrow2 hloc2 C
            go_wp2_with fail
            refine (HCP.out w2 HB2.out).mono ?_
            rintro e w3 ⟨u3, rfl, hB3, _, _⟩
            have HB3 := Lib.hid (HB2.out.trans (hB3.mono HB2.out.size))
            clear hB3 HCP HB2
            go_wp2
            go_ret
            exact ⟨rfl, HB3.out⟩
      · have hil : i = l.length := by omega
        subst hil
        rw [List.take_length] at hra hrs
        have hb1 : ¬ (l.length : Int) < (l.length : Int) := by omega
        have hok2 : ∀ p ∈ l, (pairF p.n p.t).2 = 0 ∧ p.n.size + p.t.size ≤ 300 := fun p hp => by
          obtain ⟨j, hj⟩ := List.mem_iff_getElem?.1 hp
          exact hok j p (List.getElem?_eq_some_iff.1 hj).1 hj
        have hal := allP_len l
        have hsmall : ∀ b ∈ allP l, b.f.size ≤ 1000000000 ∧ b.t.size ≤ 1000000000 := fun b hb => by
          obtain ⟨p, _, hp⟩ := List.mem_flatMap.1 hb
          have := (pairF_small p.n p.t).2 b hp
          omega
        have C1 := pairs_calls l _ S wr (HS.out.below hB) (by omega) (HT.out.below hB) ⟨Nat.lt_of_lt_of_le HGW.out.1 hB.size, Nat.lt_of_lt_of_le HGW.out.2 hB.size⟩ (fun i' p' hp' _ => by have := (hok2 p' (List.mem_of_getElem? hp')).2; omega)
        rw [pairsF_ok l (by omega) (fun p hp => (hok2 p hp).1)] at C1
        have C2 := fun W (hb : Below wr.heap.size wr W) => table_calls (allP l) u3 _ W ((Sl.of_row hra).below hb) (by omega) (HT.out.below (hB.trans (hb.mono hB.size))) hsmall
        have C3 := fun W (hb : Below wr.heap.size wr W) => pairs_calls (sameP l) u4 _ W ((Sl.of_row hrs).below hb) (by simp [sameP]; omega) (HT.out.below (hB.trans (hb.mono hB.size))) ⟨Nat.lt_of_lt_of_le HGW.out.1 (Nat.le_trans hB.size hb.size), Nat.lt_of_lt_of_le HGW.out.2 (Nat.le_trans hB.size hb.size)⟩ (fun i' p' hp' _ => by
          obtain ⟨q, hq, rfl⟩ := List.mem_map.1 (List.mem_of_getElem? hp')
          have := (hok2 q hq).2
          exact ⟨by simp only; omega, by simp only; omega⟩)
        rw [sameP_F HSAME.out l (by omega) (fun p hp => (hok2 p hp).1)] at C3
        have htl : (tableF (allP l)).1.length ≤ 1000000000 := by
          unfold tableF
          split
          · simp
          · split
            · simp
            · split
              · simp
              · have h1 := (isort_perm (dedupF (allP l))).length_eq
                have h2 := dedup_len (allP l)
                simp only; omega
        generalize tableF (allP l) = T at C1 C2 htl
        have HB := Lib.hid hB
        have H2 := Lib.hid C2
        have H3 := Lib.hid C3
        obtain ⟨Aa, ca, rfl, _⟩ := hra.form
        obtain ⟨As, cs, rfl, _⟩ := hrs.form
        clear hra hla hrs hls hne hok hok2 hal hsmall C2 C3 hB
        go_wp2_with fail
        refine C1.mono ?_
        rintro e w2 ⟨ua, rfl, hB2, hr2, _⟩
        have HB2 := Lib.hid hB2
        obtain ⟨A2, c2, rfl, _⟩ := hr2.form
        have HR2 := Lib.hid hr2
        clear hB2 hr2 C1
        go_wp2_with fail
        refine (H2.out w2 HB2.out).mono ?_
        rintro e w3 ⟨ub, rfl, hB3, hr3, _⟩
        have HB3 := Lib.hid (HB2.out.trans (hB3.mono HB2.out.size))
        have HR23 := Lib.hid (HR2.out.below hB3)
        obtain ⟨A3, c3, rfl, _⟩ := hr3.form
        have HR3 := Lib.hid hr3
        clear hB3 hr3
        go_wp2_with fail
        refine (H3.out w3 HB3.out).mono ?_
        rintro e w4 ⟨uc, rfl, hB4, hr4, _⟩
        have HB4 := Lib.hid (HB3.out.trans (hB4.mono HB3.out.size))
        have CS := same_calls T.1 T.1 _ _ _ _ w4 (Sl.of_row (HR23.out.below hB4)) (Sl.of_row (HR3.out.below hB4)) htl htl
        rw [show sameF T.1 T.1 = true by simp [sameF]] at CS
        obtain ⟨A4, c4, rfl, _⟩ := hr4.form
        clear hB4 hr4
        have hBf := HB.out.trans (HB4.out.mono HB.out.size)
        have HBF := Lib.hid hBf
        clear hBf
        go_wp2_with (first | (go_at_call 15; refine CS.mono ?_; rintro e w5 ⟨rfl, hB5⟩))
        go_ret
        exact ⟨rfl, HBF.out.trans (hB5.mono HBF.out.size)⟩
end Go.Proofs.Er
