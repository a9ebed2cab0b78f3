import Derived.Test.YtmidnppbnhahpaaDoorWP
namespace Go.Proofs.Er
open Go Go.RowKit Go.Shelf Go.Proofs Go.Sort
attribute [local go_sem] Oper.semAt_some

theorem Tryd.info69 : (Tryd.prog.info? 69).map (fun i => (i.zero, i.size, i.bytes)) = some (some (.agg #[.string ⟨#[]⟩, .string ⟨#[]⟩, .int .i64 0]), 3, 40) := by kernel_rfl

def subL (l : List Stp) (x : Nat × Nat) : List Stp := (l.take x.2).drop x.1
def outP (l : List Stp) (pre : List (Nat × Nat)) : List Blk := ((pre.map (subL l)).filter keepF).map fun r => (madeF r).1
theorem outP_snoc (l : List Stp) (pre : List (Nat × Nat)) (x : Nat × Nat) : outP l (pre ++ [x]) = if keepF (subL l x) then outP l pre ++ [(madeF (subL l x)).1] else outP l pre := by
  unfold outP
  by_cases h : keepF (subL l x) <;> simp [List.filter_append, h]
theorem outP_len (l : List Stp) (pre : List (Nat × Nat)) : (outP l pre).length ≤ pre.length := by
  unfold outP
  have := List.length_filter_le keepF (pre.map (subL l))
  simpa using this

def OfI (w : World) (l : List Stp) (b : Nat) (own : Nat → Prop) (pre : List (Nat × Nat)) (W : World) : Prop :=
  ∃ v, Box W b 24 v ∧ Row W 69 3 v (outP l pre).length ((outP l pre).flatMap cBlk) ∧ (∀ k, own k ↔ k = b ∨ v.ownBlock = some k) ∧ (∀ k, v.ownBlock = some k → b ≤ k) ∧ Below w.heap.size w W
theorem OfI.stable (w : World) (l : List Stp) (b : Nat) : Stable (fun k => k < w.heap.size) (OfI w l b) := by
  refine ⟨?_, ?_⟩
  · rintro own s A ⟨v, h1, h3, h4, _⟩ k hk
    rcases (h4 k).1 hk with rfl | h
    · exact h1.lt
    · exact h3.lt k h
  · rintro own s A B ⟨v, h1, h3, h4, h5, h6⟩ hk
    refine ⟨v, h1.keep hk (.inl ((h4 _).2 (.inl rfl))), h3.keep hk (fun k hv => .inl ((h4 k).2 (.inr hv))), h4, h5, ?_⟩
    exact h6.trans (hk.below h6.size (fun k hk => .inr hk))
def OfA (w : World) (l : List Stp) (F : Value) (V : Value) (b bb off c : Nat) (own : Nat → Prop) (pre : List (Nat × Nat)) (x : Nat × Nat) (a₁ : Act) (W : World) : Prop :=
  OfI w l b own pre W ∧ (pre ++ [x]) <+: rowsP l l.length 0 ∧
  a₁ = { tmps := #[V, undef, .pointer (some ⟨b, 0, none⟩), .int .i64 0, .int .i64 0, .slice (some ⟨bb, off + x.1 * 3, none⟩) (x.2 - x.1) (c - x.1), undef, undef, V, .int .i64 0, .int .i64 0, .bool false, undef, V, F, .slice (some ⟨bb, off + x.1 * 3, none⟩) (x.2 - x.1) (c - x.1), undef, undef, undef, undef, undef, undef, undef, undef, undef, undef, undef, undef, undef, undef, undef, undef, undef, undef, undef], defers := [] }

theorem rowsP_mem (l : List Stp) : ∀ (f i : Nat), ∀ x ∈ rowsP l f i, x.1 < x.2 ∧ x.2 ≤ l.length := by
  intro f
  induction f with
  | zero => intro i x hx; simp [rowsP] at hx
  | succ f ih =>
    intro i x hx
    rw [rowsP] at hx
    by_cases h1 : l.length ≤ i
    · rw [if_pos h1] at hx; simp at hx
    · rw [if_neg h1] at hx
      by_cases h2 : kindAt l i = 0
      · rw [if_pos h2] at hx; exact ih _ x hx
      · rw [if_neg h2] at hx
        rcases List.mem_cons.1 hx with rfl | hx
        · exact ⟨runEnd_gt (by omega) h2, runEnd_le l i (by omega)⟩
        · exact ih _ x hx
theorem rowsP_len (l : List Stp) : ∀ (f i : Nat), (rowsP l f i).length ≤ f := by
  intro f
  induction f with
  | zero => intro i; simp [rowsP]
  | succ f ih =>
    intro i
    rw [rowsP]
    split
    · simp
    · split
      · have := ih (i + 1); omega
      · have := ih (runEnd l i + 1); simp; omega
theorem ofF_ok (l : List Stp) (h : checkS l = true) : ofF l = (outP l (rowsP l l.length 0), 0) := by
  unfold ofF outP
  rw [if_pos h]
  have := rowsP_rowsF l l.length 0 (by omega)
  rw [List.drop_zero] at this
  rw [this]
  rfl

set_option maxHeartbeats 1000000 in
set_option maxRecDepth 100000 in
theorem of_calls (l : List Stp) (v : Value) (S : Nat → Prop) (w : World) (h : Sl w S 3 v l.length (l.flatMap cStp)) (hl : l.length ≤ 1000000) (h0 : 0 < l.length) (hcap : ∀ A n c, v = .slice A n c → c ≤ 9223372036854775807) :
    Calls Tryd.prog 33 #[v] w fun e w' => ∃ u, e = .returned (.tuple #[u, .int .i64 (ofF l).2]) ∧ Below w.heap.size w w' ∧ Row w' 69 3 u (ofF l).1.length ((ofF l).1.flatMap cBlk) ∧ ∀ k, u.ownBlock = some k → w.heap.size ≤ k := by
  refine (callsIn_wide (n := 0)).1 ?_
  obtain ⟨bb, off, c, rfl, hlc, _, hbw, hc⟩ := h.at_ h0
  have hcc := hcap _ _ _ rfl
  have hB0 : Below w.heap.size w (w.alloc (.cells #[.slice none 0 0] 24)) := (Below.refl _ w).alloc (Nat.le_refl _) _
  have C := check_calls l _ S _ (h.below hB0) hl h0
  have hb0 : Box (w.alloc (.cells #[.slice none 0 0] 24)) w.heap.size 24 (.slice none 0 0) := Box.new w _ _
  have HH := Lib.hid h
  have HC := Lib.hid hc
  clear h hc hcap
  cases hck : checkS l
  · have hof : ofF l = ([], 7) := by simp [ofF, hck]
    rw [hof]
    rw [hck] at C
    simp only [Bool.false_eq_true, if_false] at C ⊢
    clear hof hck
    refine callsIn_of_wp_marks Tryd.func33 rfl trivial ?_ rfl
    simp only [Tryd.ntmps33, List.size_toArray, List.length_cons, List.length_nil, Nat.reduceAdd, Nat.reduceSub, Array.replicate_succ, Array.replicate_zero, List.push_toArray, List.append_toArray, List.nil_append, List.cons_append]
    gi_wp2_with fail
    refine ⟨trivial, rfl, (callsIn_wide.2 C).mono ?_⟩
    rintro e w2 ⟨rfl, hb2⟩
    have hb3 := hb0.below hb2
    have c3 := hb3.cell
    have f3 := hb3.free
    have HB := Lib.hid (hB0.trans (hb2.mono hB0.size))
    clear hb2 C hB0 hb0
    gi_wp2_with fail
    have e2 := (hb3.set (.slice none 0 0)).cell
    have HB2 := Lib.hid (HB.out.setCell (p := ⟨w.heap.size, 0, none⟩) (Nat.le_refl _) (.slice none 0 0))
    generalize w2.setCell ⟨w.heap.size, 0, none⟩ (.slice none 0 0) = w3 at e2 HB2 ⊢
    refine ret_shut [] (by simp) _ (by simp) (v := .tuple #[.slice none 0 0, .int .i64 7]) (by simp [shut, results, Tryd.results33, go_sem, e2]) ?_
    exact ⟨_, rfl, HB2.out, Row.nil _ _ _, by intro k h; cases h⟩
  · rw [ofF_ok l hck]
    rw [hck] at C
    simp only [if_true] at C ⊢
    clear hck
    refine callsIn_of_wp_marks Tryd.func33 rfl trivial ?_ rfl
    simp only [Tryd.ntmps33, List.size_toArray, List.length_cons, List.length_nil, Nat.reduceAdd, Nat.reduceSub, Array.replicate_succ, Array.replicate_zero, List.push_toArray, List.append_toArray, List.nil_append, List.cons_append]
    gi_wp2_with fail
    refine ⟨trivial, rfl, (callsIn_wide.2 C).mono ?_⟩
    rintro e w2 ⟨rfl, hb2⟩
    have hb3 := hb0.below hb2
    have HB := Lib.hid (hB0.trans (hb2.mono hB0.size))
    clear hb2 C hB0 hb0
    gi_wp2_with fail
    refine ⟨trivial, rfl, (callsIn_wide.2 (rows_calls _ _ _ _ rfl w2)).mono ?_⟩
    rintro e w3 ⟨rfl, rfl⟩
    gi_wp2_with fail
    have hbx := Box.new w2 70 (.slice (some ⟨bb, off, none⟩) l.length c)
    have hBx : Below w2.heap.size w2 (w2.alloc (.cells #[.slice (some ⟨bb, off, none⟩) l.length c] 70)) := (Below.refl _ w2).alloc (Nat.le_refl _) _
    have hbo := hb3.below hBx
    have hsz : (w2.alloc (.cells #[.slice (some ⟨bb, off, none⟩) l.length c] 70)).heap.size = w2.heap.size + 1 := by simp
    generalize (w2.alloc (.cells #[.slice (some ⟨bb, off, none⟩) l.length c] 70)) = w3 at hbx hBx hbo hsz ⊢
    have hs2 := HB.out.size
    have hs3 := hb3.lt
    have hit := rows_iter l w2.heap.size bb off c (fun k => k < w.heap.size) w3 hbx (by omega) hlc hl hcc (fun j u hu => cellB hBx (cellB HB.out (HC.out j u hu)))
    have HB3 := Lib.hid (HB.out.trans (hBx.mono hs2))
    refine wpIn_range rfl (enters_of Tryd.func100 (by kernel_rfl) rfl) hit (fun _ => rfl)
      (OfI w l w.heap.size) (fun _ _ _ _ => False) (OfA w l (.func (.func 100) #[] #[.pointer (some ⟨w2.heap.size, 0, none⟩)]) (.slice (some ⟨bb, off, none⟩) l.length c) w.heap.size bb off c)
      (OfI.stable _ _ _) (fun c => ⟨fun own s A h => h.elim, fun own s A B h hk => h.elim⟩)
      (fun x a₁ => ⟨fun own s A h => (OfI.stable w l w.heap.size).lt own s A h.1, fun own s A B h hk => ⟨(OfI.stable w l w.heap.size).keep own s A B h.1 hk, h.2⟩⟩)
      (fun k => k = w.heap.size) ?hdis (fun k hk => by have h : k < w.heap.size := hk; omega) ?hItl ⟨_, hbo, Row.nil _ _ _, by simp [Value.ownBlock], by simp [Value.ownBlock], HB3.out⟩ ?hassign ?hbody ?hdone ?hstop (fun _ _ _ h => h) (fun _ _ _ h => h)
    case hdis => rintro k rfl; exact ⟨fun h => h, fun h => by rcases h with h | h <;> omega⟩
    case hItl => intro k hk; rcases hk with hk | rfl | rfl; exact hk.elim; omega; omega
    case hassign =>
      intro ly own pre x W hI hG
      simp only [encRow]
      gi_wp2
      exact assignOut.same ⟨hI, hG, rfl⟩
    case hbody =>
      rintro ly own pre x a₁ W ⟨⟨v, h1, h3, h4, h5, h6⟩, hG, rfl⟩
      have hx := rowsP_mem l l.length 0 x (hG.subset (by simp))
      have hlp : (outP l pre).length + 1 ≤ 1000000 := by
        have h1 := outP_len l pre
        have h2 := hG.length_le
        have h3 := rowsP_len l l.length 0
        simp at h2
        omega
      have hlen : (subL l x).length = x.2 - x.1 := by simp [subL]; omega
      have hS := Sl.sub cStp_len rfl HH.out x.1 x.2 hx.1 hx.2 (c - x.1) (by omega)
      have hM := made_calls (subL l x) (.slice (some ⟨bb, off + x.1 * 3, none⟩) (x.2 - x.1) (c - x.1)) S W (by rw [hlen]; exact hS.below h6) (by omega) (by omega)
      have HKP : keepF (subL l x) = (!(madeF (subL l x)).2 && decide ((madeF (subL l x)).1.f.toList ≠ (madeF (subL l x)).1.t.toList)) := rfl
      have HKQ := Lib.hid HKP
      have HSN := Lib.hid (outP_snoc l pre x)
      have H4 := Lib.hid h4
      have H5 := Lib.hid h5
      have H6 := Lib.hid h6
      have H3 := Lib.hid h3
      clear h4 h5 hG hlen hS HKP h6 h3
      unfold encBlk at hM
      gi_wp2_with fail
      refine ⟨trivial, rfl, ((callsIn_wide.2 hM).inRound _).mono ?_⟩
      rintro e W1 ⟨rfl, hbb⟩
      have h11 := h1.below hbb
      have c1 := h11.cell
      have f1 := h11.free
      have HB1 := Lib.hid hbb
      clear hbb hM
      generalize (madeF (subL l x)).2 = lg at HKQ ⊢
      generalize (madeF (subL l x)).1 = bk at HKQ HSN ⊢
      have hrow1 : Row W1 69 3 v _ _ := H3.out.below HB1.out
      have h12 := h11.alloc (.cells #[.string bk.f, .string bk.t, .int .i64 bk.n] 69)
      have c2 := h12.cell
      have f2 := h12.free
      have hrow2 := hrow1.below (W' := W1.alloc (.cells #[.string bk.f, .string bk.t, .int .i64 bk.n] 69)) ((Below.refl _ _).alloc (Nat.le_refl _) _)
      have hB2 : Below W.heap.size W (W1.alloc (.cells #[.string bk.f, .string bk.t, .int .i64 bk.n] 69)) := HB1.out.alloc HB1.out.size _
      have HB2 := Lib.hid hB2
      have hwB : Below w.heap.size w (W1.alloc (.cells #[.string bk.f, .string bk.t, .int .i64 bk.n] 69)) := H6.out.trans (hB2.mono H6.out.size)
      have HWB := Lib.hid hwB
      have HR1 := Lib.hid hrow1
      clear hB2 hwB hrow1 H3
      cases lg
      · cases hq : (bk.f.toList == bk.t.toList)
        · have hkf : keepF (subL l x) = true := by rw [HKQ.out]; simp; simpa using hq
          have HKF := Lib.hid hkf
          clear hkf HKQ
          gi_wp2_with (gi_at_builtin; refine wpListIn_append1L (W1.heap.size + 1) (World.size_alloc _ _) rfl _ _ 24 rfl 69 3 40 69 (.agg #[.string ⟨#[]⟩, .string ⟨#[]⟩, .int .i64 0]) Tryd.underlying24 Tryd.info69 rfl (by decide) v _ _ rfl hrow2 #[.string bk.f, .string bk.t, .int .i64 bk.n] rfl rfl (one3 rfl rfl rfl) (bd1 hlp (by decide)) (bd2 hlp (by decide)) ?_; intro g cap w1 hrow3 hg1 hloc1; have hb1 := h12.grown hg1 (fun e => hrow2.ne_box h12 (by decide) e.symm); have c3 := hb1.cell; have f3 := hb1.free)
          refine ⟨fun k => k = w.heap.size ∨ k = g, ?_, ?_, ?_⟩
          · rintro k (rfl | rfl)
            · exact .inl ((H4.out _).2 (.inl rfl))
            · exact hloc1.imp (fun h => (H4.out _).2 (.inr h)) (fun h => by have := HB2.out.size; omega)
          · have hk3 := (KeptOn.of_all HB2.out (S := fun k => ¬ own k)).trans ((KeptOn.of_grown hg1).imp (T := fun k => ¬ own k) (fun k _ hk e => hk ((H4.out k).2 (.inr e.symm)))) (fun _ _ h => h)
            exact hk3.setCell _ _ (fun _ h => h ((H4.out _).2 (.inl rfl)))
          · refine ⟨_, hb1.set _, ?_, ?_, ?_, ?_⟩
            · have := hrow3.far (p := ⟨w.heap.size, 0, none⟩) (hrow3.ne_box hb1 (by decide)) (.slice (some ⟨g, 0, none⟩) ((outP l pre).length + 1) cap)
              rw [HSN.out, if_pos HKF.out]
              simpa [cBlk] using this
            · intro k; simp [Value.ownBlock, eq_comm]
            · intro k hk
              have : g = k := by simpa [Value.ownBlock] using hk
              subst this
              rcases hloc1 with h | h
              · exact H5.out _ h
              · have := h12.lt; omega
            · have := HWB.out.trans ((KeptOn.of_grown hg1).below (B := w.heap.size) HWB.out.size (fun k hk e => by have := H5.out k e.symm; omega))
              exact this.setCell (p := ⟨w.heap.size, 0, none⟩) (Nat.le_refl _) _
        · have hkf : keepF (subL l x) = false := by rw [HKQ.out]; simp; simpa using hq
          have HKF := Lib.hid hkf
          clear hkf HKQ
          gi_wp2_with fail
          refine ⟨own, fun k h => .inl h, (KeptOn.of_all HB2.out), v, h12, ?_, H4.out, H5.out, HWB.out⟩
          rw [HSN.out, HKF.out]
          exact hrow2
      · have hkf : keepF (subL l x) = false := by rw [HKQ.out]; simp
        have HKF := Lib.hid hkf
        clear hkf HKQ
        gi_wp2_with fail
        refine ⟨own, fun k h => .inl h, (KeptOn.of_all HB2.out), v, h12, ?_, H4.out, H5.out, HWB.out⟩
        rw [HSN.out, HKF.out]
        exact hrow2
    case hdone =>
      rintro D own xs W hD hk hsub rfl ⟨v, h1, h3, h4, h5, h6⟩ hnD hDW
      obtain ⟨A, c', rfl, _⟩ := h3.form
      have c1 := h1.cell
      have f1 := h1.free
      have H4 := Lib.hid h4
      have H5 := Lib.hid h5
      have H6 := Lib.hid h6
      clear h4 h5 h6
      gi_wp2_with fail
      have hDb : D ≠ w.heap.size := by omega
      have g1 := h1.set (.slice A (outP l (rowsP l l.length 0)).length c')
      have g2 := h3.far (p := ⟨w.heap.size, 0, none⟩) (h3.ne_box h1 (by decide)) (.slice A (outP l (rowsP l l.length 0)).length c')
      have gD : (W.setCell ⟨w.heap.size, 0, none⟩ (.slice A (outP l (rowsP l l.length 0)).length c')).heap[D]? = some (.deferred (some [])) := by
        rw [Below.heap_setCell _ _ _ _ hDb]; exact hDW
      have gB := H6.out.setCell (p := ⟨w.heap.size, 0, none⟩) (Nat.le_refl _) (.slice A (outP l (rowsP l l.length 0)).length c')
      generalize W.setCell ⟨w.heap.size, 0, none⟩ (.slice A (outP l (rowsP l l.length 0)).length c') = W3 at g1 g2 gD gB ⊢
      have hsh := shut_kept [D] W3
      have e1 := (g1.keep hsh (by simp [hDb.symm])).cell
      refine ret_shut [D] (by simp) _ (by simpa using gD) (v := .tuple #[.slice A (outP l (rowsP l l.length 0)).length c', .int .i64 0]) (by simp [results, Tryd.results33, go_sem, e1]) ⟨_, rfl, ?_, ?_, H5.out⟩
      · exact gB.trans (hsh.below gB.size (fun k hk => by simp; omega))
      · refine g2.keep hsh (fun k hk' h => ?_)
        simp at h; subst h
        exact hnD ((H4.out _).2 (.inr hk'))
    case hstop =>
      rintro D c own pre W hD hk hsub hSp h
      exact h.elim
end Go.Proofs.Er
