import Derived.Test.YtmidnppbnhahpaaDoorWT
namespace Go.Proofs.Er
open Go Go.RowKit Go.Shelf Go.Proofs Go.Sort
attribute [local go_sem] Oper.semAt_some

set_option maxHeartbeats 1000000 in
set_option maxRecDepth 100000 in
theorem compare_calls (a b : Blk) (w : World) : Calls Tryd.prog 37 #[encBlk a, encBlk b] w fun e w' => e = .returned (.int .i64 (blkCmp a b)) ∧ Grew w w' := by
  have C1 := fun W => less_calls a b W
  have C2 := fun W => less_calls b a W
  obtain ⟨r, hr⟩ : ∃ r, r = blkCmp a b := ⟨_, rfl⟩
  rw [← hr]
  unfold blkCmp at hr
  obtain ⟨f1, t1, n1⟩ := a
  obtain ⟨f2, t2, n2⟩ := b
  generalize blkLess ⟨f1, t1, n1⟩ ⟨f2, t2, n2⟩ = l1 at C1 hr
  generalize blkLess ⟨f2, t2, n2⟩ ⟨f1, t1, n1⟩ = l2 at C2 hr
  have HR := Lib.hid hr
  clear hr
  unfold encBlk at C1 C2 ⊢
  simp only at C1 C2 ⊢
  obtain ⟨h1, h2⟩ := two_allocs w (.cells #[.string f1, .string t1, .int .i64 n1] 69) (.cells #[.string f2, .string t2, .int .i64 n2] 69)
  have hB : Below w.heap.size w ((w.alloc (.cells #[.string f1, .string t1, .int .i64 n1] 69)).alloc (.cells #[.string f2, .string t2, .int .i64 n2] 69)) := ((Below.refl _ w).alloc (Nat.le_refl _) _).alloc (by simp) _
  have hG : Grew w ((w.alloc (.cells #[.string f1, .string t1, .int .i64 n1] 69)).alloc (.cells #[.string f2, .string t2, .int .i64 n2] 69)) := ((Grew.refl w).alloc _).alloc _
  have hs := hB.size
  have hsz : ((w.alloc (.cells #[.string f1, .string t1, .int .i64 n1] 69)).alloc (.cells #[.string f2, .string t2, .int .i64 n2] 69)).heap.size = w.heap.size + 2 := by simp
  have HB := Lib.hid hG
  have HC2 := Lib.hid C2
  clear hB hG C2
  go_enter Tryd.func37, Tryd.ntmps37
  go_wp2_with fail
  refine (C1 _).mono ?_
  rintro e w2 ⟨rfl, hg2⟩
  have hb2 := hg2.below
  generalize ((w.alloc (.cells #[.string f1, .string t1, .int .i64 n1] 69)).alloc (.cells #[.string f2, .string t2, .int .i64 n2] 69)) = w1 at h1 h2 HB hs hsz hb2 hg2
  have k1 := (hb2.block _ (by omega)).trans h1
  have k2 := (hb2.block _ (by omega)).trans h2
  have e1 := cell_at (o := 0) k1 rfl
  have e2 := cell_at (o := 1) k1 rfl
  have e3 := cell_at (o := 2) k1 rfl
  have e4 := cell_at (o := 0) k2 rfl
  have e5 := cell_at (o := 1) k2 rfl
  have e6 := cell_at (o := 2) k2 rfl
  simp only [List.getElem_toArray, List.getElem_cons_zero, List.getElem_cons_succ] at e1 e2 e3 e4 e5 e6
  have HB2 := Lib.hid (HB.out.trans hg2)
  clear C1 hb2 hg2 k1 k2 h1 h2 HB hs hsz
  cases l1
  · go_wp2_with fail
    refine (HC2.out _).mono ?_
    rintro e w3 ⟨rfl, hb3⟩
    have HB3 := Lib.hid (HB2.out.trans hb3)
    clear hb3 HC2 HB2
    cases l2
    · go_wp2
      go_ret
      exact ⟨by rw [HR.out]; rfl, HB3.out⟩
    · go_wp2
      go_ret
      exact ⟨by rw [HR.out]; rfl, HB3.out⟩
  · go_wp2
    go_ret
    exact ⟨by rw [HR.out]; rfl, HB2.out⟩

theorem validS_calls (s : ByteArray) (w : World) (hT : Tabs w) (hs : s.size ≤ 9223372036854775807) : Calls Tryd.prog 102 #[.string s] w fun e w' => e = .returned (.bool (Lib.validD s.data.toList)) ∧ Below w.heap.size w w' := Tryd.utf8_ValidString s w hs hT

set_option maxHeartbeats 1000000 in
set_option maxRecDepth 100000 in
theorem blkCheck_calls (b : Blk) (w : World) (hT : Tabs w) (h1 : b.f.size ≤ 1000000000) (h2 : b.t.size ≤ 1000000000) : Calls Tryd.prog 67 #[encBlk b] w fun e w' => e = .returned (.int .i64 (blkCheck b)) ∧ Below w.heap.size w w' := by
  obtain ⟨f, t, n⟩ := b
  simp only at h1 h2
  have hB0 : Below w.heap.size w (w.alloc (.cells #[.string f, .string t, .int .i64 n] 69)) := (Below.refl _ w).alloc (Nat.le_refl _) _
  have hn0 : (w.alloc (.cells #[.string f, .string t, .int .i64 n] 69)).heap[w.heap.size]? = some (.cells #[.string f, .string t, .int .i64 n] 69 (0, 0)) := heap_alloc_new _ _
  have CF := fun W hB => validS_calls f W (hT.below (w' := W) hB) (by omega)
  have CT := fun W hB => validS_calls t W (hT.below (w' := W) hB) (by omega)
  have RF := fun W => countR f W (by omega)
  have RT := fun W => countR t W (by omega)
  obtain ⟨r, hr⟩ : ∃ r, r = blkCheck ⟨f, t, n⟩ := ⟨_, rfl⟩
  rw [← hr]
  unfold blkCheck at hr
  simp only at hr
  generalize Lib.validD f.data.toList = vf at CF hr
  generalize Lib.validD t.data.toList = vt at CT hr
  generalize Lib.runeCount f = cf at RF hr
  generalize Lib.runeCount t = ct at RT hr
  have HR := Lib.hid hr
  have HF := Lib.hid CF
  have HT := Lib.hid CT
  have HB0 := Lib.hid hB0
  have hsz : (w.alloc (.cells #[.string f, .string t, .int .i64 n] 69)).heap.size = w.heap.size + 1 := by simp
  clear hr CF CT hB0 hT
  unfold encBlk
  simp only
  cases vf
  · have hr : r = 3 := by rw [HR.out]; rfl
    clear HR
    subst hr
    go_enter Tryd.func67, Tryd.ntmps67
    go_wp2_with fail
    refine (HF.out _ HB0.out).mono ?_
    rintro e w2 ⟨rfl, hb2⟩
    have HB2 := Lib.hid (HB0.out.trans (hb2.mono HB0.out.size))
    clear hb2 HF HT RF RT hn0 hsz HB0
    go_wp2
    go_ret
    exact ⟨rfl, HB2.out⟩
  · cases vt
    · have hr : r = 3 := by rw [HR.out]; rfl
      clear HR
      subst hr
      go_enter Tryd.func67, Tryd.ntmps67
      go_wp2_with fail
      refine (HF.out _ HB0.out).mono ?_
      rintro e w2 ⟨rfl, hb2⟩
      have hn2 := (hb2.block _ (by omega)).trans hn0
      have e1 : w2.cell? ⟨w.heap.size, 1, none⟩ = some (.string t) := cell_at (o := 1) hn2 rfl
      have HB2 := Lib.hid (HB0.out.trans (hb2.mono HB0.out.size))
      clear hb2 HF RF RT hn0 hsz HB0 hn2
      go_wp2_with fail
      refine (HT.out _ HB2.out).mono ?_
      rintro e w3 ⟨rfl, hb3⟩
      have HB3 := Lib.hid (HB2.out.trans (hb3.mono HB2.out.size))
      clear hb3 HT HB2
      go_wp2
      go_ret
      exact ⟨rfl, HB3.out⟩
    · go_enter Tryd.func67, Tryd.ntmps67
      go_wp2_with fail
      refine (HF.out _ HB0.out).mono ?_
      rintro e w2 ⟨rfl, hb2⟩
      have hn2 := (hb2.block _ (by omega)).trans hn0
      have e1 : w2.cell? ⟨w.heap.size, 1, none⟩ = some (.string t) := cell_at (o := 1) hn2 rfl
      have HB2 := Lib.hid (HB0.out.trans (hb2.mono HB0.out.size))
      have hl2 := (Array.getElem?_eq_some_iff.1 hn2).1
      clear hb2 HF hn0 hsz HB0
      go_wp2_with fail
      refine (HT.out _ HB2.out).mono ?_
      rintro e w3 ⟨rfl, hb3⟩
      have HB3 := Lib.hid (HB2.out.trans (hb3.mono HB2.out.size))
      have hn3 := (hb3.block _ hl2).trans hn2
      have hl3 := (Array.getElem?_eq_some_iff.1 hn3).1
      clear hb3 HT HB2 hn2 hl2 e1
      go_wp2_with fail
      have cells : ∀ W : World, Below w3.heap.size w3 W → W.cell? ⟨w.heap.size, 0, none⟩ = some (.string f) ∧ W.cell? ⟨w.heap.size, 1, none⟩ = some (.string t) := fun W hb => ⟨cell_at (o := 0) ((hb.block _ hl3).trans hn3) rfl, cell_at (o := 1) ((hb.block _ hl3).trans hn3) rfl⟩
      obtain ⟨d1, d2⟩ := cells _ (Below.refl _ _)
      go_region_held3 (fun w' => w'.cell? ⟨w.heap.size, 0, none⟩ = some (.string f) ∧ w'.cell? ⟨w.heap.size, 1, none⟩ = some (.string t)) (first | exact ⟨by assumption, by assumption⟩)
        (first
          | (go_at_call_of 72 (Value.string f); refine (RF _).mono ?_; rintro e w' ⟨rfl, hbf⟩; have x1 := cellB hbf (by assumption : World.cell? _ ⟨w.heap.size, 0, none⟩ = some (.string f)); have x2 := cellB hbf (by assumption : World.cell? _ ⟨w.heap.size, 1, none⟩ = some (.string t)))
          | (go_at_call_of 72 (Value.string t); refine (RT _).mono ?_; rintro e w' ⟨rfl, hbt⟩; have y1 := cellB hbt (by assumption : World.cell? _ ⟨w.heap.size, 0, none⟩ = some (.string f)); have y2 := cellB hbt (by assumption : World.cell? _ ⟨w.heap.size, 1, none⟩ = some (.string t))))
      have hB4 := (((Below.refl w3.heap.size w3).drew).trans hbf).trans (hbt.mono hbf.size)
      have hn4 := (hB4.block _ hl3).trans hn3
      have HB4 := Lib.hid (HB3.out.trans (hB4.mono HB3.out.size))
      have e0 : w'.cell? ⟨w.heap.size, 0, none⟩ = some (.string f) := cell_at (o := 0) hn4 rfl
      have e1 : w'.cell? ⟨w.heap.size, 1, none⟩ = some (.string t) := cell_at (o := 1) hn4 rfl
      have e2 : w'.cell? ⟨w.heap.size, 2, none⟩ = some (.int .i64 n) := cell_at (o := 2) hn4 rfl
      clear y1 y2 hB4 hn4 hn3 cells RF RT d1 d2 hl3 hbt x1 x2 hbf HB3
      have hlong : ((3 : Int) < max (cf : Int) (ct : Int)) ↔ 3 < max cf ct := by omega
      by_cases hl : 3 < max cf ct
      · have hli := hlong.2 hl
        have hr : r = 5 := by rw [HR.out]; simp [hl]
        have Hr := Lib.hid hr
        clear hr hlong hl
        go_wp2
        go_ret
        exact ⟨by rw [Hr.out]; rfl, HB4.out⟩
      · have hli : ¬ ((3 : Int) < max (cf : Int) (ct : Int)) := fun h => hl (hlong.1 h)
        cases he : (f.toList == t.toList)
        · by_cases hn1 : n < 1
          · have hr : r = 2 := by rw [HR.out]; simp [hl, he, hn1]
            have Hr := Lib.hid hr
            clear hr hlong hl
            go_wp2
            go_ret
            exact ⟨by rw [Hr.out]; rfl, HB4.out⟩
          · by_cases hn2 : 1073741824 < n
            · have hr : r = 2 := by rw [HR.out]; simp [hl, he, hn2]
              have Hr := Lib.hid hr
              clear hr hlong hl
              go_wp2
              go_ret
              exact ⟨by rw [Hr.out]; rfl, HB4.out⟩
            · have hr : r = 0 := by rw [HR.out]; simp [hl, he, hn1, hn2]
              have Hr := Lib.hid hr
              clear hr hlong hl
              go_wp2
              go_ret
              exact ⟨by rw [Hr.out]; rfl, HB4.out⟩
        · have hr : r = 7 := by rw [HR.out]; simp [hl, he]
          have Hr := Lib.hid hr
          clear hr hlong hl
          go_wp2
          go_ret
          exact ⟨by rw [Hr.out]; rfl, HB4.out⟩
end Go.Proofs.Er
