import Derived.Test.YtmidnppbnhahpaaDoorWO
namespace Go.Proofs.Er
open Go Go.RowKit Go.Shelf Go.Proofs Go.Sort
attribute [local go_sem] Oper.semAt_some

theorem three_set {W : World} {B T : Nat} {x y z : Value} (h : W.heap[B]? = some (.cells #[x, y, z] T (0, 0))) (p q r : Value) :
    (((W.setCell ⟨B, 0, none⟩ p).setCell ⟨B, 1, none⟩ q).setCell ⟨B, 2, none⟩ r).heap[B]? = some (.cells #[p, q, r] T (0, 0)) := by
  simp [World.setCell, Array.getElem?_modify, h]
def encBlk (b : Blk) : Value := .agg #[.string b.f, .string b.t, .int .i64 b.n]
def cBlk (b : Blk) : List Value := [.string b.f, .string b.t, .int .i64 b.n]

theorem madeF_eq (r : List Stp) : madeF r = (⟨(readF r).1, (readF r).2.1, 1⟩, decide (3 < max (Lib.runeCount (readF r).1) (Lib.runeCount (readF r).2.1))) := by
  unfold madeF readF
  cases checkS r <;> rfl
theorem countR (s : ByteArray) (w : World) (hs : s.size < 9223372036854775807) : Calls Tryd.prog 72 #[.string s] w fun e w' => e = .returned (.int .i64 (Lib.runeCount s)) ∧ Below w.heap.size w w' := by
  refine (Tryd.utf8_RuneCountInString s w hs).mono ?_
  rintro e w' ⟨rfl, pos, rfl⟩
  exact ⟨rfl, (Below.refl _ w).alloc (Nat.le_refl _) _⟩

theorem readF_size (r : List Stp) : (readF r).1.size ≤ 4 * r.length ∧ (readF r).2.1.size ≤ 4 * r.length := by
  unfold readF
  cases checkS r
  · simp [ByteArray.size]
  · simp only [if_true]
    rw [← nums_noisy, ← nums_truth]
    have h1 := numsA_len r
    have h2 := numsB_len r
    simp [strOfNums, ByteArray.size]
    exact ⟨h1, h2⟩

set_option maxHeartbeats 1000000 in
theorem made_calls (r : List Stp) (v : Value) (S : Nat → Prop) (w : World) (h : Sl w S 3 v r.length (r.flatMap cStp)) (hl : r.length ≤ 1000000) (h0 : 0 < r.length) :
    Calls Tryd.prog 66 #[v] w fun e w' => e = .returned (.tuple #[encBlk (madeF r).1, .bool (madeF r).2]) ∧ Below w.heap.size w w' := by
  have C := fun W (hB : Below w.heap.size w W) => read_calls r v S W (h.below hB) hl h0
  rw [madeF_eq]
  have hsz := readF_size r
  generalize readF r = q at C hsz ⊢
  obtain ⟨a, b, ec⟩ := q
  simp only [encBlk] at C hsz ⊢
  have CA := fun W => countR a W (by omega)
  have CB := fun W => countR b W (by omega)
  have hB0 : Below w.heap.size w (w.alloc (.cells #[.string ⟨#[]⟩, .string ⟨#[]⟩, .int .i64 0] 69)) := (Below.refl _ w).alloc (Nat.le_refl _) _
  have DC := Lib.hid (C _ hB0)
  have HB0 := Lib.hid hB0
  obtain ⟨A, c, rfl⟩ := h.form
  clear C hB0 h
  go_enter Tryd.func66, Tryd.ntmps66
  go_wp2_with fail
  refine DC.out.mono ?_
  rintro e w2 ⟨rfl, hb2⟩
  have hn2 : w2.heap[w.heap.size]? = some (.cells #[.string ⟨#[]⟩, .string ⟨#[]⟩, .int .i64 0] 69 (0, 0)) := (hb2.block _ (by simp)).trans (heap_alloc_new _ _)
  have HB2 := Lib.hid (HB0.out.trans (hb2.mono HB0.out.size))
  clear hb2 DC HB0
  go_wp2_with fail
  refine (CA w2).mono ?_
  rintro e w3 ⟨rfl, hb3⟩
  have hlt2 := (Array.getElem?_eq_some_iff.1 hn2).1
  have hn3 := (hb3.block _ hlt2).trans hn2
  have HB3 := Lib.hid (HB2.out.trans (hb3.mono HB2.out.size))
  clear hb3 HB2 hn2 CA
  go_wp2_with fail
  refine (CB w3).mono ?_
  rintro e w4 ⟨rfl, hb4⟩
  have hlt3 := (Array.getElem?_eq_some_iff.1 hn3).1
  have hn4 := (hb4.block _ hlt3).trans hn3
  have HB4 := Lib.hid (HB3.out.trans (hb4.mono HB3.out.size))
  clear hb4 HB3 hn3 CB
  have c0 := cell_at (o := 0) hn4 rfl
  have c1 := cell_at (o := 1) hn4 rfl
  have c2 := cell_at (o := 2) hn4 rfl
  have f0 := frozen_of_row _ _ 0 _ _ hn4
  have f1 := frozen_of_row _ _ 1 _ _ hn4
  have f2 := frozen_of_row _ _ 2 _ _ hn4
  go_wp2_with fail
  have hfin := three_set hn4 (.string a) (.string b) (.int .i64 1)
  have HBf := Lib.hid (((HB4.out.setCell (p := ⟨w.heap.size, 0, none⟩) (Nat.le_refl _) (.string a)).setCell (p := ⟨w.heap.size, 1, none⟩) (Nat.le_refl _) (.string b)).setCell (p := ⟨w.heap.size, 2, none⟩) (Nat.le_refl _) (.int .i64 1))
  generalize ((w4.setCell ⟨w.heap.size, 0, none⟩ (.string a)).setCell ⟨w.heap.size, 1, none⟩ (.string b)).setCell ⟨w.heap.size, 2, none⟩ (.int .i64 1) = w5 at hfin HBf ⊢
  clear c0 c1 c2 f0 f1 f2 hn4 HB4
  have e0 : w5.cell? ⟨w.heap.size, 0, none⟩ = some (.string a) := cell_at (o := 0) hfin rfl
  have e1 : w5.cell? ⟨w.heap.size, 1, none⟩ = some (.string b) := cell_at (o := 1) hfin rfl
  have e2 : w5.cell? ⟨w.heap.size, 2, none⟩ = some (.int .i64 1) := cell_at (o := 2) hfin rfl
  have hd : decide ((3 : Int) < max (Lib.runeCount a : Int) (Lib.runeCount b : Int)) = decide (3 < max (Lib.runeCount a) (Lib.runeCount b)) := decide_eq_decide.2 (by omega)
  refine bodyPost_ret (by simp [results, Tryd.results66, go_sem, e0, e1, e2]; rfl) rfl ?_
  refine ⟨?_, HBf.out⟩
  rw [← hd]
end Go.Proofs.Er
