import Derived.Test.YtmidnppbnhahpaaDoorWS
import Derived.Test.YtmidnppbnhahpaaDoorGrew
namespace Go.Proofs.Er
open Go Go.RowKit Go.Shelf Go.Proofs Go.Sort
attribute [local go_sem] Oper.semAt_some

theorem two_allocs (w : World) (o1 o2 : Obj) : ((w.alloc o1).alloc o2).heap[w.heap.size]? = some o1 ∧ ((w.alloc o1).alloc o2).heap[w.heap.size + 1]? = some o2 := by
  refine ⟨?_, ?_⟩
  · rw [Below.heap_alloc _ _ _ (by simp)]; exact heap_alloc_new _ _
  · have := heap_alloc_new (w.alloc o1) o2
    rwa [World.size_alloc] at this

set_option maxHeartbeats 1000000 in
set_option maxRecDepth 100000 in
theorem less_calls (a b : Blk) (w : World) : Calls Tryd.prog 70 #[encBlk a, encBlk b] w fun e w' => e = .returned (.bool (blkLess a b)) ∧ Grew w w' := by
  obtain ⟨f1, t1, n1⟩ := a
  obtain ⟨f2, t2, n2⟩ := b
  have hl : blkLess ⟨f1, t1, n1⟩ ⟨f2, t2, n2⟩ = decide ((if strCmp f1 f2 ≠ 0 then strCmp f1 f2 else strCmp t1 t2) < 0) := rfl
  rw [hl]
  have C1 := fun W => cmpS_calls f1 f2 W
  have C2 := fun W => cmpS_calls t1 t2 W
  generalize strCmp f1 f2 = x at C1 ⊢
  generalize strCmp t1 t2 = y at C2 ⊢
  have CO := fun b c W h0 h1 => or2_calls x y b c W h0 h1
  generalize (if x ≠ 0 then x else y) = r at CO ⊢
  obtain ⟨h1, h2⟩ := two_allocs w (.cells #[.string f1, .string t1, .int .i64 n1] 69) (.cells #[.string f2, .string t2, .int .i64 n2] 69)
  have hG : Grew w ((w.alloc (.cells #[.string f1, .string t1, .int .i64 n1] 69)).alloc (.cells #[.string f2, .string t2, .int .i64 n2] 69)) := ((Grew.refl w).alloc _).alloc _
  have hB : Below w.heap.size w ((w.alloc (.cells #[.string f1, .string t1, .int .i64 n1] 69)).alloc (.cells #[.string f2, .string t2, .int .i64 n2] 69)) := ((Below.refl _ w).alloc (Nat.le_refl _) _).alloc (by simp) _
  unfold encBlk
  simp only
  go_enter Tryd.func70, Tryd.ntmps70
  go_wp2_with fail
  generalize (w.alloc (.cells #[.string f1, .string t1, .int .i64 n1] 69)).alloc (.cells #[.string f2, .string t2, .int .i64 n2] 69) = w1 at h1 h2 hB hG ⊢
  have e1 : w1.cell? ⟨w.heap.size, 0, none⟩ = some (.string f1) := cell_at (o := 0) h1 rfl
  have e2 : w1.cell? ⟨w.heap.size, 1, none⟩ = some (.string t1) := cell_at (o := 1) h1 rfl
  have e3 : w1.cell? ⟨w.heap.size + 1, 0, none⟩ = some (.string f2) := cell_at (o := 0) h2 rfl
  have e4 : w1.cell? ⟨w.heap.size + 1, 1, none⟩ = some (.string t2) := cell_at (o := 1) h2 rfl
  go_still_tail 10, (by kernel_rfl)
  still_call (C1 w1.drew)
  repeat still_step
  still_call (C2 w1.drew)
  repeat still_step
  refine wpStill_nil ?_
  change wpList _ _ _ _ _ w1.drew
  have hB1 : Below w.heap.size w w1.drew := hB.drew
  have hG1 : Grew w w1.drew := hG.drew
  generalize w1.drew = w2 at hB1 hG1 ⊢
  clear e1 e2 e3 e4 h1 h2 hB hG C1 C2
  have hs := hB1.size
  have g0 : (w2.alloc (.cells #[.int .i64 x, .int .i64 y] 3)).cell? ⟨w2.heap.size, 0, none⟩ = some (.int .i64 x) := cell_at (o := 0) (heap_alloc_new _ _) rfl
  have g1 : (w2.alloc (.cells #[.int .i64 x, .int .i64 y] 3)).cell? ⟨w2.heap.size, 1, none⟩ = some (.int .i64 y) := cell_at (o := 1) (heap_alloc_new _ _) rfl
  have hB2 := hB1.alloc hs (.cells #[.int .i64 x, .int .i64 y] 3)
  have CC := CO w2.heap.size 2 _ g0 g1
  have HB := Lib.hid (hG1.alloc (.cells #[.int .i64 x, .int .i64 y] 3))
  clear hB1 hB2 hG1 CO g0 g1
  go_wp2_with fail
  refine CC.mono ?_
  rintro e w' ⟨rfl, rfl⟩
  clear CC
  go_wp2
  go_ret
  exact ⟨rfl, HB.out⟩
end Go.Proofs.Er
