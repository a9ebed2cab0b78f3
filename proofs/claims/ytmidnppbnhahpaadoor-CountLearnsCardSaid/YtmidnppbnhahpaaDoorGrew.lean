import Derived.Test.YtmidnppbnhahpaaDoorMem
import Derived.Sort.Grow
import Derived.Shelf.SlSortCmp.WholeK
import Derived.Deep.Draws
namespace Go.Proofs.Er
open Go Go.RowKit Go.Sort
/-- Some draws, some new blocks: nothing else. -/
def Grew (W w' : World) : Prop := ∃ q os', w' = grow (W.drewN q) os'
theorem Grew.refl (W : World) : Grew W W := ⟨0, #[], by simp [World.drewN]⟩
theorem Grew.alloc {W w' : World} (h : Grew W w') (o : Obj) : Grew W (w'.alloc o) := by
  obtain ⟨q, os, rfl⟩ := h
  exact ⟨q, os ++ #[o], by rw [alloc_eq_grow, grow_grow]⟩
theorem Grew.drew {W w' : World} (h : Grew W w') : Grew W w'.drew := by
  obtain ⟨q, os, rfl⟩ := h
  refine ⟨q + 1, os, ?_⟩
  rw [drew_grow]
  rfl
theorem Grew.trans {W A B : World} (h : Grew W A) (k : Grew A B) : Grew W B := by
  obtain ⟨q, os, rfl⟩ := h
  obtain ⟨q2, os2, rfl⟩ := k
  refine ⟨q + q2, os ++ os2, ?_⟩
  have : (grow (W.drewN q) os).drewN q2 = grow (W.drewN (q + q2)) os := by
    rw [← World.drewN_drewN]; rfl
  rw [this, grow_grow]
theorem Grew.below {W w' : World} (h : Grew W w') : Below W.heap.size W w' := by
  obtain ⟨q, os, rfl⟩ := h
  exact ⟨rfl, rfl, rfl, by simp [World.drewN], fun k hk => heap_grow_old _ _ hk⟩
end Go.Proofs.Er
