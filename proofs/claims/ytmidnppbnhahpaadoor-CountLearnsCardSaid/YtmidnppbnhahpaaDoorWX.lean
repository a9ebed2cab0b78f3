import Derived.Test.YtmidnppbnhahpaaDoorWV
import Derived.Test.YtmidnppbnhahpaaDoorMapF
namespace Go.Proofs.Er
open Go Go.RowKit Go.Shelf Go.Proofs Go.Sort
attribute [local go_sem] Oper.semAt_some

set_option maxRecDepth 1000000 in
theorem laidOutP : laidOutB Tryd.prog = true := by kernel_rfl
theorem sidesRow : (79 : TypeId) < Tryd.prog.types.size := of_decide_eq_true (by kernel_rfl)
theorem sidesWide : (match Tryd.prog.underlying 79 with | some (.array _ _) | some (.struct _) => true | _ => false) = true := by rw [Tryd.underlying79]
set_option maxRecDepth 1000000 in
theorem sidesLaw : Maps.Keyed Tryd.prog 79 := Maps.Keyed.of_law (deep_law_laid laidOutP (m := 3) (by omega) sidesRow (by kernel_rfl) sidesWide)
theorem zeroI (w : World) : (zeroValue 3).run Tryd.prog w = .ok (.int .i64 0) w := Tryd.zeroValue3 w
theorem cells79 : Tryd.prog.cellsOf 79 = 2 := by kernel_rfl
theorem cells9 : Tryd.prog.cellsOf 9 = 1 := by kernel_rfl
theorem pos_succ {n k : Nat} (h : k < n) : ∃ d, n = d + 1 := ⟨n - 1, by omega⟩
set_option maxRecDepth 1000000 in
theorem sidesKey (f t : ByteArray) (hf : f.size ≤ maxLen) (ht : t.size ≤ maxLen) : ∃ kl, keyOf Tryd.prog 79 (.agg #[.string f, .string t]) = some kl := by
  have h1 : Tryd.prog.keyType 79 = true := by kernel_rfl
  obtain ⟨d, hd⟩ : ∃ d, Tryd.prog.types.size = d + 1 := pos_succ sidesRow
  refine ⟨.string (keyBytes [.string f.data.toList, .string t.data.toList]), ?_⟩
  unfold keyOf
  rw [Tryd.underlying79]
  simp only [h1, Value.formed, Tryd.underlying79, cells79, hd]
  simp [Value.cells, Program.keyLits, Tryd.underlying79, Tryd.underlying9, cells79, cells9, hf, ht]
end Go.Proofs.Er
