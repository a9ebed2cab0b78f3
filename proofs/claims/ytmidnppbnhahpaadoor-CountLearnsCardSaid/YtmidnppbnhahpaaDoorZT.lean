/-
  Law 06 (CountLearns) answers true at every input: the table of pairs is that of all their blocks, and pairs whose two sides are the same text teach nothing.
  Conditions: the row's own (the two tables of unicode/utf8 are laid as the program's text lays them; nothing else). Written by an AI agent.
-/
import Derived.Test.YtmidnppbnhahpaaDoorZR
import Derived.Test.YtmidnppbnhahpaaDoorTie
import Derived.Test.YtmidnppbnhahpaaDoorCards
import Derived.SevenTiedAt
namespace Go.Proofs.YtmidnppbnhahpaaDoor
open Go Go.Proofs.Er
theorem countLearns : Rows.CountLearnsCardSaid :=
  Claim7.holds_tied_plain_at .later [] [.data, .pinned] true (true, "44a4108cf2c66576c534f78d36365011fa719cf8cdd7fc82b0df7e3d0d0555d3") false
    countLearns_holds (fun _ h => by cases h) (by kernel_rfl) (fun _ h => by cases h) countLearns_row_tie rfl ⟨rfl, rfl⟩ (by kernel_rfl) rfl
    (fun f fn hf hfn => by
      obtain rfl : f = 3 := Option.some.inj ((show Tryd.prog.funcNamed "errata/erratalaw06.CountLearns" = some 3 by kernel_rfl).symm.trans hf) |>.symm
      obtain rfl : fn = Tryd.f3 := (Option.some.inj (Tryd.func3.symm.trans hfn)).symm
      exact ⟨by kernel_rfl, fun j t ht => by
        rw [Tryd.params3] at ht
        have h3 : t = 22 := by
          rcases j with _ | j
          · simpa using ht.symm
          · simp at ht
        subst h3
        exact (show Tryd.prog.wantsStandIn 22 = false by kernel_rfl)⟩)
    (by kernel_rfl)
#print axioms countLearns
end Go.Proofs.YtmidnppbnhahpaaDoor
