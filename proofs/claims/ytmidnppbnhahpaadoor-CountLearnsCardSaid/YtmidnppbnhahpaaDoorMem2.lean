import Derived.Test.YtmidnppbnhahpaaDoorMem
import Derived.WalkMore
import Derived.ControlIn
import Derived.Sort.QuietIn
namespace Go.Proofs.Er
open Go Go.RowKit
theorem wpIn_scope_wide {P : Program} {c : Code} {n : Nat} {Q : Exit → Act → World → Prop} {a : Act} {w : World} (h : c.wpIn Fence.wide n P (Exit.noGoto Q) a w) : (Code.scope c).wpIn Fence.wide n P Q a w :=
  wpIn_wide.2 (wp_scope_straight (wpIn_wide.1 h))
end Go.Proofs.Er
