/- Package bag: Same, Join. -/
import Derived.Test.YtflmehahkcijcaaBg
import Derived.Test.YtflmehahkcijcaaBj
namespace Go.Proofs.Ytflmehahkcijcaa
open Go Go.RowKit
set_option linter.unusedSimpArgs false
set_option maxHeartbeats 4000000
set_option linter.unusedVariables false
attribute [local irreducible] JC JL OX OV Kthen Kblock JR FendG
theorem sort0_c (c : Nat) : Con C.P 93 [.r 0 c []] (PS 38 2 0 []) := sort_c [] c (by simp)
end Go.Proofs.Ytflmehahkcijcaa
