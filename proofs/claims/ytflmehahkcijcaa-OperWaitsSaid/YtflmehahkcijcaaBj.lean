/- slices.Concat of two and of three rows of records. -/
import Derived.Test.YtflmehahkcijcaaBi
namespace Go.Proofs.Ytflmehahkcijcaa
open Go Go.RowKit
set_option linter.unusedSimpArgs false
set_option maxHeartbeats 4000000
set_option linter.unusedVariables false
attribute [local irreducible] JC JL OX OV Kthen Kblock JR FendG
end Go.Proofs.Ytflmehahkcijcaa
