/- Package bag: what the library's functions of slices do. -/
import Derived.Test.YtflmehahkcijcaaBf
import Derived.Test.YtflmehahkcijcaaBh
import Derived.Test.YtflmehahkcijcaaWk
namespace Go.Proofs.Ytflmehahkcijcaa
open Go Go.RowKit
set_option linter.unusedSimpArgs false
set_option maxHeartbeats 4000000
set_option linter.unusedVariables false
attribute [local irreducible] JC JL OX OV Kthen Kblock JR FendG
end Go.Proofs.Ytflmehahkcijcaa
