/- What the small functions of package bag and its reference compute. -/
import Derived.Test.YtpfjolckhlgodaaDoorWt
import Derived.Test.YtpfjolckhlgodaaDoorWe
import Derived.Test.YtpfjolckhlgodaaDoorBa
namespace Go.Proofs.YtpfjolckhlgodaaDoor
open Go Go.RowKit
set_option linter.unusedSimpArgs false
set_option maxHeartbeats 4000000
set_option linter.unusedVariables false
attribute [local irreducible] JC JL OX OV Kthen Kblock JR FendG
def Rc.e (r : Rc) : List Value := [.int .i64 r.k, .int .i64 r.v]
theorem Rc.el (r : Rc) : r.e.length = 2 := rfl
theorem Rc.e1 (r : Rc) : r.e.all Value.oneCell = true := rfl
abbrev Rc.a (r : Rc) : Value := .agg #[.int .i64 r.k, .int .i64 r.v]
end Go.Proofs.YtpfjolckhlgodaaDoor
