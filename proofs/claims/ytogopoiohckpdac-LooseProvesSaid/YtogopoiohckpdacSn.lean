/- The statement LooseWorths: for every job, waste and prices. No condition. -/
import Derived.Test.YtogopoiohckpdacSm
namespace Go.Proofs.Ytogopoiohckpdac
open Go.RowKit Go.VS Go.OT
set_option linter.unusedSimpArgs false
set_option linter.unusedVariables false

end Go.Proofs.Ytogopoiohckpdac
