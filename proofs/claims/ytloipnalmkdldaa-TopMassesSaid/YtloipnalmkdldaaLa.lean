/- The types of this program: see Lc. No condition. -/
import Derived.Test.YtloipnalmkdldaaLc
namespace Go.Proofs.Ytloipnalmkdldaa
end Go.Proofs.Ytloipnalmkdldaa
