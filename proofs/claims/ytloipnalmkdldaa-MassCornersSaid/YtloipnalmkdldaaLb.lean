/- What every statement of this program needs: see Ld. No condition. -/
import Derived.Test.YtloipnalmkdldaaLd
namespace Go.Proofs.Ytloipnalmkdldaa
end Go.Proofs.Ytloipnalmkdldaa
