/- Widths: sums, with the front end. -/
import Derived.Test.YtcjcdammcmjbnaaWidN
import Derived.Test.YtcjcdammcmjbnaaFeB4
namespace Go.Proofs.Ytcjcdammcmjbnaa.U
open Go Go.Vai
end Go.Proofs.Ytcjcdammcmjbnaa.U
