/- Widths: with the front end. -/
import Derived.Test.YtcjcdammcmjbnaaWidL
import Derived.Test.YtcjcdammcmjbnaaFeB4
namespace Go.Proofs.Ytcjcdammcmjbnaa.U
open Go Go.Vai
end Go.Proofs.Ytcjcdammcmjbnaa.U
