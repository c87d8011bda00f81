/- The front end, for walks that find their own way. -/
import Derived.Test.YtcjcdammcmjbnaaGreatFeC
import Derived.Test.YtcjcdammcmjbnaaGreatFeZ
namespace Go.Proofs.YtcjcdammcmjbnaaGreat.U
end Go.Proofs.YtcjcdammcmjbnaaGreat.U
