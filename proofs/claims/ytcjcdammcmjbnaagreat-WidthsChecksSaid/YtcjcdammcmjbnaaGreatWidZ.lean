/- Widths: the law's function answers yes. -/
import Derived.Test.YtcjcdammcmjbnaaGreatWdL2
import Derived.Test.YtcjcdammcmjbnaaGreatWidR
namespace Go.Proofs.YtcjcdammcmjbnaaGreat.U
open Go Go.Vai
theorem checks_yes (b : List AV) (o : Int) (h : Bs b ∧ b.length ≤ 9223372036854775807) : A 3 [.sl 1 b, iv o] [] (bv true) [] := by
 obtain ⟨r, rfl, ha⟩ := c_WidthsChecks h
 exact ha
end Go.Proofs.YtcjcdammcmjbnaaGreat.U
