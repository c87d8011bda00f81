/- Widths: the laws' functions answer yes. -/
import Derived.Test.YtcjcdammcmjbnaaWdL3
import Derived.Test.YtcjcdammcmjbnaaWidR
namespace Go.Proofs.Ytcjcdammcmjbnaa.U
open Go Go.Vai
theorem says_yes (b : List AV) (o : Int) (h : Bs b ∧ b.length ≤ 9223372036854775807) : A 3 [.sl 1 b, iv o] [] (bv true) [] := by
 obtain ⟨r, rfl, ha⟩ := c_WidthsSays h
 exact ha
end Go.Proofs.Ytcjcdammcmjbnaa.U
