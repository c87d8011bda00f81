/- Widths: the laws' functions answer yes. -/
import Derived.Test.YtcjcdammcmjbnaaWdL1
import Derived.Test.YtcjcdammcmjbnaaWidR
namespace Go.Proofs.Ytcjcdammcmjbnaa.U
open Go Go.Vai
theorem bounds_yes (b : List AV) (o : Int) (h : Bs b ∧ b.length ≤ 9223372036854775807) : A 5 [.sl 1 b, iv o] [] (bv true) [] := by
 obtain ⟨r, rfl, ha⟩ := c_WidthsBounds h
 exact ha
end Go.Proofs.Ytcjcdammcmjbnaa.U
