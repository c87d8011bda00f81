/- Widths: the laws' functions answer yes. -/
import Derived.Test.YtcjcdammcmjbnaaWdL3
import Derived.Test.YtcjcdammcmjbnaaWidR
namespace Go.Proofs.Ytcjcdammcmjbnaa.U
open Go Go.Vai
theorem sums_yes (a b : List AV) (t : Int) (h : Bs a ∧ a.length ≤ 9223372036854775807) (k : Bs b ∧ b.length ≤ 9223372036854775807) (t0 : -9223372036854775808 ≤ t) (t1 : t ≤ 9223372036854775807) : A 4 [.sl 1 a, .sl 1 b, iv t] [] (bv true) [] := by
 obtain ⟨r, rfl, ha⟩ := c_WidthsSums ⟨h.1, h.2, k.1, k.2, t0, t1⟩
 exact ha
end Go.Proofs.Ytcjcdammcmjbnaa.U
