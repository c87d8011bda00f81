/- The walk of the law WidthsChars: it answers true, whatever its words; no conditions. -/
import Derived.Test.YtcjcdammcmjbnaaWidB2
namespace Go.Proofs.Ytcjcdammcmjbnaa.U
open Go Go.Vai
theorem law_WidthsChars (a0 a1 a2 : Int) : A 6 [iv a0, iv a1, iv a2] [] (bv true) [] := by
  obtain ⟨r, h, k⟩ := c_WidthsChars a0 a1 a2 trivial
  have h : r = true := h
  subst h
  exact k
end Go.Proofs.Ytcjcdammcmjbnaa.U
