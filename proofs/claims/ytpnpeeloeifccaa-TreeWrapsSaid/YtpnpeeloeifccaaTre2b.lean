/- Trees: what must hold along each function's tree: more. -/
import Derived.Test.YtpnpeeloeifccaaTre2
namespace Go.Proofs.Ytpnpeeloeifccaa.U
open Go Go.Vai
set_option linter.unusedVariables false
theorem w_contains (q : Int) (Q : AV → HH → Prop) (h : (((q == 4) = true → Q (bv true) []) ∧ ((q == 4) = false → (((q == 5) = true → Q (bv true) []) ∧ ((q == 5) = false → (((q == 9) = true → Q (bv true) []) ∧ ((q == 9) = false → (((q == 10) = true → Q (bv true) []) ∧ ((q == 10) = false → (((q == 11) = true → Q (bv true) []) ∧ ((q == 11) = false → Q (bv false) []))))))))))) : ∃ r H', A 40 [(.sl 1 [(iv 4), (iv 5), (iv 9), (iv 10), (iv 11)]), (iv (q))] [] r H' ∧ Q r H' :=
  Ans.wp rfl (.ev 9 (.split (.ev 3 (.stop)) (.ev 8 (.split (.ev 3 (.stop)) (.ev 8 (.split (.ev 3 (.stop)) (.ev 8 (.split (.ev 3 (.stop)) (.ev 8 (.split (.ev 3 (.stop)) (.ev 7 (.stop)))))))))))) (by kernel_rfl) h
end Go.Proofs.Ytpnpeeloeifccaa.U
