/- Widths: what the laws ask and answer. -/
import Derived.Test.YtcjcdammcmjbnaaWdB1
import Derived.Test.YtcjcdammcmjbnaaFeB4
namespace Go.Proofs.Ytcjcdammcmjbnaa.U
open Go Go.Vai Go.Flo
set_option linter.unusedVariables false
abbrev pre_awake : Prop := True
abbrev post_awake (r : Bool) : Prop := r = true
abbrev pre_WidthsBounds (b : List AV) (o : Int) : Prop := Bs b ∧ b.length ≤ 9223372036854775807
abbrev post_WidthsBounds (b : List AV) (o : Int) (r : Bool) : Prop := r = true
end Go.Proofs.Ytcjcdammcmjbnaa.U
