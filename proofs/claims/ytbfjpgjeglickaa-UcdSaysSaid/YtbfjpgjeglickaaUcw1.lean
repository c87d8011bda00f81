/- The interpreter's answers for the table of characters: words for what the tool prints. -/
import Derived.Test.YtbfjpgjeglickaaUcd8
import Derived.Test.YtbfjpgjeglickaaVaiW
namespace Go.Proofs.Ytbfjpgjeglickaa.U
open Go Go.Vai
abbrev iv (n : Int) : AV := .sc (.int .i64 n)
abbrev bv (t : Bool) : AV := .sc (.bool t)
abbrev sv (s : ByteArray) : AV := .sc (.string s)
end Go.Proofs.Ytbfjpgjeglickaa.U
