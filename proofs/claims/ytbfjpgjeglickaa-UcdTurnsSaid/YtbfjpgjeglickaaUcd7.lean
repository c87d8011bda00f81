/- The interpreter's answers for the table of characters: are two rows of numbers the same? -/
import Derived.Test.YtbfjpgjeglickaaUcd6
namespace Go.Proofs.Ytbfjpgjeglickaa.U
open Go Go.Vai
set_option linter.unusedVariables false
def s14 (l m : List AV) (j : Int) : St := ⟨[], [(0, .sl 1 l), (1, .sl 1 m), (5, i j)], [], 0⟩
theorem l14_0 (l : List AV) (m : List AV) (j : Int) (x : Int) (y : Int) (h0 : (decide (j < ↑l.length)) = true) (h1 : (decide (0 ≤ j)) = true) (h2 : (l[j.toNat]?) = some (.sc (.int Go.IntKind.i64 (x)))) (h3 : (m[j.toNat]?) = some (.sc (.int Go.IntKind.i64 (y)))) (h4 : (!x == y) = true) : L 14 0 (s14 l m j) (Go.Vai.Ex.ret, ⟨[], [(4, (.sc (.bool false)))], [], 0⟩) :=
  L.of [.ev, (.b true), (.b true), .ev, (.av (.sc (.int Go.IntKind.i64 (x)))), (.b true), .ev, (.av (.sc (.int Go.IntKind.i64 (y)))), .ev, (.b true)] (((!x == y) = true) ∧ ((m[j.toNat]?) = some (.sc (.int Go.IntKind.i64 (y)))) ∧ ((decide (0 ≤ j)) = true) ∧ ((l[j.toNat]?) = some (.sc (.int Go.IntKind.i64 (x)))) ∧ ((decide (0 ≤ j)) = true) ∧ ((decide (j < ↑l.length)) = true) ∧ True) (by kernel_rfl) ⟨h4, h3, h1, h2, h1, h0, trivial⟩
theorem l14_1 (l : List AV) (m : List AV) (j : Int) (x : Int) (y : Int) (h0 : (decide (j < ↑l.length)) = true) (h1 : (decide (0 ≤ j)) = true) (h2 : (l[j.toNat]?) = some (.sc (.int Go.IntKind.i64 (x)))) (h3 : (m[j.toNat]?) = some (.sc (.int Go.IntKind.i64 (y)))) (h4 : (!x == y) = false) : L 14 0 (s14 l m j) (Go.Vai.Ex.norm, ⟨[], [(0, (.sl 1 (l))), (1, (.sl 1 (m))), (5, (.sc (.int Go.IntKind.i64 (IntKind.i64.wrap (j + 1)))))], [], 0⟩) :=
  L.of [.ev, (.b true), (.b true), .ev, (.av (.sc (.int Go.IntKind.i64 (x)))), (.b true), .ev, (.av (.sc (.int Go.IntKind.i64 (y)))), .ev, (.b false), .ev] (((!x == y) = false) ∧ ((m[j.toNat]?) = some (.sc (.int Go.IntKind.i64 (y)))) ∧ ((decide (0 ≤ j)) = true) ∧ ((l[j.toNat]?) = some (.sc (.int Go.IntKind.i64 (x)))) ∧ ((decide (0 ≤ j)) = true) ∧ ((decide (j < ↑l.length)) = true) ∧ True) (by kernel_rfl) ⟨h4, h3, h1, h2, h1, h0, trivial⟩
theorem l14_2 (l : List AV) (m : List AV) (j : Int) (x : Int) (y : Int) (h0 : (decide (j < ↑l.length)) = false) : L 14 0 (s14 l m j) ((Go.Vai.Ex.exit 0), ⟨[], [(0, (.sl 1 (l))), (1, (.sl 1 (m))), (5, (.sc (.int Go.IntKind.i64 (j)))), (14, (.sc (.bool (decide (j < ↑l.length)))))], [], 0⟩) :=
  L.of [.ev, (.b false)] (((decide (j < ↑l.length)) = false) ∧ True) (by kernel_rfl) ⟨h0, trivial⟩
end Go.Proofs.Ytbfjpgjeglickaa.U
