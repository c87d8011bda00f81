/- The interpreter's answers for the table of characters: a row of numbers is the same as itself. -/
import Derived.Test.YtbfjpgjeglickaaUcd7
namespace Go.Proofs.Ytbfjpgjeglickaa.U
open Go Go.Vai
def e14 (l m : List AV) (j : Int) : St := ⟨[], [(0, .sl 1 l), (1, .sl 1 m), (5, i j), (14, b (decide (j < (l.length : Int))))], [], 0⟩
section
variable {xs : List Int} (hlen : xs.length < 1000000)
include hlen
theorem r14 : ∀ {d j : Nat}, j + d = xs.length → R 14 0 (s14 (xs.map i) (xs.map i) j) (.exit 0, e14 (xs.map i) (xs.map i) xs.length)
  | 0, j, hd => by
    have : j = xs.length := by omega
    subst this
    exact Rounds.last (by simp) (l14_2 _ _ _ 0 0 (by simp))
  | d + 1, j, hd => by
    have hj : j < xs.length := by omega
    have w : IntKind.wrap .i64 ((j : Int) + 1) = ((j + 1 : Nat) : Int) := by rw [wrap_id (by omega) (by omega)]; omega
    have n := l14_1 (xs.map i) (xs.map i) j xs[j] xs[j] (by simp; omega) (by simp) (by simp [hj]) (by simp [hj]) (by simp)
    rw [w] at n
    exact Rounds.next n (r14 (d := d) (j := j + 1) (by omega))
theorem same_ok : A 14 [.sl 1 (xs.map i), .sl 1 (xs.map i)] [] (b true) [] :=
  A.of [.ev, .b false, .loop (.exit 0) (e14 (xs.map i) (xs.map i) xs.length), .ev] (R 14 0 (s14 (xs.map i) (xs.map i) (0 : Nat)) (.exit 0, e14 (xs.map i) (xs.map i) xs.length) ∧ (!(((xs.map i).length : Int) == ((xs.map i).length : Int))) = false ∧ True) (by kernel_rfl)
    ⟨r14 hlen (d := xs.length) (j := 0) (by omega), by simp, trivial⟩
end
end Go.Proofs.Ytbfjpgjeglickaa.U
