/-
  NARROWER THAN 'FOR EVERY INPUT', by the rows' own cells (each row's printed sentence says how): TreeChecks: loops · TreeCounts: loops · TreeSame: loops · TreeFinds: loops · TreeWraps: loops · TreeFirst: loops · TreeTurns: loops.
  DERIVED. THE GIVEN ROWS OF THIS SEAT. 7 by the template 'for every input the law returns true; each argument reads behind the call as it read before'; 0 by the template 'total and deterministic' (their statements: YtpnpeeloeifccaaTotals.lean).
  GIVEN WITH THE SEED: the statements are not yours to turn. If you find one false, say at which input.
  Laid BY PROGRAM, IN A SANDBOX (cutbox-rows.mjs): the forced cells as the released guide's own fill.sh prints them over the translation bbccaf0185fb4dd6… (all of the seat's roots in one cut). By AI agents, Wed Nov 11 2026. No macro, syntax, notation, axiom, sorry.
-/
import Derived.Test.YtpnpeeloeifccaaChecked
import GoSem.Claim
import GoSem.ClaimJoined
import GoSem.ClaimMapViews
import Derived.JoinedTies
import Derived.KernelRfl
namespace Go.Proofs.Ytpnpeeloeifccaa
/- THE CELL 'sum', in the pinned program and in every row, IS THE sha256 OF THE DUMP (.gsa) THAT YtpnpeeloeifccaaProg.lean LOADS. Nothing in Lean hashes anything: it is a label: what it is worth is what the hold of that sum in a sandbox is worth. -/
noncomputable def Try.pinned : Pinned := { name := "ytpnpeeloeifccaa", sum := "bbccaf0185fb4dd6852e3acea3ab51d251db450dd1392916f5a98c6a398a299d", checked := Try.checked }
namespace Rows
def none {H : Type} : Left H := { results := [], args := [] }

/-- 'lurcherlaw06.TreeChecks': WHATEVER THE INPUT: true; the input reads as it did. -/
def treeChecksSpec : ChangeSpec := { name := "treeChecks", fn := fun _ => fun
  | [d] => { results := [.lit (.bool true)], args := [d] }
  | _ => none }
def treeChecksRow : OpenClaim := { program := "ytpnpeeloeifccaa", sum := "bbccaf0185fb4dd6852e3acea3ab51d251db450dd1392916f5a98c6a398a299d", func := "lurcher/lurcherlaw06.TreeChecks", spec := "treeChecks", unfollowed := true, recurses := true, loops := true, apart := false }
def TreeChecksSaid : Prop := treeChecksRow.holds Try.pinned (OpenSpec.ofChange treeChecksSpec)

/-- ITS FALSE NEIGHBOUR: 'it returns false'. Refute it at one input. -/
def treeChecksWrong : ChangeSpec := { name := "treeChecks", fn := fun _ => fun
  | [d] => { results := [.lit (.bool false)], args := [d] }
  | _ => none }
def TreeChecksWrongFalsely : Prop := treeChecksRow.holds Try.pinned (OpenSpec.ofChange treeChecksWrong)

/-- 'lurcherlaw06.TreeCounts': WHATEVER THE INPUT: true; the input reads as it did. -/
def treeCountsSpec : ChangeSpec := { name := "treeCounts", fn := fun _ => fun
  | [d] => { results := [.lit (.bool true)], args := [d] }
  | _ => none }
def treeCountsRow : OpenClaim := { program := "ytpnpeeloeifccaa", sum := "bbccaf0185fb4dd6852e3acea3ab51d251db450dd1392916f5a98c6a398a299d", func := "lurcher/lurcherlaw06.TreeCounts", spec := "treeCounts", unfollowed := true, recurses := true, loops := true, apart := false }
def TreeCountsSaid : Prop := treeCountsRow.holds Try.pinned (OpenSpec.ofChange treeCountsSpec)

/-- ITS FALSE NEIGHBOUR: 'it returns false'. Refute it at one input. -/
def treeCountsWrong : ChangeSpec := { name := "treeCounts", fn := fun _ => fun
  | [d] => { results := [.lit (.bool false)], args := [d] }
  | _ => none }
def TreeCountsWrongFalsely : Prop := treeCountsRow.holds Try.pinned (OpenSpec.ofChange treeCountsWrong)

/-- 'lurcherlaw06.TreeSame': WHATEVER THE INPUT: true; the input reads as it did. -/
def treeSameSpec : ChangeSpec := { name := "treeSame", fn := fun _ => fun
  | [d1, d2, d3] => { results := [.lit (.bool true)], args := [d1, d2, d3] }
  | _ => none }
def treeSameRow : OpenClaim := { program := "ytpnpeeloeifccaa", sum := "bbccaf0185fb4dd6852e3acea3ab51d251db450dd1392916f5a98c6a398a299d", func := "lurcher/lurcherlaw06.TreeSame", spec := "treeSame", unfollowed := true, recurses := true, loops := true, apart := false }
def TreeSameSaid : Prop := treeSameRow.holds Try.pinned (OpenSpec.ofChange treeSameSpec)

/-- ITS FALSE NEIGHBOUR: 'it returns false'. Refute it at one input. -/
def treeSameWrong : ChangeSpec := { name := "treeSame", fn := fun _ => fun
  | [d1, d2, d3] => { results := [.lit (.bool false)], args := [d1, d2, d3] }
  | _ => none }
def TreeSameWrongFalsely : Prop := treeSameRow.holds Try.pinned (OpenSpec.ofChange treeSameWrong)

/-- 'lurcherlaw06.TreeFinds': WHATEVER THE INPUT: true; the input reads as it did. -/
def treeFindsSpec : ChangeSpec := { name := "treeFinds", fn := fun _ => fun
  | [d1, d2] => { results := [.lit (.bool true)], args := [d1, d2] }
  | _ => none }
def treeFindsRow : OpenClaim := { program := "ytpnpeeloeifccaa", sum := "bbccaf0185fb4dd6852e3acea3ab51d251db450dd1392916f5a98c6a398a299d", func := "lurcher/lurcherlaw06.TreeFinds", spec := "treeFinds", unfollowed := true, recurses := true, loops := true, apart := false }
def TreeFindsSaid : Prop := treeFindsRow.holds Try.pinned (OpenSpec.ofChange treeFindsSpec)

/-- ITS FALSE NEIGHBOUR: 'it returns false'. Refute it at one input. -/
def treeFindsWrong : ChangeSpec := { name := "treeFinds", fn := fun _ => fun
  | [d1, d2] => { results := [.lit (.bool false)], args := [d1, d2] }
  | _ => none }
def TreeFindsWrongFalsely : Prop := treeFindsRow.holds Try.pinned (OpenSpec.ofChange treeFindsWrong)

/-- 'lurcherlaw06.TreeWraps': WHATEVER THE INPUT: true; the input reads as it did. -/
def treeWrapsSpec : ChangeSpec := { name := "treeWraps", fn := fun _ => fun
  | [d1, d2] => { results := [.lit (.bool true)], args := [d1, d2] }
  | _ => none }
def treeWrapsRow : OpenClaim := { program := "ytpnpeeloeifccaa", sum := "bbccaf0185fb4dd6852e3acea3ab51d251db450dd1392916f5a98c6a398a299d", func := "lurcher/lurcherlaw06.TreeWraps", spec := "treeWraps", unfollowed := true, recurses := true, loops := true, apart := false }
def TreeWrapsSaid : Prop := treeWrapsRow.holds Try.pinned (OpenSpec.ofChange treeWrapsSpec)

/-- ITS FALSE NEIGHBOUR: 'it returns false'. Refute it at one input. -/
def treeWrapsWrong : ChangeSpec := { name := "treeWraps", fn := fun _ => fun
  | [d1, d2] => { results := [.lit (.bool false)], args := [d1, d2] }
  | _ => none }
def TreeWrapsWrongFalsely : Prop := treeWrapsRow.holds Try.pinned (OpenSpec.ofChange treeWrapsWrong)

/-- 'lurcherlaw06.TreeFirst': WHATEVER THE INPUT: true; the input reads as it did. -/
def treeFirstSpec : ChangeSpec := { name := "treeFirst", fn := fun _ => fun
  | [d1, d2] => { results := [.lit (.bool true)], args := [d1, d2] }
  | _ => none }
def treeFirstRow : OpenClaim := { program := "ytpnpeeloeifccaa", sum := "bbccaf0185fb4dd6852e3acea3ab51d251db450dd1392916f5a98c6a398a299d", func := "lurcher/lurcherlaw06.TreeFirst", spec := "treeFirst", unfollowed := true, recurses := true, loops := true, apart := false }
def TreeFirstSaid : Prop := treeFirstRow.holds Try.pinned (OpenSpec.ofChange treeFirstSpec)

/-- ITS FALSE NEIGHBOUR: 'it returns false'. Refute it at one input. -/
def treeFirstWrong : ChangeSpec := { name := "treeFirst", fn := fun _ => fun
  | [d1, d2] => { results := [.lit (.bool false)], args := [d1, d2] }
  | _ => none }
def TreeFirstWrongFalsely : Prop := treeFirstRow.holds Try.pinned (OpenSpec.ofChange treeFirstWrong)

/-- 'lurcherlaw06.TreeTurns': WHATEVER THE INPUT: true; the input reads as it did. -/
def treeTurnsSpec : ChangeSpec := { name := "treeTurns", fn := fun _ => fun
  | [d1, d2] => { results := [.lit (.bool true)], args := [d1, d2] }
  | _ => none }
def treeTurnsRow : OpenClaim := { program := "ytpnpeeloeifccaa", sum := "bbccaf0185fb4dd6852e3acea3ab51d251db450dd1392916f5a98c6a398a299d", func := "lurcher/lurcherlaw06.TreeTurns", spec := "treeTurns", unfollowed := true, recurses := true, loops := true, apart := false }
def TreeTurnsSaid : Prop := treeTurnsRow.holds Try.pinned (OpenSpec.ofChange treeTurnsSpec)

/-- ITS FALSE NEIGHBOUR: 'it returns false'. Refute it at one input. -/
def treeTurnsWrong : ChangeSpec := { name := "treeTurns", fn := fun _ => fun
  | [d1, d2] => { results := [.lit (.bool false)], args := [d1, d2] }
  | _ => none }
def TreeTurnsWrongFalsely : Prop := treeTurnsRow.holds Try.pinned (OpenSpec.ofChange treeTurnsWrong)

/- THE SECOND FORM. 'bulk': how many values and letters a reading holds, each counted each time it is reached (what is shared counts as often as it is met; a slice's spare places count too). A statement '..UptoSaid' is the law's where the arguments, and the package variables that the reading takes, are together of bulk at most 1048576: NARROWER than '..Said'. Prove '..Said' where nothing that the law and all that it calls make is longer than what came in: it says more and counts as full. Else prove '..UptoSaid'. A law counts once. -/
mutual
def uptoBulk {H : Type} : DataW H → Nat
  | .lit (.string bytes) => bytes.length + 1
  | .lit _ => 1
  | .nil => 1
  | .ptr d => uptoBulk d + 1
  | .slice elems spare => uptoBulkAll elems + uptoBulkAll spare + 1
  | .agg parts => uptoBulkAll parts + 1
  | .iface _ d => uptoBulk d + 1
  | .map entries => uptoBulkEntries entries + 1
  | .held _ => 1
def uptoBulkAll {H : Type} : List (DataW H) → Nat
  | [] => 0
  | d :: r => uptoBulk d + uptoBulkAll r
def uptoBulkEntries {H : Type} : List (Lit × DataW H) → Nat
  | [] => 0
  | x :: r => uptoBulkEntry x + uptoBulkEntries r
def uptoBulkEntry {H : Type} : Lit × DataW H → Nat
  | (.string bytes, d) => bytes.length + uptoBulk d + 1
  | (_, d) => uptoBulk d + 1
 end
def uptoSmall : (H : Type) → List (DataW H) → Bool := fun _ ds => decide (uptoBulkAll ds ≤ 1048576)
def OpenSpec.upto (s : _root_.Go.ChangeSpec) : _root_.Go.OpenSpec := { _root_.Go.OpenSpec.ofChange s with cond := some uptoSmall }

/-- 'lurcherlaw06.TreeChecks', WHERE WHAT IT READS IS OF BULK AT MOST 1048576: true; the input reads as it did. -/
def treeChecksUptoRow : OpenClaim := { program := "ytpnpeeloeifccaa", sum := "bbccaf0185fb4dd6852e3acea3ab51d251db450dd1392916f5a98c6a398a299d", func := "lurcher/lurcherlaw06.TreeChecks", spec := "treeChecks", unfollowed := true, recurses := true, loops := true, apart := false, narrowed := true }
def TreeChecksUptoSaid : Prop := treeChecksUptoRow.holds Try.pinned (OpenSpec.upto treeChecksSpec)

/-- 'lurcherlaw06.TreeCounts', WHERE WHAT IT READS IS OF BULK AT MOST 1048576: true; the input reads as it did. -/
def treeCountsUptoRow : OpenClaim := { program := "ytpnpeeloeifccaa", sum := "bbccaf0185fb4dd6852e3acea3ab51d251db450dd1392916f5a98c6a398a299d", func := "lurcher/lurcherlaw06.TreeCounts", spec := "treeCounts", unfollowed := true, recurses := true, loops := true, apart := false, narrowed := true }
def TreeCountsUptoSaid : Prop := treeCountsUptoRow.holds Try.pinned (OpenSpec.upto treeCountsSpec)

/-- 'lurcherlaw06.TreeSame', WHERE WHAT IT READS IS OF BULK AT MOST 1048576: true; the input reads as it did. -/
def treeSameUptoRow : OpenClaim := { program := "ytpnpeeloeifccaa", sum := "bbccaf0185fb4dd6852e3acea3ab51d251db450dd1392916f5a98c6a398a299d", func := "lurcher/lurcherlaw06.TreeSame", spec := "treeSame", unfollowed := true, recurses := true, loops := true, apart := false, narrowed := true }
def TreeSameUptoSaid : Prop := treeSameUptoRow.holds Try.pinned (OpenSpec.upto treeSameSpec)

/-- 'lurcherlaw06.TreeFinds', WHERE WHAT IT READS IS OF BULK AT MOST 1048576: true; the input reads as it did. -/
def treeFindsUptoRow : OpenClaim := { program := "ytpnpeeloeifccaa", sum := "bbccaf0185fb4dd6852e3acea3ab51d251db450dd1392916f5a98c6a398a299d", func := "lurcher/lurcherlaw06.TreeFinds", spec := "treeFinds", unfollowed := true, recurses := true, loops := true, apart := false, narrowed := true }
def TreeFindsUptoSaid : Prop := treeFindsUptoRow.holds Try.pinned (OpenSpec.upto treeFindsSpec)

/-- 'lurcherlaw06.TreeWraps', WHERE WHAT IT READS IS OF BULK AT MOST 1048576: true; the input reads as it did. -/
def treeWrapsUptoRow : OpenClaim := { program := "ytpnpeeloeifccaa", sum := "bbccaf0185fb4dd6852e3acea3ab51d251db450dd1392916f5a98c6a398a299d", func := "lurcher/lurcherlaw06.TreeWraps", spec := "treeWraps", unfollowed := true, recurses := true, loops := true, apart := false, narrowed := true }
def TreeWrapsUptoSaid : Prop := treeWrapsUptoRow.holds Try.pinned (OpenSpec.upto treeWrapsSpec)

/-- 'lurcherlaw06.TreeFirst', WHERE WHAT IT READS IS OF BULK AT MOST 1048576: true; the input reads as it did. -/
def treeFirstUptoRow : OpenClaim := { program := "ytpnpeeloeifccaa", sum := "bbccaf0185fb4dd6852e3acea3ab51d251db450dd1392916f5a98c6a398a299d", func := "lurcher/lurcherlaw06.TreeFirst", spec := "treeFirst", unfollowed := true, recurses := true, loops := true, apart := false, narrowed := true }
def TreeFirstUptoSaid : Prop := treeFirstUptoRow.holds Try.pinned (OpenSpec.upto treeFirstSpec)

/-- 'lurcherlaw06.TreeTurns', WHERE WHAT IT READS IS OF BULK AT MOST 1048576: true; the input reads as it did. -/
def treeTurnsUptoRow : OpenClaim := { program := "ytpnpeeloeifccaa", sum := "bbccaf0185fb4dd6852e3acea3ab51d251db450dd1392916f5a98c6a398a299d", func := "lurcher/lurcherlaw06.TreeTurns", spec := "treeTurns", unfollowed := true, recurses := true, loops := true, apart := false, narrowed := true }
def TreeTurnsUptoSaid : Prop := treeTurnsUptoRow.holds Try.pinned (OpenSpec.upto treeTurnsSpec)

end Rows
end Go.Proofs.Ytpnpeeloeifccaa
