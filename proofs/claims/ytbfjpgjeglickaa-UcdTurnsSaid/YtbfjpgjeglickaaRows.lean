/-
  No cell of these rows narrows 'for every input' (looked for: loops, veiled, ifaces, maps, wideKeys, modest, calm, conditions, laid).
  DERIVED. THE GIVEN ROWS OF THIS SEAT. 6 by the template 'for every input the law returns true; each argument reads behind the call as it read before'; 0 by the template 'total and deterministic' (their statements: YtbfjpgjeglickaaTotals.lean).
  GIVEN WITH THE SEED: the statements are not yours to turn. If you find one false, say at which input.
  Laid BY PROGRAM, IN A SANDBOX (cutbox-rows.mjs): the forced cells as the released guide's own fill.sh prints them over the translation 892d0f08e0cab267… (all of the seat's roots in one cut). By AI agents, Wed Nov 11 2026. No macro, syntax, notation, axiom, sorry.
-/
import Derived.Test.YtbfjpgjeglickaaChecked
import GoSem.Claim
import GoSem.ClaimJoined
import GoSem.ClaimMapViews
import Derived.JoinedTies
import Derived.KernelRfl
namespace Go.Proofs.Ytbfjpgjeglickaa
/- THE CELL 'sum', in the pinned program and in every row, IS THE sha256 OF THE DUMP (.gsa) THAT YtbfjpgjeglickaaProg.lean LOADS. Nothing in Lean hashes anything: it is a label: what it is worth is what the hold of that sum in a sandbox is worth. -/
noncomputable def Try.pinned : Pinned := { name := "ytbfjpgjeglickaa", sum := "892d0f08e0cab2676bad8ccecdbc543161ad9ad601a06b0bdba44f3d90efd430", checked := Try.checked }
namespace Rows
def none {H : Type} : Left H := { results := [], args := [] }

/-- 'lurcherlaw02.UcdSays': WHATEVER THE INPUT: true; the input reads as it did. -/
def ucdSaysSpec : ChangeSpec := { name := "ucdSays", fn := fun _ => fun
  | [d1, d2] => { results := [.lit (.bool true)], args := [d1, d2] }
  | _ => none }
def ucdSaysRow : OpenClaim := { program := "ytbfjpgjeglickaa", sum := "892d0f08e0cab2676bad8ccecdbc543161ad9ad601a06b0bdba44f3d90efd430", func := "lurcher/lurcherlaw02.UcdSays", spec := "ucdSays", unfollowed := true, recurses := true, apart := false }
def UcdSaysSaid : Prop := ucdSaysRow.holds Try.pinned (OpenSpec.ofChange ucdSaysSpec)

/-- ITS FALSE NEIGHBOUR: 'it returns false'. Refute it at one input. -/
def ucdSaysWrong : ChangeSpec := { name := "ucdSays", fn := fun _ => fun
  | [d1, d2] => { results := [.lit (.bool false)], args := [d1, d2] }
  | _ => none }
def UcdSaysWrongFalsely : Prop := ucdSaysRow.holds Try.pinned (OpenSpec.ofChange ucdSaysWrong)

/-- 'lurcherlaw02.UcdRows': WHATEVER THE INPUT: true; the input reads as it did. -/
def ucdRowsSpec : ChangeSpec := { name := "ucdRows", fn := fun _ => fun
  | [d1, d2, d3] => { results := [.lit (.bool true)], args := [d1, d2, d3] }
  | _ => none }
def ucdRowsRow : OpenClaim := { program := "ytbfjpgjeglickaa", sum := "892d0f08e0cab2676bad8ccecdbc543161ad9ad601a06b0bdba44f3d90efd430", func := "lurcher/lurcherlaw02.UcdRows", spec := "ucdRows", unfollowed := true, recurses := true, apart := false }
def UcdRowsSaid : Prop := ucdRowsRow.holds Try.pinned (OpenSpec.ofChange ucdRowsSpec)

/-- ITS FALSE NEIGHBOUR: 'it returns false'. Refute it at one input. -/
def ucdRowsWrong : ChangeSpec := { name := "ucdRows", fn := fun _ => fun
  | [d1, d2, d3] => { results := [.lit (.bool false)], args := [d1, d2, d3] }
  | _ => none }
def UcdRowsWrongFalsely : Prop := ucdRowsRow.holds Try.pinned (OpenSpec.ofChange ucdRowsWrong)

/-- 'lurcherlaw02.UcdTurns': WHATEVER THE INPUT: true; the input reads as it did. -/
def ucdTurnsSpec : ChangeSpec := { name := "ucdTurns", fn := fun _ => fun
  | [d1, d2] => { results := [.lit (.bool true)], args := [d1, d2] }
  | _ => none }
def ucdTurnsRow : OpenClaim := { program := "ytbfjpgjeglickaa", sum := "892d0f08e0cab2676bad8ccecdbc543161ad9ad601a06b0bdba44f3d90efd430", func := "lurcher/lurcherlaw02.UcdTurns", spec := "ucdTurns", unfollowed := true, recurses := true, apart := false }
def UcdTurnsSaid : Prop := ucdTurnsRow.holds Try.pinned (OpenSpec.ofChange ucdTurnsSpec)

/-- ITS FALSE NEIGHBOUR: 'it returns false'. Refute it at one input. -/
def ucdTurnsWrong : ChangeSpec := { name := "ucdTurns", fn := fun _ => fun
  | [d1, d2] => { results := [.lit (.bool false)], args := [d1, d2] }
  | _ => none }
def UcdTurnsWrongFalsely : Prop := ucdTurnsRow.holds Try.pinned (OpenSpec.ofChange ucdTurnsWrong)

/-- 'lurcherlaw02.UcdLetters': WHATEVER THE INPUT: true; the input reads as it did. -/
def ucdLettersSpec : ChangeSpec := { name := "ucdLetters", fn := fun _ => fun
  | [d1, d2] => { results := [.lit (.bool true)], args := [d1, d2] }
  | _ => none }
def ucdLettersRow : OpenClaim := { program := "ytbfjpgjeglickaa", sum := "892d0f08e0cab2676bad8ccecdbc543161ad9ad601a06b0bdba44f3d90efd430", func := "lurcher/lurcherlaw02.UcdLetters", spec := "ucdLetters", unfollowed := true, recurses := true, apart := false }
def UcdLettersSaid : Prop := ucdLettersRow.holds Try.pinned (OpenSpec.ofChange ucdLettersSpec)

/-- ITS FALSE NEIGHBOUR: 'it returns false'. Refute it at one input. -/
def ucdLettersWrong : ChangeSpec := { name := "ucdLetters", fn := fun _ => fun
  | [d1, d2] => { results := [.lit (.bool false)], args := [d1, d2] }
  | _ => none }
def UcdLettersWrongFalsely : Prop := ucdLettersRow.holds Try.pinned (OpenSpec.ofChange ucdLettersWrong)

/-- 'lurcherlaw02.UcdAscii': WHATEVER THE INPUT: true; the input reads as it did. -/
def ucdAsciiSpec : ChangeSpec := { name := "ucdAscii", fn := fun _ => fun
  | [d] => { results := [.lit (.bool true)], args := [d] }
  | _ => none }
def ucdAsciiRow : OpenClaim := { program := "ytbfjpgjeglickaa", sum := "892d0f08e0cab2676bad8ccecdbc543161ad9ad601a06b0bdba44f3d90efd430", func := "lurcher/lurcherlaw02.UcdAscii", spec := "ucdAscii", unfollowed := true, recurses := true, apart := false }
def UcdAsciiSaid : Prop := ucdAsciiRow.holds Try.pinned (OpenSpec.ofChange ucdAsciiSpec)

/-- ITS FALSE NEIGHBOUR: 'it returns false'. Refute it at one input. -/
def ucdAsciiWrong : ChangeSpec := { name := "ucdAscii", fn := fun _ => fun
  | [d] => { results := [.lit (.bool false)], args := [d] }
  | _ => none }
def UcdAsciiWrongFalsely : Prop := ucdAsciiRow.holds Try.pinned (OpenSpec.ofChange ucdAsciiWrong)

/-- 'lurcherlaw02.UcdBeyond': WHATEVER THE INPUT: true; the input reads as it did. -/
def ucdBeyondSpec : ChangeSpec := { name := "ucdBeyond", fn := fun _ => fun
  | [d1, d2] => { results := [.lit (.bool true)], args := [d1, d2] }
  | _ => none }
def ucdBeyondRow : OpenClaim := { program := "ytbfjpgjeglickaa", sum := "892d0f08e0cab2676bad8ccecdbc543161ad9ad601a06b0bdba44f3d90efd430", func := "lurcher/lurcherlaw02.UcdBeyond", spec := "ucdBeyond", unfollowed := true, recurses := true, apart := false }
def UcdBeyondSaid : Prop := ucdBeyondRow.holds Try.pinned (OpenSpec.ofChange ucdBeyondSpec)

/-- ITS FALSE NEIGHBOUR: 'it returns false'. Refute it at one input. -/
def ucdBeyondWrong : ChangeSpec := { name := "ucdBeyond", fn := fun _ => fun
  | [d1, d2] => { results := [.lit (.bool false)], args := [d1, d2] }
  | _ => none }
def UcdBeyondWrongFalsely : Prop := ucdBeyondRow.holds Try.pinned (OpenSpec.ofChange ucdBeyondWrong)

/- THE SECOND FORM. 'bulk': how many values and letters a reading holds, each counted each time it is reached (what is shared counts as often as it is met; a slice's spare places count too). A statement '..UptoSaid' is the law's where the arguments, and the package variables that the reading takes, are together of bulk at most 1048576: NARROWER than '..Said'. Prove '..Said' where nothing that the law and all that it calls make is longer than what came in: it says more and counts as full. Else prove '..UptoSaid'. A law counts once. -/
mutual
def uptoBulk {H : Type} : DataW H → Nat
  | .lit (.string bytes) => bytes.length + 1
  | .lit _ => 1
  | .nil => 1
  | .ptr d => uptoBulk d + 1
  | .slice elems spare => uptoBulkAll elems + uptoBulkAll spare + 1
  | .agg parts => uptoBulkAll parts + 1
  | .iface _ d => uptoBulk d + 1
  | .map entries => uptoBulkEntries entries + 1
  | .held _ => 1
def uptoBulkAll {H : Type} : List (DataW H) → Nat
  | [] => 0
  | d :: r => uptoBulk d + uptoBulkAll r
def uptoBulkEntries {H : Type} : List (Lit × DataW H) → Nat
  | [] => 0
  | x :: r => uptoBulkEntry x + uptoBulkEntries r
def uptoBulkEntry {H : Type} : Lit × DataW H → Nat
  | (.string bytes, d) => bytes.length + uptoBulk d + 1
  | (_, d) => uptoBulk d + 1
 end
def uptoSmall : (H : Type) → List (DataW H) → Bool := fun _ ds => decide (uptoBulkAll ds ≤ 1048576)
def OpenSpec.upto (s : _root_.Go.ChangeSpec) : _root_.Go.OpenSpec := { _root_.Go.OpenSpec.ofChange s with cond := some uptoSmall }

/-- 'lurcherlaw02.UcdSays', WHERE WHAT IT READS IS OF BULK AT MOST 1048576: true; the input reads as it did. -/
def ucdSaysUptoRow : OpenClaim := { program := "ytbfjpgjeglickaa", sum := "892d0f08e0cab2676bad8ccecdbc543161ad9ad601a06b0bdba44f3d90efd430", func := "lurcher/lurcherlaw02.UcdSays", spec := "ucdSays", unfollowed := true, recurses := true, apart := false, narrowed := true }
def UcdSaysUptoSaid : Prop := ucdSaysUptoRow.holds Try.pinned (OpenSpec.upto ucdSaysSpec)

/-- 'lurcherlaw02.UcdRows', WHERE WHAT IT READS IS OF BULK AT MOST 1048576: true; the input reads as it did. -/
def ucdRowsUptoRow : OpenClaim := { program := "ytbfjpgjeglickaa", sum := "892d0f08e0cab2676bad8ccecdbc543161ad9ad601a06b0bdba44f3d90efd430", func := "lurcher/lurcherlaw02.UcdRows", spec := "ucdRows", unfollowed := true, recurses := true, apart := false, narrowed := true }
def UcdRowsUptoSaid : Prop := ucdRowsUptoRow.holds Try.pinned (OpenSpec.upto ucdRowsSpec)

/-- 'lurcherlaw02.UcdTurns', WHERE WHAT IT READS IS OF BULK AT MOST 1048576: true; the input reads as it did. -/
def ucdTurnsUptoRow : OpenClaim := { program := "ytbfjpgjeglickaa", sum := "892d0f08e0cab2676bad8ccecdbc543161ad9ad601a06b0bdba44f3d90efd430", func := "lurcher/lurcherlaw02.UcdTurns", spec := "ucdTurns", unfollowed := true, recurses := true, apart := false, narrowed := true }
def UcdTurnsUptoSaid : Prop := ucdTurnsUptoRow.holds Try.pinned (OpenSpec.upto ucdTurnsSpec)

/-- 'lurcherlaw02.UcdLetters', WHERE WHAT IT READS IS OF BULK AT MOST 1048576: true; the input reads as it did. -/
def ucdLettersUptoRow : OpenClaim := { program := "ytbfjpgjeglickaa", sum := "892d0f08e0cab2676bad8ccecdbc543161ad9ad601a06b0bdba44f3d90efd430", func := "lurcher/lurcherlaw02.UcdLetters", spec := "ucdLetters", unfollowed := true, recurses := true, apart := false, narrowed := true }
def UcdLettersUptoSaid : Prop := ucdLettersUptoRow.holds Try.pinned (OpenSpec.upto ucdLettersSpec)

/-- 'lurcherlaw02.UcdAscii', WHERE WHAT IT READS IS OF BULK AT MOST 1048576: true; the input reads as it did. -/
def ucdAsciiUptoRow : OpenClaim := { program := "ytbfjpgjeglickaa", sum := "892d0f08e0cab2676bad8ccecdbc543161ad9ad601a06b0bdba44f3d90efd430", func := "lurcher/lurcherlaw02.UcdAscii", spec := "ucdAscii", unfollowed := true, recurses := true, apart := false, narrowed := true }
def UcdAsciiUptoSaid : Prop := ucdAsciiUptoRow.holds Try.pinned (OpenSpec.upto ucdAsciiSpec)

/-- 'lurcherlaw02.UcdBeyond', WHERE WHAT IT READS IS OF BULK AT MOST 1048576: true; the input reads as it did. -/
def ucdBeyondUptoRow : OpenClaim := { program := "ytbfjpgjeglickaa", sum := "892d0f08e0cab2676bad8ccecdbc543161ad9ad601a06b0bdba44f3d90efd430", func := "lurcher/lurcherlaw02.UcdBeyond", spec := "ucdBeyond", unfollowed := true, recurses := true, apart := false, narrowed := true }
def UcdBeyondUptoSaid : Prop := ucdBeyondUptoRow.holds Try.pinned (OpenSpec.upto ucdBeyondSpec)

end Rows
end Go.Proofs.Ytbfjpgjeglickaa
