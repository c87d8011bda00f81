/-
  No cell of these rows narrows 'for every input' (looked for: loops, veiled, ifaces, maps, wideKeys, modest, calm, conditions, laid).
  DERIVED. THE GIVEN ROWS OF THIS SEAT. 4 by the template 'for every input the law returns true; each argument reads behind the call as it read before'; 0 by the template 'total and deterministic' (their statements: YtcjcdammcmjbnaaTotals.lean).
  GIVEN WITH THE SEED: the statements are not yours to turn. If you find one false, say at which input.
  Laid BY PROGRAM, IN A SANDBOX (cutbox-rows.mjs): the forced cells as the released guide's own fill.sh prints them over the translation 8519eef02fd2af31… (all of the seat's roots in one cut). By AI agents, Wed Nov 11 2026. No macro, syntax, notation, axiom, sorry.
-/
import Derived.Test.YtcjcdammcmjbnaaChecked
import GoSem.Claim
import GoSem.ClaimJoined
import GoSem.ClaimMapViews
import Derived.JoinedTies
import Derived.KernelRfl
namespace Go.Proofs.Ytcjcdammcmjbnaa
/- THE CELL 'sum', in the pinned program and in every row, IS THE sha256 OF THE DUMP (.gsa) THAT YtcjcdammcmjbnaaProg.lean LOADS. Nothing in Lean hashes anything: it is a label: what it is worth is what the hold of that sum in a sandbox is worth. -/
noncomputable def Try.pinned : Pinned := { name := "ytcjcdammcmjbnaa", sum := "8519eef02fd2af3120e8212f40e92f41edefaa7a60260e31af4a92065e4fa038", checked := Try.checked }
namespace Rows
def none {H : Type} : Left H := { results := [], args := [] }

/-- 'lurcherlaw11.WidthsSays': WHATEVER THE INPUT: true; the input reads as it did. -/
def widthsSaysSpec : ChangeSpec := { name := "widthsSays", fn := fun _ => fun
  | [d1, d2] => { results := [.lit (.bool true)], args := [d1, d2] }
  | _ => none }
def widthsSaysRow : OpenClaim := { program := "ytcjcdammcmjbnaa", sum := "8519eef02fd2af3120e8212f40e92f41edefaa7a60260e31af4a92065e4fa038", func := "lurcher/lurcherlaw11.WidthsSays", spec := "widthsSays", unfollowed := true, recurses := true, apart := false }
def WidthsSaysSaid : Prop := widthsSaysRow.holds Try.pinned (OpenSpec.ofChange widthsSaysSpec)

/-- ITS FALSE NEIGHBOUR: 'it returns false'. Refute it at one input. -/
def widthsSaysWrong : ChangeSpec := { name := "widthsSays", fn := fun _ => fun
  | [d1, d2] => { results := [.lit (.bool false)], args := [d1, d2] }
  | _ => none }
def WidthsSaysWrongFalsely : Prop := widthsSaysRow.holds Try.pinned (OpenSpec.ofChange widthsSaysWrong)

/-- 'lurcherlaw11.WidthsSums': WHATEVER THE INPUT: true; the input reads as it did. -/
def widthsSumsSpec : ChangeSpec := { name := "widthsSums", fn := fun _ => fun
  | [d1, d2, d3] => { results := [.lit (.bool true)], args := [d1, d2, d3] }
  | _ => none }
def widthsSumsRow : OpenClaim := { program := "ytcjcdammcmjbnaa", sum := "8519eef02fd2af3120e8212f40e92f41edefaa7a60260e31af4a92065e4fa038", func := "lurcher/lurcherlaw11.WidthsSums", spec := "widthsSums", unfollowed := true, recurses := true, apart := false }
def WidthsSumsSaid : Prop := widthsSumsRow.holds Try.pinned (OpenSpec.ofChange widthsSumsSpec)

/-- ITS FALSE NEIGHBOUR: 'it returns false'. Refute it at one input. -/
def widthsSumsWrong : ChangeSpec := { name := "widthsSums", fn := fun _ => fun
  | [d1, d2, d3] => { results := [.lit (.bool false)], args := [d1, d2, d3] }
  | _ => none }
def WidthsSumsWrongFalsely : Prop := widthsSumsRow.holds Try.pinned (OpenSpec.ofChange widthsSumsWrong)

/-- 'lurcherlaw11.WidthsBounds': WHATEVER THE INPUT: true; the input reads as it did. -/
def widthsBoundsSpec : ChangeSpec := { name := "widthsBounds", fn := fun _ => fun
  | [d1, d2] => { results := [.lit (.bool true)], args := [d1, d2] }
  | _ => none }
def widthsBoundsRow : OpenClaim := { program := "ytcjcdammcmjbnaa", sum := "8519eef02fd2af3120e8212f40e92f41edefaa7a60260e31af4a92065e4fa038", func := "lurcher/lurcherlaw11.WidthsBounds", spec := "widthsBounds", unfollowed := true, recurses := true, apart := false }
def WidthsBoundsSaid : Prop := widthsBoundsRow.holds Try.pinned (OpenSpec.ofChange widthsBoundsSpec)

/-- ITS FALSE NEIGHBOUR: 'it returns false'. Refute it at one input. -/
def widthsBoundsWrong : ChangeSpec := { name := "widthsBounds", fn := fun _ => fun
  | [d1, d2] => { results := [.lit (.bool false)], args := [d1, d2] }
  | _ => none }
def WidthsBoundsWrongFalsely : Prop := widthsBoundsRow.holds Try.pinned (OpenSpec.ofChange widthsBoundsWrong)

/-- 'lurcherlaw11.WidthsChars': WHATEVER THE INPUT: true; the input reads as it did. -/
def widthsCharsSpec : ChangeSpec := { name := "widthsChars", fn := fun _ => fun
  | [d1, d2, d3] => { results := [.lit (.bool true)], args := [d1, d2, d3] }
  | _ => none }
def widthsCharsRow : OpenClaim := { program := "ytcjcdammcmjbnaa", sum := "8519eef02fd2af3120e8212f40e92f41edefaa7a60260e31af4a92065e4fa038", func := "lurcher/lurcherlaw11.WidthsChars", spec := "widthsChars", unfollowed := true, recurses := true, apart := false }
def WidthsCharsSaid : Prop := widthsCharsRow.holds Try.pinned (OpenSpec.ofChange widthsCharsSpec)

/-- ITS FALSE NEIGHBOUR: 'it returns false'. Refute it at one input. -/
def widthsCharsWrong : ChangeSpec := { name := "widthsChars", fn := fun _ => fun
  | [d1, d2, d3] => { results := [.lit (.bool false)], args := [d1, d2, d3] }
  | _ => none }
def WidthsCharsWrongFalsely : Prop := widthsCharsRow.holds Try.pinned (OpenSpec.ofChange widthsCharsWrong)

/- THE SECOND FORM. 'bulk': how many values and letters a reading holds, each counted each time it is reached (what is shared counts as often as it is met; a slice's spare places count too). A statement '..UptoSaid' is the law's where the arguments, and the package variables that the reading takes, are together of bulk at most 1048576: NARROWER than '..Said'. Prove '..Said' where nothing that the law and all that it calls make is longer than what came in: it says more and counts as full. Else prove '..UptoSaid'. A law counts once. -/
mutual
def uptoBulk {H : Type} : DataW H → Nat
  | .lit (.string bytes) => bytes.length + 1
  | .lit _ => 1
  | .nil => 1
  | .ptr d => uptoBulk d + 1
  | .slice elems spare => uptoBulkAll elems + uptoBulkAll spare + 1
  | .agg parts => uptoBulkAll parts + 1
  | .iface _ d => uptoBulk d + 1
  | .map entries => uptoBulkEntries entries + 1
  | .held _ => 1
def uptoBulkAll {H : Type} : List (DataW H) → Nat
  | [] => 0
  | d :: r => uptoBulk d + uptoBulkAll r
def uptoBulkEntries {H : Type} : List (Lit × DataW H) → Nat
  | [] => 0
  | x :: r => uptoBulkEntry x + uptoBulkEntries r
def uptoBulkEntry {H : Type} : Lit × DataW H → Nat
  | (.string bytes, d) => bytes.length + uptoBulk d + 1
  | (_, d) => uptoBulk d + 1
 end
def uptoSmall : (H : Type) → List (DataW H) → Bool := fun _ ds => decide (uptoBulkAll ds ≤ 1048576)
def OpenSpec.upto (s : _root_.Go.ChangeSpec) : _root_.Go.OpenSpec := { _root_.Go.OpenSpec.ofChange s with cond := some uptoSmall }

/-- 'lurcherlaw11.WidthsSays', WHERE WHAT IT READS IS OF BULK AT MOST 1048576: true; the input reads as it did. -/
def widthsSaysUptoRow : OpenClaim := { program := "ytcjcdammcmjbnaa", sum := "8519eef02fd2af3120e8212f40e92f41edefaa7a60260e31af4a92065e4fa038", func := "lurcher/lurcherlaw11.WidthsSays", spec := "widthsSays", unfollowed := true, recurses := true, apart := false, narrowed := true }
def WidthsSaysUptoSaid : Prop := widthsSaysUptoRow.holds Try.pinned (OpenSpec.upto widthsSaysSpec)

/-- 'lurcherlaw11.WidthsSums', WHERE WHAT IT READS IS OF BULK AT MOST 1048576: true; the input reads as it did. -/
def widthsSumsUptoRow : OpenClaim := { program := "ytcjcdammcmjbnaa", sum := "8519eef02fd2af3120e8212f40e92f41edefaa7a60260e31af4a92065e4fa038", func := "lurcher/lurcherlaw11.WidthsSums", spec := "widthsSums", unfollowed := true, recurses := true, apart := false, narrowed := true }
def WidthsSumsUptoSaid : Prop := widthsSumsUptoRow.holds Try.pinned (OpenSpec.upto widthsSumsSpec)

/-- 'lurcherlaw11.WidthsBounds', WHERE WHAT IT READS IS OF BULK AT MOST 1048576: true; the input reads as it did. -/
def widthsBoundsUptoRow : OpenClaim := { program := "ytcjcdammcmjbnaa", sum := "8519eef02fd2af3120e8212f40e92f41edefaa7a60260e31af4a92065e4fa038", func := "lurcher/lurcherlaw11.WidthsBounds", spec := "widthsBounds", unfollowed := true, recurses := true, apart := false, narrowed := true }
def WidthsBoundsUptoSaid : Prop := widthsBoundsUptoRow.holds Try.pinned (OpenSpec.upto widthsBoundsSpec)

/-- 'lurcherlaw11.WidthsChars', WHERE WHAT IT READS IS OF BULK AT MOST 1048576: true; the input reads as it did. -/
def widthsCharsUptoRow : OpenClaim := { program := "ytcjcdammcmjbnaa", sum := "8519eef02fd2af3120e8212f40e92f41edefaa7a60260e31af4a92065e4fa038", func := "lurcher/lurcherlaw11.WidthsChars", spec := "widthsChars", unfollowed := true, recurses := true, apart := false, narrowed := true }
def WidthsCharsUptoSaid : Prop := widthsCharsUptoRow.holds Try.pinned (OpenSpec.upto widthsCharsSpec)

end Rows
end Go.Proofs.Ytcjcdammcmjbnaa
