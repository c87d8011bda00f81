/-
  No cell of these rows narrows 'for every input' (looked for: loops, veiled, ifaces, maps, wideKeys, modest, calm, conditions, laid).
  DERIVED. THE GIVEN ROWS OF THIS SEAT. 7 by the template 'for every input the law returns true; each argument reads behind the call as it read before'; 0 by the template 'total and deterministic' (their statements: YtkocppnbipjiiaaTotals.lean).
  GIVEN WITH THE SEED: the statements are not yours to turn. If you find one false, say at which input.
  Laid BY PROGRAM, IN A SANDBOX (cutbox-rows.mjs): the forced cells as the released guide's own fill.sh prints them over the translation f0838a0050bde9a2… (all of the seat's roots in one cut). By AI agents, Wed Nov 11 2026. No macro, syntax, notation, axiom, sorry.
-/
import Derived.Test.YtkocppnbipjiiaaChecked
import GoSem.Claim
import GoSem.ClaimJoined
import GoSem.ClaimMapViews
import Derived.JoinedTies
import Derived.KernelRfl
namespace Go.Proofs.Ytkocppnbipjiiaa
/- THE CELL 'sum', in the pinned program and in every row, IS THE sha256 OF THE DUMP (.gsa) THAT YtkocppnbipjiiaaProg.lean LOADS. Nothing in Lean hashes anything: it is a label: what it is worth is what the hold of that sum in a sandbox is worth. -/
noncomputable def Try.pinned : Pinned := { name := "ytkocppnbipjiiaa", sum := "f0838a0050bde9a27318dfaead14d5390d52db9e463cb9dbf5d70163befa7234", checked := Try.checked }
namespace Rows
def none {H : Type} : Left H := { results := [], args := [] }

/-- 'lurcherlaw03.SetsCases': WHATEVER THE INPUT: true; the input reads as it did. -/
def setsCasesSpec : ChangeSpec := { name := "setsCases", fn := fun _ => fun
  | [d1, d2] => { results := [.lit (.bool true)], args := [d1, d2] }
  | _ => none }
def setsCasesRow : OpenClaim := { program := "ytkocppnbipjiiaa", sum := "f0838a0050bde9a27318dfaead14d5390d52db9e463cb9dbf5d70163befa7234", func := "lurcher/lurcherlaw03.SetsCases", spec := "setsCases", unfollowed := true, recurses := true, apart := false }
def SetsCasesSaid : Prop := setsCasesRow.holds Try.pinned (OpenSpec.ofChange setsCasesSpec)

/-- ITS FALSE NEIGHBOUR: 'it returns false'. Refute it at one input. -/
def setsCasesWrong : ChangeSpec := { name := "setsCases", fn := fun _ => fun
  | [d1, d2] => { results := [.lit (.bool false)], args := [d1, d2] }
  | _ => none }
def SetsCasesWrongFalsely : Prop := setsCasesRow.holds Try.pinned (OpenSpec.ofChange setsCasesWrong)

/-- 'lurcherlaw03.SetsFew': WHATEVER THE INPUT: true; the input reads as it did. -/
def setsFewSpec : ChangeSpec := { name := "setsFew", fn := fun _ => fun
  | [d1, d2] => { results := [.lit (.bool true)], args := [d1, d2] }
  | _ => none }
def setsFewRow : OpenClaim := { program := "ytkocppnbipjiiaa", sum := "f0838a0050bde9a27318dfaead14d5390d52db9e463cb9dbf5d70163befa7234", func := "lurcher/lurcherlaw03.SetsFew", spec := "setsFew", unfollowed := true, recurses := true, apart := false }
def SetsFewSaid : Prop := setsFewRow.holds Try.pinned (OpenSpec.ofChange setsFewSpec)

/-- ITS FALSE NEIGHBOUR: 'it returns false'. Refute it at one input. -/
def setsFewWrong : ChangeSpec := { name := "setsFew", fn := fun _ => fun
  | [d1, d2] => { results := [.lit (.bool false)], args := [d1, d2] }
  | _ => none }
def SetsFewWrongFalsely : Prop := setsFewRow.holds Try.pinned (OpenSpec.ofChange setsFewWrong)

/-- 'lurcherlaw03.SetsMakes': WHATEVER THE INPUT: true; the input reads as it did. -/
def setsMakesSpec : ChangeSpec := { name := "setsMakes", fn := fun _ => fun
  | [d1, d2, d3] => { results := [.lit (.bool true)], args := [d1, d2, d3] }
  | _ => none }
def setsMakesRow : OpenClaim := { program := "ytkocppnbipjiiaa", sum := "f0838a0050bde9a27318dfaead14d5390d52db9e463cb9dbf5d70163befa7234", func := "lurcher/lurcherlaw03.SetsMakes", spec := "setsMakes", unfollowed := true, recurses := true, apart := false }
def SetsMakesSaid : Prop := setsMakesRow.holds Try.pinned (OpenSpec.ofChange setsMakesSpec)

/-- ITS FALSE NEIGHBOUR: 'it returns false'. Refute it at one input. -/
def setsMakesWrong : ChangeSpec := { name := "setsMakes", fn := fun _ => fun
  | [d1, d2, d3] => { results := [.lit (.bool false)], args := [d1, d2, d3] }
  | _ => none }
def SetsMakesWrongFalsely : Prop := setsMakesRow.holds Try.pinned (OpenSpec.ofChange setsMakesWrong)

/-- 'lurcherlaw03.SetsHas': WHATEVER THE INPUT: true; the input reads as it did. -/
def setsHasSpec : ChangeSpec := { name := "setsHas", fn := fun _ => fun
  | [d1, d2, d3] => { results := [.lit (.bool true)], args := [d1, d2, d3] }
  | _ => none }
def setsHasRow : OpenClaim := { program := "ytkocppnbipjiiaa", sum := "f0838a0050bde9a27318dfaead14d5390d52db9e463cb9dbf5d70163befa7234", func := "lurcher/lurcherlaw03.SetsHas", spec := "setsHas", unfollowed := true, recurses := true, apart := false }
def SetsHasSaid : Prop := setsHasRow.holds Try.pinned (OpenSpec.ofChange setsHasSpec)

/-- ITS FALSE NEIGHBOUR: 'it returns false'. Refute it at one input. -/
def setsHasWrong : ChangeSpec := { name := "setsHas", fn := fun _ => fun
  | [d1, d2, d3] => { results := [.lit (.bool false)], args := [d1, d2, d3] }
  | _ => none }
def SetsHasWrongFalsely : Prop := setsHasRow.holds Try.pinned (OpenSpec.ofChange setsHasWrong)

/-- 'lurcherlaw03.SetsJoins': WHATEVER THE INPUT: true; the input reads as it did. -/
def setsJoinsSpec : ChangeSpec := { name := "setsJoins", fn := fun _ => fun
  | [d1, d2, d3] => { results := [.lit (.bool true)], args := [d1, d2, d3] }
  | _ => none }
def setsJoinsRow : OpenClaim := { program := "ytkocppnbipjiiaa", sum := "f0838a0050bde9a27318dfaead14d5390d52db9e463cb9dbf5d70163befa7234", func := "lurcher/lurcherlaw03.SetsJoins", spec := "setsJoins", unfollowed := true, recurses := true, apart := false }
def SetsJoinsSaid : Prop := setsJoinsRow.holds Try.pinned (OpenSpec.ofChange setsJoinsSpec)

/-- ITS FALSE NEIGHBOUR: 'it returns false'. Refute it at one input. -/
def setsJoinsWrong : ChangeSpec := { name := "setsJoins", fn := fun _ => fun
  | [d1, d2, d3] => { results := [.lit (.bool false)], args := [d1, d2, d3] }
  | _ => none }
def SetsJoinsWrongFalsely : Prop := setsJoinsRow.holds Try.pinned (OpenSpec.ofChange setsJoinsWrong)

/-- 'lurcherlaw03.SetsLaws': WHATEVER THE INPUT: true; the input reads as it did. -/
def setsLawsSpec : ChangeSpec := { name := "setsLaws", fn := fun _ => fun
  | [d1, d2, d3, d4] => { results := [.lit (.bool true)], args := [d1, d2, d3, d4] }
  | _ => none }
def setsLawsRow : OpenClaim := { program := "ytkocppnbipjiiaa", sum := "f0838a0050bde9a27318dfaead14d5390d52db9e463cb9dbf5d70163befa7234", func := "lurcher/lurcherlaw03.SetsLaws", spec := "setsLaws", unfollowed := true, recurses := true, apart := false }
def SetsLawsSaid : Prop := setsLawsRow.holds Try.pinned (OpenSpec.ofChange setsLawsSpec)

/-- ITS FALSE NEIGHBOUR: 'it returns false'. Refute it at one input. -/
def setsLawsWrong : ChangeSpec := { name := "setsLaws", fn := fun _ => fun
  | [d1, d2, d3, d4] => { results := [.lit (.bool false)], args := [d1, d2, d3, d4] }
  | _ => none }
def SetsLawsWrongFalsely : Prop := setsLawsRow.holds Try.pinned (OpenSpec.ofChange setsLawsWrong)

/-- 'lurcherlaw03.SetsParts': WHATEVER THE INPUT: true; the input reads as it did. -/
def setsPartsSpec : ChangeSpec := { name := "setsParts", fn := fun _ => fun
  | [d1, d2] => { results := [.lit (.bool true)], args := [d1, d2] }
  | _ => none }
def setsPartsRow : OpenClaim := { program := "ytkocppnbipjiiaa", sum := "f0838a0050bde9a27318dfaead14d5390d52db9e463cb9dbf5d70163befa7234", func := "lurcher/lurcherlaw03.SetsParts", spec := "setsParts", unfollowed := true, recurses := true, apart := false }
def SetsPartsSaid : Prop := setsPartsRow.holds Try.pinned (OpenSpec.ofChange setsPartsSpec)

/-- ITS FALSE NEIGHBOUR: 'it returns false'. Refute it at one input. -/
def setsPartsWrong : ChangeSpec := { name := "setsParts", fn := fun _ => fun
  | [d1, d2] => { results := [.lit (.bool false)], args := [d1, d2] }
  | _ => none }
def SetsPartsWrongFalsely : Prop := setsPartsRow.holds Try.pinned (OpenSpec.ofChange setsPartsWrong)

/- THE SECOND FORM. 'bulk': how many values and letters a reading holds, each counted each time it is reached (what is shared counts as often as it is met; a slice's spare places count too). A statement '..UptoSaid' is the law's where the arguments, and the package variables that the reading takes, are together of bulk at most 1048576: NARROWER than '..Said'. Prove '..Said' where nothing that the law and all that it calls make is longer than what came in: it says more and counts as full. Else prove '..UptoSaid'. A law counts once. -/
mutual
def uptoBulk {H : Type} : DataW H → Nat
  | .lit (.string bytes) => bytes.length + 1
  | .lit _ => 1
  | .nil => 1
  | .ptr d => uptoBulk d + 1
  | .slice elems spare => uptoBulkAll elems + uptoBulkAll spare + 1
  | .agg parts => uptoBulkAll parts + 1
  | .iface _ d => uptoBulk d + 1
  | .map entries => uptoBulkEntries entries + 1
  | .held _ => 1
def uptoBulkAll {H : Type} : List (DataW H) → Nat
  | [] => 0
  | d :: r => uptoBulk d + uptoBulkAll r
def uptoBulkEntries {H : Type} : List (Lit × DataW H) → Nat
  | [] => 0
  | x :: r => uptoBulkEntry x + uptoBulkEntries r
def uptoBulkEntry {H : Type} : Lit × DataW H → Nat
  | (.string bytes, d) => bytes.length + uptoBulk d + 1
  | (_, d) => uptoBulk d + 1
 end
def uptoSmall : (H : Type) → List (DataW H) → Bool := fun _ ds => decide (uptoBulkAll ds ≤ 1048576)
def OpenSpec.upto (s : _root_.Go.ChangeSpec) : _root_.Go.OpenSpec := { _root_.Go.OpenSpec.ofChange s with cond := some uptoSmall }

/-- 'lurcherlaw03.SetsCases', WHERE WHAT IT READS IS OF BULK AT MOST 1048576: true; the input reads as it did. -/
def setsCasesUptoRow : OpenClaim := { program := "ytkocppnbipjiiaa", sum := "f0838a0050bde9a27318dfaead14d5390d52db9e463cb9dbf5d70163befa7234", func := "lurcher/lurcherlaw03.SetsCases", spec := "setsCases", unfollowed := true, recurses := true, apart := false, narrowed := true }
def SetsCasesUptoSaid : Prop := setsCasesUptoRow.holds Try.pinned (OpenSpec.upto setsCasesSpec)

/-- 'lurcherlaw03.SetsFew', WHERE WHAT IT READS IS OF BULK AT MOST 1048576: true; the input reads as it did. -/
def setsFewUptoRow : OpenClaim := { program := "ytkocppnbipjiiaa", sum := "f0838a0050bde9a27318dfaead14d5390d52db9e463cb9dbf5d70163befa7234", func := "lurcher/lurcherlaw03.SetsFew", spec := "setsFew", unfollowed := true, recurses := true, apart := false, narrowed := true }
def SetsFewUptoSaid : Prop := setsFewUptoRow.holds Try.pinned (OpenSpec.upto setsFewSpec)

/-- 'lurcherlaw03.SetsMakes', WHERE WHAT IT READS IS OF BULK AT MOST 1048576: true; the input reads as it did. -/
def setsMakesUptoRow : OpenClaim := { program := "ytkocppnbipjiiaa", sum := "f0838a0050bde9a27318dfaead14d5390d52db9e463cb9dbf5d70163befa7234", func := "lurcher/lurcherlaw03.SetsMakes", spec := "setsMakes", unfollowed := true, recurses := true, apart := false, narrowed := true }
def SetsMakesUptoSaid : Prop := setsMakesUptoRow.holds Try.pinned (OpenSpec.upto setsMakesSpec)

/-- 'lurcherlaw03.SetsHas', WHERE WHAT IT READS IS OF BULK AT MOST 1048576: true; the input reads as it did. -/
def setsHasUptoRow : OpenClaim := { program := "ytkocppnbipjiiaa", sum := "f0838a0050bde9a27318dfaead14d5390d52db9e463cb9dbf5d70163befa7234", func := "lurcher/lurcherlaw03.SetsHas", spec := "setsHas", unfollowed := true, recurses := true, apart := false, narrowed := true }
def SetsHasUptoSaid : Prop := setsHasUptoRow.holds Try.pinned (OpenSpec.upto setsHasSpec)

/-- 'lurcherlaw03.SetsJoins', WHERE WHAT IT READS IS OF BULK AT MOST 1048576: true; the input reads as it did. -/
def setsJoinsUptoRow : OpenClaim := { program := "ytkocppnbipjiiaa", sum := "f0838a0050bde9a27318dfaead14d5390d52db9e463cb9dbf5d70163befa7234", func := "lurcher/lurcherlaw03.SetsJoins", spec := "setsJoins", unfollowed := true, recurses := true, apart := false, narrowed := true }
def SetsJoinsUptoSaid : Prop := setsJoinsUptoRow.holds Try.pinned (OpenSpec.upto setsJoinsSpec)

/-- 'lurcherlaw03.SetsLaws', WHERE WHAT IT READS IS OF BULK AT MOST 1048576: true; the input reads as it did. -/
def setsLawsUptoRow : OpenClaim := { program := "ytkocppnbipjiiaa", sum := "f0838a0050bde9a27318dfaead14d5390d52db9e463cb9dbf5d70163befa7234", func := "lurcher/lurcherlaw03.SetsLaws", spec := "setsLaws", unfollowed := true, recurses := true, apart := false, narrowed := true }
def SetsLawsUptoSaid : Prop := setsLawsUptoRow.holds Try.pinned (OpenSpec.upto setsLawsSpec)

/-- 'lurcherlaw03.SetsParts', WHERE WHAT IT READS IS OF BULK AT MOST 1048576: true; the input reads as it did. -/
def setsPartsUptoRow : OpenClaim := { program := "ytkocppnbipjiiaa", sum := "f0838a0050bde9a27318dfaead14d5390d52db9e463cb9dbf5d70163befa7234", func := "lurcher/lurcherlaw03.SetsParts", spec := "setsParts", unfollowed := true, recurses := true, apart := false, narrowed := true }
def SetsPartsUptoSaid : Prop := setsPartsUptoRow.holds Try.pinned (OpenSpec.upto setsPartsSpec)

end Rows
end Go.Proofs.Ytkocppnbipjiiaa
