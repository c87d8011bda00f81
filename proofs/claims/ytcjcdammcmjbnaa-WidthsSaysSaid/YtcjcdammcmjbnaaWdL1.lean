/- Blocks: walks of the program's functions, each told by what is asked and what comes back; they hold as they stand. -/
import Derived.Test.YtcjcdammcmjbnaaWidM
namespace Go.Proofs.Ytcjcdammcmjbnaa.U
open Go Go.Vai
set_option linter.unusedVariables false
set_option linter.unusedSimpArgs false
set_option maxRecDepth 100000
set_option maxHeartbeats 8000000
attribute [local irreducible] IntKind.wrap Rs Is Bs Ws Ts Ns Nf kindOf shapeN nszL
noncomputable section
abbrev E_awake : Prop := ∃ x0,post_awake x0 ∧ A 7 [] [] (bv x0) []
abbrev j_awake (nn : Nat) (f : Bool → HC) : HC := ⟨.ev nn (.ask (eB fun x0=>.done (.res (bv x0) [] (post_awake x0)) (f x0).h)),E_awake ∧ ∀ x0,post_awake x0 → (f x0).p⟩
theorem c_awake (hp : pre_awake) : E_awake := ⟨true,rfl,Ans.at 300 (by kernel_rfl)⟩
end
end Go.Proofs.Ytcjcdammcmjbnaa.U
