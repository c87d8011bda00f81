/- Blocks: walks of the program's functions, each told by what is asked and what comes back; they hold as they stand. -/
import Derived.Test.YtcjcdammcmjbnaaWidM
import Derived.Test.YtcjcdammcmjbnaaWdL2
import Derived.Test.YtcjcdammcmjbnaaWdL1
namespace Go.Proofs.Ytcjcdammcmjbnaa.U
open Go Go.Vai
set_option linter.unusedVariables false
set_option linter.unusedSimpArgs false
set_option maxRecDepth 100000
set_option maxHeartbeats 8000000
attribute [local irreducible] IntKind.wrap Rs Is Bs Ws Ts Ns Nf kindOf shapeN nszL
noncomputable section
theorem zl3x0 {p : Prop} (h : p := by first | rfl | assumption | (exfalso; simp_all; done)) : p := h
abbrev E_WidthsSays (x0 : List AV) (x1 : Int) : Prop := ∃ x2,post_WidthsSays x0 x1 x2 ∧ A 3 [(.sl 1 x0),(iv x1)] [] (bv x2) []
abbrev j_WidthsSays (nn : Nat) (x0 : List AV) (x1 : Int) (kK : Bool → HC) : HC := ⟨.ev nn (.ask (eB fun x2=>.done (.res (bv x2) [] (post_WidthsSays x0 x1 x2)) ((kK x2).h))),E_WidthsSays x0 x1 ∧ (∀ x2,post_WidthsSays x0 x1 x2 → (kK x2).p)⟩
abbrev t_WidthsSays (x0 : List AV) (x1 : Int) (Q : AV → HH → Prop) : HC := (j_awake 1 fun x2=>(dd 1 ((!x2)) (qq 1 Q (bv false)) (oo 0 ((npL [(.sl 1 x0),(iv x1)])) (j_resolved 0 x0 x1 fun x3 x4 x5 x6 x7 x8 x9 x10 x11 x12 x13 x14 x15=>(dd 1 ((!x15)) (qq 4 Q (bv true)) (oo 2 ((npL [(.agg (nR x3 x4 x5 x6 x7 x8 x9 x10 x11 x12 x13 x14)),(.agg (nR x3 x4 x5 x6 x7 x8 x9 x10 x11 x12 x13 x14))])) (j_allS 0 x3 x4 x5 x6 x7 x8 x9 x10 x11 x12 x13 x14 x3 x4 x5 x6 x7 x8 x9 x10 x11 x12 x13 x14 fun x16=>(qq 2 Q (bv x16)))))))))
theorem w_WidthsSays (x0 x1) (Q : AV → HH → Prop) (h : (t_WidthsSays x0 x1 Q).p) : ∃ r H',A 3 [(.sl 1 x0),(iv x1)] [] r H' ∧ Q r H' :=
 Ans.wq rfl (t_WidthsSays x0 x1 Q).h (by kernel_rfl) h
theorem c_WidthsSays {x0 x1} (hp : pre_WidthsSays x0 x1) : E_WidthsSays x0 x1 := by
 obtain ⟨_,_,ha,_,hq,rfl,rfl⟩ := w_WidthsSays x0 x1 (fun r H'=>∃ x2,post_WidthsSays x0 x1 x2 ∧ r = (bv x2) ∧ H' = []) (by
  obtain ⟨_,_⟩ := hp
  refine ⟨c_awake tP,fun _ p4=>?_⟩
  unfold post_awake at p4
  apply bS <;> intro _
  ·exact ⟨_,zl3x0,rfl,rfl⟩
  refine ⟨tN,c_resolved tP,fun _ _ _ _ _ _ _ _ _ _ _ _ _ p19=>?_⟩
  unfold post_resolved at p19
  apply bS <;> intro h20
  ·exact ⟨_,zl3x0,rfl,rfl⟩
  obtain ⟨⟨p19c_0,p19c_1,p19c_2,p19c_3⟩,p19c_4⟩ := p19 h20
  refine ⟨tN,c_allS tP,fun _ p22=>?_⟩
  unfold post_allS at p22
  exact ⟨_,zl3x0,rfl,rfl⟩)
 exact ⟨_,hq,ha⟩
end
end Go.Proofs.Ytcjcdammcmjbnaa.U
