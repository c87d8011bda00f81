/- Blocks: walks of the program's functions, each told by what is asked and what comes back; they hold as they stand. -/
import Derived.Test.YtcjcdammcmjbnaaWidL
namespace Go.Proofs.Ytcjcdammcmjbnaa.U
open Go Go.Vai
set_option linter.unusedVariables false
set_option linter.unusedSimpArgs false
set_option maxRecDepth 100000
set_option maxHeartbeats 8000000
attribute [local irreducible] IntKind.wrap Rs Is Bs Ws Ts Ns Nf kindOf shapeN nszL
theorem zl1x0 {p : Prop} (h : p := by first | rfl | exact decide_eq_true (by omega) | (exfalso; omega) | (exfalso; simp_all; done)) : p := h
abbrev E_awake : Prop := ∃ x0 : Bool, post_awake x0 ∧ A 7 [] [] (bv x0) []
noncomputable abbrev j_awake (nn : Nat) (f : Bool → HC) : HC := ⟨.ev nn (.ask (eB fun x0 => .done (.res (bv x0) [] (post_awake x0)) (f x0).h)), E_awake ∧ ∀ x0 : Bool, post_awake x0 → (f x0).p⟩
theorem c_awake (hp : pre_awake) : E_awake := ⟨true, rfl, Ans.at 300 (by kernel_rfl)⟩
abbrev E_WidthsBounds (x0 : List AV) (x1 : Int) : Prop := ∃ x2 : Bool, post_WidthsBounds x0 x1 x2 ∧ A 5 [(.sl 1 x0), (iv x1)] [] (bv x2) []
noncomputable abbrev j_WidthsBounds (nn : Nat) (x0 : List AV) (x1 : Int) (kK : Bool → HC) : HC := ⟨.ev nn (.ask (eB fun x2 => .done (.res (bv x2) [] (post_WidthsBounds x0 x1 x2)) ((kK x2).h))), E_WidthsBounds x0 x1 ∧ (∀ x2 : Bool, post_WidthsBounds x0 x1 x2 → (kK x2).p)⟩
noncomputable abbrev t_WidthsBounds (x0 : List AV) (x1 : Int) (Q : AV → HH → Prop) : HC := (j_awake 1 fun x2 => (dd 1 ((!x2)) (zz 1 (Q (bv false) [])) (oo 0 ((npL [(.sl 1 x0), (iv x1)])) (j_resolved 0 x0 x1 fun x3 x4 x5 x6 x7 x8 x9 x10 x11 x12 x13 x14 x15 => (dd 1 ((!x15)) (zz 1 (Q (bv true) [])) (oo 0 ((npL [(.agg (nR x3 x4 x5 x6 x7 x8 x9 x10 x11 x12 x13 x14)), (.agg (nR x3 x4 x5 x6 x7 x8 x9 x10 x11 x12 x13 x14))])) (j_WidthP 0 x3 x4 x5 x6 x7 x8 x9 x10 x11 x12 x13 x14 x3 x4 x5 x6 x7 x8 x9 x10 x11 x12 x13 x14 fun x16 x17 => (dd 1 ((decide (x16 ≥ 0))) (dd 3 ((decide (x16 ≤ 1000))) (dd 3 ((x17 == -1)) (zz 8 (Q (bv true) [])) (dd 4 ((decide (x17 ≥ x16))) (zz 8 (Q (bv (decide (x17 ≤ 1000))) [])) (zz 7 (Q (bv false) [])))) (zz 5 (Q (bv false) []))) (zz 8 (Q (bv false) []))))))))))
theorem w_WidthsBounds (x0 : List AV) (x1 : Int) (Q : AV → HH → Prop) (h : (t_WidthsBounds x0 x1 Q).p) : ∃ r H', A 5 [(.sl 1 x0), (iv x1)] [] r H' ∧ Q r H' :=
 Ans.wq rfl (t_WidthsBounds x0 x1 Q).h (by kernel_rfl) h
theorem c_WidthsBounds {x0 : List AV} {x1 : Int} (hp : pre_WidthsBounds x0 x1) : E_WidthsBounds x0 x1 := by
 obtain ⟨_, _, ha, x2, hq, rfl, rfl⟩ := w_WidthsBounds x0 x1 (fun r H' => ∃ x2 : Bool, post_WidthsBounds x0 x1 x2 ∧ r = (bv x2) ∧ H' = []) (by
  obtain ⟨_, _⟩ := hp
  refine ⟨c_awake tP, fun x3 p4 => ?_⟩
  have p4_0 := p4
  unfold post_awake at p4_0
  apply bS <;> intro h5
  ·exact ⟨_, zl1x0, rfl, rfl⟩
  refine ⟨tN, c_resolved tP, fun x6 x7 x8 x9 x10 x11 x12 x13 x14 x15 x16 x17 x18 p19 => ?_⟩
  have p19_0 := p19
  unfold post_resolved at p19_0
  apply bS <;> intro h20
  ·exact ⟨_, zl1x0, rfl, rfl⟩
  obtain ⟨⟨_, _, _, _⟩, _⟩ := p19_0 h20
  refine ⟨tN, c_WidthP tP, fun x21 x22 p23 => ?_⟩
  obtain ⟨_, _, _, _⟩ := p23
  apply bS <;> intro h24
  ·apply bS <;> intro h25
   ·apply bS <;> intro h26
    ·exact ⟨_, zl1x0, rfl, rfl⟩
    apply bS <;> intro h27
    ·exact ⟨_, zl1x0, rfl, rfl⟩
    exact ⟨_, zl1x0, rfl, rfl⟩
   exact ⟨_, zl1x0, rfl, rfl⟩
  exact ⟨_, zl1x0, rfl, rfl⟩)
 exact ⟨x2, hq, ha⟩
end Go.Proofs.Ytcjcdammcmjbnaa.U
