/- Blocks: walks of the program's functions, each told by what is asked and what comes back; they hold as they stand. -/
import Derived.Test.YtcjcdammcmjbnaaWidO
namespace Go.Proofs.Ytcjcdammcmjbnaa.U
open Go Go.Vai
set_option linter.unusedVariables false
set_option linter.unusedSimpArgs false
set_option maxRecDepth 100000
set_option maxHeartbeats 8000000
attribute [local irreducible] IntKind.wrap Rs Is Bs Ws Ts Ns Nf kindOf shapeN nszL
noncomputable section
theorem zl2x0 {p : Prop} (h : p := by (try dsimp only); refine ⟨tP,tP,tP,tP,tP,?_⟩; first | exact accL_nil | exact accL_next (by omega) (by omega) tA tA tA tA) : p := h
theorem zl2x1 {p : Prop} (h : p := by refine Eq.trans ?_ accV_nd.symm; first | exact accM tA tA | exact accR (.inl tA) (Eq.symm tA) | exact accR (.inr tA) (Eq.symm tA)) : p := h
theorem zl2x2 {p : Prop} (h : p := by refine Eq.trans ?_ callV_nd.symm; first | exact callM tA | exact callN tA (Eq.symm tA)) : p := h
abbrev E_awake : Prop := ∃ x0,post_awake x0 ∧ A 7 [] [] (bv x0) []
abbrev j_awake (nn : Nat) (f : Bool → HC) : HC := ⟨.ev nn (.ask (eB fun x0=>.done (.res (bv x0) [] (post_awake x0)) (f x0).h)),E_awake ∧ ∀ x0,post_awake x0 → (f x0).p⟩
theorem c_awake (hp : pre_awake) : E_awake := ⟨true,rfl,Ans.at 300 (by kernel_rfl)⟩
abbrev E_accR (x0 x1 x2 : Int) (x3 : List AV) (x4 : Bool) (x5 x6 x7 : Int) (x8 : ByteArray) (x9 x10 : Int) (x11 : List AV) : Prop := ∃ x12,post_accR x0 x1 x2 x3 x4 x5 x6 x7 x8 x9 x10 x11 x12 ∧ A 12 [(.agg (nR x0 x1 x2 x3 x4 x5 x6 x7 x8 x9 x10 x11))] [] (bv x12) []
abbrev j_accR (nn : Nat) (x0 x1 x2 : Int) (x3 : List AV) (x4 : Bool) (x5 x6 x7 : Int) (x8 : ByteArray) (x9 x10 : Int) (x11 : List AV) (kK : Bool → HC) : HC := ⟨.ev nn (.ask (eB fun x12=>.done (.res (bv x12) [] (post_accR x0 x1 x2 x3 x4 x5 x6 x7 x8 x9 x10 x11 x12)) ((kK x12).h))),E_accR x0 x1 x2 x3 x4 x5 x6 x7 x8 x9 x10 x11 ∧ (∀ x12,post_accR x0 x1 x2 x3 x4 x5 x6 x7 x8 x9 x10 x11 x12 → (kK x12).p)⟩
def IH_accR (b : Nat) : Prop := ∀ {x0 : Int} {x1 : Int} {x2 : Int} {x3 : List AV} {x4 : Bool} {x5 : Int} {x6 : Int} {x7 : Int} {x8 : ByteArray} {x9 : Int} {x10 : Int} {x11 : List AV},rank_accR x0 x1 x2 x3 x4 x5 x6 x7 x8 x9 x10 x11 < b → pre_accR x0 x1 x2 x3 x4 x5 x6 x7 x8 x9 x10 x11 → E_accR x0 x1 x2 x3 x4 x5 x6 x7 x8 x9 x10 x11
def s_accR_0 (x0 x1 x2 : Int) (x3 : List AV) (x4 : Bool) (x5 x6 x7 : Int) (x8 : ByteArray) (x9 x10 : Int) (x11 : List AV) (x12 : Int) : St := ⟨[],[(1,(.ea [(iv x0),(iv x1),(iv x2),(.sl 2 x3),(bv x4),(iv x5),(iv x6),(iv x7),(sv x8),(iv x9),(iv x10),(.sl 12 x11)])),(3,(iv x12))],[],0⟩
def x_accR_0_0 (x0 x1 x2 : Int) (x3 : List AV) (x4 : Bool) (x5 x6 x7 : Int) (x8 : ByteArray) (x9 x10 : Int) (x11 : List AV) : St := ⟨[],[(2,(bv true))],[],0⟩
def x_accR_0_1 (x0 x1 x2 : Int) (x3 : List AV) (x4 : Bool) (x5 x6 x7 : Int) (x8 : ByteArray) (x9 x10 : Int) (x11 : List AV) (y12 : Int) : St := ⟨[],[(1,(.ea [(iv x0),(iv x1),(iv x2),(.sl 2 x3),(bv x4),(iv x5),(iv x6),(iv x7),(sv x8),(iv x9),(iv x10),(.sl 12 x11)])),(3,(iv y12)),(17,(bv false))],[],0⟩
abbrev E_accR_0 (x0 x1 x2 : Int) (x3 : List AV) (x4 : Bool) (x5 x6 x7 : Int) (x8 : ByteArray) (x9 x10 : Int) (x11 : List AV) (x12o : Int) : Prop := ((out_accR_0_0 x0 x1 x2 x3 x4 x5 x6 x7 x8 x9 x10 x11 x12o ∧ R 12 0 (s_accR_0 x0 x1 x2 x3 x4 x5 x6 x7 x8 x9 x10 x11 x12o) (Ex.ret,x_accR_0_0 x0 x1 x2 x3 x4 x5 x6 x7 x8 x9 x10 x11)) ∨ (∃ y13,out_accR_0_1 x0 x1 x2 x3 x4 x5 x6 x7 x8 x9 x10 x11 x12o y13 ∧ R 12 0 (s_accR_0 x0 x1 x2 x3 x4 x5 x6 x7 x8 x9 x10 x11 x12o) ((.exit 0),x_accR_0_1 x0 x1 x2 x3 x4 x5 x6 x7 x8 x9 x10 x11 y13)))
abbrev j_accR_0 (nn : Nat) (x0 x1 x2 : Int) (x3 : List AV) (x4 : Bool) (x5 x6 x7 : Int) (x8 : ByteArray) (x9 x10 : Int) (x11 : List AV) (x12o : Int) (f0 : HC) (f1 : Int → HC) : HC := ⟨.ev nn (.ask (.or (.done (.exit Ex.ret (x_accR_0_0 x0 x1 x2 x3 x4 x5 x6 x7 x8 x9 x10 x11) (out_accR_0_0 x0 x1 x2 x3 x4 x5 x6 x7 x8 x9 x10 x11 x12o)) f0.h) (eI fun y13=>.done (.exit (.exit 0) (x_accR_0_1 x0 x1 x2 x3 x4 x5 x6 x7 x8 x9 x10 x11 y13) (out_accR_0_1 x0 x1 x2 x3 x4 x5 x6 x7 x8 x9 x10 x11 x12o y13)) (f1 y13).h))),E_accR_0 x0 x1 x2 x3 x4 x5 x6 x7 x8 x9 x10 x11 x12o ∧ ((out_accR_0_0 x0 x1 x2 x3 x4 x5 x6 x7 x8 x9 x10 x11 x12o → f0.p) ∧ (∀ y13,out_accR_0_1 x0 x1 x2 x3 x4 x5 x6 x7 x8 x9 x10 x11 x12o y13 → (f1 y13).p))⟩
abbrev t_accR_0 (x0 x1 x2 : Int) (x3 : List AV) (x4 : Bool) (x5 x6 x7 : Int) (x8 : ByteArray) (x9 x10 : Int) (x11 : List AV) (x12 : Int) (Q : Ex → St → Prop) : HC := (dd 1 ((decide (x12 < (↑x11.length : Int)))) (oo 0 ((decide (0 ≤ x12))) (pN 1 ((x11[x12.toNat]?)) fun x13 x14 x15 x16 x17 x18 x19 x20 x21 x22 x23 x24=>(oo 0 ((npL [(.agg (nR x13 x14 x15 x16 x17 x18 x19 x20 x21 x22 x23 x24))])) (j_accR 0 x13 x14 x15 x16 x17 x18 x19 x20 x21 x22 x23 x24 fun x25=>(dd 0 x25 (zz 0 (Q Ex.ret (x_accR_0_0 x0 x1 x2 x3 x4 x5 x6 x7 x8 x9 x10 x11))) (zz 1 (Q .norm (s_accR_0 x0 x1 x2 x3 x4 x5 x6 x7 x8 x9 x10 x11 (w6 (x12 + 1)))))))))) (zz 0 (Q (.exit 0) (x_accR_0_1 x0 x1 x2 x3 x4 x5 x6 x7 x8 x9 x10 x11 x12))))
theorem l_accR_0 (x0 x1 x2 x3 x4 x5 x6 x7 x8 x9 x10 x11 x12) (Q : Ex → St → Prop) (h : (t_accR_0 x0 x1 x2 x3 x4 x5 x6 x7 x8 x9 x10 x11 x12 Q).p) : ∃ e s',L 12 0 (s_accR_0 x0 x1 x2 x3 x4 x5 x6 x7 x8 x9 x10 x11 x12) (e,s') ∧ Q e s' :=
 Leads.wq (t_accR_0 x0 x1 x2 x3 x4 x5 x6 x7 x8 x9 x10 x11 x12 Q).h (by kernel_rfl) h
theorem k_accR_0 {B : Nat} (ih_accR : IH_accR B) {x0 x1 x2 x3 x4 x5 x6 x7 x8 x9 x10 x11 x12o} (hi : inv_accR_0 B x0 x1 x2 x3 x4 x5 x6 x7 x8 x9 x10 x11 x12o x12o) : E_accR_0 x0 x1 x2 x3 x4 x5 x6 x7 x8 x9 x10 x11 x12o := by
 obtain ⟨e,s',hr,hq⟩ := Rounds.byInv (st := fun (w : Int)=>s_accR_0 x0 x1 x2 x3 x4 x5 x6 x7 x8 x9 x10 x11 w) (Inv := fun w=>inv_accR_0 B x0 x1 x2 x3 x4 x5 x6 x7 x8 x9 x10 x11 x12o w) (μ := fun w=>mu_accR_0 x0 x1 x2 x3 x4 x5 x6 x7 x8 x9 x10 x11 w) (Q := fun e s'=>((out_accR_0_0 x0 x1 x2 x3 x4 x5 x6 x7 x8 x9 x10 x11 x12o ∧ e = Ex.ret ∧ s' = x_accR_0_0 x0 x1 x2 x3 x4 x5 x6 x7 x8 x9 x10 x11) ∨ (∃ y13,out_accR_0_1 x0 x1 x2 x3 x4 x5 x6 x7 x8 x9 x10 x11 x12o y13 ∧ e = (.exit 0) ∧ s' = x_accR_0_1 x0 x1 x2 x3 x4 x5 x6 x7 x8 x9 x10 x11 y13))) (by
  intro x12 hi
  have hi : inv_accR_0 B x0 x1 x2 x3 x4 x5 x6 x7 x8 x9 x10 x11 x12o x12 := hi
  refine l_accR_0 x0 x1 x2 x3 x4 x5 x6 x7 x8 x9 x10 x11 x12 _ ?_
  obtain ⟨_,⟨_,_,_,_⟩,_,_,_,_⟩ := hi
  apply bS <;> intro _
  ·refine ⟨tD,tG,fun _ _ _ _ _ _ _ _ _ _ _ _ g27=>?_⟩
   have edg41 := nsz_drop g27; first | (have eg27 := Ns.elem tA g27; have eng41 := nsz_get g27; obtain ⟨_,_,_,_⟩ := eg27.nw) | (have eg27 := Nf.elem tA g27; have eng41 := nsz_get g27; obtain ⟨_,_⟩ := eg27.nw)
   refine ⟨tN,ih_accR (by (try unfold rank_accR); exact tI) tP,fun _ p29=>?_⟩
   unfold post_accR at p29
   apply bS <;> intro _
   ·exact .inr ⟨by simp,.inl ⟨by first | exact accL_hit tA ((show _ = accV _ from by assumption).symm.trans (by assumption)) | exact accL_end tA (by omega),rfl,rfl⟩⟩
   try have := tW (x12 + 1)
   exact .inl ⟨rfl,(w6 (x12 + 1)),rfl,zl2x0,by unfold mu_accR_0; exact tI⟩
  exact .inr ⟨by simp,.inr (⟨_,by first | exact accL_hit tA ((show _ = accV _ from by assumption).symm.trans (by assumption)) | exact accL_end tA (by omega),rfl,rfl⟩)⟩) x12o hi
 rcases hq with ⟨ho,rfl,rfl⟩ | ⟨_,ho,rfl,rfl⟩
 
 ·exact .inl ⟨ho,hr⟩
 ·exact .inr (⟨_,ho,hr⟩)
abbrev t_accR (x0 x1 x2 : Int) (x3 : List AV) (x4 : Bool) (x5 x6 x7 : Int) (x8 : ByteArray) (x9 x10 : Int) (x11 : List AV) (Q : AV → HH → Prop) : HC := (dd 1 ((x0 == 9)) (dd 4 ((x5 == 1)) (qq 1 Q (bv true)) (j_accR_0 0 x0 x1 x2 x3 x4 x5 x6 x7 x8 x9 x10 x11 0 (qq 1 Q (bv true)) (fun x12=>(qq 1 Q (bv false))))) (j_accR_0 4 x0 x1 x2 x3 x4 x5 x6 x7 x8 x9 x10 x11 0 (qq 1 Q (bv true)) (fun x13=>(qq 1 Q (bv false)))))
theorem w_accR (x0 x1 x2 x3 x4 x5 x6 x7 x8 x9 x10 x11) (Q : AV → HH → Prop) (h : (t_accR x0 x1 x2 x3 x4 x5 x6 x7 x8 x9 x10 x11 Q).p) : ∃ r H',A 12 [(.agg (nR x0 x1 x2 x3 x4 x5 x6 x7 x8 x9 x10 x11))] [] r H' ∧ Q r H' :=
 Ans.wq rfl (t_accR x0 x1 x2 x3 x4 x5 x6 x7 x8 x9 x10 x11 Q).h (by kernel_rfl) h
theorem i_accR {x0 x1 x2 x3 x4 x5 x6 x7 x8 x9 x10 x11} (ih_accR : IH_accR (rank_accR x0 x1 x2 x3 x4 x5 x6 x7 x8 x9 x10 x11)) (hp : pre_accR x0 x1 x2 x3 x4 x5 x6 x7 x8 x9 x10 x11) : E_accR x0 x1 x2 x3 x4 x5 x6 x7 x8 x9 x10 x11 := by
 obtain ⟨_,_,ha,_,hq,rfl,rfl⟩ := w_accR x0 x1 x2 x3 x4 x5 x6 x7 x8 x9 x10 x11 (fun r H'=>∃ x12,post_accR x0 x1 x2 x3 x4 x5 x6 x7 x8 x9 x10 x11 x12 ∧ r = (bv x12) ∧ H' = []) (by
  obtain ⟨⟨_,_,_,_⟩,_⟩ := hp
  apply bS <;> intro _
  ·apply bS <;> intro _
   ·exact ⟨_,zl2x1,rfl,rfl⟩
   refine ⟨k_accR_0 ih_accR zl2x0,fun e15=>?_,fun _ e17=>?_⟩
   ·have e15_0 := e15
    unfold out_accR_0_0 at e15_0
    exact ⟨_,zl2x1,rfl,rfl⟩
   have e17_0 := e17
   unfold out_accR_0_1 at e17_0
   exact ⟨_,zl2x1,rfl,rfl⟩
  refine ⟨k_accR_0 ih_accR zl2x0,fun e18=>?_,fun _ e20=>?_⟩
  ·have e18_0 := e18
   unfold out_accR_0_0 at e18_0
   exact ⟨_,zl2x1,rfl,rfl⟩
  have e20_0 := e20
  unfold out_accR_0_1 at e20_0
  exact ⟨_,zl2x1,rfl,rfl⟩)
 exact ⟨_,hq,ha⟩
theorem r_accR : ∀ b,IH_accR b
 | 0=>fun hr _=>absurd hr (Nat.not_lt_zero _)
 | b + 1=>fun hr hp=>i_accR (fun hr' hp'=>r_accR b (by omega) hp') hp
theorem c_accR {x0 x1 x2 x3 x4 x5 x6 x7 x8 x9 x10 x11} (hp : pre_accR x0 x1 x2 x3 x4 x5 x6 x7 x8 x9 x10 x11) : E_accR x0 x1 x2 x3 x4 x5 x6 x7 x8 x9 x10 x11 := r_accR (rank_accR x0 x1 x2 x3 x4 x5 x6 x7 x8 x9 x10 x11 + 1) (Nat.lt_succ_self _) hp
abbrev E_callsS (x0 x1 x2 : Int) (x3 : List AV) (x4 : Bool) (x5 x6 x7 : Int) (x8 : ByteArray) (x9 x10 : Int) (x11 : List AV) : Prop := ∃ x12,post_callsS x0 x1 x2 x3 x4 x5 x6 x7 x8 x9 x10 x11 x12 ∧ A 10 [(.agg (nR x0 x1 x2 x3 x4 x5 x6 x7 x8 x9 x10 x11))] [] (bv x12) []
abbrev j_callsS (nn : Nat) (x0 x1 x2 : Int) (x3 : List AV) (x4 : Bool) (x5 x6 x7 : Int) (x8 : ByteArray) (x9 x10 : Int) (x11 : List AV) (kK : Bool → HC) : HC := ⟨.ev nn (.ask (eB fun x12=>.done (.res (bv x12) [] (post_callsS x0 x1 x2 x3 x4 x5 x6 x7 x8 x9 x10 x11 x12)) ((kK x12).h))),E_callsS x0 x1 x2 x3 x4 x5 x6 x7 x8 x9 x10 x11 ∧ (∀ x12,post_callsS x0 x1 x2 x3 x4 x5 x6 x7 x8 x9 x10 x11 x12 → (kK x12).p)⟩
def IH_callsS (b : Nat) : Prop := ∀ {x0 : Int} {x1 : Int} {x2 : Int} {x3 : List AV} {x4 : Bool} {x5 : Int} {x6 : Int} {x7 : Int} {x8 : ByteArray} {x9 : Int} {x10 : Int} {x11 : List AV},rank_callsS x0 x1 x2 x3 x4 x5 x6 x7 x8 x9 x10 x11 < b → pre_callsS x0 x1 x2 x3 x4 x5 x6 x7 x8 x9 x10 x11 → E_callsS x0 x1 x2 x3 x4 x5 x6 x7 x8 x9 x10 x11
def s_callsS_0 (x0 x1 x2 : Int) (x3 : List AV) (x4 : Bool) (x5 x6 x7 : Int) (x8 : ByteArray) (x9 x10 : Int) (x11 : List AV) (x12 : Int) : St := ⟨[],[(1,(.ea [(iv x0),(iv x1),(iv x2),(.sl 2 x3),(bv x4),(iv x5),(iv x6),(iv x7),(sv x8),(iv x9),(iv x10),(.sl 12 x11)])),(3,(iv x12))],[],0⟩
def x_callsS_0_0 (x0 x1 x2 : Int) (x3 : List AV) (x4 : Bool) (x5 x6 x7 : Int) (x8 : ByteArray) (x9 x10 : Int) (x11 : List AV) : St := ⟨[],[(2,(bv true))],[],0⟩
def x_callsS_0_1 (x0 x1 x2 : Int) (x3 : List AV) (x4 : Bool) (x5 x6 x7 : Int) (x8 : ByteArray) (x9 x10 : Int) (x11 : List AV) (y12 : Int) : St := ⟨[],[(1,(.ea [(iv x0),(iv x1),(iv x2),(.sl 2 x3),(bv x4),(iv x5),(iv x6),(iv x7),(sv x8),(iv x9),(iv x10),(.sl 12 x11)])),(3,(iv y12)),(12,(bv false))],[],0⟩
abbrev E_callsS_0 (x0 x1 x2 : Int) (x3 : List AV) (x4 : Bool) (x5 x6 x7 : Int) (x8 : ByteArray) (x9 x10 : Int) (x11 : List AV) (x12o : Int) : Prop := ((out_callsS_0_0 x0 x1 x2 x3 x4 x5 x6 x7 x8 x9 x10 x11 x12o ∧ R 10 0 (s_callsS_0 x0 x1 x2 x3 x4 x5 x6 x7 x8 x9 x10 x11 x12o) (Ex.ret,x_callsS_0_0 x0 x1 x2 x3 x4 x5 x6 x7 x8 x9 x10 x11)) ∨ (∃ y13,out_callsS_0_1 x0 x1 x2 x3 x4 x5 x6 x7 x8 x9 x10 x11 x12o y13 ∧ R 10 0 (s_callsS_0 x0 x1 x2 x3 x4 x5 x6 x7 x8 x9 x10 x11 x12o) ((.exit 0),x_callsS_0_1 x0 x1 x2 x3 x4 x5 x6 x7 x8 x9 x10 x11 y13)))
abbrev j_callsS_0 (nn : Nat) (x0 x1 x2 : Int) (x3 : List AV) (x4 : Bool) (x5 x6 x7 : Int) (x8 : ByteArray) (x9 x10 : Int) (x11 : List AV) (x12o : Int) (f0 : HC) (f1 : Int → HC) : HC := ⟨.ev nn (.ask (.or (.done (.exit Ex.ret (x_callsS_0_0 x0 x1 x2 x3 x4 x5 x6 x7 x8 x9 x10 x11) (out_callsS_0_0 x0 x1 x2 x3 x4 x5 x6 x7 x8 x9 x10 x11 x12o)) f0.h) (eI fun y13=>.done (.exit (.exit 0) (x_callsS_0_1 x0 x1 x2 x3 x4 x5 x6 x7 x8 x9 x10 x11 y13) (out_callsS_0_1 x0 x1 x2 x3 x4 x5 x6 x7 x8 x9 x10 x11 x12o y13)) (f1 y13).h))),E_callsS_0 x0 x1 x2 x3 x4 x5 x6 x7 x8 x9 x10 x11 x12o ∧ ((out_callsS_0_0 x0 x1 x2 x3 x4 x5 x6 x7 x8 x9 x10 x11 x12o → f0.p) ∧ (∀ y13,out_callsS_0_1 x0 x1 x2 x3 x4 x5 x6 x7 x8 x9 x10 x11 x12o y13 → (f1 y13).p))⟩
abbrev t_callsS_0 (x0 x1 x2 : Int) (x3 : List AV) (x4 : Bool) (x5 x6 x7 : Int) (x8 : ByteArray) (x9 x10 : Int) (x11 : List AV) (x12 : Int) (Q : Ex → St → Prop) : HC := (dd 1 ((decide (x12 < (↑x11.length : Int)))) (oo 0 ((decide (0 ≤ x12))) (pN 1 ((x11[x12.toNat]?)) fun x13 x14 x15 x16 x17 x18 x19 x20 x21 x22 x23 x24=>(oo 0 ((npL [(.agg (nR x13 x14 x15 x16 x17 x18 x19 x20 x21 x22 x23 x24))])) (j_callsS 0 x13 x14 x15 x16 x17 x18 x19 x20 x21 x22 x23 x24 fun x25=>(dd 0 x25 (zz 0 (Q Ex.ret (x_callsS_0_0 x0 x1 x2 x3 x4 x5 x6 x7 x8 x9 x10 x11))) (zz 1 (Q .norm (s_callsS_0 x0 x1 x2 x3 x4 x5 x6 x7 x8 x9 x10 x11 (w6 (x12 + 1)))))))))) (zz 0 (Q (.exit 0) (x_callsS_0_1 x0 x1 x2 x3 x4 x5 x6 x7 x8 x9 x10 x11 x12))))
theorem l_callsS_0 (x0 x1 x2 x3 x4 x5 x6 x7 x8 x9 x10 x11 x12) (Q : Ex → St → Prop) (h : (t_callsS_0 x0 x1 x2 x3 x4 x5 x6 x7 x8 x9 x10 x11 x12 Q).p) : ∃ e s',L 10 0 (s_callsS_0 x0 x1 x2 x3 x4 x5 x6 x7 x8 x9 x10 x11 x12) (e,s') ∧ Q e s' :=
 Leads.wq (t_callsS_0 x0 x1 x2 x3 x4 x5 x6 x7 x8 x9 x10 x11 x12 Q).h (by kernel_rfl) h
theorem k_callsS_0 {B : Nat} (ih_callsS : IH_callsS B) {x0 x1 x2 x3 x4 x5 x6 x7 x8 x9 x10 x11 x12o} (hi : inv_callsS_0 B x0 x1 x2 x3 x4 x5 x6 x7 x8 x9 x10 x11 x12o x12o) : E_callsS_0 x0 x1 x2 x3 x4 x5 x6 x7 x8 x9 x10 x11 x12o := by
 obtain ⟨e,s',hr,hq⟩ := Rounds.byInv (st := fun (w : Int)=>s_callsS_0 x0 x1 x2 x3 x4 x5 x6 x7 x8 x9 x10 x11 w) (Inv := fun w=>inv_callsS_0 B x0 x1 x2 x3 x4 x5 x6 x7 x8 x9 x10 x11 x12o w) (μ := fun w=>mu_callsS_0 x0 x1 x2 x3 x4 x5 x6 x7 x8 x9 x10 x11 w) (Q := fun e s'=>((out_callsS_0_0 x0 x1 x2 x3 x4 x5 x6 x7 x8 x9 x10 x11 x12o ∧ e = Ex.ret ∧ s' = x_callsS_0_0 x0 x1 x2 x3 x4 x5 x6 x7 x8 x9 x10 x11) ∨ (∃ y13,out_callsS_0_1 x0 x1 x2 x3 x4 x5 x6 x7 x8 x9 x10 x11 x12o y13 ∧ e = (.exit 0) ∧ s' = x_callsS_0_1 x0 x1 x2 x3 x4 x5 x6 x7 x8 x9 x10 x11 y13))) (by
  intro x12 hi
  have hi : inv_callsS_0 B x0 x1 x2 x3 x4 x5 x6 x7 x8 x9 x10 x11 x12o x12 := hi
  refine l_callsS_0 x0 x1 x2 x3 x4 x5 x6 x7 x8 x9 x10 x11 x12 _ ?_
  obtain ⟨_,⟨_,_,_,_⟩,_,_,_,_⟩ := hi
  apply bS <;> intro _
  ·refine ⟨tD,tG,fun _ _ _ _ _ _ _ _ _ _ _ _ g27=>?_⟩
   have edg40 := nsz_drop g27; first | (have eg27 := Ns.elem tA g27; have eng40 := nsz_get g27; obtain ⟨_,_,_,_⟩ := eg27.nw) | (have eg27 := Nf.elem tA g27; have eng40 := nsz_get g27; obtain ⟨_,_⟩ := eg27.nw)
   refine ⟨tN,ih_callsS (by (try unfold rank_callsS); exact tI) tP,fun _ p29=>?_⟩
   unfold post_callsS at p29
   apply bS <;> intro _
   ·exact .inr ⟨by simp,.inl ⟨by first | exact callL_hit tA ((show _ = callV _ from by assumption).symm.trans (by assumption)) | exact callL_end tA (by omega),rfl,rfl⟩⟩
   try have := tW (x12 + 1)
   exact .inl ⟨rfl,(w6 (x12 + 1)),rfl,by (try dsimp only); refine ⟨tP,tP,tP,tP,tP,?_⟩; first | exact callL_nil | exact callL_next (by omega) (by omega) tA tA tA tA,by unfold mu_callsS_0; exact tI⟩
  exact .inr ⟨by simp,.inr (⟨_,by first | exact callL_hit tA ((show _ = callV _ from by assumption).symm.trans (by assumption)) | exact callL_end tA (by omega),rfl,rfl⟩)⟩) x12o hi
 rcases hq with ⟨ho,rfl,rfl⟩ | ⟨_,ho,rfl,rfl⟩
 
 ·exact .inl ⟨ho,hr⟩
 ·exact .inr (⟨_,ho,hr⟩)
abbrev t_callsS (x0 x1 x2 : Int) (x3 : List AV) (x4 : Bool) (x5 x6 x7 : Int) (x8 : ByteArray) (x9 x10 : Int) (x11 : List AV) (Q : AV → HH → Prop) : HC := (dd 1 ((x0 == 8)) (qq 1 Q (bv true)) (j_callsS_0 0 x0 x1 x2 x3 x4 x5 x6 x7 x8 x9 x10 x11 0 (qq 1 Q (bv true)) (fun x12=>(qq 1 Q (bv false)))))
theorem w_callsS (x0 x1 x2 x3 x4 x5 x6 x7 x8 x9 x10 x11) (Q : AV → HH → Prop) (h : (t_callsS x0 x1 x2 x3 x4 x5 x6 x7 x8 x9 x10 x11 Q).p) : ∃ r H',A 10 [(.agg (nR x0 x1 x2 x3 x4 x5 x6 x7 x8 x9 x10 x11))] [] r H' ∧ Q r H' :=
 Ans.wq rfl (t_callsS x0 x1 x2 x3 x4 x5 x6 x7 x8 x9 x10 x11 Q).h (by kernel_rfl) h
theorem i_callsS {x0 x1 x2 x3 x4 x5 x6 x7 x8 x9 x10 x11} (ih_callsS : IH_callsS (rank_callsS x0 x1 x2 x3 x4 x5 x6 x7 x8 x9 x10 x11)) (hp : pre_callsS x0 x1 x2 x3 x4 x5 x6 x7 x8 x9 x10 x11) : E_callsS x0 x1 x2 x3 x4 x5 x6 x7 x8 x9 x10 x11 := by
 obtain ⟨_,_,ha,_,hq,rfl,rfl⟩ := w_callsS x0 x1 x2 x3 x4 x5 x6 x7 x8 x9 x10 x11 (fun r H'=>∃ x12,post_callsS x0 x1 x2 x3 x4 x5 x6 x7 x8 x9 x10 x11 x12 ∧ r = (bv x12) ∧ H' = []) (by
  obtain ⟨⟨_,_,_,_⟩,_⟩ := hp
  apply bS <;> intro _
  ·exact ⟨_,zl2x2,rfl,rfl⟩
  refine ⟨k_callsS_0 ih_callsS (by (try dsimp only); refine ⟨tP,tP,tP,tP,tP,?_⟩; first | exact callL_nil | exact callL_next (by omega) (by omega) tA tA tA tA),fun e14=>?_,fun _ e16=>?_⟩
  ·have e14_0 := e14
   unfold out_callsS_0_0 at e14_0
   exact ⟨_,zl2x2,rfl,rfl⟩
  have e16_0 := e16
  unfold out_callsS_0_1 at e16_0
  exact ⟨_,zl2x2,rfl,rfl⟩)
 exact ⟨_,hq,ha⟩
theorem r_callsS : ∀ b,IH_callsS b
 | 0=>fun hr _=>absurd hr (Nat.not_lt_zero _)
 | b + 1=>fun hr hp=>i_callsS (fun hr' hp'=>r_callsS b (by omega) hp') hp
theorem c_callsS {x0 x1 x2 x3 x4 x5 x6 x7 x8 x9 x10 x11} (hp : pre_callsS x0 x1 x2 x3 x4 x5 x6 x7 x8 x9 x10 x11) : E_callsS x0 x1 x2 x3 x4 x5 x6 x7 x8 x9 x10 x11 := r_callsS (rank_callsS x0 x1 x2 x3 x4 x5 x6 x7 x8 x9 x10 x11 + 1) (Nat.lt_succ_self _) hp
end
end Go.Proofs.Ytcjcdammcmjbnaa.U
