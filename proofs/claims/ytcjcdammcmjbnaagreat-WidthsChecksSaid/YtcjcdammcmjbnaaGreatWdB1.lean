/- Blocks: walks of the program's functions, each told by what is asked and what comes back; they hold as they stand. -/
import Derived.Test.YtcjcdammcmjbnaaGreatWidG
namespace Go.Proofs.YtcjcdammcmjbnaaGreat.U
open Go Go.Vai
set_option linter.unusedVariables false
set_option linter.unusedSimpArgs false
set_option maxRecDepth 100000
set_option maxHeartbeats 8000000
attribute [local irreducible] IntKind.wrap Rs Is Bs Ws Ts Ns Nf kindOf shapeN nszL
noncomputable section
theorem zw1x0 {p : Prop} (h : p := by refine Eq.trans ?_ accV_nd.symm; first | exact accM tA tA | exact accR (.inl tA) tA | exact accR (.inr tA) tA) : p := h
theorem zw1x1 {p : Prop} (h : p := by (try dsimp only); refine ⟨tP,tP,tP,tP,tP,tP,tP,tP,?_⟩; first | exact grpL_nil | exact grpL_next tA (by omega) (by omega) tA tA tA) : p := h
theorem zw1x2 {p : Prop} (h : p := by first | exact ⟨fun _=>⟨⟨tA,tA,tA,tA⟩,Nat.le_refl _,grpR_0 tA⟩,fun h=>by cases h⟩ | exact ⟨fun _=>⟨⟨tA,tA,tA,tA⟩,by omega,grpR_cap tA tA tA tA⟩,fun h=>by cases h⟩ | exact ⟨fun _=>⟨⟨tA,tA,tA,tA⟩,by omega,grpR_kids tA (by omega) tA⟩,fun h=>by cases h⟩ | exact ⟨fun h=>(by cases h),fun _=>grpR_kids tA (by omega) tA⟩) : p := h
theorem zw1x3 {p : Prop} (h : p := by have hb := hp_0.bd; first | exact repE hp_0.fx (by omega) (by omega) (by omega) | exact repE hp_0.fy (by omega) (by omega) (by omega)) : p := h
theorem zw1x4 {p : Prop} (h : p := by have hb := hp_0.bd; have hg := repG tA hp_0.fx (by omega) hp_1 hp_2; first | exact ⟨hg.1,c0.1⟩ | exact ⟨hg.1,cNone.1⟩ | exact ⟨hg.1,(repG tA hp_0.fy (by omega) (by omega) hp_4).1⟩) : p := h
theorem zw1x5 {p : Prop} (h : p := by have hb := hp_0.bd; first | exact repWE tA hp_0 hp_1 hp_2 hp_5 tA (by rw [c0.2,if_pos (Or.inl (show x8 = 0 from by assumption))]) | (have e := eq_yes hp_0.fy c0.1 tA; rw [c0.2] at e; exact repWE tA hp_0 hp_1 hp_2 hp_5 tA (by rw [c0.2,if_pos (Or.inr e)])) | (have e := eq_no hp_0.fy c0.1 tA; rw [c0.2] at e; have eo : ¬ (x8 = 0 ∨ toI x1 = 0) := (by omega); first | exact repWE tA hp_0 hp_1 hp_2 hp_5 tA (by rw [cNone.2,if_neg eo,if_pos (show x8 < 0 from by assumption)]) | exact repWE tA hp_0 hp_1 hp_2 hp_5 tA (by rw [(repG tA hp_0.fy (by omega) (by omega) hp_4).2,if_neg eo,if_neg (show ¬ x8 < 0 from by assumption)]))) : p := h
theorem zw1x6 {p : Prop} (h : p := by first | exact ⟨_,f2iR_val hp_0.fx⟩ | exact ⟨_,f2iR_val hp_0.fy⟩) : p := h
theorem zw1x7 {p : Prop} (h : p := by first | exact ⟨WE.wo tA,WE.wo tA⟩ | exact tP) : p := h
theorem zw1x8 {p : Prop} (h : p := by first | exact wn_c12 tA | exact wn_c13 tA (by simp only [List.length_drop,List.length_take]; omega) tA tA | exact wn_c13n tA (by simp only [List.length_drop,List.length_take]; omega) tA | exact wn_c1 tA tA tA tA tA | exact wn_cE tA tA tA tA) : p := h
theorem zw1x9 {p : Prop} (h : p := by first | exact ⟨WE.wo tA,WE.wo WE.zero⟩ | (obtain ⟨d1,d2,d3,d4⟩ := dropped (show Ns K from by assumption); have hs := (show shapeN _ _ _ _ from by assumption); rw [shapeN_eq] at hs; refine ⟨d1,by omega,by omega,d3,?_⟩; exact tP) | (have hs := (show shapeN _ _ _ _ from by assumption); rw [shapeN_eq] at hs; refine ⟨tA,by omega,tA,tA,?_⟩; exact tP)) : p := h
theorem zw1x10 {p : Prop} (h : p := by first | exact ⟨c0.1,cNone.1⟩ | exact tP) : p := h
theorem zw1x11 {p : Prop} (h : p := by (try unfold rank_nodeT); (try unfold rank_nodeT); (try have := (dropped (show Ns _ from by assumption)).2.1); exact tI) : p := h
theorem zw1x12 {p : Prop} (h : p := by first | exact ⟨c0.1,cNone.1⟩ | exact ⟨c1.1,c1.1⟩ | exact ⟨WE.wo tA,WE.wo tA⟩ | (have hs := (show shapeN k n m K from by assumption); rw [shapeN_eq] at hs; first | exact ⟨WE.wo tA,by omega,by omega,by omega,by omega,by omega⟩ | (refine ⟨tA,by omega,tA,tA,?_⟩; exact tP)) | exact tP) : p := h
theorem zw1x13 {p : Prop} (h : p := by first | exact wn_a tA tA tA | exact wn_2 tA tA tA tA | exact wn_7 tA tA tA tA | exact wn_12 tA tA tA tA | exact wn_13 tA tA (.inl tA) tA | exact wn_13 tA tA (.inr tA) tA | exact wn_14 tA tA (.inl tA) tA tA | exact wn_14 tA tA (.inr tA) tA tA | exact wn_19 tA tA tA tA | exact wn_20 tA tA tA tA tA tA | exact wn_8 tA tA tA tA | exact wn_E tA tA tA tA tA tA tA tA tA tA tA tA) : p := h
theorem zw1x14 {p : Prop} (h : p := by (try unfold rank_nodeW); (try unfold rank_nodeW); (try have := (dropped (show Ns _ from by assumption)).2.1); exact tI) : p := h
abbrev E_IXW (l : List AV) : Prop := ∃ x0,post_IXW l x0 ∧ A 86 [(.sl 12 l),(.fn 34 [])] [] (iv x0) []
abbrev j_IXW (nn : Nat) (l : List AV) (kK : Int → HC) : HC := ⟨.ev nn (.ask (eI fun x0=>.done (.res (iv x0) [] (post_IXW l x0)) ((kK x0).h))),E_IXW l ∧ (∀ x0,post_IXW l x0 → (kK x0).p)⟩
def IH_IXW (b : Nat) : Prop := ∀ {l : List AV},rank_IXW (l) < b → pre_IXW (l) → E_IXW (l)
theorem IH_IXW_le (b c : Nat) (h : b ≤ c) (k : IH_IXW c) : IH_IXW b := fun hr hp=>k (Nat.lt_of_lt_of_le hr h) hp
abbrev E_CFW (l : List AV) : Prop := ∃ x0,post_CFW l x0 ∧ A 61 [(.sl 12 l),(.fn 34 [])] [] (bv x0) []
abbrev j_CFW (nn : Nat) (l : List AV) (kK : Bool → HC) : HC := ⟨.ev nn (.ask (eB fun x0=>.done (.res (bv x0) [] (post_CFW l x0)) ((kK x0).h))),E_CFW l ∧ (∀ x0,post_CFW l x0 → (kK x0).p)⟩
def IH_CFW (b : Nat) : Prop := ∀ {l : List AV},rank_CFW (l) < b → pre_CFW (l) → E_CFW (l)
theorem IH_CFW_le (b c : Nat) (h : b ≤ c) (k : IH_CFW c) : IH_CFW b := fun hr hp=>k (Nat.lt_of_lt_of_le hr h) hp
abbrev E_accW (k a c : Int) (s : List AV) (g : Bool) (n m mode : Int) (nm : ByteArray) (on off : Int) (K : List AV) : Prop := ∃ x0,post_accW k a c s g n m mode nm on off K x0 ∧ A 34 [(.agg (nR k a c s g n m mode nm on off K))] [] (bv x0) []
abbrev j_accW (nn : Nat) (k a c : Int) (s : List AV) (g : Bool) (n m mode : Int) (nm : ByteArray) (on off : Int) (K : List AV) (kK : Bool → HC) : HC := ⟨.ev nn (.ask (eB fun x0=>.done (.res (bv x0) [] (post_accW k a c s g n m mode nm on off K x0)) ((kK x0).h))),E_accW k a c s g n m mode nm on off K ∧ (∀ x0,post_accW k a c s g n m mode nm on off K x0 → (kK x0).p)⟩
def IH_accW (b : Nat) : Prop := ∀ {k : Int} {a : Int} {c : Int} {s : List AV} {g : Bool} {n : Int} {m : Int} {mode : Int} {nm : ByteArray} {on : Int} {off : Int} {K : List AV},rank_accW (k) (a) (c) (s) (g) (n) (m) (mode) (nm) (on) (off) (K) < b → pre_accW (k) (a) (c) (s) (g) (n) (m) (mode) (nm) (on) (off) (K) → E_accW (k) (a) (c) (s) (g) (n) (m) (mode) (nm) (on) (off) (K)
theorem IH_accW_le (b c : Nat) (h : b ≤ c) (k : IH_accW c) : IH_accW b := fun hr hp=>k (Nat.lt_of_lt_of_le hr h) hp
def s_IXW_0 (x0 : List AV) (x1 x2 : Int) : St := ⟨[],[(0,(.sl 12 x0)),(1,(.fn 34 [])),(7,(iv x1)),(8,(iv x2))],[],0⟩
def x_IXW_0_0 (x0 : List AV) (x1 y2 : Int) : St := ⟨[],[(4,(iv y2))],[],0⟩
def x_IXW_0_1 (x0 : List AV) (x1 y1 : Int) : St := ⟨[],[(0,(.sl 12 x0)),(1,(.fn 34 [])),(7,(iv x1)),(8,(iv y1)),(9,(bv false))],[],0⟩
abbrev E_IXW_0 (x0 : List AV) (x1 x2o : Int) : Prop := ((∃ y3,out_IXW_0_0 x0 x1 x2o y3 ∧ R 86 0 (s_IXW_0 x0 x1 x2o) (Ex.ret,x_IXW_0_0 x0 x1 y3)) ∨ (∃ y3,out_IXW_0_1 x0 x1 x2o y3 ∧ R 86 0 (s_IXW_0 x0 x1 x2o) ((.exit 0),x_IXW_0_1 x0 x1 y3)))
abbrev j_IXW_0 (nn : Nat) (x0 : List AV) (x1 x2o : Int) (f0 : Int → HC) (f1 : Int → HC) : HC := ⟨.ev nn (.ask (.or (eI fun y3=>.done (.exit Ex.ret (x_IXW_0_0 x0 x1 y3) (out_IXW_0_0 x0 x1 x2o y3)) (f0 y3).h) (eI fun y3=>.done (.exit (.exit 0) (x_IXW_0_1 x0 x1 y3) (out_IXW_0_1 x0 x1 x2o y3)) (f1 y3).h))),E_IXW_0 x0 x1 x2o ∧ ((∀ y3,out_IXW_0_0 x0 x1 x2o y3 → (f0 y3).p) ∧ (∀ y3,out_IXW_0_1 x0 x1 x2o y3 → (f1 y3).p))⟩
abbrev t_IXW_0 (x0 : List AV) (x1 x2 : Int) (Q : Ex → St → Prop) : HC := (dd 1 ((decide (x2 < x1))) (oo 0 ((decide (0 ≤ x2))) (pN 1 ((x0[x2.toNat]?)) fun x3 x4 x5 x6 x7 x8 x9 x10 x11 x12 x13 x14=>(oo 0 ((npL [(.agg (nR x3 x4 x5 x6 x7 x8 x9 x10 x11 x12 x13 x14))])) (j_accW 0 x3 x4 x5 x6 x7 x8 x9 x10 x11 x12 x13 x14 fun x15=>(dd 0 x15 (zz 0 (Q Ex.ret (x_IXW_0_0 x0 x1 x2))) (zz 1 (Q .norm (s_IXW_0 x0 x1 (w6 (x2 + 1)))))))))) (zz 0 (Q (.exit 0) (x_IXW_0_1 x0 x1 x2))))
theorem l_IXW_0 (x0 x1 x2) (Q : Ex → St → Prop) (h : (t_IXW_0 x0 x1 x2 Q).p) : ∃ e s',L 86 0 (s_IXW_0 x0 x1 x2) (e,s') ∧ Q e s' :=
 Leads.wq (t_IXW_0 x0 x1 x2 Q).h (by kernel_rfl) h
theorem k_IXW_0 {B : Nat} (ih_accW : IH_accW B) {x0 x1 x2o} (hi : inv_IXW_0 B x0 x1 x2o x2o) : E_IXW_0 x0 x1 x2o := by
 obtain ⟨e,s',hr,hq⟩ := Rounds.byInv (st := fun (w : Int)=>s_IXW_0 x0 x1 w) (Inv := fun w=>inv_IXW_0 B x0 x1 x2o w) (μ := fun w=>mu_IXW_0 x0 x1 w) (Q := fun e s'=>((∃ y3,out_IXW_0_0 x0 x1 x2o y3 ∧ e = Ex.ret ∧ s' = x_IXW_0_0 x0 x1 y3) ∨ (∃ y3,out_IXW_0_1 x0 x1 x2o y3 ∧ e = (.exit 0) ∧ s' = x_IXW_0_1 x0 x1 y3))) (by
  intro x2 hi
  have hi : inv_IXW_0 B x0 x1 x2o x2 := hi
  refine l_IXW_0 x0 x1 x2 _ ?_
  obtain ⟨_,_,_,_,_,_,_,_⟩ := hi
  apply bS <;> intro _
  ·refine ⟨tD,tG,fun _ _ _ _ _ _ _ _ _ _ _ _ g17=>?_⟩
   first | (have q := elN tA g17; obtain ⟨_,_,_,_,_,_,_⟩ := q) | (have q := elF tA g17; obtain ⟨_,_,_,_,_⟩ := q)
   refine ⟨tN,ih_accW (by (try unfold rank_accW); exact tI) tP,fun _ p19=>?_⟩
   unfold post_accW at p19
   apply bS <;> intro _
   ·exact .inr ⟨by simp,.inl ⟨_,by first | exact ⟨by omega,accL_hit tA ((show _ = accV _ from by assumption).symm.trans (by assumption))⟩ | exact accL_end tA (by omega),rfl,rfl⟩⟩
   try have := tW (x2 + 1)
   exact .inl ⟨rfl,(w6 (x2 + 1)),rfl,by (try dsimp only); refine ⟨tP,tP,tP,tP,tP,tP,tP,?_⟩; first | exact accL_nil | exact accL_next (by omega) (by omega) tA tA tA tA,by unfold mu_IXW_0; exact tI⟩
  exact .inr ⟨by simp,.inr (⟨_,by first | exact ⟨by omega,accL_hit tA ((show _ = accV _ from by assumption).symm.trans (by assumption))⟩ | exact accL_end tA (by omega),rfl,rfl⟩)⟩) x2o hi
 rcases hq with ⟨_,ho,rfl,rfl⟩ | ⟨_,ho,rfl,rfl⟩
 
 ·exact .inl ⟨_,ho,hr⟩
 ·exact .inr (⟨_,ho,hr⟩)
abbrev t_IXW (l : List AV) (Q : AV → HH → Prop) : HC := (j_IXW_0 0 l ((↑l.length : Int)) 0 (fun x0=>(qq 1 Q (iv x0))) (fun x1=>(qq 1 Q (iv (-1)))))
theorem w_IXW (l) (Q : AV → HH → Prop) (h : (t_IXW l Q).p) : ∃ r H',A 86 [(.sl 12 l),(.fn 34 [])] [] r H' ∧ Q r H' :=
 Ans.wq rfl (t_IXW l Q).h (by kernel_rfl) h
theorem i_IXW {l} (ih_accW : IH_accW (rank_IXW l)) (hp : pre_IXW l) : E_IXW l := by
 obtain ⟨_,_,ha,_,hq,rfl,rfl⟩ := w_IXW l (fun r H'=>∃ x0,post_IXW (l) x0 ∧ r = (iv x0) ∧ H' = []) (by
  obtain ⟨_,_,_⟩ := hp
  refine ⟨k_IXW_0 ih_accW (by (try dsimp only); refine ⟨tP,tP,tP,tP,tP,tP,tP,?_⟩; first | exact accL_nil | exact accL_next (by omega) (by omega) tA tA tA tA),fun _ e2=>?_,fun _ e4=>?_⟩
  ·obtain ⟨e2_0,e2_1⟩ := e2
   exact ⟨_,by show decide (_ ≥ (0 : Int)) = accL l; first | (rw [show accL l = true from by assumption]; exact decide_eq_true (by omega)) | (rw [show accL l = false from by assumption]; rfl),rfl,rfl⟩
  have e4_0 := e4
  unfold out_IXW_0_1 at e4_0
  exact ⟨_,by show decide (_ ≥ (0 : Int)) = accL l; first | (rw [show accL l = true from by assumption]; exact decide_eq_true (by omega)) | (rw [show accL l = false from by assumption]; rfl),rfl,rfl⟩)
 exact ⟨_,hq,ha⟩
abbrev t_CFW (l : List AV) (Q : AV → HH → Prop) : HC := (oo 0 ((npL [(.sl 12 l),(.fn 34 [])])) (j_IXW 0 l fun x0=>(qq 2 Q (bv (decide (x0 ≥ 0))))))
theorem w_CFW (l) (Q : AV → HH → Prop) (h : (t_CFW l Q).p) : ∃ r H',A 61 [(.sl 12 l),(.fn 34 [])] [] r H' ∧ Q r H' :=
 Ans.wq rfl (t_CFW l Q).h (by kernel_rfl) h
theorem i_CFW {l} (ih_IXW : IH_IXW (rank_CFW l)) (hp : pre_CFW l) : E_CFW l := by
 obtain ⟨_,_,ha,_,hq,rfl,rfl⟩ := w_CFW l (fun r H'=>∃ x0,post_CFW (l) x0 ∧ r = (bv x0) ∧ H' = []) (by
  obtain ⟨_,_,_⟩ := hp
  refine ⟨tN,ih_IXW (by (try unfold rank_IXW); (try unfold rank_CFW); exact tI) tP,fun _ p2=>?_⟩
  unfold post_IXW at p2
  exact ⟨_,by assumption,rfl,rfl⟩)
 exact ⟨_,hq,ha⟩
abbrev t_accW (x0 x1 x2 : Int) (x3 : List AV) (x4 : Bool) (x5 x6 x7 : Int) (x8 : ByteArray) (x9 x10 : Int) (x11 : List AV) (Q : AV → HH → Prop) : HC := (dd 1 ((x0 == 9)) (dd 4 ((x5 == 1)) (qq 4 Q (bv true)) (oo 2 ((npL [(.sl 12 x11),(.fn 34 [])])) (j_CFW 0 x11 fun x12=>(qq 2 Q (bv x12))))) (oo 6 ((npL [(.sl 12 x11),(.fn 34 [])])) (j_CFW 0 x11 fun x13=>(qq 2 Q (bv x13)))))
theorem w_accW (x0 x1 x2 x3 x4 x5 x6 x7 x8 x9 x10 x11) (Q : AV → HH → Prop) (h : (t_accW x0 x1 x2 x3 x4 x5 x6 x7 x8 x9 x10 x11 Q).p) : ∃ r H',A 34 [(.agg (nR x0 x1 x2 x3 x4 x5 x6 x7 x8 x9 x10 x11))] [] r H' ∧ Q r H' :=
 Ans.wq rfl (t_accW x0 x1 x2 x3 x4 x5 x6 x7 x8 x9 x10 x11 Q).h (by kernel_rfl) h
theorem i_accW {x0 x1 x2 x3 x4 x5 x6 x7 x8 x9 x10 x11} (ih_CFW : IH_CFW (rank_accW x0 x1 x2 x3 x4 x5 x6 x7 x8 x9 x10 x11)) (hp : pre_accW x0 x1 x2 x3 x4 x5 x6 x7 x8 x9 x10 x11) : E_accW x0 x1 x2 x3 x4 x5 x6 x7 x8 x9 x10 x11 := by
 obtain ⟨_,_,ha,_,hq,rfl,rfl⟩ := w_accW x0 x1 x2 x3 x4 x5 x6 x7 x8 x9 x10 x11 (fun r H'=>∃ x12,post_accW x0 x1 x2 x3 x4 x5 x6 x7 x8 x9 x10 x11 x12 ∧ r = (bv x12) ∧ H' = []) (by
  obtain ⟨⟨_,_,_,_⟩,_⟩ := hp
  apply bS <;> intro _
  ·apply bS <;> intro _
   ·exact ⟨_,zw1x0,rfl,rfl⟩
   refine ⟨tN,ih_CFW (by (try unfold rank_CFW); (try unfold rank_accW); exact tI) tP,fun _ p16=>?_⟩
   unfold post_CFW at p16
   exact ⟨_,zw1x0,rfl,rfl⟩
  refine ⟨tN,ih_CFW (by (try unfold rank_CFW); (try unfold rank_accW); exact tI) tP,fun _ p18=>?_⟩
  unfold post_CFW at p18
  exact ⟨_,zw1x0,rfl,rfl⟩)
 exact ⟨_,hq,ha⟩
theorem acc_all : ∀ b,IH_accW b ∧ IH_CFW b ∧ IH_IXW b
 | 0=>⟨fun hr _=>absurd hr (Nat.not_lt_zero _),fun hr _=>absurd hr (Nat.not_lt_zero _),fun hr _=>absurd hr (Nat.not_lt_zero _)⟩
 | b + 1=>by
  obtain ⟨h0,h1,h2⟩ := acc_all b
  exact ⟨fun hr hp=>i_accW (IH_CFW_le _ _ (Nat.le_of_lt_succ hr) h1) hp,fun hr hp=>i_CFW (IH_IXW_le _ _ (Nat.le_of_lt_succ hr) h2) hp,fun hr hp=>i_IXW (IH_accW_le _ _ (Nat.le_of_lt_succ hr) h0) hp⟩
theorem c_accW {k a c s g n m mode nm on off K} (hp : pre_accW k a c s g n m mode nm on off K) : E_accW k a c s g n m mode nm on off K := (acc_all _).1 (Nat.lt_succ_self _) hp
abbrev E_groupW (x0 x1 x2 : Int) (x3 : List AV) (x4 : Bool) (x5 x6 x7 : Int) (x8 : ByteArray) (x9 x10 : Int) (x11 : List AV) (x12 : Int) : Prop := ∃ x13 x14 x15 x16 x17 x18 x19 x20 x21 x22 x23 x24 x25,post_groupW x0 x1 x2 x3 x4 x5 x6 x7 x8 x9 x10 x11 x12 x13 x14 x15 x16 x17 x18 x19 x20 x21 x22 x23 x24 x25 ∧ A 63 [(.agg (nR x0 x1 x2 x3 x4 x5 x6 x7 x8 x9 x10 x11)),(iv x12)] [] (.tup [(.agg (nR x13 x14 x15 x16 x17 x18 x19 x20 x21 x22 x23 x24)),(bv x25)]) []
abbrev j_groupW (nn : Nat) (x0 x1 x2 : Int) (x3 : List AV) (x4 : Bool) (x5 x6 x7 : Int) (x8 : ByteArray) (x9 x10 : Int) (x11 : List AV) (x12 : Int) (kK : Int → Int → Int → List AV → Bool → Int → Int → Int → ByteArray → Int → Int → List AV → Bool → HC) : HC := ⟨.ev nn (.ask (eN fun x13 x14 x15 x16 x17 x18 x19 x20 x21 x22 x23 x24=>eB fun x25=>.done (.res (.tup [(.agg (nR x13 x14 x15 x16 x17 x18 x19 x20 x21 x22 x23 x24)),(bv x25)]) [] (post_groupW x0 x1 x2 x3 x4 x5 x6 x7 x8 x9 x10 x11 x12 x13 x14 x15 x16 x17 x18 x19 x20 x21 x22 x23 x24 x25)) ((kK x13 x14 x15 x16 x17 x18 x19 x20 x21 x22 x23 x24 x25).h))),E_groupW x0 x1 x2 x3 x4 x5 x6 x7 x8 x9 x10 x11 x12 ∧ (∀ x13 x14 x15 x16 x17 x18 x19 x20 x21 x22 x23 x24 x25,post_groupW x0 x1 x2 x3 x4 x5 x6 x7 x8 x9 x10 x11 x12 x13 x14 x15 x16 x17 x18 x19 x20 x21 x22 x23 x24 x25 → (kK x13 x14 x15 x16 x17 x18 x19 x20 x21 x22 x23 x24 x25).p)⟩
def IH_groupW (b : Nat) : Prop := ∀ {x0 : Int} {x1 : Int} {x2 : Int} {x3 : List AV} {x4 : Bool} {x5 : Int} {x6 : Int} {x7 : Int} {x8 : ByteArray} {x9 : Int} {x10 : Int} {x11 : List AV} {x12 : Int},rank_groupW x0 x1 x2 x3 x4 x5 x6 x7 x8 x9 x10 x11 x12 < b → pre_groupW x0 x1 x2 x3 x4 x5 x6 x7 x8 x9 x10 x11 x12 → E_groupW x0 x1 x2 x3 x4 x5 x6 x7 x8 x9 x10 x11 x12
def s_groupW_0 (x0 : Int) (x1 : List AV) (x2 x3 : Int) : St := ⟨[],[(1,(iv x0)),(4,(.box [(iv 0),(iv 0),(iv 0),(.sl 2 []),(bv false),(iv 0),(iv 0),(iv 0),(sv (bs [])),(iv 0),(iv 0),(.sl 12 [])])),(27,(.sl 12 x1)),(28,(iv x2)),(29,(iv x3))],[],0⟩
def x_groupW_0_0 (x0 : Int) (x1 : List AV) (x2 y3 y4 y5 : Int) (y6 : List AV) (y7 : Bool) (y8 y9 y10 : Int) (y11 : ByteArray) (y12 y13 : Int) (y14 : List AV) : St := ⟨[],[(4,(.box [(iv y3),(iv y4),(iv y5),(.sl 2 y6),(bv y7),(iv y8),(iv y9),(iv y10),(sv y11),(iv y12),(iv y13),(.sl 12 y14)])),(5,(bv true))],[],0⟩
def x_groupW_0_1 (x0 : Int) (x1 : List AV) (x2 y3 : Int) : St := ⟨[],[(1,(iv x0)),(4,(.box [(iv 0),(iv 0),(iv 0),(.sl 2 []),(bv false),(iv 0),(iv 0),(iv 0),(sv (bs [])),(iv 0),(iv 0),(.sl 12 [])])),(27,(.sl 12 x1)),(28,(iv x2)),(29,(iv y3)),(30,(bv false))],[],0⟩
abbrev E_groupW_0 (x0 : Int) (x1 : List AV) (x2 x3o : Int) : Prop := ((∃ y4 y5 y6 y7 y8 y9 y10 y11 y12 y13 y14 y15,out_groupW_0_0 x0 x1 x2 x3o y4 y5 y6 y7 y8 y9 y10 y11 y12 y13 y14 y15 ∧ R 63 0 (s_groupW_0 x0 x1 x2 x3o) (Ex.ret,x_groupW_0_0 x0 x1 x2 y4 y5 y6 y7 y8 y9 y10 y11 y12 y13 y14 y15)) ∨ (∃ y4,out_groupW_0_1 x0 x1 x2 x3o y4 ∧ R 63 0 (s_groupW_0 x0 x1 x2 x3o) ((.exit 0),x_groupW_0_1 x0 x1 x2 y4)))
abbrev j_groupW_0 (nn : Nat) (x0 : Int) (x1 : List AV) (x2 x3o : Int) (f0 : Int → Int → Int → List AV → Bool → Int → Int → Int → ByteArray → Int → Int → List AV → HC) (f1 : Int → HC) : HC := ⟨.ev nn (.ask (.or (eN fun y4 y5 y6 y7 y8 y9 y10 y11 y12 y13 y14 y15=>.done (.exit Ex.ret (x_groupW_0_0 x0 x1 x2 y4 y5 y6 y7 y8 y9 y10 y11 y12 y13 y14 y15) (out_groupW_0_0 x0 x1 x2 x3o y4 y5 y6 y7 y8 y9 y10 y11 y12 y13 y14 y15)) (f0 y4 y5 y6 y7 y8 y9 y10 y11 y12 y13 y14 y15).h) (eI fun y4=>.done (.exit (.exit 0) (x_groupW_0_1 x0 x1 x2 y4) (out_groupW_0_1 x0 x1 x2 x3o y4)) (f1 y4).h))),E_groupW_0 x0 x1 x2 x3o ∧ ((∀ y4 y5 y6 y7 y8 y9 y10 y11 y12 y13 y14 y15,out_groupW_0_0 x0 x1 x2 x3o y4 y5 y6 y7 y8 y9 y10 y11 y12 y13 y14 y15 → (f0 y4 y5 y6 y7 y8 y9 y10 y11 y12 y13 y14 y15).p) ∧ (∀ y4,out_groupW_0_1 x0 x1 x2 x3o y4 → (f1 y4).p))⟩
abbrev t_groupW_0 (x0 : Int) (x1 : List AV) (x2 x3 : Int) (Q : Ex → St → Prop) : HC := (dd 1 ((decide (x3 < x2))) (oo 0 ((decide (0 ≤ x3))) (pN 1 ((x1[x3.toNat]?)) fun x4 x5 x6 x7 x8 x9 x10 x11 x12 x13 x14 x15=>(oo 0 ((npL [(.agg (nR x4 x5 x6 x7 x8 x9 x10 x11 x12 x13 x14 x15)),(iv x0)])) (j_groupW 0 x4 x5 x6 x7 x8 x9 x10 x11 x12 x13 x14 x15 x0 fun x16 x17 x18 x19 x20 x21 x22 x23 x24 x25 x26 x27 x28=>(dd 0 x28 (zz 0 (Q Ex.ret (x_groupW_0_0 x0 x1 x2 x16 x17 x18 x19 x20 x21 x22 x23 x24 x25 x26 x27))) (zz 1 (Q .norm (s_groupW_0 x0 x1 x2 (w6 (x3 + 1)))))))))) (zz 0 (Q (.exit 0) (x_groupW_0_1 x0 x1 x2 x3))))
theorem l_groupW_0 (x0 x1 x2 x3) (Q : Ex → St → Prop) (h : (t_groupW_0 x0 x1 x2 x3 Q).p) : ∃ e s',L 63 0 (s_groupW_0 x0 x1 x2 x3) (e,s') ∧ Q e s' :=
 Leads.wq (t_groupW_0 x0 x1 x2 x3 Q).h (by kernel_rfl) h
theorem k_groupW_0 {B : Nat} (ih_groupW : IH_groupW B) {x0 x1 x2 x3o} (hi : inv_groupW_0 B x0 x1 x2 x3o x3o) : E_groupW_0 x0 x1 x2 x3o := by
 obtain ⟨e,s',hr,hq⟩ := Rounds.byInv (st := fun (w : Int)=>s_groupW_0 x0 x1 x2 w) (Inv := fun w=>inv_groupW_0 B x0 x1 x2 x3o w) (μ := fun w=>mu_groupW_0 x0 x1 x2 w) (Q := fun e s'=>((∃ y4 y5 y6 y7 y8 y9 y10 y11 y12 y13 y14 y15,out_groupW_0_0 x0 x1 x2 x3o y4 y5 y6 y7 y8 y9 y10 y11 y12 y13 y14 y15 ∧ e = Ex.ret ∧ s' = x_groupW_0_0 x0 x1 x2 y4 y5 y6 y7 y8 y9 y10 y11 y12 y13 y14 y15) ∨ (∃ y4,out_groupW_0_1 x0 x1 x2 x3o y4 ∧ e = (.exit 0) ∧ s' = x_groupW_0_1 x0 x1 x2 y4))) (by
  intro x3 hi
  have hi : inv_groupW_0 B x0 x1 x2 x3o x3 := hi
  refine l_groupW_0 x0 x1 x2 x3 _ ?_
  obtain ⟨_,_,_,_,_,_,_,_,_⟩ := hi
  apply bS <;> intro _
  ·refine ⟨tD,tG,fun _ _ _ _ _ _ _ _ _ _ _ _ g29=>?_⟩
   have edg162 := nsz_drop g29; first | (have eg29 := Ns.elem tA g29; have eng162 := nsz_get g29; obtain ⟨_,_,_,_⟩ := eg29.nw) | (have eg29 := Nf.elem tA g29; have eng162 := nsz_get g29; obtain ⟨_,_⟩ := eg29.nw)
   refine ⟨tN,ih_groupW (by (try unfold rank_groupW); exact tI) tP,fun _ _ _ _ _ _ _ _ _ _ _ _ _ p43=>?_⟩
   obtain ⟨p43_0,p43_1⟩ := p43
   apply bS <;> intro h44
   ·obtain ⟨⟨p43_0c_0,p43_0c_1,p43_0c_2,p43_0c_3⟩,p43_0c_4,p43_0c_5⟩ := p43_0 h44
    exact .inr ⟨by simp,.inl ⟨_,_,_,_,_,_,_,_,_,_,_,_,by first | exact ⟨⟨tA,tA,tA,tA⟩,by omega,grpL_is tA tA tA tA⟩ | exact grpL_end tA (by omega),rfl,rfl⟩⟩
   have p43_1c := p43_1 h44
   try have := tW (x3 + 1)
   exact .inl ⟨rfl,(w6 (x3 + 1)),rfl,zw1x1,by unfold mu_groupW_0; exact tI⟩
  exact .inr ⟨by simp,.inr (⟨_,by first | exact ⟨⟨tA,tA,tA,tA⟩,by omega,grpL_is tA tA tA tA⟩ | exact grpL_end tA (by omega),rfl,rfl⟩)⟩) x3o hi
 rcases hq with ⟨_,_,_,_,_,_,_,_,_,_,_,_,ho,rfl,rfl⟩ | ⟨_,ho,rfl,rfl⟩
 
 ·exact .inl ⟨_,_,_,_,_,_,_,_,_,_,_,_,ho,hr⟩
 ·exact .inr (⟨_,ho,hr⟩)
abbrev t_groupW (x0 x1 x2 : Int) (x3 : List AV) (x4 : Bool) (x5 x6 x7 : Int) (x8 : ByteArray) (x9 x10 : Int) (x11 : List AV) (x12 : Int) (Q : AV → HH → Prop) : HC := (dd 1 ((x12 == 0)) (qq 1 Q (.tup [(.agg (nR x0 x1 x2 x3 x4 x5 x6 x7 x8 x9 x10 x11)),(bv true)])) (dd 1 ((x0 == 14)) (dd 5 ((x5 == x12)) (pN 2 ((x11[0]?)) fun x13 x14 x15 x16 x17 x18 x19 x20 x21 x22 x23 x24=>(qq 1 Q (.tup [(.agg (nR x13 x14 x15 x16 x17 x18 x19 x20 x21 x22 x23 x24)),(bv true)]))) (j_groupW_0 0 x12 x11 ((↑x11.length : Int)) 0 (fun x25 x26 x27 x28 x29 x30 x31 x32 x33 x34 x35 x36=>(qq 1 Q (.tup [(.agg (nR x25 x26 x27 x28 x29 x30 x31 x32 x33 x34 x35 x36)),(bv true)]))) (fun x37=>(qq 1 Q (.tup [(.agg (nR 0 0 0 [] false 0 0 0 (bs []) 0 0 [])),(bv false)]))))) (j_groupW_0 5 x12 x11 ((↑x11.length : Int)) 0 (fun x38 x39 x40 x41 x42 x43 x44 x45 x46 x47 x48 x49=>(qq 1 Q (.tup [(.agg (nR x38 x39 x40 x41 x42 x43 x44 x45 x46 x47 x48 x49)),(bv true)]))) (fun x50=>(qq 1 Q (.tup [(.agg (nR 0 0 0 [] false 0 0 0 (bs []) 0 0 [])),(bv false)]))))))
theorem w_groupW (x0 x1 x2 x3 x4 x5 x6 x7 x8 x9 x10 x11 x12) (Q : AV → HH → Prop) (h : (t_groupW x0 x1 x2 x3 x4 x5 x6 x7 x8 x9 x10 x11 x12 Q).p) : ∃ r H',A 63 [(.agg (nR x0 x1 x2 x3 x4 x5 x6 x7 x8 x9 x10 x11)),(iv x12)] [] r H' ∧ Q r H' :=
 Ans.wq rfl (t_groupW x0 x1 x2 x3 x4 x5 x6 x7 x8 x9 x10 x11 x12 Q).h (by kernel_rfl) h
theorem i_groupW {x0 x1 x2 x3 x4 x5 x6 x7 x8 x9 x10 x11 x12} (ih_groupW : IH_groupW (rank_groupW x0 x1 x2 x3 x4 x5 x6 x7 x8 x9 x10 x11 x12)) (hp : pre_groupW x0 x1 x2 x3 x4 x5 x6 x7 x8 x9 x10 x11 x12) : E_groupW x0 x1 x2 x3 x4 x5 x6 x7 x8 x9 x10 x11 x12 := by
 obtain ⟨_,_,ha,_,_,_,_,_,_,_,_,_,_,_,_,_,hq,rfl,rfl⟩ := w_groupW x0 x1 x2 x3 x4 x5 x6 x7 x8 x9 x10 x11 x12 (fun r H'=>∃ x13 x14 x15 x16 x17 x18 x19 x20 x21 x22 x23 x24 x25,post_groupW x0 x1 x2 x3 x4 x5 x6 x7 x8 x9 x10 x11 x12 x13 x14 x15 x16 x17 x18 x19 x20 x21 x22 x23 x24 x25 ∧ r = (.tup [(.agg [(iv x13),(iv x14),(iv x15),(.sl 2 x16),(bv x17),(iv x18),(iv x19),(iv x20),(sv x21),(iv x22),(iv x23),(.sl 12 x24)]),(bv x25)]) ∧ H' = []) (by
  obtain ⟨⟨_,_,_,_⟩,_⟩ := hp
  apply bS <;> intro _
  ·exact ⟨_,_,_,_,_,_,_,_,_,_,_,_,_,zw1x2,rfl,rfl⟩
  apply bS <;> intro _
  ·apply bS <;> intro _
   ·refine ⟨tG,fun _ _ _ _ _ _ _ _ _ _ _ _ g41=>?_⟩
    first | (have q := elN tA g41; obtain ⟨_,_,_,_,_,_,_⟩ := q) | (have q := elF tA g41; obtain ⟨_,_,_,_,_⟩ := q)
    exact ⟨_,_,_,_,_,_,_,_,_,_,_,_,_,zw1x2,rfl,rfl⟩
   refine ⟨k_groupW_0 ih_groupW zw1x1,fun _ _ _ _ _ _ _ _ _ _ _ _ e54=>?_,fun _ e56=>?_⟩
   ·obtain ⟨⟨e54_0,e54_1,e54_2,e54_3⟩,e54_4,e54_5⟩ := e54
    exact ⟨_,_,_,_,_,_,_,_,_,_,_,_,_,zw1x2,rfl,rfl⟩
   have e56_0 := e56
   unfold out_groupW_0_1 at e56_0
   exact ⟨0,0,0,_,_,0,0,0,_,0,0,_,_,zw1x2,rfl,rfl⟩
  refine ⟨k_groupW_0 ih_groupW zw1x1,fun _ _ _ _ _ _ _ _ _ _ _ _ e69=>?_,fun _ e71=>?_⟩
  ·obtain ⟨⟨e69_0,e69_1,e69_2,e69_3⟩,e69_4,e69_5⟩ := e69
   exact ⟨_,_,_,_,_,_,_,_,_,_,_,_,_,zw1x2,rfl,rfl⟩
  have e71_0 := e71
  unfold out_groupW_0_1 at e71_0
  exact ⟨0,0,0,_,_,0,0,0,_,0,0,_,_,zw1x2,rfl,rfl⟩)
 exact ⟨_,_,_,_,_,_,_,_,_,_,_,_,_,hq,ha⟩
theorem r_groupW : ∀ b,IH_groupW b
 | 0=>fun hr _=>absurd hr (Nat.not_lt_zero _)
 | b + 1=>fun hr hp=>i_groupW (fun hr' hp'=>r_groupW b (by omega) hp') hp
theorem c_groupW {x0 x1 x2 x3 x4 x5 x6 x7 x8 x9 x10 x11 x12} (hp : pre_groupW x0 x1 x2 x3 x4 x5 x6 x7 x8 x9 x10 x11 x12) : E_groupW x0 x1 x2 x3 x4 x5 x6 x7 x8 x9 x10 x11 x12 := r_groupW (rank_groupW x0 x1 x2 x3 x4 x5 x6 x7 x8 x9 x10 x11 x12 + 1) (Nat.lt_succ_self _) hp
abbrev E_of (x0 x1 : Nat) : Prop := ∃ x2 x3,post_of x0 x1 x2 x3 ∧ A 35 [(.sc (.float Go.FloatKind.f64 x0)),(.sc (.float Go.FloatKind.f64 x1))] [] (.sc (.complex Go.FloatKind.f64 x2 x3)) []
abbrev j_of (nn x0 x1 : Nat) (kK : Nat → Nat → HC) : HC := ⟨.ev nn (.ask (.ex Nat fun x2=>.ex Nat fun x3=>.done (.res (.sc (.complex Go.FloatKind.f64 x2 x3)) [] (post_of x0 x1 x2 x3)) ((kK x2 x3).h))),E_of x0 x1 ∧ (∀ x2 x3,post_of x0 x1 x2 x3 → (kK x2 x3).p)⟩
abbrev t_of (x0 x1 : Nat) (Q : AV → HH → Prop) : HC := (dd 1 ((Ieee.double.order x1 4652007308841189376 == some Ordering.gt)) (pW1 0 ((minR x0 4652007308841189376)) (fun (x2 : Nat)=>(.float Go.FloatKind.f64 x2)) fun x2=>(qq 2 Q (.sc (.complex Go.FloatKind.f64 x2 4787326403894837248)))) (pW1 0 ((minR x0 4652007308841189376)) (fun (x3 : Nat)=>(.float Go.FloatKind.f64 x3)) fun x3=>(qq 2 Q (.sc (.complex Go.FloatKind.f64 x3 x1)))))
theorem w_of (x0 x1) (Q : AV → HH → Prop) (h : (t_of x0 x1 Q).p) : ∃ r H',A 35 [(.sc (.float Go.FloatKind.f64 x0)),(.sc (.float Go.FloatKind.f64 x1))] [] r H' ∧ Q r H' :=
 Ans.wq rfl (t_of x0 x1 Q).h (by kernel_rfl) h
theorem c_of {x0 x1} (hp : pre_of x0 x1) : E_of x0 x1 := by
 obtain ⟨_,_,ha,_,_,hq,rfl,rfl⟩ := w_of x0 x1 (fun r H'=>∃ x2 x3,post_of x0 x1 x2 x3 ∧ r = (.sc (.complex Go.FloatKind.f64 x2 x3)) ∧ H' = []) (by
  obtain ⟨hp_0,hp_1⟩ := hp
  apply bS <;> intro _
  ·refine ⟨by exact minE (x := x0) (c := 4652007308841189376) rfl hp_0 c1000.1,fun _ _=>?_⟩
   exact ⟨_,_,by first | (have m := minG (x := x0) (c := 4652007308841189376) tA rfl hp_0 c1000.1; have h := gt_yes hp_1 c1000.1 tA; rw [c1000.2] at m h; exact of_mk m.1 cNone.1 m.2 (by rw [cNone.2,if_pos h])) | (have m := minG (x := x0) (c := 4652007308841189376) tA rfl hp_0 c1000.1; have h := gt_no hp_1 c1000.1 tA; rw [c1000.2] at m h; exact of_mk m.1 hp_1 m.2 (by rw [if_neg h])),rfl,rfl⟩
  refine ⟨by exact minE (x := x0) (c := 4652007308841189376) rfl hp_0 c1000.1,fun _ _=>?_⟩
  exact ⟨_,_,by first | (have m := minG (x := x0) (c := 4652007308841189376) tA rfl hp_0 c1000.1; have h := gt_yes hp_1 c1000.1 tA; rw [c1000.2] at m h; exact of_mk m.1 cNone.1 m.2 (by rw [cNone.2,if_pos h])) | (have m := minG (x := x0) (c := 4652007308841189376) tA rfl hp_0 c1000.1; have h := gt_no hp_1 c1000.1 tA; rw [c1000.2] at m h; exact of_mk m.1 hp_1 m.2 (by rw [if_neg h])),rfl,rfl⟩)
 exact ⟨_,_,hq,ha⟩
abbrev E_plus (x0 x1 x2 x3 : Nat) : Prop := ∃ x4 x5,post_plus x0 x1 x2 x3 x4 x5 ∧ A 36 [(.sc (.complex Go.FloatKind.f64 x0 x1)),(.sc (.complex Go.FloatKind.f64 x2 x3))] [] (.sc (.complex Go.FloatKind.f64 x4 x5)) []
abbrev j_plus (nn x0 x1 x2 x3 : Nat) (kK : Nat → Nat → HC) : HC := ⟨.ev nn (.ask (.ex Nat fun x4=>.ex Nat fun x5=>.done (.res (.sc (.complex Go.FloatKind.f64 x4 x5)) [] (post_plus x0 x1 x2 x3 x4 x5)) ((kK x4 x5).h))),E_plus x0 x1 x2 x3 ∧ (∀ x4 x5,post_plus x0 x1 x2 x3 x4 x5 → (kK x4 x5).p)⟩
abbrev t_plus (x0 x1 x2 x3 : Nat) (Q : AV → HH → Prop) : HC := (pW2 0 ((binV pr BinOp.add 51 (Operand.tmp 6) (Operand.tmp 7) (Value.complex FloatKind.f64 x0 x1)   (Value.complex FloatKind.f64 x2 x3))) (fun (x4 x5 : Nat)=>(.complex Go.FloatKind.f64 x4 x5)) fun x4 x5=>(j_of 3 x4 x5 fun x6 x7=>(qq 1 Q (.sc (.complex Go.FloatKind.f64 x6 x7)))))
theorem w_plus (x0 x1 x2 x3) (Q : AV → HH → Prop) (h : (t_plus x0 x1 x2 x3 Q).p) : ∃ r H',A 36 [(.sc (.complex Go.FloatKind.f64 x0 x1)),(.sc (.complex Go.FloatKind.f64 x2 x3))] [] r H' ∧ Q r H' :=
 Ans.wq rfl (t_plus x0 x1 x2 x3 Q).h (by kernel_rfl) h
theorem c_plus {x0 x1 x2 x3} (hp : pre_plus x0 x1 x2 x3) : E_plus x0 x1 x2 x3 := by
 obtain ⟨_,_,ha,_,_,hq,rfl,rfl⟩ := w_plus x0 x1 x2 x3 (fun r H'=>∃ x4 x5,post_plus x0 x1 x2 x3 x4 x5 ∧ r = (.sc (.complex Go.FloatKind.f64 x4 x5)) ∧ H' = []) (by
  obtain ⟨hp_0,hp_1⟩ := hp
  refine ⟨by exact plusE hp_0 hp_1,fun _ _ _=>?_⟩
  refine ⟨c_of (by exact ⟨(plusG tA hp_0 hp_1).1,(plusG tA hp_0 hp_1).2.1⟩),fun _ _ p11=>?_⟩
  have p11_0 := p11
  exact ⟨_,_,by exact plusW tA hp_0 hp_1 tA,rfl,rfl⟩)
 exact ⟨_,_,hq,ha⟩
abbrev E_orW (x0 x1 x2 x3 : Nat) : Prop := ∃ x4 x5,post_orW x0 x1 x2 x3 x4 x5 ∧ A 62 [(.sc (.complex Go.FloatKind.f64 x0 x1)),(.sc (.complex Go.FloatKind.f64 x2 x3))] [] (.sc (.complex Go.FloatKind.f64 x4 x5)) []
abbrev j_orW (nn x0 x1 x2 x3 : Nat) (kK : Nat → Nat → HC) : HC := ⟨.ev nn (.ask (.ex Nat fun x4=>.ex Nat fun x5=>.done (.res (.sc (.complex Go.FloatKind.f64 x4 x5)) [] (post_orW x0 x1 x2 x3 x4 x5)) ((kK x4 x5).h))),E_orW x0 x1 x2 x3 ∧ (∀ x4 x5,post_orW x0 x1 x2 x3 x4 x5 → (kK x4 x5).p)⟩
abbrev t_orW (x0 x1 x2 x3 : Nat) (Q : AV → HH → Prop) : HC := (pW1 2 ((minR x0 x2)) (fun (x4 : Nat)=>(.float Go.FloatKind.f64 x4)) fun x4=>(pW1 2 ((maxR x1 x3)) (fun (x5 : Nat)=>(.float Go.FloatKind.f64 x5)) fun x5=>(j_of 1 x4 x5 fun x6 x7=>(qq 1 Q (.sc (.complex Go.FloatKind.f64 x6 x7))))))
theorem w_orW (x0 x1 x2 x3) (Q : AV → HH → Prop) (h : (t_orW x0 x1 x2 x3 Q).p) : ∃ r H',A 62 [(.sc (.complex Go.FloatKind.f64 x0 x1)),(.sc (.complex Go.FloatKind.f64 x2 x3))] [] r H' ∧ Q r H' :=
 Ans.wq rfl (t_orW x0 x1 x2 x3 Q).h (by kernel_rfl) h
theorem c_orW {x0 x1 x2 x3} (hp : pre_orW x0 x1 x2 x3) : E_orW x0 x1 x2 x3 := by
 obtain ⟨_,_,ha,_,_,hq,rfl,rfl⟩ := w_orW x0 x1 x2 x3 (fun r H'=>∃ x4 x5,post_orW x0 x1 x2 x3 x4 x5 ∧ r = (.sc (.complex Go.FloatKind.f64 x4 x5)) ∧ H' = []) (by
  obtain ⟨hp_0,hp_1⟩ := hp
  refine ⟨by first | exact minE (x := x0) (c := x2) rfl hp_0.fx hp_1.fx | exact maxE (x := x1) (c := x3) rfl hp_0.fy hp_1.fy,fun _ _=>?_⟩
  refine ⟨by first | exact minE (x := x0) (c := x2) rfl hp_0.fx hp_1.fx | exact maxE (x := x1) (c := x3) rfl hp_0.fy hp_1.fy,fun _ _=>?_⟩
  refine ⟨c_of (by exact ⟨(orWE (a := 0) (b := 0) tA tA rfl rfl hp_0 hp_1).1,(orWE (a := 0) (b := 0) tA tA rfl rfl hp_0 hp_1).2.1⟩),fun _ _ p12=>?_⟩
  have p12_0 := p12
  exact ⟨_,_,by exact (orWE tA tA rfl rfl hp_0 hp_1).2.2 tA,rfl,rfl⟩)
 exact ⟨_,_,hq,ha⟩
abbrev E_rep (x0 x1 : Nat) (x2 x3 x4 : Int) (x5 : List AV) (x6 : Bool) (x7 x8 x9 : Int) (x10 : ByteArray) (x11 x12 : Int) (x13 : List AV) : Prop := ∃ x14 x15,post_rep x0 x1 x2 x3 x4 x5 x6 x7 x8 x9 x10 x11 x12 x13 x14 x15 ∧ A 39 [(.sc (.complex Go.FloatKind.f64 x0 x1)),(.agg (nR x2 x3 x4 x5 x6 x7 x8 x9 x10 x11 x12 x13))] [] (.sc (.complex Go.FloatKind.f64 x14 x15)) []
abbrev j_rep (nn x0 x1 : Nat) (x2 x3 x4 : Int) (x5 : List AV) (x6 : Bool) (x7 x8 x9 : Int) (x10 : ByteArray) (x11 x12 : Int) (x13 : List AV) (kK : Nat → Nat → HC) : HC := ⟨.ev nn (.ask (.ex Nat fun x14=>.ex Nat fun x15=>.done (.res (.sc (.complex Go.FloatKind.f64 x14 x15)) [] (post_rep x0 x1 x2 x3 x4 x5 x6 x7 x8 x9 x10 x11 x12 x13 x14 x15)) ((kK x14 x15).h))),E_rep x0 x1 x2 x3 x4 x5 x6 x7 x8 x9 x10 x11 x12 x13 ∧ (∀ x14 x15,post_rep x0 x1 x2 x3 x4 x5 x6 x7 x8 x9 x10 x11 x12 x13 x14 x15 → (kK x14 x15).p)⟩
abbrev t_rep (x0 x1 : Nat) (x2 x3 x4 : Int) (x5 : List AV) (x6 : Bool) (x7 x8 x9 : Int) (x10 : ByteArray) (x11 x12 : Int) (x13 : List AV) (Q : AV → HH → Prop) : HC := (pW1 2 ((binV pr BinOp.mul 86 (Operand.tmp 7) (Operand.tmp 10) (Value.float FloatKind.f64 x1)   (Value.float FloatKind.f64 (FloatKind.f64.nearest x8)))) (fun (x14 : Nat)=>(.float Go.FloatKind.f64 x14)) fun x14=>(dd 1 ((x8 == 0)) (pW1 6 ((binV pr BinOp.mul 86 (Operand.tmp 26) (Operand.tmp 29) (Value.float FloatKind.f64 x0)   (Value.float FloatKind.f64 (FloatKind.f64.nearest x7)))) (fun (x15 : Nat)=>(.float Go.FloatKind.f64 x15)) fun x15=>(j_of 1 x15 0 fun x16 x17=>(qq 1 Q (.sc (.complex Go.FloatKind.f64 x16 x17))))) (dd 5 ((Ieee.double.order x1 0 == some Ordering.eq)) (pW1 2 ((binV pr BinOp.mul 86 (Operand.tmp 26) (Operand.tmp 29) (Value.float FloatKind.f64 x0)   (Value.float FloatKind.f64 (FloatKind.f64.nearest x7)))) (fun (x18 : Nat)=>(.float Go.FloatKind.f64 x18)) fun x18=>(j_of 1 x18 0 fun x19 x20=>(qq 1 Q (.sc (.complex Go.FloatKind.f64 x19 x20))))) (dd 1 ((decide (x8 < 0))) (pW1 2 ((binV pr BinOp.mul 86 (Operand.tmp 26) (Operand.tmp 29) (Value.float FloatKind.f64 x0)   (Value.float FloatKind.f64 (FloatKind.f64.nearest x7)))) (fun (x21 : Nat)=>(.float Go.FloatKind.f64 x21)) fun x21=>(j_of 1 x21 4787326403894837248 fun x22 x23=>(qq 1 Q (.sc (.complex Go.FloatKind.f64 x22 x23))))) (pW1 2 ((binV pr BinOp.mul 86 (Operand.tmp 26) (Operand.tmp 29) (Value.float FloatKind.f64 x0)   (Value.float FloatKind.f64 (FloatKind.f64.nearest x7)))) (fun (x24 : Nat)=>(.float Go.FloatKind.f64 x24)) fun x24=>(j_of 1 x24 x14 fun x25 x26=>(qq 1 Q (.sc (.complex Go.FloatKind.f64 x25 x26)))))))))
theorem w_rep (x0 x1 x2 x3 x4 x5 x6 x7 x8 x9 x10 x11 x12 x13) (Q : AV → HH → Prop) (h : (t_rep x0 x1 x2 x3 x4 x5 x6 x7 x8 x9 x10 x11 x12 x13 Q).p) : ∃ r H',A 39 [(.sc (.complex Go.FloatKind.f64 x0 x1)),(.agg (nR x2 x3 x4 x5 x6 x7 x8 x9 x10 x11 x12 x13))] [] r H' ∧ Q r H' :=
 Ans.wq rfl (t_rep x0 x1 x2 x3 x4 x5 x6 x7 x8 x9 x10 x11 x12 x13 Q).h (by kernel_rfl) h
theorem c_rep {x0 x1 x2 x3 x4 x5 x6 x7 x8 x9 x10 x11 x12 x13} (hp : pre_rep x0 x1 x2 x3 x4 x5 x6 x7 x8 x9 x10 x11 x12 x13) : E_rep x0 x1 x2 x3 x4 x5 x6 x7 x8 x9 x10 x11 x12 x13 := by
 obtain ⟨_,_,ha,_,_,hq,rfl,rfl⟩ := w_rep x0 x1 x2 x3 x4 x5 x6 x7 x8 x9 x10 x11 x12 x13 (fun r H'=>∃ x14 x15,post_rep x0 x1 x2 x3 x4 x5 x6 x7 x8 x9 x10 x11 x12 x13 x14 x15 ∧ r = (.sc (.complex Go.FloatKind.f64 x14 x15)) ∧ H' = []) (by
  obtain ⟨hp_0,hp_1,hp_2,_,hp_4,hp_5⟩ := hp
  refine ⟨zw1x3,fun _ _=>?_⟩
  apply bS <;> intro _
  ·refine ⟨zw1x3,fun _ _=>?_⟩
   refine ⟨c_of zw1x4,fun _ _ p23=>?_⟩
   have p23_0 := p23
   exact ⟨_,_,zw1x5,rfl,rfl⟩
  apply bS <;> intro _
  ·refine ⟨zw1x3,fun _ _=>?_⟩
   refine ⟨c_of zw1x4,fun _ _ p29=>?_⟩
   have p29_0 := p29
   exact ⟨_,_,zw1x5,rfl,rfl⟩
  apply bS <;> intro _
  ·refine ⟨zw1x3,fun _ _=>?_⟩
   refine ⟨c_of zw1x4,fun _ _ p35=>?_⟩
   have p35_0 := p35
   exact ⟨_,_,zw1x5,rfl,rfl⟩
  refine ⟨zw1x3,fun _ _=>?_⟩
  refine ⟨c_of zw1x4,fun _ _ p40=>?_⟩
  have p40_0 := p40
  exact ⟨_,_,zw1x5,rfl,rfl⟩)
 exact ⟨_,_,hq,ha⟩
abbrev E_toldW (x0 x1 : Nat) : Prop := ∃ x2 x3,post_toldW x0 x1 x2 x3 ∧ A 17 [(.sc (.complex Go.FloatKind.f64 x0 x1))] [] (.tup [(iv x2),(iv x3)]) []
abbrev j_toldW (nn x0 x1 : Nat) (kK : Int → Int → HC) : HC := ⟨.ev nn (.ask (eI fun x2=>eI fun x3=>.done (.res (.tup [(iv x2),(iv x3)]) [] (post_toldW x0 x1 x2 x3)) ((kK x2 x3).h))),E_toldW x0 x1 ∧ (∀ x2 x3,post_toldW x0 x1 x2 x3 → (kK x2 x3).p)⟩
abbrev t_toldW (x0 x1 : Nat) (Q : AV → HH → Prop) : HC := (dd 2 ((Ieee.double.order x1 4787326403894837248 == some Ordering.gt ||   Ieee.double.order x1 4787326403894837248 == some Ordering.eq)) (pW1 1 ((f2iR x0)) (fun (x2 : Int)=>(.int .i64 x2)) fun x2=>(qq 1 Q (.tup [(iv x2),(iv (-1))]))) (pW1 1 ((f2iR x0)) (fun (x3 : Int)=>(.int .i64 x3)) fun x3=>(pW1 1 ((f2iR x1)) (fun (x4 : Int)=>(.int .i64 x4)) fun x4=>(qq 1 Q (.tup [(iv x3),(iv x4)])))))
theorem w_toldW (x0 x1) (Q : AV → HH → Prop) (h : (t_toldW x0 x1 Q).p) : ∃ r H',A 17 [(.sc (.complex Go.FloatKind.f64 x0 x1))] [] r H' ∧ Q r H' :=
 Ans.wq rfl (t_toldW x0 x1 Q).h (by kernel_rfl) h
theorem c_toldW {x0 x1} (hp : pre_toldW x0 x1) : E_toldW x0 x1 := by
 obtain ⟨_,_,ha,_,_,hq,rfl,rfl⟩ := w_toldW x0 x1 (fun r H'=>∃ x2 x3,post_toldW x0 x1 x2 x3 ∧ r = (.tup [(iv x2),(iv x3)]) ∧ H' = []) (by
  have hp_0 := hp
  unfold pre_toldW at hp_0
  apply bS <;> intro _
  ·refine ⟨zw1x6,fun _ _=>?_⟩
   exact ⟨_,_,by first | exact toldY hp_0 tA tA | exact toldN hp_0 tA tA tA,rfl,rfl⟩
  refine ⟨zw1x6,fun _ _=>?_⟩
  refine ⟨zw1x6,fun _ _=>?_⟩
  exact ⟨_,_,by first | exact toldY hp_0 tA tA | exact toldN hp_0 tA tA tA,rfl,rfl⟩)
 exact ⟨_,_,hq,ha⟩
abbrev E_nodeT (k a c : Int) (s : List AV) (g : Bool) (n m mode : Int) (nm : ByteArray) (on off : Int) (K r1 r2 : List AV) : Prop := ∃ x0 x1,post_nodeT k a c s g n m mode nm on off K r1 r2 x0 x1 ∧ A 18 [(.ptr 1 0),(.agg (nR k a c s g n m mode nm on off K))] [r1,r2] (.sc (.complex Go.FloatKind.f64 x0 x1)) [r1,r2]
abbrev j_nodeT (nn : Nat) (k a c : Int) (s : List AV) (g : Bool) (n m mode : Int) (nm : ByteArray) (on off : Int) (K r1 r2 : List AV) (kK : Nat → Nat → HC) : HC := ⟨.ev nn (.ask (.ex Nat fun x0=>.ex Nat fun x1=>.done (.res (.sc (.complex Go.FloatKind.f64 x0 x1)) [r1,r2] (post_nodeT k a c s g n m mode nm on off K r1 r2 x0 x1)) ((kK x0 x1).h))),E_nodeT k a c s g n m mode nm on off K r1 r2 ∧ (∀ x0 x1,post_nodeT k a c s g n m mode nm on off K r1 r2 x0 x1 → (kK x0 x1).p)⟩
def IH_nodeT (b : Nat) : Prop := ∀ {k : Int} {a : Int} {c : Int} {s : List AV} {g : Bool} {n : Int} {m : Int} {mode : Int} {nm : ByteArray} {on : Int} {off : Int} {K : List AV} {r1 : List AV} {r2 : List AV},rank_nodeT (k) (a) (c) (s) (g) (n) (m) (mode) (nm) (on) (off) (K) (r1) (r2) < b → pre_nodeT (k) (a) (c) (s) (g) (n) (m) (mode) (nm) (on) (off) (K) (r1) (r2) → E_nodeT (k) (a) (c) (s) (g) (n) (m) (mode) (nm) (on) (off) (K) (r1) (r2)
theorem IH_nodeT_le (b c : Nat) (h : b ≤ c) (k : IH_nodeT c) : IH_nodeT b := fun hr hp=>k (Nat.lt_of_lt_of_le hr h) hp
abbrev E_anyT (l r1 r2 : List AV) : Prop := ∃ x0 x1,post_anyT l r1 r2 x0 x1 ∧ A 37 [(.ptr 1 0),(.sl 12 l)] [r1,r2] (.sc (.complex Go.FloatKind.f64 x0 x1)) [r1,r2]
abbrev j_anyT (nn : Nat) (l r1 r2 : List AV) (kK : Nat → Nat → HC) : HC := ⟨.ev nn (.ask (.ex Nat fun x0=>.ex Nat fun x1=>.done (.res (.sc (.complex Go.FloatKind.f64 x0 x1)) [r1,r2] (post_anyT l r1 r2 x0 x1)) ((kK x0 x1).h))),E_anyT l r1 r2 ∧ (∀ x0 x1,post_anyT l r1 r2 x0 x1 → (kK x0 x1).p)⟩
def IH_anyT (b : Nat) : Prop := ∀ {l : List AV} {r1 : List AV} {r2 : List AV},rank_anyT (l) (r1) (r2) < b → pre_anyT (l) (r1) (r2) → E_anyT (l) (r1) (r2)
theorem IH_anyT_le (b c : Nat) (h : b ≤ c) (k : IH_anyT c) : IH_anyT b := fun hr hp=>k (Nat.lt_of_lt_of_le hr h) hp
abbrev E_condT (k a c : Int) (s : List AV) (g : Bool) (n m mode : Int) (nm : ByteArray) (on off : Int) (K r1 r2 : List AV) : Prop := ∃ x0 x1,post_condT k a c s g n m mode nm on off K r1 r2 x0 x1 ∧ A 38 [(.ptr 1 0),(.agg (nR k a c s g n m mode nm on off K))] [r1,r2] (.sc (.complex Go.FloatKind.f64 x0 x1)) [r1,r2]
abbrev j_condT (nn : Nat) (k a c : Int) (s : List AV) (g : Bool) (n m mode : Int) (nm : ByteArray) (on off : Int) (K r1 r2 : List AV) (kK : Nat → Nat → HC) : HC := ⟨.ev nn (.ask (.ex Nat fun x0=>.ex Nat fun x1=>.done (.res (.sc (.complex Go.FloatKind.f64 x0 x1)) [r1,r2] (post_condT k a c s g n m mode nm on off K r1 r2 x0 x1)) ((kK x0 x1).h))),E_condT k a c s g n m mode nm on off K r1 r2 ∧ (∀ x0 x1,post_condT k a c s g n m mode nm on off K r1 r2 x0 x1 → (kK x0 x1).p)⟩
def IH_condT (b : Nat) : Prop := ∀ {k : Int} {a : Int} {c : Int} {s : List AV} {g : Bool} {n : Int} {m : Int} {mode : Int} {nm : ByteArray} {on : Int} {off : Int} {K : List AV} {r1 : List AV} {r2 : List AV},rank_condT (k) (a) (c) (s) (g) (n) (m) (mode) (nm) (on) (off) (K) (r1) (r2) < b → pre_condT (k) (a) (c) (s) (g) (n) (m) (mode) (nm) (on) (off) (K) (r1) (r2) → E_condT (k) (a) (c) (s) (g) (n) (m) (mode) (nm) (on) (off) (K) (r1) (r2)
theorem IH_condT_le (b c : Nat) (h : b ≤ c) (k : IH_condT c) : IH_condT b := fun hr hp=>k (Nat.lt_of_lt_of_le hr h) hp
def s_anyT_0 (x0 : List AV) (x1 : Int) (x2 x3 : List AV) (x4 x5 : Nat) (x6 : Int) : St := ⟨[],[(0,(.ptr 1 0)),(5,(.sc (.complex Go.FloatKind.f64 x4 x5))),(14,(.sl 12 x0)),(15,(iv x1)),(16,(iv x6))],[x2,x3],0⟩
def x_anyT_0_0 (x0 : List AV) (x1 : Int) (x2 x3 : List AV) (y4 y5 : Nat) (y6 : Int) : St := ⟨[],[(0,(.ptr 1 0)),(5,(.sc (.complex Go.FloatKind.f64 y4 y5))),(14,(.sl 12 x0)),(15,(iv x1)),(16,(iv y6)),(17,(bv false))],[x2,x3],0⟩
abbrev E_anyT_0 (x0 : List AV) (x1 : Int) (x2 x3 : List AV) (x4o x5o : Nat) (x6o : Int) : Prop := (∃ y7 y8 y9,out_anyT_0_0 x0 x1 x2 x3 x4o x5o x6o y7 y8 y9 ∧ R 37 0 (s_anyT_0 x0 x1 x2 x3 x4o x5o x6o) ((.exit 0),x_anyT_0_0 x0 x1 x2 x3 y7 y8 y9))
abbrev j_anyT_0 (nn : Nat) (x0 : List AV) (x1 : Int) (x2 x3 : List AV) (x4o x5o : Nat) (x6o : Int) (f0 : Nat → Nat → Int → HC) : HC := ⟨.ev nn (.ask (.ex Nat fun y7=>.ex Nat fun y8=>eI fun y9=>.done (.exit (.exit 0) (x_anyT_0_0 x0 x1 x2 x3 y7 y8 y9) (out_anyT_0_0 x0 x1 x2 x3 x4o x5o x6o y7 y8 y9)) (f0 y7 y8 y9).h)),E_anyT_0 x0 x1 x2 x3 x4o x5o x6o ∧ (∀ y7 y8 y9,out_anyT_0_0 x0 x1 x2 x3 x4o x5o x6o y7 y8 y9 → (f0 y7 y8 y9).p)⟩
abbrev t_anyT_0 (x0 : List AV) (x1 : Int) (x2 x3 : List AV) (x4 x5 : Nat) (x6 : Int) (Q : Ex → St → Prop) : HC := (dd 1 ((decide (x6 < x1))) (oo 0 ((decide (0 ≤ x6))) (pN 1 ((x0[x6.toNat]?)) fun x7 x8 x9 x10 x11 x12 x13 x14 x15 x16 x17 x18=>(j_nodeT 1 x7 x8 x9 x10 x11 x12 x13 x14 x15 x16 x17 x18 x2 x3 fun x19 x20=>(j_orW 1 x4 x5 x19 x20 fun x21 x22=>(zz 1 (Q .norm (s_anyT_0 x0 x1 x2 x3 x21 x22 (w6 (x6 + 1))))))))) (zz 0 (Q (.exit 0) (x_anyT_0_0 x0 x1 x2 x3 x4 x5 x6))))
theorem l_anyT_0 (x0 x1 x2 x3 x4 x5 x6) (Q : Ex → St → Prop) (h : (t_anyT_0 x0 x1 x2 x3 x4 x5 x6 Q).p) : ∃ e s',L 37 0 (s_anyT_0 x0 x1 x2 x3 x4 x5 x6) (e,s') ∧ Q e s' :=
 Leads.wq (t_anyT_0 x0 x1 x2 x3 x4 x5 x6 Q).h (by kernel_rfl) h
theorem k_anyT_0 {B : Nat} (ih_nodeT : IH_nodeT B) {x0 x1 x2 x3 x4o x5o x6o} (hi : inv_anyT_0 B x0 x1 x2 x3 x4o x5o x6o x4o x5o x6o) : E_anyT_0 x0 x1 x2 x3 x4o x5o x6o := by
 obtain ⟨e,s',hr,hq⟩ := Rounds.byInv (st := fun (w : Nat × Nat × Int)=>s_anyT_0 x0 x1 x2 x3 w.1 w.2.1 w.2.2) (Inv := fun w=>inv_anyT_0 B x0 x1 x2 x3 x4o x5o x6o w.1 w.2.1 w.2.2) (μ := fun w=>mu_anyT_0 x0 x1 x2 x3 w.1 w.2.1 w.2.2) (Q := fun e s'=>(∃ y7 y8 y9,out_anyT_0_0 x0 x1 x2 x3 x4o x5o x6o y7 y8 y9 ∧ e = (.exit 0) ∧ s' = x_anyT_0_0 x0 x1 x2 x3 y7 y8 y9)) (by
  rintro ⟨x4,x5,x6⟩ hi
  have hi : inv_anyT_0 B x0 x1 x2 x3 x4o x5o x6o x4 x5 x6 := hi
  refine l_anyT_0 x0 x1 x2 x3 x4 x5 x6 _ ?_
  obtain ⟨_,_,_,_,_,_,_,_,_,_⟩ := hi
  apply bS <;> intro _
  ·refine ⟨tD,tG,fun _ _ _ _ _ _ _ _ _ _ _ _ g23=>?_⟩
   have edg42 := nsz_drop g23; first | (have eg23 := Ns.elem tA g23; have eng42 := nsz_get g23; obtain ⟨_,_,_,_⟩ := eg23.nw) | (have eg23 := Nf.elem tA g23; have eng42 := nsz_get g23; obtain ⟨_,_⟩ := eg23.nw)
   refine ⟨ih_nodeT (by (try unfold rank_nodeT); (try unfold rank_anyT); (try have := (dropped (show Ns _ from by assumption)).2.1); exact tI) zw1x7,fun _ _ p26=>?_⟩
   unfold post_nodeT at p26
   refine ⟨c_orW zw1x7,fun x27 x28 p29=>?_⟩
   unfold post_orW at p29
   try have := tW (x6 + 1)
   exact .inl ⟨rfl,(x27,x28,(w6 (x6 + 1))),rfl,by (try dsimp only); first | (obtain ⟨d1,d2,d3,d4⟩ := dropped (show Ns l from by assumption); refine ⟨tP,tP,tP,tP,tP,tP,tP,tP,tP,?_⟩; exact wn_t0 (WE.wo tA)) | (refine ⟨tP,tP,tP,tP,tP,tP,tP,tP,tP,?_⟩; exact wn_tail (by omega) (by omega) tA tA tA tA),by unfold mu_anyT_0; exact tI⟩
  exact .inr ⟨by simp,⟨_,_,_,by exact tail_end tA (by omega),rfl,rfl⟩⟩) (x4o,x5o,x6o) hi
 rcases hq with ⟨_,_,_,ho,rfl,rfl⟩
 exact ⟨_,_,_,ho,hr⟩
abbrev t_anyT (l r1 r2 : List AV) (Q : AV → HH → Prop) : HC := (pN 2 ((l[0]?)) fun x0 x1 x2 x3 x4 x5 x6 x7 x8 x9 x10 x11=>(j_nodeT 1 x0 x1 x2 x3 x4 x5 x6 x7 x8 x9 x10 x11 r1 r2 fun x12 x13=>(oo 2 (((Nat.ble 1 l.length) && (l.length.ble l.length))) (j_anyT_0 0 (List.drop 1 (List.take l.length l)) ((↑(List.drop 1 (List.take l.length l)).length : Int)) r1 r2 x12 x13 0 (fun x14 x15 x16=>(zz 1 (Q (.sc (.complex Go.FloatKind.f64 x14 x15)) [r1,r2])))))))
theorem w_anyT (l r1 r2) (Q : AV → HH → Prop) (h : (t_anyT l r1 r2 Q).p) : ∃ r H',A 37 [(.ptr 1 0),(.sl 12 l)] [r1,r2] r H' ∧ Q r H' :=
 Ans.wq rfl (t_anyT l r1 r2 Q).h (by kernel_rfl) h
theorem i_anyT {l r1 r2} (ih_nodeT : IH_nodeT (rank_anyT l r1 r2)) (hp : pre_anyT l r1 r2) : E_anyT l r1 r2 := by
 obtain ⟨_,_,ha,_,_,hq,rfl,rfl⟩ := w_anyT l r1 r2 (fun r H'=>∃ x0 x1,post_anyT (l) (r1) (r2) x0 x1 ∧ r = (.sc (.complex Go.FloatKind.f64 x0 x1)) ∧ H' = [(r1),(r2)]) (by
  obtain ⟨_,_,_,_,_,_⟩ := hp
  refine ⟨tG,fun _ _ _ _ _ _ _ _ _ _ _ _ g14=>?_⟩
  have edg16 := nsz_drop g14; first | (have eg14 := Ns.elem tA g14; have eng16 := nsz_get g14; obtain ⟨_,_,_,_⟩ := eg14.nw) | (have eg14 := Nf.elem tA g14; have eng16 := nsz_get g14; obtain ⟨_,_⟩ := eg14.nw)
  refine ⟨ih_nodeT (by (try unfold rank_nodeT); (try unfold rank_anyT); (try have := (dropped (show Ns _ from by assumption)).2.1); exact tI) zw1x7,fun _ _ p17=>?_⟩
  unfold post_nodeT at p17
  refine ⟨tD,k_anyT_0 ih_nodeT (by (try dsimp only); first | (obtain ⟨d1,d2,d3,d4⟩ := dropped (show Ns l from by assumption); refine ⟨tP,tP,tP,tP,tP,tP,tP,tP,tP,?_⟩; exact wn_t0 (WE.wo tA)) | (refine ⟨tP,tP,tP,tP,tP,tP,tP,tP,tP,?_⟩; exact wn_tail (by omega) (by omega) tA tA tA tA)),fun _ _ _ e21=>?_⟩
  have e21_0 := e21
  unfold out_anyT_0_0 at e21_0
  try replace e21_0 := nz e21_0
  exact ⟨_,_,by exact wn_any tA tA tA,rfl,rfl⟩)
 exact ⟨_,_,hq,ha⟩
abbrev t_condT (k a c : Int) (s : List AV) (g : Bool) (n m mode : Int) (nm : ByteArray) (on off : Int) (K r1 r2 : List AV) (Q : AV → HH → Prop) : HC := (dd 1 ((n == 12)) (zz 1 (Q (.sc (.complex Go.FloatKind.f64 0 0)) [r1,r2])) (dd 1 ((n == 13)) (oo 2 (((Nat.ble 1 K.length) && (K.length.ble K.length))) (j_anyT 1 (List.drop 1 (List.take K.length K)) r1 r2 fun x0 x1=>(dd 1 (((↑(List.drop 1 (List.take K.length K)).length : Int) == 1)) (j_orW 1 x0 x1 0 0 fun x2 x3=>(zz 1 (Q (.sc (.complex Go.FloatKind.f64 x2 x3)) [r1,r2]))) (zz 1 (Q (.sc (.complex Go.FloatKind.f64 x0 x1)) [r1,r2]))))) (j_anyT 1 K r1 r2 fun x4 x5=>(dd 1 (((↑K.length : Int) == 1)) (j_orW 1 x4 x5 0 0 fun x6 x7=>(zz 1 (Q (.sc (.complex Go.FloatKind.f64 x6 x7)) [r1,r2]))) (zz 1 (Q (.sc (.complex Go.FloatKind.f64 x4 x5)) [r1,r2]))))))
theorem w_condT (k a c s g n m mode nm on off K r1 r2) (Q : AV → HH → Prop) (h : (t_condT k a c s g n m mode nm on off K r1 r2 Q).p) : ∃ r H',A 38 [(.ptr 1 0),(.agg (nR k a c s g n m mode nm on off K))] [r1,r2] r H' ∧ Q r H' :=
 Ans.wq rfl (t_condT k a c s g n m mode nm on off K r1 r2 Q).h (by kernel_rfl) h
theorem i_condT {k a c s g n m mode nm on off K r1 r2} (ih_anyT : IH_anyT (rank_condT k a c s g n m mode nm on off K r1 r2)) (hp : pre_condT k a c s g n m mode nm on off K r1 r2) : E_condT k a c s g n m mode nm on off K r1 r2 := by
 obtain ⟨_,_,ha,_,_,hq,rfl,rfl⟩ := w_condT k a c s g n m mode nm on off K r1 r2 (fun r H'=>∃ x0 x1,post_condT (k) (a) (c) (s) (g) (n) (m) (mode) (nm) (on) (off) (K) (r1) (r2) x0 x1 ∧ r = (.sc (.complex Go.FloatKind.f64 x0 x1)) ∧ H' = [(r1),(r2)]) (by
  obtain ⟨_,⟨_,_,_,_⟩,_,_,_⟩ := hp
  apply bS <;> intro _
  ·exact ⟨0,0,zw1x8,rfl,rfl⟩
  apply bS <;> intro _
  ·refine ⟨by have hs := (show shapeN _ _ _ _ from by assumption); rw [shapeN_eq] at hs; exact tD,?_⟩
   refine ⟨ih_anyT (by (try unfold rank_anyT); (try unfold rank_condT); (try have := (dropped (show Ns _ from by assumption)).2.1); exact tI) zw1x9,fun _ _ p6=>?_⟩
   unfold post_anyT at p6
   try replace p6 := nz p6
   apply bS <;> intro h7
   ·try replace h7 := nz h7
    refine ⟨c_orW zw1x9,fun _ _ p10=>?_⟩
    unfold post_orW at p10
    exact ⟨_,_,zw1x8,rfl,rfl⟩
   try replace h7 := nz h7
   exact ⟨_,_,zw1x8,rfl,rfl⟩
  refine ⟨ih_anyT (by (try unfold rank_anyT); (try unfold rank_condT); (try have := (dropped (show Ns _ from by assumption)).2.1); exact tI) zw1x9,fun _ _ p13=>?_⟩
  unfold post_anyT at p13
  apply bS <;> intro _
  ·refine ⟨c_orW zw1x9,fun _ _ p17=>?_⟩
   unfold post_orW at p17
   exact ⟨_,_,zw1x8,rfl,rfl⟩
  exact ⟨_,_,zw1x8,rfl,rfl⟩)
 exact ⟨_,_,hq,ha⟩
abbrev t_callT (x : Int) (r1 : List AV) (b1 b2 b3 : Int) (b4 : List AV) (b5 : Bool) (b6 b7 b8 : Int) (b9 : ByteArray) (b10 b11 : Int) (b12 : List AV) (Q : AV → HH → Prop) : HC := (oo 0 ((npL [(.agg (nR b1 b2 b3 b4 b5 b6 b7 b8 b9 b10 b11 b12)),(iv x)])) (j_groupW 0 b1 b2 b3 b4 b5 b6 b7 b8 b9 b10 b11 b12 x fun x0 x1 x2 x3 x4 x5 x6 x7 x8 x9 x10 x11 x12=>(dd 1 ((!x12)) (j_of 6 0 4787326403894837248 fun x13 x14=>(zz 1 (Q (.sc (.complex Go.FloatKind.f64 x13 x14)) [r1,[(iv b1),(iv b2),(iv b3),(.sl 2 b4),(bv b5),(iv b6),(iv b7),(iv b8),(sv b9),(iv b10),(iv b11),(.sl 12 b12),(bv true)]]))) (j_of 6 0 4787326403894837248 fun x15 x16=>(zz 1 (Q (.sc (.complex Go.FloatKind.f64 x15 x16)) [r1,[(iv b1),(iv b2),(iv b3),(.sl 2 b4),(bv b5),(iv b6),(iv b7),(iv b8),(sv b9),(iv b10),(iv b11),(.sl 12 b12),(bv true)]]))))))
theorem w_callT (x r1 b1 b2 b3 b4 b5 b6 b7 b8 b9 b10 b11 b12) (Q : AV → HH → Prop) (h : (t_callT x r1 b1 b2 b3 b4 b5 b6 b7 b8 b9 b10 b11 b12 Q).p) : ∃ r H',A 40 [(.ptr 1 0),(iv x)] [r1,[(iv b1),(iv b2),(iv b3),(.sl 2 b4),(bv b5),(iv b6),(iv b7),(iv b8),(sv b9),(iv b10),(iv b11),(.sl 12 b12),(bv true)]] r H' ∧ Q r H' :=
 Ans.wq rfl (t_callT x r1 b1 b2 b3 b4 b5 b6 b7 b8 b9 b10 b11 b12 Q).h (by kernel_rfl) h
theorem c_callT {x r1 b1 b2 b3 b4 b5 b6 b7 b8 b9 b10 b11 b12} (hp : pre_callT x r1 b1 b2 b3 b4 b5 b6 b7 b8 b9 b10 b11 b12 true) : ∃ (x0 x1 : Nat),post_callT x r1 b1 b2 b3 b4 b5 b6 b7 b8 b9 b10 b11 b12 true x0 x1 ∧ A 40 [(.ptr 1 0),(iv x)] [r1,[(iv b1),(iv b2),(iv b3),(.sl 2 b4),(bv b5),(iv b6),(iv b7),(iv b8),(sv b9),(iv b10),(iv b11),(.sl 12 b12),(bv true)]] (.sc (.complex Go.FloatKind.f64 x0 x1)) [r1,[(iv b1),(iv b2),(iv b3),(.sl 2 b4),(bv b5),(iv b6),(iv b7),(iv b8),(sv b9),(iv b10),(iv b11),(.sl 12 b12),(bv true)]] := by
 obtain ⟨_,_,ha,_,_,hq,rfl,rfl⟩ := w_callT x r1 b1 b2 b3 b4 b5 b6 b7 b8 b9 b10 b11 b12 (fun r H'=>∃ x0 x1,post_callT (x) (r1) (b1) (b2) (b3) (b4) (b5) (b6) (b7) (b8) (b9) (b10) (b11) (b12) true x0 x1 ∧ r = (.sc (.complex Go.FloatKind.f64 x0 x1)) ∧ H' = [(r1),[(iv (b1)),(iv (b2)),(iv (b3)),(.sl 2 (b4)),(bv (b5)),(iv (b6)),(iv (b7)),(iv (b8)),(sv (b9)),(iv (b10)),(iv (b11)),(.sl 12 (b12)),(bv true)]]) (by
  obtain ⟨⟨_,_,_,_⟩,_⟩ := hp
  refine ⟨tN,c_groupW zw1x10,fun _ _ _ _ _ _ _ _ _ _ _ _ _ p15=>?_⟩
  obtain ⟨p15_0,p15_1⟩ := p15
  apply bS <;> intro h16
  ·have p15_1c := p15_1 h16
   refine ⟨c_of zw1x10,fun _ _ p19=>?_⟩
   have p19_0 := p19
   exact ⟨_,_,by exact WE.none tA,rfl,rfl⟩
  obtain ⟨⟨_,_,_,_⟩,_,_⟩ := p15_0 h16
  refine ⟨c_of zw1x10,fun _ _ p22=>?_⟩
  have p22_0 := p22
  exact ⟨_,_,by exact WE.none tA,rfl,rfl⟩)
 exact ⟨_,_,hq,ha⟩
abbrev E_callXT (x : Int) (r1 r2 : List AV) : Prop := ∃ u v : Nat,post_callXT x r1 r2 u v ∧ A 40 [.ptr 1 0,iv x] [r1,r2] (.sc (.complex .f64 u v)) [r1,r2]
abbrev j_callXT (nn : Nat) (x : Int) (r1 r2 : List AV) (f : Nat → Nat → HC) : HC := ⟨.ev nn (.ask (.ex Nat fun u=>.ex Nat fun v=>.done (.res (.sc (.complex .f64 u v)) [r1,r2] (post_callXT x r1 r2 u v)) (f u v).h)),E_callXT x r1 r2 ∧ ∀ u v : Nat,post_callXT x r1 r2 u v → (f u v).p⟩
theorem c_callXT {x r1 r2} (hp : pre_callXT x r1 r2) : E_callXT x r1 r2 := by
 obtain ⟨_,_,_,_,_,_,_,_,_,_,_,_,_,rfl,h,hz⟩ := hp
 obtain ⟨u,v,h,ha⟩ := c_callT (x := x) (r1 := r1) ⟨h,hz⟩
 exact ⟨u,v,h,ha⟩
def s_nodeT_0 (x0 : List AV) (x1 : Int) (x2 x3 : List AV) (x4 x5 : Nat) (x6 : Int) : St := ⟨[],[(0,(.ptr 1 0)),(5,(.sc (.complex Go.FloatKind.f64 x4 x5))),(22,(.sl 12 x0)),(23,(iv x1)),(24,(iv x6))],[x2,x3],0⟩
def x_nodeT_0_0 (x0 : List AV) (x1 : Int) (x2 x3 : List AV) (y4 y5 : Nat) (y6 : Int) : St := ⟨[],[(0,(.ptr 1 0)),(5,(.sc (.complex Go.FloatKind.f64 y4 y5))),(22,(.sl 12 x0)),(23,(iv x1)),(24,(iv y6)),(25,(bv false))],[x2,x3],0⟩
abbrev E_nodeT_0 (x0 : List AV) (x1 : Int) (x2 x3 : List AV) (x4o x5o : Nat) (x6o : Int) : Prop := (∃ y7 y8 y9,out_nodeT_0_0 x0 x1 x2 x3 x4o x5o x6o y7 y8 y9 ∧ R 18 0 (s_nodeT_0 x0 x1 x2 x3 x4o x5o x6o) ((Ex.exit 1),x_nodeT_0_0 x0 x1 x2 x3 y7 y8 y9))
abbrev j_nodeT_0 (nn : Nat) (x0 : List AV) (x1 : Int) (x2 x3 : List AV) (x4o x5o : Nat) (x6o : Int) (f0 : Nat → Nat → Int → HC) : HC := ⟨.ev nn (.ask (.ex Nat fun y7=>.ex Nat fun y8=>eI fun y9=>.done (.exit (Ex.exit 1) (x_nodeT_0_0 x0 x1 x2 x3 y7 y8 y9) (out_nodeT_0_0 x0 x1 x2 x3 x4o x5o x6o y7 y8 y9)) (f0 y7 y8 y9).h)),E_nodeT_0 x0 x1 x2 x3 x4o x5o x6o ∧ (∀ y7 y8 y9,out_nodeT_0_0 x0 x1 x2 x3 x4o x5o x6o y7 y8 y9 → (f0 y7 y8 y9).p)⟩
abbrev t_nodeT_0 (x0 : List AV) (x1 : Int) (x2 x3 : List AV) (x4 x5 : Nat) (x6 : Int) (Q : Ex → St → Prop) : HC := (dd 1 ((decide (x6 < x1))) (oo 0 ((decide (0 ≤ x6))) (pN 1 ((x0[x6.toNat]?)) fun x7 x8 x9 x10 x11 x12 x13 x14 x15 x16 x17 x18=>(j_nodeT 1 x7 x8 x9 x10 x11 x12 x13 x14 x15 x16 x17 x18 x2 x3 fun x19 x20=>(j_plus 1 x4 x5 x19 x20 fun x21 x22=>(zz 1 (Q .norm (s_nodeT_0 x0 x1 x2 x3 x21 x22 (w6 (x6 + 1))))))))) (zz 0 (Q (Ex.exit 1) (x_nodeT_0_0 x0 x1 x2 x3 x4 x5 x6))))
theorem l_nodeT_0 (x0 x1 x2 x3 x4 x5 x6) (Q : Ex → St → Prop) (h : (t_nodeT_0 x0 x1 x2 x3 x4 x5 x6 Q).p) : ∃ e s',L 18 0 (s_nodeT_0 x0 x1 x2 x3 x4 x5 x6) (e,s') ∧ Q e s' :=
 Leads.wq (t_nodeT_0 x0 x1 x2 x3 x4 x5 x6 Q).h (by kernel_rfl) h
theorem k_nodeT_0 {B : Nat} (ih_nodeT : IH_nodeT B) (ih_anyT : IH_anyT B) (ih_condT : IH_condT B) {x0 x1 x2 x3 x4o x5o x6o} (hi : inv_nodeT_0 B x0 x1 x2 x3 x4o x5o x6o x4o x5o x6o) : E_nodeT_0 x0 x1 x2 x3 x4o x5o x6o := by
 obtain ⟨e,s',hr,hq⟩ := Rounds.byInv (st := fun (w : Nat × Nat × Int)=>s_nodeT_0 x0 x1 x2 x3 w.1 w.2.1 w.2.2) (Inv := fun w=>inv_nodeT_0 B x0 x1 x2 x3 x4o x5o x6o w.1 w.2.1 w.2.2) (μ := fun w=>mu_nodeT_0 x0 x1 x2 x3 w.1 w.2.1 w.2.2) (Q := fun e s'=>(∃ y7 y8 y9,out_nodeT_0_0 x0 x1 x2 x3 x4o x5o x6o y7 y8 y9 ∧ e = (Ex.exit 1) ∧ s' = x_nodeT_0_0 x0 x1 x2 x3 y7 y8 y9)) (by
  rintro ⟨x4,x5,x6⟩ hi
  have hi : inv_nodeT_0 B x0 x1 x2 x3 x4o x5o x6o x4 x5 x6 := hi
  refine l_nodeT_0 x0 x1 x2 x3 x4 x5 x6 _ ?_
  obtain ⟨_,_,_,_,_,_,_,_,_,_⟩ := hi
  apply bS <;> intro _
  ·refine ⟨tD,tG,fun _ _ _ _ _ _ _ _ _ _ _ _ g23=>?_⟩
   have edg39 := nsz_drop g23; first | (have eg23 := Ns.elem tA g23; have eng39 := nsz_get g23; obtain ⟨_,_,_,_⟩ := eg23.nw) | (have eg23 := Nf.elem tA g23; have eng39 := nsz_get g23; obtain ⟨_,_⟩ := eg23.nw)
   refine ⟨ih_nodeT zw1x11 zw1x12,fun _ _ p26=>?_⟩
   unfold post_nodeT at p26
   refine ⟨c_plus zw1x12,fun x27 x28 p29=>?_⟩
   unfold post_plus at p29
   try have := tW (x6 + 1)
   exact .inl ⟨rfl,(x27,x28,(w6 (x6 + 1))),rfl,by (try dsimp only); refine ⟨tP,tP,tP,tP,tP,tP,tP,tP,tP,?_⟩; first | exact WE.zero | exact wn_seq (by omega) (by omega) tA tA tA tA,by unfold mu_nodeT_0; exact tI⟩
  exact .inr ⟨by simp,⟨_,_,_,by exact seq_end tA (by omega),rfl,rfl⟩⟩) (x4o,x5o,x6o) hi
 rcases hq with ⟨_,_,_,ho,rfl,rfl⟩
 exact ⟨_,_,_,ho,hr⟩
abbrev t_nodeT (k a c : Int) (s : List AV) (g : Bool) (n m mode : Int) (nm : ByteArray) (on off : Int) (K r1 r2 : List AV) (Q : AV → HH → Prop) : HC := (oo 0 ((npL [(.agg (nR k a c s g n m mode nm on off K))])) (j_accW 0 k a c s g n m mode nm on off K fun x0=>(dd 0 x0 (j_of 1 0 4787326403894837248 fun x1 x2=>(zz 1 (Q (.sc (.complex Go.FloatKind.f64 x1 x2)) [r1,r2]))) (dd 1 ((k == 2)) (j_of 1 4607182418800017408 4607182418800017408 fun x3 x4=>(zz 1 (Q (.sc (.complex Go.FloatKind.f64 x3 x4)) [r1,r2]))) (dd 1 ((k == 7)) (j_of 1 0 4787326403894837248 fun x5 x6=>(zz 1 (Q (.sc (.complex Go.FloatKind.f64 x5 x6)) [r1,r2]))) (dd 1 ((k == 12)) (j_nodeT_0 0 K ((↑K.length : Int)) r1 r2 0 0 0 (fun x7 x8 x9=>(zz 1 (Q (.sc (.complex Go.FloatKind.f64 x7 x8)) [r1,r2])))) (dd 1 ((k == 13)) (j_anyT 2 K r1 r2 fun x10 x11=>(zz 1 (Q (.sc (.complex Go.FloatKind.f64 x10 x11)) [r1,r2]))) (dd 1 ((k == 16)) (j_anyT 1 K r1 r2 fun x12 x13=>(zz 1 (Q (.sc (.complex Go.FloatKind.f64 x12 x13)) [r1,r2]))) (dd 1 ((k == 14)) (pN 3 ((K[0]?)) fun x14 x15 x16 x17 x18 x19 x20 x21 x22 x23 x24 x25=>(j_nodeT 1 x14 x15 x16 x17 x18 x19 x20 x21 x22 x23 x24 x25 r1 r2 fun x26 x27=>(zz 1 (Q (.sc (.complex Go.FloatKind.f64 x26 x27)) [r1,r2])))) (dd 1 ((k == 17)) (pN 2 ((K[0]?)) fun x28 x29 x30 x31 x32 x33 x34 x35 x36 x37 x38 x39=>(j_nodeT 1 x28 x29 x30 x31 x32 x33 x34 x35 x36 x37 x38 x39 r1 r2 fun x40 x41=>(zz 1 (Q (.sc (.complex Go.FloatKind.f64 x40 x41)) [r1,r2])))) (dd 1 ((k == 19)) (j_condT 1 k a c s g n m mode nm on off K r1 r2 fun x42 x43=>(zz 1 (Q (.sc (.complex Go.FloatKind.f64 x42 x43)) [r1,r2]))) (dd 1 ((k == 20)) (pN 2 ((K[0]?)) fun x44 x45 x46 x47 x48 x49 x50 x51 x52 x53 x54 x55=>(j_nodeT 1 x44 x45 x46 x47 x48 x49 x50 x51 x52 x53 x54 x55 r1 r2 fun x56 x57=>(oo 0 ((npL [(.sc (.complex Go.FloatKind.f64 x56 x57)),(.agg (nR k a c s g n m mode nm on off K))])) (j_rep 0 x56 x57 k a c s g n m mode nm on off K fun x58 x59=>(zz 1 (Q (.sc (.complex Go.FloatKind.f64 x58 x59)) [r1,r2])))))) (dd 1 ((k == 8)) (j_callXT 1 n r1 r2 fun x60 x61=>(zz 1 (Q (.sc (.complex Go.FloatKind.f64 x60 x61)) [r1,r2]))) (zz 1 (Q (.sc (.complex Go.FloatKind.f64 0 0)) [r1,r2])))))))))))))))
theorem w_nodeT (k a c s g n m mode nm on off K r1 r2) (Q : AV → HH → Prop) (h : (t_nodeT k a c s g n m mode nm on off K r1 r2 Q).p) : ∃ r H',A 18 [(.ptr 1 0),(.agg (nR k a c s g n m mode nm on off K))] [r1,r2] r H' ∧ Q r H' :=
 Ans.wq rfl (t_nodeT k a c s g n m mode nm on off K r1 r2 Q).h (by kernel_rfl) h
theorem i_nodeT {k a c s g n m mode nm on off K r1 r2} (ih_nodeT : IH_nodeT (rank_nodeT k a c s g n m mode nm on off K r1 r2)) (ih_anyT : IH_anyT (rank_nodeT k a c s g n m mode nm on off K r1 r2)) (ih_condT : IH_condT (rank_nodeT k a c s g n m mode nm on off K r1 r2)) (hp : pre_nodeT k a c s g n m mode nm on off K r1 r2) : E_nodeT k a c s g n m mode nm on off K r1 r2 := by
 obtain ⟨_,_,ha,_,_,hq,rfl,rfl⟩ := w_nodeT k a c s g n m mode nm on off K r1 r2 (fun r H'=>∃ x0 x1,post_nodeT (k) (a) (c) (s) (g) (n) (m) (mode) (nm) (on) (off) (K) (r1) (r2) x0 x1 ∧ r = (.sc (.complex Go.FloatKind.f64 x0 x1)) ∧ H' = [(r1),(r2)]) (by
  obtain ⟨⟨_,_,_,_⟩,_,_,_⟩ := hp
  refine ⟨tN,c_accW zw1x12,fun _ p3=>?_⟩
  unfold post_accW at p3
  apply bS <;> intro _
  ·refine ⟨c_of zw1x12,fun _ _ p7=>?_⟩
   have p7_0 := p7
   exact ⟨_,_,zw1x13,rfl,rfl⟩
  apply bS <;> intro _
  ·refine ⟨c_of zw1x12,fun _ _ p11=>?_⟩
   have p11_0 := p11
   exact ⟨_,_,zw1x13,rfl,rfl⟩
  apply bS <;> intro _
  ·refine ⟨c_of zw1x12,fun _ _ p15=>?_⟩
   have p15_0 := p15
   exact ⟨_,_,zw1x13,rfl,rfl⟩
  apply bS <;> intro _
  ·refine ⟨k_nodeT_0 ih_nodeT ih_anyT ih_condT (by (try dsimp only); refine ⟨tP,tP,tP,tP,tP,tP,tP,tP,tP,?_⟩; first | exact WE.zero | exact wn_seq (by omega) (by omega) tA tA tA tA),fun _ _ _ e20=>?_⟩
   have e20_0 := e20
   unfold out_nodeT_0_0 at e20_0
   exact ⟨_,_,zw1x13,rfl,rfl⟩
  apply bS <;> intro _
  ·refine ⟨ih_anyT (by (try unfold rank_anyT); (try unfold rank_nodeT); (try have := (dropped (show Ns _ from by assumption)).2.1); exact tI) zw1x12,fun _ _ p24=>?_⟩
   unfold post_anyT at p24
   exact ⟨_,_,zw1x13,rfl,rfl⟩
  apply bS <;> intro _
  ·refine ⟨ih_anyT (by (try unfold rank_anyT); (try unfold rank_nodeT); (try have := (dropped (show Ns _ from by assumption)).2.1); exact tI) zw1x12,fun _ _ p28=>?_⟩
   unfold post_anyT at p28
   exact ⟨_,_,zw1x13,rfl,rfl⟩
  apply bS <;> intro _
  ·refine ⟨tG,fun _ _ _ _ _ _ _ _ _ _ _ _ g42=>?_⟩
   have edg92 := nsz_drop g42; first | (have eg42 := Ns.elem tA g42; have eng92 := nsz_get g42; obtain ⟨_,_,_,_⟩ := eg42.nw) | (have eg42 := Nf.elem tA g42; have eng92 := nsz_get g42; obtain ⟨_,_⟩ := eg42.nw)
   refine ⟨ih_nodeT zw1x11 zw1x12,fun _ _ p45=>?_⟩
   unfold post_nodeT at p45
   exact ⟨_,_,zw1x13,rfl,rfl⟩
  apply bS <;> intro _
  ·refine ⟨tG,fun _ _ _ _ _ _ _ _ _ _ _ _ g59=>?_⟩
   have edg111 := nsz_drop g59; first | (have eg59 := Ns.elem tA g59; have eng111 := nsz_get g59; obtain ⟨_,_,_,_⟩ := eg59.nw) | (have eg59 := Nf.elem tA g59; have eng111 := nsz_get g59; obtain ⟨_,_⟩ := eg59.nw)
   refine ⟨ih_nodeT zw1x11 zw1x12,fun _ _ p62=>?_⟩
   unfold post_nodeT at p62
   exact ⟨_,_,zw1x13,rfl,rfl⟩
  apply bS <;> intro _
  ·refine ⟨ih_condT (by (try unfold rank_condT); (try unfold rank_nodeT); (try have := (dropped (show Ns _ from by assumption)).2.1); exact tI) zw1x12,fun _ _ p66=>?_⟩
   unfold post_condT at p66
   exact ⟨_,_,zw1x13,rfl,rfl⟩
  apply bS <;> intro _
  ·refine ⟨tG,fun _ _ _ _ _ _ _ _ _ _ _ _ g80=>?_⟩
   have edg136 := nsz_drop g80; first | (have eg80 := Ns.elem tA g80; have eng136 := nsz_get g80; obtain ⟨_,_,_,_⟩ := eg80.nw) | (have eg80 := Nf.elem tA g80; have eng136 := nsz_get g80; obtain ⟨_,_⟩ := eg80.nw)
   refine ⟨ih_nodeT zw1x11 zw1x12,fun _ _ p83=>?_⟩
   unfold post_nodeT at p83
   refine ⟨tN,c_rep zw1x12,fun _ _ p86=>?_⟩
   unfold post_rep at p86
   exact ⟨_,_,zw1x13,rfl,rfl⟩
  apply bS <;> intro _
  ·refine ⟨c_callXT zw1x12,fun _ _ p90=>?_⟩
   unfold post_callXT at p90
   exact ⟨_,_,zw1x13,rfl,rfl⟩
  exact ⟨0,0,zw1x13,rfl,rfl⟩)
 exact ⟨_,_,hq,ha⟩
theorem nodeT_all : ∀ b,IH_nodeT b ∧ IH_anyT b ∧ IH_condT b
 | 0=>⟨fun hr _=>absurd hr (Nat.not_lt_zero _),fun hr _=>absurd hr (Nat.not_lt_zero _),fun hr _=>absurd hr (Nat.not_lt_zero _)⟩
 | b + 1=>by
  obtain ⟨h0,h1,h2⟩ := nodeT_all b
  exact ⟨fun hr hp=>i_nodeT (IH_nodeT_le _ _ (Nat.le_of_lt_succ hr) h0) (IH_anyT_le _ _ (Nat.le_of_lt_succ hr) h1) (IH_condT_le _ _ (Nat.le_of_lt_succ hr) h2) hp,fun hr hp=>i_anyT (IH_nodeT_le _ _ (Nat.le_of_lt_succ hr) h0) hp,fun hr hp=>i_condT (IH_anyT_le _ _ (Nat.le_of_lt_succ hr) h1) hp⟩
theorem c_nodeT {k a c s g n m mode nm on off K r1 r2} (hp : pre_nodeT k a c s g n m mode nm on off K r1 r2) : E_nodeT k a c s g n m mode nm on off K r1 r2 := (nodeT_all _).1 (Nat.lt_succ_self _) hp
abbrev E_nodeY (k a c : Int) (s : List AV) (g : Bool) (n m mode : Int) (nm : ByteArray) (on off : Int) (K : List AV) (b1 b2 b3 : Int) (b4 : List AV) (b5 : Bool) (b6 b7 b8 : Int) (b9 : ByteArray) (b10 b11 : Int) (b12 : List AV) (w : Bool) (q1 q2 q3 : Int) (q4 : List AV) (q5 : Bool) (q6 q7 q8 : Int) (q9 : ByteArray) (q10 q11 : Int) (q12 : List AV) (w2 : Bool) : Prop := ∃ u v : Nat,post_nodeY k a c s g n m mode nm on off K b1 b2 b3 b4 b5 b6 b7 b8 b9 b10 b11 b12 w q1 q2 q3 q4 q5 q6 q7 q8 q9 q10 q11 q12 w2 u v ∧ A 18 [.ptr 1 0,.agg (nR k a c s g n m mode nm on off K)] [[iv b1,iv b2,iv b3,.sl 2 b4,bv b5,iv b6,iv b7,iv b8,sv b9,iv b10,iv b11,.sl 12 b12,bv w],[iv q1,iv q2,iv q3,.sl 2 q4,bv q5,iv q6,iv q7,iv q8,sv q9,iv q10,iv q11,.sl 12 q12,bv w2]] (.sc (.complex .f64 u v)) [[iv b1,iv b2,iv b3,.sl 2 b4,bv b5,iv b6,iv b7,iv b8,sv b9,iv b10,iv b11,.sl 12 b12,bv w],[iv q1,iv q2,iv q3,.sl 2 q4,bv q5,iv q6,iv q7,iv q8,sv q9,iv q10,iv q11,.sl 12 q12,bv w2]]
abbrev j_nodeY (nn : Nat) (k a c : Int) (s : List AV) (g : Bool) (n m mode : Int) (nm : ByteArray) (on off : Int) (K : List AV) (b1 b2 b3 : Int) (b4 : List AV) (b5 : Bool) (b6 b7 b8 : Int) (b9 : ByteArray) (b10 b11 : Int) (b12 : List AV) (w : Bool) (q1 q2 q3 : Int) (q4 : List AV) (q5 : Bool) (q6 q7 q8 : Int) (q9 : ByteArray) (q10 q11 : Int) (q12 : List AV) (w2 : Bool) (f : Nat → Nat → HC) : HC := ⟨.ev nn (.ask (.ex Nat fun u=>.ex Nat fun v=>.done (.res (.sc (.complex .f64 u v)) [[iv b1,iv b2,iv b3,.sl 2 b4,bv b5,iv b6,iv b7,iv b8,sv b9,iv b10,iv b11,.sl 12 b12,bv w],[iv q1,iv q2,iv q3,.sl 2 q4,bv q5,iv q6,iv q7,iv q8,sv q9,iv q10,iv q11,.sl 12 q12,bv w2]] (post_nodeY k a c s g n m mode nm on off K b1 b2 b3 b4 b5 b6 b7 b8 b9 b10 b11 b12 w q1 q2 q3 q4 q5 q6 q7 q8 q9 q10 q11 q12 w2 u v)) (f u v).h)),E_nodeY k a c s g n m mode nm on off K b1 b2 b3 b4 b5 b6 b7 b8 b9 b10 b11 b12 w q1 q2 q3 q4 q5 q6 q7 q8 q9 q10 q11 q12 w2 ∧ ∀ u v : Nat,post_nodeY k a c s g n m mode nm on off K b1 b2 b3 b4 b5 b6 b7 b8 b9 b10 b11 b12 w q1 q2 q3 q4 q5 q6 q7 q8 q9 q10 q11 q12 w2 u v → (f u v).p⟩
theorem c_nodeY {k a c s g n m mode nm on off K b1 b2 b3 b4 b5 b6 b7 b8 b9 b10 b11 b12 w q1 q2 q3 q4 q5 q6 q7 q8 q9 q10 q11 q12 w2} (hp : pre_nodeY k a c s g n m mode nm on off K b1 b2 b3 b4 b5 b6 b7 b8 b9 b10 b11 b12 w q1 q2 q3 q4 q5 q6 q7 q8 q9 q10 q11 q12 w2) : E_nodeY k a c s g n m mode nm on off K b1 b2 b3 b4 b5 b6 b7 b8 b9 b10 b11 b12 w q1 q2 q3 q4 q5 q6 q7 q8 q9 q10 q11 q12 w2 := by
 obtain ⟨h0,h1,h2,h3,h4,h5,rfl,rfl⟩ := hp
 obtain ⟨u,v,h,ha⟩ := c_nodeT ⟨h0,h1,⟨_,_,_,_,_,_,_,_,_,_,_,_,rfl,h2,h3⟩,_,_,_,_,_,_,_,_,_,_,_,_,rfl,h4,h5⟩
 exact ⟨u,v,h,ha⟩
abbrev E_nodeW (k a c : Int) (s : List AV) (g : Bool) (n m mode : Int) (nm : ByteArray) (on off : Int) (K r1 : List AV) : Prop := ∃ x0 x1,post_nodeW k a c s g n m mode nm on off K r1 x0 x1 ∧ A 18 [(.ptr 0 0),(.agg (nR k a c s g n m mode nm on off K))] [r1] (.sc (.complex Go.FloatKind.f64 x0 x1)) [r1]
abbrev j_nodeW (nn : Nat) (k a c : Int) (s : List AV) (g : Bool) (n m mode : Int) (nm : ByteArray) (on off : Int) (K r1 : List AV) (kK : Nat → Nat → HC) : HC := ⟨.ev nn (.ask (.ex Nat fun x0=>.ex Nat fun x1=>.done (.res (.sc (.complex Go.FloatKind.f64 x0 x1)) [r1] (post_nodeW k a c s g n m mode nm on off K r1 x0 x1)) ((kK x0 x1).h))),E_nodeW k a c s g n m mode nm on off K r1 ∧ (∀ x0 x1,post_nodeW k a c s g n m mode nm on off K r1 x0 x1 → (kK x0 x1).p)⟩
def IH_nodeW (b : Nat) : Prop := ∀ {k : Int} {a : Int} {c : Int} {s : List AV} {g : Bool} {n : Int} {m : Int} {mode : Int} {nm : ByteArray} {on : Int} {off : Int} {K : List AV} {r1 : List AV},rank_nodeW (k) (a) (c) (s) (g) (n) (m) (mode) (nm) (on) (off) (K) (r1) < b → pre_nodeW (k) (a) (c) (s) (g) (n) (m) (mode) (nm) (on) (off) (K) (r1) → E_nodeW (k) (a) (c) (s) (g) (n) (m) (mode) (nm) (on) (off) (K) (r1)
theorem IH_nodeW_le (b c : Nat) (h : b ≤ c) (k : IH_nodeW c) : IH_nodeW b := fun hr hp=>k (Nat.lt_of_lt_of_le hr h) hp
abbrev E_anyW (l r1 : List AV) : Prop := ∃ x0 x1,post_anyW l r1 x0 x1 ∧ A 37 [(.ptr 0 0),(.sl 12 l)] [r1] (.sc (.complex Go.FloatKind.f64 x0 x1)) [r1]
abbrev j_anyW (nn : Nat) (l r1 : List AV) (kK : Nat → Nat → HC) : HC := ⟨.ev nn (.ask (.ex Nat fun x0=>.ex Nat fun x1=>.done (.res (.sc (.complex Go.FloatKind.f64 x0 x1)) [r1] (post_anyW l r1 x0 x1)) ((kK x0 x1).h))),E_anyW l r1 ∧ (∀ x0 x1,post_anyW l r1 x0 x1 → (kK x0 x1).p)⟩
def IH_anyW (b : Nat) : Prop := ∀ {l : List AV} {r1 : List AV},rank_anyW (l) (r1) < b → pre_anyW (l) (r1) → E_anyW (l) (r1)
theorem IH_anyW_le (b c : Nat) (h : b ≤ c) (k : IH_anyW c) : IH_anyW b := fun hr hp=>k (Nat.lt_of_lt_of_le hr h) hp
abbrev E_condW (k a c : Int) (s : List AV) (g : Bool) (n m mode : Int) (nm : ByteArray) (on off : Int) (K r1 : List AV) : Prop := ∃ x0 x1,post_condW k a c s g n m mode nm on off K r1 x0 x1 ∧ A 38 [(.ptr 0 0),(.agg (nR k a c s g n m mode nm on off K))] [r1] (.sc (.complex Go.FloatKind.f64 x0 x1)) [r1]
abbrev j_condW (nn : Nat) (k a c : Int) (s : List AV) (g : Bool) (n m mode : Int) (nm : ByteArray) (on off : Int) (K r1 : List AV) (kK : Nat → Nat → HC) : HC := ⟨.ev nn (.ask (.ex Nat fun x0=>.ex Nat fun x1=>.done (.res (.sc (.complex Go.FloatKind.f64 x0 x1)) [r1] (post_condW k a c s g n m mode nm on off K r1 x0 x1)) ((kK x0 x1).h))),E_condW k a c s g n m mode nm on off K r1 ∧ (∀ x0 x1,post_condW k a c s g n m mode nm on off K r1 x0 x1 → (kK x0 x1).p)⟩
def IH_condW (b : Nat) : Prop := ∀ {k : Int} {a : Int} {c : Int} {s : List AV} {g : Bool} {n : Int} {m : Int} {mode : Int} {nm : ByteArray} {on : Int} {off : Int} {K : List AV} {r1 : List AV},rank_condW (k) (a) (c) (s) (g) (n) (m) (mode) (nm) (on) (off) (K) (r1) < b → pre_condW (k) (a) (c) (s) (g) (n) (m) (mode) (nm) (on) (off) (K) (r1) → E_condW (k) (a) (c) (s) (g) (n) (m) (mode) (nm) (on) (off) (K) (r1)
theorem IH_condW_le (b c : Nat) (h : b ≤ c) (k : IH_condW c) : IH_condW b := fun hr hp=>k (Nat.lt_of_lt_of_le hr h) hp
def s_anyW_0 (x0 : List AV) (x1 : Int) (x2 : List AV) (x3 x4 : Nat) (x5 : Int) : St := ⟨[],[(0,(.ptr 0 0)),(5,(.sc (.complex Go.FloatKind.f64 x3 x4))),(14,(.sl 12 x0)),(15,(iv x1)),(16,(iv x5))],[x2],0⟩
def x_anyW_0_0 (x0 : List AV) (x1 : Int) (x2 : List AV) (y3 y4 : Nat) (y5 : Int) : St := ⟨[],[(0,(.ptr 0 0)),(5,(.sc (.complex Go.FloatKind.f64 y3 y4))),(14,(.sl 12 x0)),(15,(iv x1)),(16,(iv y5)),(17,(bv false))],[x2],0⟩
abbrev E_anyW_0 (x0 : List AV) (x1 : Int) (x2 : List AV) (x3o x4o : Nat) (x5o : Int) : Prop := (∃ y6 y7 y8,out_anyW_0_0 x0 x1 x2 x3o x4o x5o y6 y7 y8 ∧ R 37 0 (s_anyW_0 x0 x1 x2 x3o x4o x5o) ((.exit 0),x_anyW_0_0 x0 x1 x2 y6 y7 y8))
abbrev j_anyW_0 (nn : Nat) (x0 : List AV) (x1 : Int) (x2 : List AV) (x3o x4o : Nat) (x5o : Int) (f0 : Nat → Nat → Int → HC) : HC := ⟨.ev nn (.ask (.ex Nat fun y6=>.ex Nat fun y7=>eI fun y8=>.done (.exit (.exit 0) (x_anyW_0_0 x0 x1 x2 y6 y7 y8) (out_anyW_0_0 x0 x1 x2 x3o x4o x5o y6 y7 y8)) (f0 y6 y7 y8).h)),E_anyW_0 x0 x1 x2 x3o x4o x5o ∧ (∀ y6 y7 y8,out_anyW_0_0 x0 x1 x2 x3o x4o x5o y6 y7 y8 → (f0 y6 y7 y8).p)⟩
abbrev t_anyW_0 (x0 : List AV) (x1 : Int) (x2 : List AV) (x3 x4 : Nat) (x5 : Int) (Q : Ex → St → Prop) : HC := (dd 1 ((decide (x5 < x1))) (oo 0 ((decide (0 ≤ x5))) (pN 1 ((x0[x5.toNat]?)) fun x6 x7 x8 x9 x10 x11 x12 x13 x14 x15 x16 x17=>(j_nodeW 1 x6 x7 x8 x9 x10 x11 x12 x13 x14 x15 x16 x17 x2 fun x18 x19=>(j_orW 1 x3 x4 x18 x19 fun x20 x21=>(zz 1 (Q .norm (s_anyW_0 x0 x1 x2 x20 x21 (w6 (x5 + 1))))))))) (zz 0 (Q (.exit 0) (x_anyW_0_0 x0 x1 x2 x3 x4 x5))))
theorem l_anyW_0 (x0 x1 x2 x3 x4 x5) (Q : Ex → St → Prop) (h : (t_anyW_0 x0 x1 x2 x3 x4 x5 Q).p) : ∃ e s',L 37 0 (s_anyW_0 x0 x1 x2 x3 x4 x5) (e,s') ∧ Q e s' :=
 Leads.wq (t_anyW_0 x0 x1 x2 x3 x4 x5 Q).h (by kernel_rfl) h
theorem k_anyW_0 {B : Nat} (ih_nodeW : IH_nodeW B) {x0 x1 x2 x3o x4o x5o} (hi : inv_anyW_0 B x0 x1 x2 x3o x4o x5o x3o x4o x5o) : E_anyW_0 x0 x1 x2 x3o x4o x5o := by
 obtain ⟨e,s',hr,hq⟩ := Rounds.byInv (st := fun (w : Nat × Nat × Int)=>s_anyW_0 x0 x1 x2 w.1 w.2.1 w.2.2) (Inv := fun w=>inv_anyW_0 B x0 x1 x2 x3o x4o x5o w.1 w.2.1 w.2.2) (μ := fun w=>mu_anyW_0 x0 x1 x2 w.1 w.2.1 w.2.2) (Q := fun e s'=>(∃ y6 y7 y8,out_anyW_0_0 x0 x1 x2 x3o x4o x5o y6 y7 y8 ∧ e = (.exit 0) ∧ s' = x_anyW_0_0 x0 x1 x2 y6 y7 y8)) (by
  rintro ⟨x3,x4,x5⟩ hi
  have hi : inv_anyW_0 B x0 x1 x2 x3o x4o x5o x3 x4 x5 := hi
  refine l_anyW_0 x0 x1 x2 x3 x4 x5 _ ?_
  obtain ⟨_,_,_,_,_,_,_,_,_⟩ := hi
  apply bS <;> intro _
  ·refine ⟨tD,tG,fun _ _ _ _ _ _ _ _ _ _ _ _ g22=>?_⟩
   have edg39 := nsz_drop g22; first | (have eg22 := Ns.elem tA g22; have eng39 := nsz_get g22; obtain ⟨_,_,_,_⟩ := eg22.nw) | (have eg22 := Nf.elem tA g22; have eng39 := nsz_get g22; obtain ⟨_,_⟩ := eg22.nw)
   refine ⟨ih_nodeW (by (try unfold rank_nodeW); (try unfold rank_anyW); (try have := (dropped (show Ns _ from by assumption)).2.1); exact tI) zw1x7,fun _ _ p25=>?_⟩
   unfold post_nodeW at p25
   refine ⟨c_orW zw1x7,fun x26 x27 p28=>?_⟩
   unfold post_orW at p28
   try have := tW (x5 + 1)
   exact .inl ⟨rfl,(x26,x27,(w6 (x5 + 1))),rfl,by (try dsimp only); first | (obtain ⟨d1,d2,d3,d4⟩ := dropped (show Ns l from by assumption); refine ⟨tP,tP,tP,tP,tP,tP,tP,tP,?_⟩; exact wn_t0 (WE.wo tA)) | (refine ⟨tP,tP,tP,tP,tP,tP,tP,tP,?_⟩; exact wn_tail (by omega) (by omega) tA tA tA tA),by unfold mu_anyW_0; exact tI⟩
  exact .inr ⟨by simp,⟨_,_,_,by exact tail_end tA (by omega),rfl,rfl⟩⟩) (x3o,x4o,x5o) hi
 rcases hq with ⟨_,_,_,ho,rfl,rfl⟩
 exact ⟨_,_,_,ho,hr⟩
abbrev t_anyW (l r1 : List AV) (Q : AV → HH → Prop) : HC := (pN 2 ((l[0]?)) fun x0 x1 x2 x3 x4 x5 x6 x7 x8 x9 x10 x11=>(j_nodeW 1 x0 x1 x2 x3 x4 x5 x6 x7 x8 x9 x10 x11 r1 fun x12 x13=>(oo 2 (((Nat.ble 1 l.length) && (l.length.ble l.length))) (j_anyW_0 0 (List.drop 1 (List.take l.length l)) ((↑(List.drop 1 (List.take l.length l)).length : Int)) r1 x12 x13 0 (fun x14 x15 x16=>(zz 1 (Q (.sc (.complex Go.FloatKind.f64 x14 x15)) [r1])))))))
theorem w_anyW (l r1) (Q : AV → HH → Prop) (h : (t_anyW l r1 Q).p) : ∃ r H',A 37 [(.ptr 0 0),(.sl 12 l)] [r1] r H' ∧ Q r H' :=
 Ans.wq rfl (t_anyW l r1 Q).h (by kernel_rfl) h
theorem i_anyW {l r1} (ih_nodeW : IH_nodeW (rank_anyW l r1)) (hp : pre_anyW l r1) : E_anyW l r1 := by
 obtain ⟨_,_,ha,_,_,hq,rfl,rfl⟩ := w_anyW l r1 (fun r H'=>∃ x0 x1,post_anyW (l) (r1) x0 x1 ∧ r = (.sc (.complex Go.FloatKind.f64 x0 x1)) ∧ H' = [(r1)]) (by
  obtain ⟨_,_,_,_,_⟩ := hp
  refine ⟨tG,fun _ _ _ _ _ _ _ _ _ _ _ _ g14=>?_⟩
  have edg15 := nsz_drop g14; first | (have eg14 := Ns.elem tA g14; have eng15 := nsz_get g14; obtain ⟨_,_,_,_⟩ := eg14.nw) | (have eg14 := Nf.elem tA g14; have eng15 := nsz_get g14; obtain ⟨_,_⟩ := eg14.nw)
  refine ⟨ih_nodeW (by (try unfold rank_nodeW); (try unfold rank_anyW); (try have := (dropped (show Ns _ from by assumption)).2.1); exact tI) zw1x7,fun _ _ p17=>?_⟩
  unfold post_nodeW at p17
  refine ⟨tD,k_anyW_0 ih_nodeW (by (try dsimp only); first | (obtain ⟨d1,d2,d3,d4⟩ := dropped (show Ns l from by assumption); refine ⟨tP,tP,tP,tP,tP,tP,tP,tP,?_⟩; exact wn_t0 (WE.wo tA)) | (refine ⟨tP,tP,tP,tP,tP,tP,tP,tP,?_⟩; exact wn_tail (by omega) (by omega) tA tA tA tA)),fun _ _ _ e21=>?_⟩
  have e21_0 := e21
  unfold out_anyW_0_0 at e21_0
  try replace e21_0 := nz e21_0
  exact ⟨_,_,by exact wn_any tA tA tA,rfl,rfl⟩)
 exact ⟨_,_,hq,ha⟩
abbrev t_condW (k a c : Int) (s : List AV) (g : Bool) (n m mode : Int) (nm : ByteArray) (on off : Int) (K r1 : List AV) (Q : AV → HH → Prop) : HC := (dd 1 ((n == 12)) (zz 1 (Q (.sc (.complex Go.FloatKind.f64 0 0)) [r1])) (dd 1 ((n == 13)) (oo 2 (((Nat.ble 1 K.length) && (K.length.ble K.length))) (j_anyW 1 (List.drop 1 (List.take K.length K)) r1 fun x0 x1=>(dd 1 (((↑(List.drop 1 (List.take K.length K)).length : Int) == 1)) (j_orW 1 x0 x1 0 0 fun x2 x3=>(zz 1 (Q (.sc (.complex Go.FloatKind.f64 x2 x3)) [r1]))) (zz 1 (Q (.sc (.complex Go.FloatKind.f64 x0 x1)) [r1]))))) (j_anyW 1 K r1 fun x4 x5=>(dd 1 (((↑K.length : Int) == 1)) (j_orW 1 x4 x5 0 0 fun x6 x7=>(zz 1 (Q (.sc (.complex Go.FloatKind.f64 x6 x7)) [r1]))) (zz 1 (Q (.sc (.complex Go.FloatKind.f64 x4 x5)) [r1]))))))
theorem w_condW (k a c s g n m mode nm on off K r1) (Q : AV → HH → Prop) (h : (t_condW k a c s g n m mode nm on off K r1 Q).p) : ∃ r H',A 38 [(.ptr 0 0),(.agg (nR k a c s g n m mode nm on off K))] [r1] r H' ∧ Q r H' :=
 Ans.wq rfl (t_condW k a c s g n m mode nm on off K r1 Q).h (by kernel_rfl) h
theorem i_condW {k a c s g n m mode nm on off K r1} (ih_anyW : IH_anyW (rank_condW k a c s g n m mode nm on off K r1)) (hp : pre_condW k a c s g n m mode nm on off K r1) : E_condW k a c s g n m mode nm on off K r1 := by
 obtain ⟨_,_,ha,_,_,hq,rfl,rfl⟩ := w_condW k a c s g n m mode nm on off K r1 (fun r H'=>∃ x0 x1,post_condW (k) (a) (c) (s) (g) (n) (m) (mode) (nm) (on) (off) (K) (r1) x0 x1 ∧ r = (.sc (.complex Go.FloatKind.f64 x0 x1)) ∧ H' = [(r1)]) (by
  obtain ⟨_,⟨_,_,_,_⟩,_,_⟩ := hp
  apply bS <;> intro _
  ·exact ⟨0,0,zw1x8,rfl,rfl⟩
  apply bS <;> intro _
  ·refine ⟨by have hs := (show shapeN _ _ _ _ from by assumption); rw [shapeN_eq] at hs; exact tD,?_⟩
   refine ⟨ih_anyW (by (try unfold rank_anyW); (try unfold rank_condW); (try have := (dropped (show Ns _ from by assumption)).2.1); exact tI) zw1x9,fun _ _ p6=>?_⟩
   unfold post_anyW at p6
   try replace p6 := nz p6
   apply bS <;> intro h7
   ·try replace h7 := nz h7
    refine ⟨c_orW zw1x9,fun _ _ p10=>?_⟩
    unfold post_orW at p10
    exact ⟨_,_,zw1x8,rfl,rfl⟩
   try replace h7 := nz h7
   exact ⟨_,_,zw1x8,rfl,rfl⟩
  refine ⟨ih_anyW (by (try unfold rank_anyW); (try unfold rank_condW); (try have := (dropped (show Ns _ from by assumption)).2.1); exact tI) zw1x9,fun _ _ p13=>?_⟩
  unfold post_anyW at p13
  apply bS <;> intro _
  ·refine ⟨c_orW zw1x9,fun _ _ p17=>?_⟩
   unfold post_orW at p17
   exact ⟨_,_,zw1x8,rfl,rfl⟩
  exact ⟨_,_,zw1x8,rfl,rfl⟩)
 exact ⟨_,_,hq,ha⟩
abbrev t_callW (x b1 b2 b3 : Int) (b4 : List AV) (b5 : Bool) (b6 b7 b8 : Int) (b9 : ByteArray) (b10 b11 : Int) (b12 : List AV) (Q : AV → HH → Prop) : HC := (oo 0 ((npL [(.agg (nR b1 b2 b3 b4 b5 b6 b7 b8 b9 b10 b11 b12)),(iv x)])) (j_groupW 0 b1 b2 b3 b4 b5 b6 b7 b8 b9 b10 b11 b12 x fun x0 x1 x2 x3 x4 x5 x6 x7 x8 x9 x10 x11 x12=>(dd 1 ((!x12)) (j_of 6 0 4787326403894837248 fun x13 x14=>(zz 1 (Q (.sc (.complex Go.FloatKind.f64 x13 x14)) [[(iv b1),(iv b2),(iv b3),(.sl 2 b4),(bv b5),(iv b6),(iv b7),(iv b8),(sv b9),(iv b10),(iv b11),(.sl 12 b12),(bv false)]]))) (j_nodeY 6 x0 x1 x2 x3 x4 x5 x6 x7 x8 x9 x10 x11 b1 b2 b3 b4 b5 b6 b7 b8 b9 b10 b11 b12 false b1 b2 b3 b4 b5 b6 b7 b8 b9 b10 b11 b12 true fun x15 x16=>(oo 1 ((((np (.sc (.complex Go.FloatKind.f64 x15 x16))) && ((npL [(iv b1),(iv b2),(iv b3),(.sl 2 b4),(bv b5),(iv b6),(iv b7),(iv b8),(sv b9),(iv b10),(iv b11),(.sl 12 b12),(bv false)]) && true)) && true)) (zz 0 (Q (.sc (.complex Go.FloatKind.f64 x15 x16)) [[(iv b1),(iv b2),(iv b3),(.sl 2 b4),(bv b5),(iv b6),(iv b7),(iv b8),(sv b9),(iv b10),(iv b11),(.sl 12 b12),(bv false)]])))))))
theorem w_callW (x b1 b2 b3 b4 b5 b6 b7 b8 b9 b10 b11 b12) (Q : AV → HH → Prop) (h : (t_callW x b1 b2 b3 b4 b5 b6 b7 b8 b9 b10 b11 b12 Q).p) : ∃ r H',A 40 [(.ptr 0 0),(iv x)] [[(iv b1),(iv b2),(iv b3),(.sl 2 b4),(bv b5),(iv b6),(iv b7),(iv b8),(sv b9),(iv b10),(iv b11),(.sl 12 b12),(bv false)]] r H' ∧ Q r H' :=
 Ans.wq rfl (t_callW x b1 b2 b3 b4 b5 b6 b7 b8 b9 b10 b11 b12 Q).h (by kernel_rfl) h
theorem c_callW {x b1 b2 b3 b4 b5 b6 b7 b8 b9 b10 b11 b12} (hp : pre_callW x b1 b2 b3 b4 b5 b6 b7 b8 b9 b10 b11 b12 false) : ∃ (x0 x1 : Nat),post_callW x b1 b2 b3 b4 b5 b6 b7 b8 b9 b10 b11 b12 false x0 x1 ∧ A 40 [(.ptr 0 0),(iv x)] [[(iv b1),(iv b2),(iv b3),(.sl 2 b4),(bv b5),(iv b6),(iv b7),(iv b8),(sv b9),(iv b10),(iv b11),(.sl 12 b12),(bv false)]] (.sc (.complex Go.FloatKind.f64 x0 x1)) [[(iv b1),(iv b2),(iv b3),(.sl 2 b4),(bv b5),(iv b6),(iv b7),(iv b8),(sv b9),(iv b10),(iv b11),(.sl 12 b12),(bv false)]] := by
 obtain ⟨_,_,ha,_,_,hq,rfl,rfl⟩ := w_callW x b1 b2 b3 b4 b5 b6 b7 b8 b9 b10 b11 b12 (fun r H'=>∃ x0 x1,post_callW (x) (b1) (b2) (b3) (b4) (b5) (b6) (b7) (b8) (b9) (b10) (b11) (b12) false x0 x1 ∧ r = (.sc (.complex Go.FloatKind.f64 x0 x1)) ∧ H' = [[(iv (b1)),(iv (b2)),(iv (b3)),(.sl 2 (b4)),(bv (b5)),(iv (b6)),(iv (b7)),(iv (b8)),(sv (b9)),(iv (b10)),(iv (b11)),(.sl 12 (b12)),(bv false)]]) (by
  obtain ⟨⟨_,_,_,_⟩,_⟩ := hp
  refine ⟨tN,c_groupW zw1x10,fun _ _ _ _ _ _ _ _ _ _ _ _ _ p15=>?_⟩
  obtain ⟨p15_0,p15_1⟩ := p15
  apply bS <;> intro h16
  ·have p15_1c := p15_1 h16
   refine ⟨c_of zw1x10,fun _ _ p19=>?_⟩
   have p19_0 := p19
   exact ⟨_,_,by first | exact (WE.none tA).to (hF_none tA).symm | exact WE.to tA (hF_some tA).symm,rfl,rfl⟩
  obtain ⟨⟨_,_,_,_⟩,_,_⟩ := p15_0 h16
  refine ⟨c_nodeY zw1x10,fun _ _ p22=>?_⟩
  unfold post_nodeY at p22
  refine ⟨tN,?_⟩
  exact ⟨_,_,by first | exact (WE.none tA).to (hF_none tA).symm | exact WE.to tA (hF_some tA).symm,rfl,rfl⟩)
 exact ⟨_,_,hq,ha⟩
abbrev E_callXW (x : Int) (r1 : List AV) : Prop := ∃ u v : Nat,post_callXW x r1 u v ∧ A 40 [.ptr 0 0,iv x] [r1] (.sc (.complex .f64 u v)) [r1]
abbrev j_callXW (nn : Nat) (x : Int) (r1 : List AV) (f : Nat → Nat → HC) : HC := ⟨.ev nn (.ask (.ex Nat fun u=>.ex Nat fun v=>.done (.res (.sc (.complex .f64 u v)) [r1] (post_callXW x r1 u v)) (f u v).h)),E_callXW x r1 ∧ ∀ u v : Nat,post_callXW x r1 u v → (f u v).p⟩
theorem c_callXW {x r1} (hp : pre_callXW x r1) : E_callXW x r1 := by
 obtain ⟨_,_,_,_,_,_,_,_,_,_,_,_,rfl,h,hz⟩ := hp
 obtain ⟨u,v,h,ha⟩ := c_callW (x := x) ⟨h,hz⟩
 exact ⟨u,v,h,ha⟩
def s_nodeW_0 (x0 : List AV) (x1 : Int) (x2 : List AV) (x3 x4 : Nat) (x5 : Int) : St := ⟨[],[(0,(.ptr 0 0)),(5,(.sc (.complex Go.FloatKind.f64 x3 x4))),(22,(.sl 12 x0)),(23,(iv x1)),(24,(iv x5))],[x2],0⟩
def x_nodeW_0_0 (x0 : List AV) (x1 : Int) (x2 : List AV) (y3 y4 : Nat) (y5 : Int) : St := ⟨[],[(0,(.ptr 0 0)),(5,(.sc (.complex Go.FloatKind.f64 y3 y4))),(22,(.sl 12 x0)),(23,(iv x1)),(24,(iv y5)),(25,(bv false))],[x2],0⟩
abbrev E_nodeW_0 (x0 : List AV) (x1 : Int) (x2 : List AV) (x3o x4o : Nat) (x5o : Int) : Prop := (∃ y6 y7 y8,out_nodeW_0_0 x0 x1 x2 x3o x4o x5o y6 y7 y8 ∧ R 18 0 (s_nodeW_0 x0 x1 x2 x3o x4o x5o) ((Ex.exit 1),x_nodeW_0_0 x0 x1 x2 y6 y7 y8))
abbrev j_nodeW_0 (nn : Nat) (x0 : List AV) (x1 : Int) (x2 : List AV) (x3o x4o : Nat) (x5o : Int) (f0 : Nat → Nat → Int → HC) : HC := ⟨.ev nn (.ask (.ex Nat fun y6=>.ex Nat fun y7=>eI fun y8=>.done (.exit (Ex.exit 1) (x_nodeW_0_0 x0 x1 x2 y6 y7 y8) (out_nodeW_0_0 x0 x1 x2 x3o x4o x5o y6 y7 y8)) (f0 y6 y7 y8).h)),E_nodeW_0 x0 x1 x2 x3o x4o x5o ∧ (∀ y6 y7 y8,out_nodeW_0_0 x0 x1 x2 x3o x4o x5o y6 y7 y8 → (f0 y6 y7 y8).p)⟩
abbrev t_nodeW_0 (x0 : List AV) (x1 : Int) (x2 : List AV) (x3 x4 : Nat) (x5 : Int) (Q : Ex → St → Prop) : HC := (dd 1 ((decide (x5 < x1))) (oo 0 ((decide (0 ≤ x5))) (pN 1 ((x0[x5.toNat]?)) fun x6 x7 x8 x9 x10 x11 x12 x13 x14 x15 x16 x17=>(j_nodeW 1 x6 x7 x8 x9 x10 x11 x12 x13 x14 x15 x16 x17 x2 fun x18 x19=>(j_plus 1 x3 x4 x18 x19 fun x20 x21=>(zz 1 (Q .norm (s_nodeW_0 x0 x1 x2 x20 x21 (w6 (x5 + 1))))))))) (zz 0 (Q (Ex.exit 1) (x_nodeW_0_0 x0 x1 x2 x3 x4 x5))))
theorem l_nodeW_0 (x0 x1 x2 x3 x4 x5) (Q : Ex → St → Prop) (h : (t_nodeW_0 x0 x1 x2 x3 x4 x5 Q).p) : ∃ e s',L 18 0 (s_nodeW_0 x0 x1 x2 x3 x4 x5) (e,s') ∧ Q e s' :=
 Leads.wq (t_nodeW_0 x0 x1 x2 x3 x4 x5 Q).h (by kernel_rfl) h
theorem k_nodeW_0 {B : Nat} (ih_nodeW : IH_nodeW B) (ih_anyW : IH_anyW B) (ih_condW : IH_condW B) {x0 x1 x2 x3o x4o x5o} (hi : inv_nodeW_0 B x0 x1 x2 x3o x4o x5o x3o x4o x5o) : E_nodeW_0 x0 x1 x2 x3o x4o x5o := by
 obtain ⟨e,s',hr,hq⟩ := Rounds.byInv (st := fun (w : Nat × Nat × Int)=>s_nodeW_0 x0 x1 x2 w.1 w.2.1 w.2.2) (Inv := fun w=>inv_nodeW_0 B x0 x1 x2 x3o x4o x5o w.1 w.2.1 w.2.2) (μ := fun w=>mu_nodeW_0 x0 x1 x2 w.1 w.2.1 w.2.2) (Q := fun e s'=>(∃ y6 y7 y8,out_nodeW_0_0 x0 x1 x2 x3o x4o x5o y6 y7 y8 ∧ e = (Ex.exit 1) ∧ s' = x_nodeW_0_0 x0 x1 x2 y6 y7 y8)) (by
  rintro ⟨x3,x4,x5⟩ hi
  have hi : inv_nodeW_0 B x0 x1 x2 x3o x4o x5o x3 x4 x5 := hi
  refine l_nodeW_0 x0 x1 x2 x3 x4 x5 _ ?_
  obtain ⟨_,_,_,_,_,_,_,_,_⟩ := hi
  apply bS <;> intro _
  ·refine ⟨tD,tG,fun _ _ _ _ _ _ _ _ _ _ _ _ g22=>?_⟩
   have edg37 := nsz_drop g22; first | (have eg22 := Ns.elem tA g22; have eng37 := nsz_get g22; obtain ⟨_,_,_,_⟩ := eg22.nw) | (have eg22 := Nf.elem tA g22; have eng37 := nsz_get g22; obtain ⟨_,_⟩ := eg22.nw)
   refine ⟨ih_nodeW zw1x14 zw1x12,fun _ _ p25=>?_⟩
   unfold post_nodeW at p25
   refine ⟨c_plus zw1x12,fun x26 x27 p28=>?_⟩
   unfold post_plus at p28
   try have := tW (x5 + 1)
   exact .inl ⟨rfl,(x26,x27,(w6 (x5 + 1))),rfl,by (try dsimp only); refine ⟨tP,tP,tP,tP,tP,tP,tP,tP,?_⟩; first | exact WE.zero | exact wn_seq (by omega) (by omega) tA tA tA tA,by unfold mu_nodeW_0; exact tI⟩
  exact .inr ⟨by simp,⟨_,_,_,by exact seq_end tA (by omega),rfl,rfl⟩⟩) (x3o,x4o,x5o) hi
 rcases hq with ⟨_,_,_,ho,rfl,rfl⟩
 exact ⟨_,_,_,ho,hr⟩
abbrev t_nodeW (k a c : Int) (s : List AV) (g : Bool) (n m mode : Int) (nm : ByteArray) (on off : Int) (K r1 : List AV) (Q : AV → HH → Prop) : HC := (oo 0 ((npL [(.agg (nR k a c s g n m mode nm on off K))])) (j_accW 0 k a c s g n m mode nm on off K fun x0=>(dd 0 x0 (j_of 1 0 4787326403894837248 fun x1 x2=>(zz 1 (Q (.sc (.complex Go.FloatKind.f64 x1 x2)) [r1]))) (dd 1 ((k == 2)) (j_of 1 4607182418800017408 4607182418800017408 fun x3 x4=>(zz 1 (Q (.sc (.complex Go.FloatKind.f64 x3 x4)) [r1]))) (dd 1 ((k == 7)) (j_of 1 0 4787326403894837248 fun x5 x6=>(zz 1 (Q (.sc (.complex Go.FloatKind.f64 x5 x6)) [r1]))) (dd 1 ((k == 12)) (j_nodeW_0 0 K ((↑K.length : Int)) r1 0 0 0 (fun x7 x8 x9=>(zz 1 (Q (.sc (.complex Go.FloatKind.f64 x7 x8)) [r1])))) (dd 1 ((k == 13)) (j_anyW 2 K r1 fun x10 x11=>(zz 1 (Q (.sc (.complex Go.FloatKind.f64 x10 x11)) [r1]))) (dd 1 ((k == 16)) (j_anyW 1 K r1 fun x12 x13=>(zz 1 (Q (.sc (.complex Go.FloatKind.f64 x12 x13)) [r1]))) (dd 1 ((k == 14)) (pN 3 ((K[0]?)) fun x14 x15 x16 x17 x18 x19 x20 x21 x22 x23 x24 x25=>(j_nodeW 1 x14 x15 x16 x17 x18 x19 x20 x21 x22 x23 x24 x25 r1 fun x26 x27=>(zz 1 (Q (.sc (.complex Go.FloatKind.f64 x26 x27)) [r1])))) (dd 1 ((k == 17)) (pN 2 ((K[0]?)) fun x28 x29 x30 x31 x32 x33 x34 x35 x36 x37 x38 x39=>(j_nodeW 1 x28 x29 x30 x31 x32 x33 x34 x35 x36 x37 x38 x39 r1 fun x40 x41=>(zz 1 (Q (.sc (.complex Go.FloatKind.f64 x40 x41)) [r1])))) (dd 1 ((k == 19)) (j_condW 1 k a c s g n m mode nm on off K r1 fun x42 x43=>(zz 1 (Q (.sc (.complex Go.FloatKind.f64 x42 x43)) [r1]))) (dd 1 ((k == 20)) (pN 2 ((K[0]?)) fun x44 x45 x46 x47 x48 x49 x50 x51 x52 x53 x54 x55=>(j_nodeW 1 x44 x45 x46 x47 x48 x49 x50 x51 x52 x53 x54 x55 r1 fun x56 x57=>(oo 0 ((npL [(.sc (.complex Go.FloatKind.f64 x56 x57)),(.agg (nR k a c s g n m mode nm on off K))])) (j_rep 0 x56 x57 k a c s g n m mode nm on off K fun x58 x59=>(zz 1 (Q (.sc (.complex Go.FloatKind.f64 x58 x59)) [r1])))))) (dd 1 ((k == 8)) (j_callXW 1 n r1 fun x60 x61=>(zz 1 (Q (.sc (.complex Go.FloatKind.f64 x60 x61)) [r1]))) (zz 1 (Q (.sc (.complex Go.FloatKind.f64 0 0)) [r1])))))))))))))))
theorem w_nodeW (k a c s g n m mode nm on off K r1) (Q : AV → HH → Prop) (h : (t_nodeW k a c s g n m mode nm on off K r1 Q).p) : ∃ r H',A 18 [(.ptr 0 0),(.agg (nR k a c s g n m mode nm on off K))] [r1] r H' ∧ Q r H' :=
 Ans.wq rfl (t_nodeW k a c s g n m mode nm on off K r1 Q).h (by kernel_rfl) h
theorem i_nodeW {k a c s g n m mode nm on off K r1} (ih_nodeW : IH_nodeW (rank_nodeW k a c s g n m mode nm on off K r1)) (ih_anyW : IH_anyW (rank_nodeW k a c s g n m mode nm on off K r1)) (ih_condW : IH_condW (rank_nodeW k a c s g n m mode nm on off K r1)) (hp : pre_nodeW k a c s g n m mode nm on off K r1) : E_nodeW k a c s g n m mode nm on off K r1 := by
 obtain ⟨_,_,ha,_,_,hq,rfl,rfl⟩ := w_nodeW k a c s g n m mode nm on off K r1 (fun r H'=>∃ x0 x1,post_nodeW (k) (a) (c) (s) (g) (n) (m) (mode) (nm) (on) (off) (K) (r1) x0 x1 ∧ r = (.sc (.complex Go.FloatKind.f64 x0 x1)) ∧ H' = [(r1)]) (by
  obtain ⟨⟨_,_,_,_⟩,_,_⟩ := hp
  refine ⟨tN,c_accW zw1x12,fun _ p3=>?_⟩
  unfold post_accW at p3
  apply bS <;> intro _
  ·refine ⟨c_of zw1x12,fun _ _ p7=>?_⟩
   have p7_0 := p7
   exact ⟨_,_,zw1x13,rfl,rfl⟩
  apply bS <;> intro _
  ·refine ⟨c_of zw1x12,fun _ _ p11=>?_⟩
   have p11_0 := p11
   exact ⟨_,_,zw1x13,rfl,rfl⟩
  apply bS <;> intro _
  ·refine ⟨c_of zw1x12,fun _ _ p15=>?_⟩
   have p15_0 := p15
   exact ⟨_,_,zw1x13,rfl,rfl⟩
  apply bS <;> intro _
  ·refine ⟨k_nodeW_0 ih_nodeW ih_anyW ih_condW (by (try dsimp only); refine ⟨tP,tP,tP,tP,tP,tP,tP,tP,?_⟩; first | exact WE.zero | exact wn_seq (by omega) (by omega) tA tA tA tA),fun _ _ _ e20=>?_⟩
   have e20_0 := e20
   unfold out_nodeW_0_0 at e20_0
   exact ⟨_,_,zw1x13,rfl,rfl⟩
  apply bS <;> intro _
  ·refine ⟨ih_anyW (by (try unfold rank_anyW); (try unfold rank_nodeW); (try have := (dropped (show Ns _ from by assumption)).2.1); exact tI) zw1x12,fun _ _ p24=>?_⟩
   unfold post_anyW at p24
   exact ⟨_,_,zw1x13,rfl,rfl⟩
  apply bS <;> intro _
  ·refine ⟨ih_anyW (by (try unfold rank_anyW); (try unfold rank_nodeW); (try have := (dropped (show Ns _ from by assumption)).2.1); exact tI) zw1x12,fun _ _ p28=>?_⟩
   unfold post_anyW at p28
   exact ⟨_,_,zw1x13,rfl,rfl⟩
  apply bS <;> intro _
  ·refine ⟨tG,fun _ _ _ _ _ _ _ _ _ _ _ _ g42=>?_⟩
   have edg85 := nsz_drop g42; first | (have eg42 := Ns.elem tA g42; have eng85 := nsz_get g42; obtain ⟨_,_,_,_⟩ := eg42.nw) | (have eg42 := Nf.elem tA g42; have eng85 := nsz_get g42; obtain ⟨_,_⟩ := eg42.nw)
   refine ⟨ih_nodeW zw1x14 zw1x12,fun _ _ p45=>?_⟩
   unfold post_nodeW at p45
   exact ⟨_,_,zw1x13,rfl,rfl⟩
  apply bS <;> intro _
  ·refine ⟨tG,fun _ _ _ _ _ _ _ _ _ _ _ _ g59=>?_⟩
   have edg103 := nsz_drop g59; first | (have eg59 := Ns.elem tA g59; have eng103 := nsz_get g59; obtain ⟨_,_,_,_⟩ := eg59.nw) | (have eg59 := Nf.elem tA g59; have eng103 := nsz_get g59; obtain ⟨_,_⟩ := eg59.nw)
   refine ⟨ih_nodeW zw1x14 zw1x12,fun _ _ p62=>?_⟩
   unfold post_nodeW at p62
   exact ⟨_,_,zw1x13,rfl,rfl⟩
  apply bS <;> intro _
  ·refine ⟨ih_condW (by (try unfold rank_condW); (try unfold rank_nodeW); (try have := (dropped (show Ns _ from by assumption)).2.1); exact tI) zw1x12,fun _ _ p66=>?_⟩
   unfold post_condW at p66
   exact ⟨_,_,zw1x13,rfl,rfl⟩
  apply bS <;> intro _
  ·refine ⟨tG,fun _ _ _ _ _ _ _ _ _ _ _ _ g80=>?_⟩
   have edg126 := nsz_drop g80; first | (have eg80 := Ns.elem tA g80; have eng126 := nsz_get g80; obtain ⟨_,_,_,_⟩ := eg80.nw) | (have eg80 := Nf.elem tA g80; have eng126 := nsz_get g80; obtain ⟨_,_⟩ := eg80.nw)
   refine ⟨ih_nodeW zw1x14 zw1x12,fun _ _ p83=>?_⟩
   unfold post_nodeW at p83
   refine ⟨tN,c_rep zw1x12,fun _ _ p86=>?_⟩
   unfold post_rep at p86
   exact ⟨_,_,zw1x13,rfl,rfl⟩
  apply bS <;> intro _
  ·refine ⟨c_callXW zw1x12,fun _ _ p90=>?_⟩
   unfold post_callXW at p90
   exact ⟨_,_,zw1x13,rfl,rfl⟩
  exact ⟨0,0,zw1x13,rfl,rfl⟩)
 exact ⟨_,_,hq,ha⟩
theorem nodeW_all : ∀ b,IH_nodeW b ∧ IH_anyW b ∧ IH_condW b
 | 0=>⟨fun hr _=>absurd hr (Nat.not_lt_zero _),fun hr _=>absurd hr (Nat.not_lt_zero _),fun hr _=>absurd hr (Nat.not_lt_zero _)⟩
 | b + 1=>by
  obtain ⟨h0,h1,h2⟩ := nodeW_all b
  exact ⟨fun hr hp=>i_nodeW (IH_nodeW_le _ _ (Nat.le_of_lt_succ hr) h0) (IH_anyW_le _ _ (Nat.le_of_lt_succ hr) h1) (IH_condW_le _ _ (Nat.le_of_lt_succ hr) h2) hp,fun hr hp=>i_anyW (IH_nodeW_le _ _ (Nat.le_of_lt_succ hr) h0) hp,fun hr hp=>i_condW (IH_anyW_le _ _ (Nat.le_of_lt_succ hr) h1) hp⟩
theorem c_nodeW {k a c s g n m mode nm on off K r1} (hp : pre_nodeW k a c s g n m mode nm on off K r1) : E_nodeW k a c s g n m mode nm on off K r1 := (nodeW_all _).1 (Nat.lt_succ_self _) hp
abbrev E_nodeX (k a c : Int) (s : List AV) (g : Bool) (n m mode : Int) (nm : ByteArray) (on off : Int) (K : List AV) (b1 b2 b3 : Int) (b4 : List AV) (b5 : Bool) (b6 b7 b8 : Int) (b9 : ByteArray) (b10 b11 : Int) (b12 : List AV) (w : Bool) : Prop := ∃ u v : Nat,post_nodeX k a c s g n m mode nm on off K b1 b2 b3 b4 b5 b6 b7 b8 b9 b10 b11 b12 w u v ∧ A 18 [.ptr 0 0,.agg (nR k a c s g n m mode nm on off K)] [[iv b1,iv b2,iv b3,.sl 2 b4,bv b5,iv b6,iv b7,iv b8,sv b9,iv b10,iv b11,.sl 12 b12,bv w]] (.sc (.complex .f64 u v)) [[iv b1,iv b2,iv b3,.sl 2 b4,bv b5,iv b6,iv b7,iv b8,sv b9,iv b10,iv b11,.sl 12 b12,bv w]]
abbrev j_nodeX (nn : Nat) (k a c : Int) (s : List AV) (g : Bool) (n m mode : Int) (nm : ByteArray) (on off : Int) (K : List AV) (b1 b2 b3 : Int) (b4 : List AV) (b5 : Bool) (b6 b7 b8 : Int) (b9 : ByteArray) (b10 b11 : Int) (b12 : List AV) (w : Bool) (f : Nat → Nat → HC) : HC := ⟨.ev nn (.ask (.ex Nat fun u=>.ex Nat fun v=>.done (.res (.sc (.complex .f64 u v)) [[iv b1,iv b2,iv b3,.sl 2 b4,bv b5,iv b6,iv b7,iv b8,sv b9,iv b10,iv b11,.sl 12 b12,bv w]] (post_nodeX k a c s g n m mode nm on off K b1 b2 b3 b4 b5 b6 b7 b8 b9 b10 b11 b12 w u v)) (f u v).h)),E_nodeX k a c s g n m mode nm on off K b1 b2 b3 b4 b5 b6 b7 b8 b9 b10 b11 b12 w ∧ ∀ u v : Nat,post_nodeX k a c s g n m mode nm on off K b1 b2 b3 b4 b5 b6 b7 b8 b9 b10 b11 b12 w u v → (f u v).p⟩
theorem c_nodeX {k a c s g n m mode nm on off K b1 b2 b3 b4 b5 b6 b7 b8 b9 b10 b11 b12 w} (hp : pre_nodeX k a c s g n m mode nm on off K b1 b2 b3 b4 b5 b6 b7 b8 b9 b10 b11 b12 w) : E_nodeX k a c s g n m mode nm on off K b1 b2 b3 b4 b5 b6 b7 b8 b9 b10 b11 b12 w := by
 obtain ⟨h0,h1,h2,h3,rfl⟩ := hp
 obtain ⟨u,v,h,ha⟩ := c_nodeW ⟨h0,h1,_,_,_,_,_,_,_,_,_,_,_,_,rfl,h2,h3⟩
 exact ⟨u,v,h,ha⟩
abbrev E_WidthP (x0 x1 x2 : Int) (x3 : List AV) (x4 : Bool) (x5 x6 x7 : Int) (x8 : ByteArray) (x9 x10 : Int) (x11 : List AV) (x12 x13 x14 : Int) (x15 : List AV) (x16 : Bool) (x17 x18 x19 : Int) (x20 : ByteArray) (x21 x22 : Int) (x23 : List AV) : Prop := ∃ x24 x25,post_WidthP x0 x1 x2 x3 x4 x5 x6 x7 x8 x9 x10 x11 x12 x13 x14 x15 x16 x17 x18 x19 x20 x21 x22 x23 x24 x25 ∧ A 8 [(.agg (nR x0 x1 x2 x3 x4 x5 x6 x7 x8 x9 x10 x11)),(.agg (nR x12 x13 x14 x15 x16 x17 x18 x19 x20 x21 x22 x23))] [] (.tup [(iv x24),(iv x25)]) []
abbrev j_WidthP (nn : Nat) (x0 x1 x2 : Int) (x3 : List AV) (x4 : Bool) (x5 x6 x7 : Int) (x8 : ByteArray) (x9 x10 : Int) (x11 : List AV) (x12 x13 x14 : Int) (x15 : List AV) (x16 : Bool) (x17 x18 x19 : Int) (x20 : ByteArray) (x21 x22 : Int) (x23 : List AV) (kK : Int → Int → HC) : HC := ⟨.ev nn (.ask (eI fun x24=>eI fun x25=>.done (.res (.tup [(iv x24),(iv x25)]) [] (post_WidthP x0 x1 x2 x3 x4 x5 x6 x7 x8 x9 x10 x11 x12 x13 x14 x15 x16 x17 x18 x19 x20 x21 x22 x23 x24 x25)) ((kK x24 x25).h))),E_WidthP x0 x1 x2 x3 x4 x5 x6 x7 x8 x9 x10 x11 x12 x13 x14 x15 x16 x17 x18 x19 x20 x21 x22 x23 ∧ (∀ x24 x25,post_WidthP x0 x1 x2 x3 x4 x5 x6 x7 x8 x9 x10 x11 x12 x13 x14 x15 x16 x17 x18 x19 x20 x21 x22 x23 x24 x25 → (kK x24 x25).p)⟩
abbrev t_WidthP (x0 x1 x2 : Int) (x3 : List AV) (x4 : Bool) (x5 x6 x7 : Int) (x8 : ByteArray) (x9 x10 : Int) (x11 : List AV) (x12 x13 x14 : Int) (x15 : List AV) (x16 : Bool) (x17 x18 x19 : Int) (x20 : ByteArray) (x21 x22 : Int) (x23 : List AV) (Q : AV → HH → Prop) : HC := (j_nodeX 1 x0 x1 x2 x3 x4 x5 x6 x7 x8 x9 x10 x11 x12 x13 x14 x15 x16 x17 x18 x19 x20 x21 x22 x23 false fun x24 x25=>(j_toldW 1 x24 x25 fun x26 x27=>(qq 2 Q (.tup [(iv x26),(iv x27)]))))
theorem w_WidthP (x0 x1 x2 x3 x4 x5 x6 x7 x8 x9 x10 x11 x12 x13 x14 x15 x16 x17 x18 x19 x20 x21 x22 x23) (Q : AV → HH → Prop) (h : (t_WidthP x0 x1 x2 x3 x4 x5 x6 x7 x8 x9 x10 x11 x12 x13 x14 x15 x16 x17 x18 x19 x20 x21 x22 x23 Q).p) : ∃ r H',A 8 [(.agg (nR x0 x1 x2 x3 x4 x5 x6 x7 x8 x9 x10 x11)),(.agg (nR x12 x13 x14 x15 x16 x17 x18 x19 x20 x21 x22 x23))] [] r H' ∧ Q r H' :=
 Ans.wq rfl (t_WidthP x0 x1 x2 x3 x4 x5 x6 x7 x8 x9 x10 x11 x12 x13 x14 x15 x16 x17 x18 x19 x20 x21 x22 x23 Q).h (by kernel_rfl) h
theorem c_WidthP {x0 x1 x2 x3 x4 x5 x6 x7 x8 x9 x10 x11 x12 x13 x14 x15 x16 x17 x18 x19 x20 x21 x22 x23} (hp : pre_WidthP x0 x1 x2 x3 x4 x5 x6 x7 x8 x9 x10 x11 x12 x13 x14 x15 x16 x17 x18 x19 x20 x21 x22 x23) : E_WidthP x0 x1 x2 x3 x4 x5 x6 x7 x8 x9 x10 x11 x12 x13 x14 x15 x16 x17 x18 x19 x20 x21 x22 x23 := by
 obtain ⟨_,_,ha,_,_,hq,rfl,rfl⟩ := w_WidthP x0 x1 x2 x3 x4 x5 x6 x7 x8 x9 x10 x11 x12 x13 x14 x15 x16 x17 x18 x19 x20 x21 x22 x23 (fun r H'=>∃ x24 x25,post_WidthP x0 x1 x2 x3 x4 x5 x6 x7 x8 x9 x10 x11 x12 x13 x14 x15 x16 x17 x18 x19 x20 x21 x22 x23 x24 x25 ∧ r = (.tup [(iv x24),(iv x25)]) ∧ H' = []) (by
  obtain ⟨⟨_,_,_,_⟩,_,⟨_,_,_,_⟩,_⟩ := hp
  refine ⟨c_nodeX (by first | exact WE.wo tA | exact tP),fun _ _ p28=>?_⟩
  unfold post_nodeX at p28
  refine ⟨c_toldW (by first | exact WE.wo tA | exact tP),fun _ _ p31=>?_⟩
  unfold post_toldW at p31
  exact ⟨_,_,by have hw := (show WE _ _ _ from by assumption); have ht := hw.told; have he := (show (_,_) = dW _ _ from by assumption).trans hw.eq; rw [← he] at ht; exact ⟨he,ht⟩,rfl,rfl⟩)
 exact ⟨_,_,hq,ha⟩
end
end Go.Proofs.YtcjcdammcmjbnaaGreat.U
