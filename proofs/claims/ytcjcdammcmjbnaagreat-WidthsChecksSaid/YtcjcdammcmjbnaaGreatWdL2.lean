/- Blocks: walks of the program's functions, each told by what is asked and what comes back; they hold as they stand. -/
import Derived.Test.YtcjcdammcmjbnaaGreatWidX
import Derived.Test.YtcjcdammcmjbnaaGreatFeB4
namespace Go.Proofs.YtcjcdammcmjbnaaGreat.U
open Go Go.Vai
set_option linter.unusedVariables false
set_option linter.unusedSimpArgs false
set_option maxRecDepth 100000
set_option maxHeartbeats 8000000
attribute [local irreducible] IntKind.wrap Rs Is Bs Ws Ts Ns Nf kindOf shapeN nszL
noncomputable section
theorem zl2x0 {p : Prop} (h : p := by (try dsimp only); refine ⟨tP,tP,tP,tP,tP,?_⟩; first | exact accL_nil | exact accL_next (by omega) (by omega) tA tA tA tA) : p := h
theorem zl2x1 {p : Prop} (h : p := by refine Eq.trans ?_ accV_nd.symm; first | exact accM tA tA | exact accR (.inl tA) (Eq.symm tA) | exact accR (.inr tA) (Eq.symm tA)) : p := h
theorem zl2x2 {p : Prop} (h : p := by (try dsimp only); refine ⟨tP,tP,tP,tP,tP,tP,?_⟩; first | exact grpL_nil | exact grpL_next tA (by omega) (by omega) tA tA tA) : p := h
theorem zl2x3 {p : Prop} (h : p := by first | exact ⟨fun _=>⟨⟨tA,tA,tA,tA⟩,Nat.le_refl _,grpR_0 tA⟩,fun h=>by cases h⟩ | exact ⟨fun _=>⟨⟨tA,tA,tA,tA⟩,by omega,grpR_cap tA tA tA tA⟩,fun h=>by cases h⟩ | exact ⟨fun _=>⟨⟨tA,tA,tA,tA⟩,by omega,grpR_kids tA (by omega) tA⟩,fun h=>by cases h⟩ | exact ⟨fun h=>(by cases h),fun _=>grpR_kids tA (by omega) tA⟩) : p := h
theorem zl2x4 {p : Prop} (h : p := by refine ⟨Prod.ext ?_ ?_,?_,?_,?_,?_⟩ <;> (try dsimp only [cutP]) <;> (repeat' split) <;> omega) : p := h
theorem zl2x5 {p : Prop} (h : p := by refine ⟨Prod.ext ?_ ?_,?_,?_,?_,?_⟩ <;> (try dsimp only [orP]) <;> (repeat' split) <;> omega) : p := h
theorem zl2x6 {p : Prop} (h : p := by first | (have hk := (show x28 = 20 from by with_reducible assumption); have hs := shape20 (show shapeN x28 x32 x33 x34 from by with_reducible assumption) hk; first | (refine pre_rep1 ?_ ?_ ?_ ?_ ?_ <;> omega) | (refine pre_rep2 ?_ ?_ ?_ ?_ ?_ ?_ ?_ ?_ <;> omega)) | exact tP) : p := h
theorem zl2x7 {p : Prop} (h : p := by (try dsimp only); (try have hs := shape1 (show shapeN x28 x32 x33 x34 from by with_reducible assumption) (by omega)); refine ⟨tP,tP,tP,tP,tP,tP,tP,tP,tP,tP,tP,?_⟩; first | exact seq_0 | exact tail_1 | exact seq_n (by omega) (by omega) tA tA tA (plus_n (by omega) (tW _) tA) | exact seq_n (by omega) (by omega) tA tA tA (plus_y (by omega) (tW _) (tW _) tA) | exact tail_n (by omega) (by omega) tA tA tA tA) : p := h
theorem zl2x8 {p : Prop} (h : p := by first | (have hk := (show x0 = 20 from by with_reducible assumption); have hs := shape20 (show shapeN x0 x5 x6 x11 from by with_reducible assumption) hk; first | (refine pre_rep1 ?_ ?_ ?_ ?_ ?_ <;> omega) | (refine pre_rep2 ?_ ?_ ?_ ?_ ?_ ?_ ?_ ?_ <;> omega)) | exact tP) : p := h
theorem zl2x9 {p : Prop} (h : p := by (refine ⟨?_,by omega,by omega,by omega,by omega⟩); first | (have hk := (show x0 = 19 from by with_reducible assumption); have hs := shape19 (show shapeN x0 x5 x6 x11 from by with_reducible assumption) hk; first | exact wr_19 tA tA tA (cr_12 tA) | exact wr_19 tA tA tA (cr_13 tA (by simp only [List.length_drop,List.length_take]; omega) tA tA tA) | exact wr_19 tA tA tA (cr_13b tA (by simp only [List.length_drop,List.length_take]; omega) tA tA tA tA tA) | exact wr_19 tA tA tA (cr_1 tA tA (by omega) tA tA tA) | exact wr_19 tA tA tA (cr_2 tA tA (by omega) tA tA tA tA tA)) | (have hk := (show x0 = 20 from by with_reducible assumption); have hs := shape20 (show shapeN x0 x5 x6 x11 from by with_reducible assumption) hk; first | exact wr_20 tA tA tA tA tA (rep_z (by omega) (by omega) (by omega) (by omega) (by omega) tA) | exact wr_20 tA tA tA tA tA (rep_n (by omega) (by omega) (by omega) (by omega) (by omega) (by omega) tA) | exact wr_20 tA tA tA tA tA (rep_y (by omega) (by omega) (by omega) (by omega) (by omega) (by omega) (by omega) (by omega) tA)) | exact wr_a tA tA | exact wr_2 tA tA tA | exact wr_7 tA tA tA | exact wr_12 tA tA tA tA | exact wr_13 tA tA (.inl tA) tA tA tA | exact wr_13 tA tA (.inr tA) tA tA tA | exact wr_14 tA tA (.inl tA) tA tA | exact wr_14 tA tA (.inr tA) tA tA | exact wr_8 tA tA tA (hw_n tA) | exact wr_8 tA tA tA (hw_t tA) | exact wr_8 tA tA tA (hw_f tA tA tA) | exact wr_E tA tA tA tA tA tA tA tA tA tA tA tA) : p := h
theorem zl2x10 {p : Prop} (h : p := by (try dsimp only); (try have hs := shape1 (show shapeN x0 x5 x6 x11 from by with_reducible assumption) (by omega)); refine ⟨tP,tP,tP,tP,tP,tP,tP,tP,tP,tP,tP,?_⟩; first | exact seq_0 | exact tail_1 | exact seq_n (by omega) (by omega) tA tA tA (plus_n (by omega) (tW _) tA) | exact seq_n (by omega) (by omega) tA tA tA (plus_y (by omega) (tW _) (tW _) tA) | exact tail_n (by omega) (by omega) tA tA tA tA) : p := h
theorem zl2x11 {p : Prop} (h : p := by first | (refine Ns.get (show Ns x11 from by with_reducible assumption) ?_; exact shape1 (show shapeN x0 x5 x6 x11 from by with_reducible assumption) (by omega)) | (have hk := (show x0 = 19 from by with_reducible assumption); have hs := shape19 (show shapeN x0 x5 x6 x11 from by with_reducible assumption) hk; first | (refine Ns.get (show Ns x11 from by with_reducible assumption) ?_; omega) | (obtain ⟨d1,d2,d3,d4⟩ := dropped (show Ns x11 from by with_reducible assumption); refine Ns.get d1 ?_; omega)) | exact tG) : p := h
theorem zl2x12 {p : Prop} (h : p := by (try unfold rank_WidthR); (try unfold rank_WidthR); (try rw [rkT]); (try have hw := rkF (show x24 = false from by assumption)); omega) : p := h
theorem zl2x13 {p : Prop} (h : p := by first | exact bad_hit tA tA (by omega) | exact bad_end tA (by omega) | exact chkL_err tA tA tA (by omega) | exact chkL_end tA (by omega)) : p := h
theorem zl2x14 {p : Prop} (h : p := by (try dsimp only); first | exact ⟨tP,tP,tP,tP,tP,tP,tP,tP,tP,tP,bad_0⟩ | (refine ⟨tP,tP,tP,tP,tP,tP,tP,tP,tP,tP,?_⟩; exact bad_next (by omega) (by omega) tA tA tA (by omega) (by omega)) | exact ⟨tP,tP,tP,tP,tP,tP,tP,tP,tP,chkL_0⟩ | (refine ⟨tP,tP,tP,tP,tP,tP,tP,tP,tP,?_⟩; exact chkL_next (by omega) (by omega) tA tA tA tA)) : p := h
theorem zl2x15 {p : Prop} (h : p := by first | exact ck_hit tA (by omega) tA (alt_2 tA tA tA) | exact ck_hit tA (by omega) tA (alt_n tA tA) | exact ck_a tA (alt_2 tA tA tA) tA | exact ck_a tA (alt_n tA tA) tA | exact ck_a tA (alt_2 tA tA tA) (ck_ok tA) | exact ck_a tA (alt_n tA tA) (ck_ok tA) | exact ck_n (by omega) tA | exact ck_n (by omega) (ck_ok tA)) : p := h
theorem zl2x16 {p : Prop} (h : p := by first | exact bad_hit tA (show (_,_) = widV (hW _ false) _ from by with_reducible assumption) (by omega) | exact bad_end tA (by omega) | exact chkL_err tA tA tA (by omega) | exact chkL_end tA (by omega)) : p := h
theorem zl2x17 {p : Prop} (h : p := by (try dsimp only); first | exact ⟨tP,tP,tP,tP,tP,tP,tP,tP,tP,bad_0⟩ | (refine ⟨tP,tP,tP,tP,tP,tP,tP,tP,tP,?_⟩; exact bad_next (by omega) (by omega) tA tA (show (_,_) = widV (hW _ false) _ from by with_reducible assumption) (by omega) (by omega)) | exact ⟨tP,tP,tP,tP,tP,tP,tP,chkL_0⟩ | (refine ⟨tP,tP,tP,tP,tP,tP,tP,?_⟩; exact chkL_next (by omega) (by omega) tA tA tA tA)) : p := h
theorem zl2x18 {p : Prop} (h : p := by first | exact ck_hit tA (by omega) tA (Eq.symm tA) | exact ck_a tA (Eq.symm tA) tA | exact ck_a tA (Eq.symm tA) (ck_ok tA) | exact ck_n (by omega) tA | exact ck_n (by omega) (ck_ok tA) | exact ck_n (fun q=>by have hs := (shape18 (show shapeN x0 x5 x6 x11 from by with_reducible assumption) q.1).2; omega) tA | exact ck_n (fun q=>by have hs := (shape18 (show shapeN x0 x5 x6 x11 from by with_reducible assumption) q.1).2; omega) (ck_ok tA)) : p := h
theorem zl2x19 {p : Prop} (h : p := by first | rfl | assumption | (have q := pair_eq (Eq.symm (show chkP _ = (_,_) from by with_reducible assumption)) (show (_,_) = chkP _ from by with_reducible assumption); first | exact decide_eq_true (by omega) | exact beq_iff_eq.2 (by omega) | (exfalso; omega)) | (exfalso; exact Bool.noConfusion (Eq.trans (Eq.symm (show post_awake _ from by with_reducible assumption)) (by with_reducible assumption)))) : p := h
abbrev E_awake : Prop := ∃ x0,post_awake x0 ∧ A 4 [] [] (bv x0) []
abbrev j_awake (nn : Nat) (f : Bool → HC) : HC := ⟨.ev nn (.ask (eB fun x0=>.done (.res (bv x0) [] (post_awake x0)) (f x0).h)),E_awake ∧ ∀ x0,post_awake x0 → (f x0).p⟩
theorem c_awake (hp : pre_awake) : E_awake := ⟨true,rfl,Ans.at 300 (by kernel_rfl)⟩
abbrev E_accR (x0 x1 x2 : Int) (x3 : List AV) (x4 : Bool) (x5 x6 x7 : Int) (x8 : ByteArray) (x9 x10 : Int) (x11 : List AV) : Prop := ∃ x12,post_accR x0 x1 x2 x3 x4 x5 x6 x7 x8 x9 x10 x11 x12 ∧ A 30 [(.agg (nR x0 x1 x2 x3 x4 x5 x6 x7 x8 x9 x10 x11))] [] (bv x12) []
abbrev j_accR (nn : Nat) (x0 x1 x2 : Int) (x3 : List AV) (x4 : Bool) (x5 x6 x7 : Int) (x8 : ByteArray) (x9 x10 : Int) (x11 : List AV) (kK : Bool → HC) : HC := ⟨.ev nn (.ask (eB fun x12=>.done (.res (bv x12) [] (post_accR x0 x1 x2 x3 x4 x5 x6 x7 x8 x9 x10 x11 x12)) ((kK x12).h))),E_accR x0 x1 x2 x3 x4 x5 x6 x7 x8 x9 x10 x11 ∧ (∀ x12,post_accR x0 x1 x2 x3 x4 x5 x6 x7 x8 x9 x10 x11 x12 → (kK x12).p)⟩
def IH_accR (b : Nat) : Prop := ∀ {x0 : Int} {x1 : Int} {x2 : Int} {x3 : List AV} {x4 : Bool} {x5 : Int} {x6 : Int} {x7 : Int} {x8 : ByteArray} {x9 : Int} {x10 : Int} {x11 : List AV},rank_accR x0 x1 x2 x3 x4 x5 x6 x7 x8 x9 x10 x11 < b → pre_accR x0 x1 x2 x3 x4 x5 x6 x7 x8 x9 x10 x11 → E_accR x0 x1 x2 x3 x4 x5 x6 x7 x8 x9 x10 x11
def s_accR_0 (x0 x1 x2 : Int) (x3 : List AV) (x4 : Bool) (x5 x6 x7 : Int) (x8 : ByteArray) (x9 x10 : Int) (x11 : List AV) (x12 : Int) : St := ⟨[],[(1,(.ea [(iv x0),(iv x1),(iv x2),(.sl 2 x3),(bv x4),(iv x5),(iv x6),(iv x7),(sv x8),(iv x9),(iv x10),(.sl 12 x11)])),(3,(iv x12))],[],0⟩
def x_accR_0_0 (x0 x1 x2 : Int) (x3 : List AV) (x4 : Bool) (x5 x6 x7 : Int) (x8 : ByteArray) (x9 x10 : Int) (x11 : List AV) : St := ⟨[],[(2,(bv true))],[],0⟩
def x_accR_0_1 (x0 x1 x2 : Int) (x3 : List AV) (x4 : Bool) (x5 x6 x7 : Int) (x8 : ByteArray) (x9 x10 : Int) (x11 : List AV) (y12 : Int) : St := ⟨[],[(1,(.ea [(iv x0),(iv x1),(iv x2),(.sl 2 x3),(bv x4),(iv x5),(iv x6),(iv x7),(sv x8),(iv x9),(iv x10),(.sl 12 x11)])),(3,(iv y12)),(17,(bv false))],[],0⟩
abbrev E_accR_0 (x0 x1 x2 : Int) (x3 : List AV) (x4 : Bool) (x5 x6 x7 : Int) (x8 : ByteArray) (x9 x10 : Int) (x11 : List AV) (x12o : Int) : Prop := ((out_accR_0_0 x0 x1 x2 x3 x4 x5 x6 x7 x8 x9 x10 x11 x12o ∧ R 30 0 (s_accR_0 x0 x1 x2 x3 x4 x5 x6 x7 x8 x9 x10 x11 x12o) (Ex.ret,x_accR_0_0 x0 x1 x2 x3 x4 x5 x6 x7 x8 x9 x10 x11)) ∨ (∃ y13,out_accR_0_1 x0 x1 x2 x3 x4 x5 x6 x7 x8 x9 x10 x11 x12o y13 ∧ R 30 0 (s_accR_0 x0 x1 x2 x3 x4 x5 x6 x7 x8 x9 x10 x11 x12o) ((.exit 0),x_accR_0_1 x0 x1 x2 x3 x4 x5 x6 x7 x8 x9 x10 x11 y13)))
abbrev j_accR_0 (nn : Nat) (x0 x1 x2 : Int) (x3 : List AV) (x4 : Bool) (x5 x6 x7 : Int) (x8 : ByteArray) (x9 x10 : Int) (x11 : List AV) (x12o : Int) (f0 : HC) (f1 : Int → HC) : HC := ⟨.ev nn (.ask (.or (.done (.exit Ex.ret (x_accR_0_0 x0 x1 x2 x3 x4 x5 x6 x7 x8 x9 x10 x11) (out_accR_0_0 x0 x1 x2 x3 x4 x5 x6 x7 x8 x9 x10 x11 x12o)) f0.h) (eI fun y13=>.done (.exit (.exit 0) (x_accR_0_1 x0 x1 x2 x3 x4 x5 x6 x7 x8 x9 x10 x11 y13) (out_accR_0_1 x0 x1 x2 x3 x4 x5 x6 x7 x8 x9 x10 x11 x12o y13)) (f1 y13).h))),E_accR_0 x0 x1 x2 x3 x4 x5 x6 x7 x8 x9 x10 x11 x12o ∧ ((out_accR_0_0 x0 x1 x2 x3 x4 x5 x6 x7 x8 x9 x10 x11 x12o → f0.p) ∧ (∀ y13,out_accR_0_1 x0 x1 x2 x3 x4 x5 x6 x7 x8 x9 x10 x11 x12o y13 → (f1 y13).p))⟩
abbrev t_accR_0 (x0 x1 x2 : Int) (x3 : List AV) (x4 : Bool) (x5 x6 x7 : Int) (x8 : ByteArray) (x9 x10 : Int) (x11 : List AV) (x12 : Int) (Q : Ex → St → Prop) : HC := (dd 1 ((decide (x12 < (↑x11.length : Int)))) (oo 0 ((decide (0 ≤ x12))) (pN 1 ((x11[x12.toNat]?)) fun x13 x14 x15 x16 x17 x18 x19 x20 x21 x22 x23 x24=>(oo 0 ((npL [(.agg (nR x13 x14 x15 x16 x17 x18 x19 x20 x21 x22 x23 x24))])) (j_accR 0 x13 x14 x15 x16 x17 x18 x19 x20 x21 x22 x23 x24 fun x25=>(dd 0 x25 (zz 0 (Q Ex.ret (x_accR_0_0 x0 x1 x2 x3 x4 x5 x6 x7 x8 x9 x10 x11))) (zz 1 (Q .norm (s_accR_0 x0 x1 x2 x3 x4 x5 x6 x7 x8 x9 x10 x11 (w6 (x12 + 1)))))))))) (zz 0 (Q (.exit 0) (x_accR_0_1 x0 x1 x2 x3 x4 x5 x6 x7 x8 x9 x10 x11 x12))))
theorem l_accR_0 (x0 x1 x2 x3 x4 x5 x6 x7 x8 x9 x10 x11 x12) (Q : Ex → St → Prop) (h : (t_accR_0 x0 x1 x2 x3 x4 x5 x6 x7 x8 x9 x10 x11 x12 Q).p) : ∃ e s',L 30 0 (s_accR_0 x0 x1 x2 x3 x4 x5 x6 x7 x8 x9 x10 x11 x12) (e,s') ∧ Q e s' :=
 Leads.wq (t_accR_0 x0 x1 x2 x3 x4 x5 x6 x7 x8 x9 x10 x11 x12 Q).h (by kernel_rfl) h
theorem k_accR_0 {B : Nat} (ih_accR : IH_accR B) {x0 x1 x2 x3 x4 x5 x6 x7 x8 x9 x10 x11 x12o} (hi : inv_accR_0 B x0 x1 x2 x3 x4 x5 x6 x7 x8 x9 x10 x11 x12o x12o) : E_accR_0 x0 x1 x2 x3 x4 x5 x6 x7 x8 x9 x10 x11 x12o := by
 obtain ⟨e,s',hr,hq⟩ := Rounds.byInv (st := fun (w : Int)=>s_accR_0 x0 x1 x2 x3 x4 x5 x6 x7 x8 x9 x10 x11 w) (Inv := fun w=>inv_accR_0 B x0 x1 x2 x3 x4 x5 x6 x7 x8 x9 x10 x11 x12o w) (μ := fun w=>mu_accR_0 x0 x1 x2 x3 x4 x5 x6 x7 x8 x9 x10 x11 w) (Q := fun e s'=>((out_accR_0_0 x0 x1 x2 x3 x4 x5 x6 x7 x8 x9 x10 x11 x12o ∧ e = Ex.ret ∧ s' = x_accR_0_0 x0 x1 x2 x3 x4 x5 x6 x7 x8 x9 x10 x11) ∨ (∃ y13,out_accR_0_1 x0 x1 x2 x3 x4 x5 x6 x7 x8 x9 x10 x11 x12o y13 ∧ e = (.exit 0) ∧ s' = x_accR_0_1 x0 x1 x2 x3 x4 x5 x6 x7 x8 x9 x10 x11 y13))) (by
  intro x12 hi
  have hi : inv_accR_0 B x0 x1 x2 x3 x4 x5 x6 x7 x8 x9 x10 x11 x12o x12 := hi
  refine l_accR_0 x0 x1 x2 x3 x4 x5 x6 x7 x8 x9 x10 x11 x12 _ ?_
  obtain ⟨_,⟨_,_,_,_⟩,_,_,_,_⟩ := hi
  apply bS <;> intro _
  ·refine ⟨tD,tG,fun _ _ _ _ _ _ _ _ _ _ _ _ g27=>?_⟩
   have edg41 := nsz_drop g27; first | (have eg27 := Ns.elem tA g27; have eng41 := nsz_get g27; obtain ⟨_,_,_,_⟩ := eg27.nw) | (have eg27 := Nf.elem tA g27; have eng41 := nsz_get g27; obtain ⟨_,_⟩ := eg27.nw)
   refine ⟨tN,ih_accR (by (try unfold rank_accR); exact tI) tP,fun _ p29=>?_⟩
   unfold post_accR at p29
   apply bS <;> intro _
   ·exact .inr ⟨by simp,.inl ⟨by first | exact accL_hit tA ((show _ = accV _ from by assumption).symm.trans (by assumption)) | exact accL_end tA (by omega),rfl,rfl⟩⟩
   try have := tW (x12 + 1)
   exact .inl ⟨rfl,(w6 (x12 + 1)),rfl,zl2x0,by unfold mu_accR_0; exact tI⟩
  exact .inr ⟨by simp,.inr (⟨_,by first | exact accL_hit tA ((show _ = accV _ from by assumption).symm.trans (by assumption)) | exact accL_end tA (by omega),rfl,rfl⟩)⟩) x12o hi
 rcases hq with ⟨ho,rfl,rfl⟩ | ⟨_,ho,rfl,rfl⟩
 
 ·exact .inl ⟨ho,hr⟩
 ·exact .inr (⟨_,ho,hr⟩)
abbrev t_accR (x0 x1 x2 : Int) (x3 : List AV) (x4 : Bool) (x5 x6 x7 : Int) (x8 : ByteArray) (x9 x10 : Int) (x11 : List AV) (Q : AV → HH → Prop) : HC := (dd 1 ((x0 == 9)) (dd 4 ((x5 == 1)) (qq 1 Q (bv true)) (j_accR_0 0 x0 x1 x2 x3 x4 x5 x6 x7 x8 x9 x10 x11 0 (qq 1 Q (bv true)) (fun x12=>(qq 1 Q (bv false))))) (j_accR_0 4 x0 x1 x2 x3 x4 x5 x6 x7 x8 x9 x10 x11 0 (qq 1 Q (bv true)) (fun x13=>(qq 1 Q (bv false)))))
theorem w_accR (x0 x1 x2 x3 x4 x5 x6 x7 x8 x9 x10 x11) (Q : AV → HH → Prop) (h : (t_accR x0 x1 x2 x3 x4 x5 x6 x7 x8 x9 x10 x11 Q).p) : ∃ r H',A 30 [(.agg (nR x0 x1 x2 x3 x4 x5 x6 x7 x8 x9 x10 x11))] [] r H' ∧ Q r H' :=
 Ans.wq rfl (t_accR x0 x1 x2 x3 x4 x5 x6 x7 x8 x9 x10 x11 Q).h (by kernel_rfl) h
theorem i_accR {x0 x1 x2 x3 x4 x5 x6 x7 x8 x9 x10 x11} (ih_accR : IH_accR (rank_accR x0 x1 x2 x3 x4 x5 x6 x7 x8 x9 x10 x11)) (hp : pre_accR x0 x1 x2 x3 x4 x5 x6 x7 x8 x9 x10 x11) : E_accR x0 x1 x2 x3 x4 x5 x6 x7 x8 x9 x10 x11 := by
 obtain ⟨_,_,ha,_,hq,rfl,rfl⟩ := w_accR x0 x1 x2 x3 x4 x5 x6 x7 x8 x9 x10 x11 (fun r H'=>∃ x12,post_accR x0 x1 x2 x3 x4 x5 x6 x7 x8 x9 x10 x11 x12 ∧ r = (bv x12) ∧ H' = []) (by
  obtain ⟨⟨_,_,_,_⟩,_⟩ := hp
  apply bS <;> intro _
  ·apply bS <;> intro _
   ·exact ⟨_,zl2x1,rfl,rfl⟩
   refine ⟨k_accR_0 ih_accR zl2x0,fun e15=>?_,fun _ e17=>?_⟩
   ·have e15_0 := e15
    unfold out_accR_0_0 at e15_0
    exact ⟨_,zl2x1,rfl,rfl⟩
   have e17_0 := e17
   unfold out_accR_0_1 at e17_0
   exact ⟨_,zl2x1,rfl,rfl⟩
  refine ⟨k_accR_0 ih_accR zl2x0,fun e18=>?_,fun _ e20=>?_⟩
  ·have e18_0 := e18
   unfold out_accR_0_0 at e18_0
   exact ⟨_,zl2x1,rfl,rfl⟩
  have e20_0 := e20
  unfold out_accR_0_1 at e20_0
  exact ⟨_,zl2x1,rfl,rfl⟩)
 exact ⟨_,hq,ha⟩
theorem r_accR : ∀ b,IH_accR b
 | 0=>fun hr _=>absurd hr (Nat.not_lt_zero _)
 | b + 1=>fun hr hp=>i_accR (fun hr' hp'=>r_accR b (by omega) hp') hp
theorem c_accR {x0 x1 x2 x3 x4 x5 x6 x7 x8 x9 x10 x11} (hp : pre_accR x0 x1 x2 x3 x4 x5 x6 x7 x8 x9 x10 x11) : E_accR x0 x1 x2 x3 x4 x5 x6 x7 x8 x9 x10 x11 := r_accR (rank_accR x0 x1 x2 x3 x4 x5 x6 x7 x8 x9 x10 x11 + 1) (Nat.lt_succ_self _) hp
abbrev E_GroupR (x0 x1 x2 : Int) (x3 : List AV) (x4 : Bool) (x5 x6 x7 : Int) (x8 : ByteArray) (x9 x10 : Int) (x11 : List AV) (x12 : Int) : Prop := ∃ x13 x14 x15 x16 x17 x18 x19 x20 x21 x22 x23 x24 x25,post_GroupR x0 x1 x2 x3 x4 x5 x6 x7 x8 x9 x10 x11 x12 x13 x14 x15 x16 x17 x18 x19 x20 x21 x22 x23 x24 x25 ∧ A 33 [(.agg (nR x0 x1 x2 x3 x4 x5 x6 x7 x8 x9 x10 x11)),(iv x12)] [] (.tup [(.agg (nR x13 x14 x15 x16 x17 x18 x19 x20 x21 x22 x23 x24)),(bv x25)]) []
abbrev j_GroupR (nn : Nat) (x0 x1 x2 : Int) (x3 : List AV) (x4 : Bool) (x5 x6 x7 : Int) (x8 : ByteArray) (x9 x10 : Int) (x11 : List AV) (x12 : Int) (kK : Int → Int → Int → List AV → Bool → Int → Int → Int → ByteArray → Int → Int → List AV → Bool → HC) : HC := ⟨.ev nn (.ask (eN fun x13 x14 x15 x16 x17 x18 x19 x20 x21 x22 x23 x24=>eB fun x25=>.done (.res (.tup [(.agg (nR x13 x14 x15 x16 x17 x18 x19 x20 x21 x22 x23 x24)),(bv x25)]) [] (post_GroupR x0 x1 x2 x3 x4 x5 x6 x7 x8 x9 x10 x11 x12 x13 x14 x15 x16 x17 x18 x19 x20 x21 x22 x23 x24 x25)) ((kK x13 x14 x15 x16 x17 x18 x19 x20 x21 x22 x23 x24 x25).h))),E_GroupR x0 x1 x2 x3 x4 x5 x6 x7 x8 x9 x10 x11 x12 ∧ (∀ x13 x14 x15 x16 x17 x18 x19 x20 x21 x22 x23 x24 x25,post_GroupR x0 x1 x2 x3 x4 x5 x6 x7 x8 x9 x10 x11 x12 x13 x14 x15 x16 x17 x18 x19 x20 x21 x22 x23 x24 x25 → (kK x13 x14 x15 x16 x17 x18 x19 x20 x21 x22 x23 x24 x25).p)⟩
def IH_GroupR (b : Nat) : Prop := ∀ {x0 : Int} {x1 : Int} {x2 : Int} {x3 : List AV} {x4 : Bool} {x5 : Int} {x6 : Int} {x7 : Int} {x8 : ByteArray} {x9 : Int} {x10 : Int} {x11 : List AV} {x12 : Int},rank_GroupR x0 x1 x2 x3 x4 x5 x6 x7 x8 x9 x10 x11 x12 < b → pre_GroupR x0 x1 x2 x3 x4 x5 x6 x7 x8 x9 x10 x11 x12 → E_GroupR x0 x1 x2 x3 x4 x5 x6 x7 x8 x9 x10 x11 x12
def s_GroupR_0 (x0 x1 x2 x3 : Int) (x4 : List AV) (x5 : Bool) (x6 x7 x8 : Int) (x9 : ByteArray) (x10 x11 : Int) (x12 : List AV) (x13 : Int) : St := ⟨[],[(1,(iv x0)),(2,(.ea [(iv x1),(iv x2),(iv x3),(.sl 2 x4),(bv x5),(iv x6),(iv x7),(iv x8),(sv x9),(iv x10),(iv x11),(.sl 12 x12)])),(4,(.box [(iv 0),(iv 0),(iv 0),(.sl 2 []),(bv false),(iv 0),(iv 0),(iv 0),(sv (bs [])),(iv 0),(iv 0),(.sl 12 [])])),(6,(iv x13))],[],0⟩
def x_GroupR_0_0 (x0 x1 x2 x3 : Int) (x4 : List AV) (x5 : Bool) (x6 x7 x8 : Int) (x9 : ByteArray) (x10 x11 : Int) (x12 : List AV) (y13 y14 y15 : Int) (y16 : List AV) (y17 : Bool) (y18 y19 y20 : Int) (y21 : ByteArray) (y22 y23 : Int) (y24 : List AV) : St := ⟨[],[(4,(.box [(iv y13),(iv y14),(iv y15),(.sl 2 y16),(bv y17),(iv y18),(iv y19),(iv y20),(sv y21),(iv y22),(iv y23),(.sl 12 y24)])),(5,(bv true))],[],0⟩
def x_GroupR_0_1 (x0 x1 x2 x3 : Int) (x4 : List AV) (x5 : Bool) (x6 x7 x8 : Int) (x9 : ByteArray) (x10 x11 : Int) (x12 : List AV) (y13 : Int) : St := ⟨[],[(1,(iv x0)),(2,(.ea [(iv x1),(iv x2),(iv x3),(.sl 2 x4),(bv x5),(iv x6),(iv x7),(iv x8),(sv x9),(iv x10),(iv x11),(.sl 12 x12)])),(4,(.box [(iv 0),(iv 0),(iv 0),(.sl 2 []),(bv false),(iv 0),(iv 0),(iv 0),(sv (bs [])),(iv 0),(iv 0),(.sl 12 [])])),(6,(iv y13)),(29,(bv false))],[],0⟩
abbrev E_GroupR_0 (x0 x1 x2 x3 : Int) (x4 : List AV) (x5 : Bool) (x6 x7 x8 : Int) (x9 : ByteArray) (x10 x11 : Int) (x12 : List AV) (x13o : Int) : Prop := ((∃ y14 y15 y16 y17 y18 y19 y20 y21 y22 y23 y24 y25,out_GroupR_0_0 x0 x1 x2 x3 x4 x5 x6 x7 x8 x9 x10 x11 x12 x13o y14 y15 y16 y17 y18 y19 y20 y21 y22 y23 y24 y25 ∧ R 33 0 (s_GroupR_0 x0 x1 x2 x3 x4 x5 x6 x7 x8 x9 x10 x11 x12 x13o) (Ex.ret,x_GroupR_0_0 x0 x1 x2 x3 x4 x5 x6 x7 x8 x9 x10 x11 x12 y14 y15 y16 y17 y18 y19 y20 y21 y22 y23 y24 y25)) ∨ (∃ y14,out_GroupR_0_1 x0 x1 x2 x3 x4 x5 x6 x7 x8 x9 x10 x11 x12 x13o y14 ∧ R 33 0 (s_GroupR_0 x0 x1 x2 x3 x4 x5 x6 x7 x8 x9 x10 x11 x12 x13o) ((.exit 0),x_GroupR_0_1 x0 x1 x2 x3 x4 x5 x6 x7 x8 x9 x10 x11 x12 y14)))
abbrev j_GroupR_0 (nn : Nat) (x0 x1 x2 x3 : Int) (x4 : List AV) (x5 : Bool) (x6 x7 x8 : Int) (x9 : ByteArray) (x10 x11 : Int) (x12 : List AV) (x13o : Int) (f0 : Int → Int → Int → List AV → Bool → Int → Int → Int → ByteArray → Int → Int → List AV → HC) (f1 : Int → HC) : HC := ⟨.ev nn (.ask (.or (eN fun y14 y15 y16 y17 y18 y19 y20 y21 y22 y23 y24 y25=>.done (.exit Ex.ret (x_GroupR_0_0 x0 x1 x2 x3 x4 x5 x6 x7 x8 x9 x10 x11 x12 y14 y15 y16 y17 y18 y19 y20 y21 y22 y23 y24 y25) (out_GroupR_0_0 x0 x1 x2 x3 x4 x5 x6 x7 x8 x9 x10 x11 x12 x13o y14 y15 y16 y17 y18 y19 y20 y21 y22 y23 y24 y25)) (f0 y14 y15 y16 y17 y18 y19 y20 y21 y22 y23 y24 y25).h) (eI fun y14=>.done (.exit (.exit 0) (x_GroupR_0_1 x0 x1 x2 x3 x4 x5 x6 x7 x8 x9 x10 x11 x12 y14) (out_GroupR_0_1 x0 x1 x2 x3 x4 x5 x6 x7 x8 x9 x10 x11 x12 x13o y14)) (f1 y14).h))),E_GroupR_0 x0 x1 x2 x3 x4 x5 x6 x7 x8 x9 x10 x11 x12 x13o ∧ ((∀ y14 y15 y16 y17 y18 y19 y20 y21 y22 y23 y24 y25,out_GroupR_0_0 x0 x1 x2 x3 x4 x5 x6 x7 x8 x9 x10 x11 x12 x13o y14 y15 y16 y17 y18 y19 y20 y21 y22 y23 y24 y25 → (f0 y14 y15 y16 y17 y18 y19 y20 y21 y22 y23 y24 y25).p) ∧ (∀ y14,out_GroupR_0_1 x0 x1 x2 x3 x4 x5 x6 x7 x8 x9 x10 x11 x12 x13o y14 → (f1 y14).p))⟩
abbrev t_GroupR_0 (x0 x1 x2 x3 : Int) (x4 : List AV) (x5 : Bool) (x6 x7 x8 : Int) (x9 : ByteArray) (x10 x11 : Int) (x12 : List AV) (x13 : Int) (Q : Ex → St → Prop) : HC := (dd 1 ((decide (x13 < (↑x12.length : Int)))) (oo 0 ((decide (0 ≤ x13))) (pN 1 ((x12[x13.toNat]?)) fun x14 x15 x16 x17 x18 x19 x20 x21 x22 x23 x24 x25=>(oo 0 ((npL [(.agg (nR x14 x15 x16 x17 x18 x19 x20 x21 x22 x23 x24 x25)),(iv x0)])) (j_GroupR 0 x14 x15 x16 x17 x18 x19 x20 x21 x22 x23 x24 x25 x0 fun x26 x27 x28 x29 x30 x31 x32 x33 x34 x35 x36 x37 x38=>(dd 0 x38 (zz 0 (Q Ex.ret (x_GroupR_0_0 x0 x1 x2 x3 x4 x5 x6 x7 x8 x9 x10 x11 x12 x26 x27 x28 x29 x30 x31 x32 x33 x34 x35 x36 x37))) (zz 1 (Q .norm (s_GroupR_0 x0 x1 x2 x3 x4 x5 x6 x7 x8 x9 x10 x11 x12 (w6 (x13 + 1)))))))))) (zz 0 (Q (.exit 0) (x_GroupR_0_1 x0 x1 x2 x3 x4 x5 x6 x7 x8 x9 x10 x11 x12 x13))))
theorem l_GroupR_0 (x0 x1 x2 x3 x4 x5 x6 x7 x8 x9 x10 x11 x12 x13) (Q : Ex → St → Prop) (h : (t_GroupR_0 x0 x1 x2 x3 x4 x5 x6 x7 x8 x9 x10 x11 x12 x13 Q).p) : ∃ e s',L 33 0 (s_GroupR_0 x0 x1 x2 x3 x4 x5 x6 x7 x8 x9 x10 x11 x12 x13) (e,s') ∧ Q e s' :=
 Leads.wq (t_GroupR_0 x0 x1 x2 x3 x4 x5 x6 x7 x8 x9 x10 x11 x12 x13 Q).h (by kernel_rfl) h
theorem k_GroupR_0 {B : Nat} (ih_GroupR : IH_GroupR B) {x0 x1 x2 x3 x4 x5 x6 x7 x8 x9 x10 x11 x12 x13o} (hi : inv_GroupR_0 B x0 x1 x2 x3 x4 x5 x6 x7 x8 x9 x10 x11 x12 x13o x13o) : E_GroupR_0 x0 x1 x2 x3 x4 x5 x6 x7 x8 x9 x10 x11 x12 x13o := by
 obtain ⟨e,s',hr,hq⟩ := Rounds.byInv (st := fun (w : Int)=>s_GroupR_0 x0 x1 x2 x3 x4 x5 x6 x7 x8 x9 x10 x11 x12 w) (Inv := fun w=>inv_GroupR_0 B x0 x1 x2 x3 x4 x5 x6 x7 x8 x9 x10 x11 x12 x13o w) (μ := fun w=>mu_GroupR_0 x0 x1 x2 x3 x4 x5 x6 x7 x8 x9 x10 x11 x12 w) (Q := fun e s'=>((∃ y14 y15 y16 y17 y18 y19 y20 y21 y22 y23 y24 y25,out_GroupR_0_0 x0 x1 x2 x3 x4 x5 x6 x7 x8 x9 x10 x11 x12 x13o y14 y15 y16 y17 y18 y19 y20 y21 y22 y23 y24 y25 ∧ e = Ex.ret ∧ s' = x_GroupR_0_0 x0 x1 x2 x3 x4 x5 x6 x7 x8 x9 x10 x11 x12 y14 y15 y16 y17 y18 y19 y20 y21 y22 y23 y24 y25) ∨ (∃ y14,out_GroupR_0_1 x0 x1 x2 x3 x4 x5 x6 x7 x8 x9 x10 x11 x12 x13o y14 ∧ e = (.exit 0) ∧ s' = x_GroupR_0_1 x0 x1 x2 x3 x4 x5 x6 x7 x8 x9 x10 x11 x12 y14))) (by
  intro x13 hi
  have hi : inv_GroupR_0 B x0 x1 x2 x3 x4 x5 x6 x7 x8 x9 x10 x11 x12 x13o x13 := hi
  refine l_GroupR_0 x0 x1 x2 x3 x4 x5 x6 x7 x8 x9 x10 x11 x12 x13 _ ?_
  obtain ⟨_,⟨_,_,_,_⟩,_,_,_,_,_⟩ := hi
  apply bS <;> intro _
  ·refine ⟨tD,tG,fun _ _ _ _ _ _ _ _ _ _ _ _ g39=>?_⟩
   have edg202 := nsz_drop g39; first | (have eg39 := Ns.elem tA g39; have eng202 := nsz_get g39; obtain ⟨_,_,_,_⟩ := eg39.nw) | (have eg39 := Nf.elem tA g39; have eng202 := nsz_get g39; obtain ⟨_,_⟩ := eg39.nw)
   refine ⟨tN,ih_GroupR (by (try unfold rank_GroupR); exact tI) tP,fun _ _ _ _ _ _ _ _ _ _ _ _ _ p53=>?_⟩
   obtain ⟨p53_0,p53_1⟩ := p53
   apply bS <;> intro h54
   ·obtain ⟨⟨p53_0c_0,p53_0c_1,p53_0c_2,p53_0c_3⟩,p53_0c_4,p53_0c_5⟩ := p53_0 h54
    exact .inr ⟨by simp,.inl ⟨_,_,_,_,_,_,_,_,_,_,_,_,by first | exact ⟨⟨tA,tA,tA,tA⟩,by omega,grpL_is tA tA tA tA⟩ | exact grpL_end tA (by omega),rfl,rfl⟩⟩
   have p53_1c := p53_1 h54
   try have := tW (x13 + 1)
   exact .inl ⟨rfl,(w6 (x13 + 1)),rfl,zl2x2,by unfold mu_GroupR_0; exact tI⟩
  exact .inr ⟨by simp,.inr (⟨_,by first | exact ⟨⟨tA,tA,tA,tA⟩,by omega,grpL_is tA tA tA tA⟩ | exact grpL_end tA (by omega),rfl,rfl⟩)⟩) x13o hi
 rcases hq with ⟨_,_,_,_,_,_,_,_,_,_,_,_,ho,rfl,rfl⟩ | ⟨_,ho,rfl,rfl⟩
 
 ·exact .inl ⟨_,_,_,_,_,_,_,_,_,_,_,_,ho,hr⟩
 ·exact .inr (⟨_,ho,hr⟩)
abbrev t_GroupR (x0 x1 x2 : Int) (x3 : List AV) (x4 : Bool) (x5 x6 x7 : Int) (x8 : ByteArray) (x9 x10 : Int) (x11 : List AV) (x12 : Int) (Q : AV → HH → Prop) : HC := (dd 1 ((x12 == 0)) (qq 1 Q (.tup [(.agg (nR x0 x1 x2 x3 x4 x5 x6 x7 x8 x9 x10 x11)),(bv true)])) (dd 1 ((x0 == 14)) (dd 5 ((x5 == x12)) (pN 2 ((x11[0]?)) fun x13 x14 x15 x16 x17 x18 x19 x20 x21 x22 x23 x24=>(qq 1 Q (.tup [(.agg (nR x13 x14 x15 x16 x17 x18 x19 x20 x21 x22 x23 x24)),(bv true)]))) (j_GroupR_0 0 x12 x0 x1 x2 x3 x4 x5 x6 x7 x8 x9 x10 x11 0 (fun x25 x26 x27 x28 x29 x30 x31 x32 x33 x34 x35 x36=>(qq 1 Q (.tup [(.agg (nR x25 x26 x27 x28 x29 x30 x31 x32 x33 x34 x35 x36)),(bv true)]))) (fun x37=>(qq 1 Q (.tup [(.agg (nR 0 0 0 [] false 0 0 0 (bs []) 0 0 [])),(bv false)]))))) (j_GroupR_0 5 x12 x0 x1 x2 x3 x4 x5 x6 x7 x8 x9 x10 x11 0 (fun x38 x39 x40 x41 x42 x43 x44 x45 x46 x47 x48 x49=>(qq 1 Q (.tup [(.agg (nR x38 x39 x40 x41 x42 x43 x44 x45 x46 x47 x48 x49)),(bv true)]))) (fun x50=>(qq 1 Q (.tup [(.agg (nR 0 0 0 [] false 0 0 0 (bs []) 0 0 [])),(bv false)]))))))
theorem w_GroupR (x0 x1 x2 x3 x4 x5 x6 x7 x8 x9 x10 x11 x12) (Q : AV → HH → Prop) (h : (t_GroupR x0 x1 x2 x3 x4 x5 x6 x7 x8 x9 x10 x11 x12 Q).p) : ∃ r H',A 33 [(.agg (nR x0 x1 x2 x3 x4 x5 x6 x7 x8 x9 x10 x11)),(iv x12)] [] r H' ∧ Q r H' :=
 Ans.wq rfl (t_GroupR x0 x1 x2 x3 x4 x5 x6 x7 x8 x9 x10 x11 x12 Q).h (by kernel_rfl) h
theorem i_GroupR {x0 x1 x2 x3 x4 x5 x6 x7 x8 x9 x10 x11 x12} (ih_GroupR : IH_GroupR (rank_GroupR x0 x1 x2 x3 x4 x5 x6 x7 x8 x9 x10 x11 x12)) (hp : pre_GroupR x0 x1 x2 x3 x4 x5 x6 x7 x8 x9 x10 x11 x12) : E_GroupR x0 x1 x2 x3 x4 x5 x6 x7 x8 x9 x10 x11 x12 := by
 obtain ⟨_,_,ha,_,_,_,_,_,_,_,_,_,_,_,_,_,hq,rfl,rfl⟩ := w_GroupR x0 x1 x2 x3 x4 x5 x6 x7 x8 x9 x10 x11 x12 (fun r H'=>∃ x13 x14 x15 x16 x17 x18 x19 x20 x21 x22 x23 x24 x25,post_GroupR x0 x1 x2 x3 x4 x5 x6 x7 x8 x9 x10 x11 x12 x13 x14 x15 x16 x17 x18 x19 x20 x21 x22 x23 x24 x25 ∧ r = (.tup [(.agg [(iv x13),(iv x14),(iv x15),(.sl 2 x16),(bv x17),(iv x18),(iv x19),(iv x20),(sv x21),(iv x22),(iv x23),(.sl 12 x24)]),(bv x25)]) ∧ H' = []) (by
  obtain ⟨⟨_,_,_,_⟩,_⟩ := hp
  apply bS <;> intro _
  ·exact ⟨_,_,_,_,_,_,_,_,_,_,_,_,_,zl2x3,rfl,rfl⟩
  apply bS <;> intro _
  ·apply bS <;> intro _
   ·refine ⟨tG,fun _ _ _ _ _ _ _ _ _ _ _ _ g41=>?_⟩
    first | (have q := elN tA g41; obtain ⟨_,_,_,_,_,_,_⟩ := q) | (have q := elF tA g41; obtain ⟨_,_,_,_,_⟩ := q)
    exact ⟨_,_,_,_,_,_,_,_,_,_,_,_,_,zl2x3,rfl,rfl⟩
   refine ⟨k_GroupR_0 ih_GroupR zl2x2,fun _ _ _ _ _ _ _ _ _ _ _ _ e54=>?_,fun _ e56=>?_⟩
   ·obtain ⟨⟨e54_0,e54_1,e54_2,e54_3⟩,e54_4,e54_5⟩ := e54
    exact ⟨_,_,_,_,_,_,_,_,_,_,_,_,_,zl2x3,rfl,rfl⟩
   have e56_0 := e56
   unfold out_GroupR_0_1 at e56_0
   exact ⟨0,0,0,_,_,0,0,0,_,0,0,_,_,zl2x3,rfl,rfl⟩
  refine ⟨k_GroupR_0 ih_GroupR zl2x2,fun _ _ _ _ _ _ _ _ _ _ _ _ e69=>?_,fun _ e71=>?_⟩
  ·obtain ⟨⟨e69_0,e69_1,e69_2,e69_3⟩,e69_4,e69_5⟩ := e69
   exact ⟨_,_,_,_,_,_,_,_,_,_,_,_,_,zl2x3,rfl,rfl⟩
  have e71_0 := e71
  unfold out_GroupR_0_1 at e71_0
  exact ⟨0,0,0,_,_,0,0,0,_,0,0,_,_,zl2x3,rfl,rfl⟩)
 exact ⟨_,_,_,_,_,_,_,_,_,_,_,_,_,hq,ha⟩
theorem r_GroupR : ∀ b,IH_GroupR b
 | 0=>fun hr _=>absurd hr (Nat.not_lt_zero _)
 | b + 1=>fun hr hp=>i_GroupR (fun hr' hp'=>r_GroupR b (by omega) hp') hp
theorem c_GroupR {x0 x1 x2 x3 x4 x5 x6 x7 x8 x9 x10 x11 x12} (hp : pre_GroupR x0 x1 x2 x3 x4 x5 x6 x7 x8 x9 x10 x11 x12) : E_GroupR x0 x1 x2 x3 x4 x5 x6 x7 x8 x9 x10 x11 x12 := r_GroupR (rank_GroupR x0 x1 x2 x3 x4 x5 x6 x7 x8 x9 x10 x11 x12 + 1) (Nat.lt_succ_self _) hp
abbrev E_cutR (x0 x1 : Int) : Prop := ∃ x2 x3,post_cutR x0 x1 x2 x3 ∧ A 31 [(iv x0),(iv x1)] [] (.tup [(iv x2),(iv x3)]) []
abbrev j_cutR (nn : Nat) (x0 x1 : Int) (kK : Int → Int → HC) : HC := ⟨.ev nn (.ask (eI fun x2=>eI fun x3=>.done (.res (.tup [(iv x2),(iv x3)]) [] (post_cutR x0 x1 x2 x3)) ((kK x2 x3).h))),E_cutR x0 x1 ∧ (∀ x2 x3,post_cutR x0 x1 x2 x3 → (kK x2 x3).p)⟩
abbrev t_cutR (x0 x1 : Int) (Q : AV → HH → Prop) : HC := (dd 1 ((decide (x0 > 1000))) (dd 1 ((decide (x1 > 1000))) (qq 1 Q (.tup [(iv 1000),(iv (-1))])) (qq 1 Q (.tup [(iv 1000),(iv x1)]))) (dd 1 ((decide (x1 > 1000))) (qq 1 Q (.tup [(iv x0),(iv (-1))])) (qq 1 Q (.tup [(iv x0),(iv x1)]))))
theorem w_cutR (x0 x1) (Q : AV → HH → Prop) (h : (t_cutR x0 x1 Q).p) : ∃ r H',A 31 [(iv x0),(iv x1)] [] r H' ∧ Q r H' :=
 Ans.wq rfl (t_cutR x0 x1 Q).h (by kernel_rfl) h
theorem c_cutR {x0 x1} (hp : pre_cutR x0 x1) : E_cutR x0 x1 := by
 obtain ⟨_,_,ha,_,_,hq,rfl,rfl⟩ := w_cutR x0 x1 (fun r H'=>∃ x2 x3,post_cutR x0 x1 x2 x3 ∧ r = (.tup [(iv x2),(iv x3)]) ∧ H' = []) (by
  obtain ⟨_,_⟩ := hp
  apply bS <;> intro _
  ·apply bS <;> intro _
   ·exact ⟨_,_,zl2x4,rfl,rfl⟩
   exact ⟨_,_,zl2x4,rfl,rfl⟩
  apply bS <;> intro _
  ·exact ⟨_,_,zl2x4,rfl,rfl⟩
  exact ⟨_,_,zl2x4,rfl,rfl⟩)
 exact ⟨_,_,hq,ha⟩
abbrev E_orR (x0 x1 x2 x3 : Int) : Prop := ∃ x4 x5,post_orR x0 x1 x2 x3 x4 x5 ∧ A 32 [(iv x0),(iv x1),(iv x2),(iv x3)] [] (.tup [(iv x4),(iv x5)]) []
abbrev j_orR (nn : Nat) (x0 x1 x2 x3 : Int) (kK : Int → Int → HC) : HC := ⟨.ev nn (.ask (eI fun x4=>eI fun x5=>.done (.res (.tup [(iv x4),(iv x5)]) [] (post_orR x0 x1 x2 x3 x4 x5)) ((kK x4 x5).h))),E_orR x0 x1 x2 x3 ∧ (∀ x4 x5,post_orR x0 x1 x2 x3 x4 x5 → (kK x4 x5).p)⟩
abbrev t_orR (x0 x1 x2 x3 : Int) (Q : AV → HH → Prop) : HC := (dd 1 ((decide (x2 < x0))) (dd 1 ((decide (x1 < 0))) (qq 4 Q (.tup [(iv x2),(iv (-1))])) (dd 3 ((decide (x3 < 0))) (qq 1 Q (.tup [(iv x2),(iv (-1))])) (dd 1 ((decide (x3 > x1))) (qq 1 Q (.tup [(iv x2),(iv x3)])) (qq 1 Q (.tup [(iv x2),(iv x1)]))))) (dd 1 ((decide (x1 < 0))) (qq 4 Q (.tup [(iv x0),(iv (-1))])) (dd 3 ((decide (x3 < 0))) (qq 1 Q (.tup [(iv x0),(iv (-1))])) (dd 1 ((decide (x3 > x1))) (qq 1 Q (.tup [(iv x0),(iv x3)])) (qq 1 Q (.tup [(iv x0),(iv x1)]))))))
theorem w_orR (x0 x1 x2 x3) (Q : AV → HH → Prop) (h : (t_orR x0 x1 x2 x3 Q).p) : ∃ r H',A 32 [(iv x0),(iv x1),(iv x2),(iv x3)] [] r H' ∧ Q r H' :=
 Ans.wq rfl (t_orR x0 x1 x2 x3 Q).h (by kernel_rfl) h
theorem c_orR {x0 x1 x2 x3} (hp : pre_orR x0 x1 x2 x3) : E_orR x0 x1 x2 x3 := by
 obtain ⟨_,_,ha,_,_,hq,rfl,rfl⟩ := w_orR x0 x1 x2 x3 (fun r H'=>∃ x4 x5,post_orR x0 x1 x2 x3 x4 x5 ∧ r = (.tup [(iv x4),(iv x5)]) ∧ H' = []) (by
  obtain ⟨_,_,_,_,_,_,_,_⟩ := hp
  apply bS <;> intro _
  ·apply bS <;> intro _
   ·exact ⟨_,_,zl2x5,rfl,rfl⟩
   apply bS <;> intro _
   ·exact ⟨_,_,zl2x5,rfl,rfl⟩
   apply bS <;> intro _
   ·exact ⟨_,_,zl2x5,rfl,rfl⟩
   exact ⟨_,_,zl2x5,rfl,rfl⟩
  apply bS <;> intro _
  ·exact ⟨_,_,zl2x5,rfl,rfl⟩
  apply bS <;> intro _
  ·exact ⟨_,_,zl2x5,rfl,rfl⟩
  apply bS <;> intro _
  ·exact ⟨_,_,zl2x5,rfl,rfl⟩
  exact ⟨_,_,zl2x5,rfl,rfl⟩)
 exact ⟨_,_,hq,ha⟩
abbrev E_WidthR (x0 x1 x2 : Int) (x3 : List AV) (x4 : Bool) (x5 x6 x7 : Int) (x8 : ByteArray) (x9 x10 : Int) (x11 : List AV) (x12 x13 x14 : Int) (x15 : List AV) (x16 : Bool) (x17 x18 x19 : Int) (x20 : ByteArray) (x21 x22 : Int) (x23 : List AV) (x24 : Bool) : Prop := ∃ x25 x26,post_WidthR x0 x1 x2 x3 x4 x5 x6 x7 x8 x9 x10 x11 x12 x13 x14 x15 x16 x17 x18 x19 x20 x21 x22 x23 x24 x25 x26 ∧ A 16 [(.agg (nR x0 x1 x2 x3 x4 x5 x6 x7 x8 x9 x10 x11)),(.agg (nR x12 x13 x14 x15 x16 x17 x18 x19 x20 x21 x22 x23)),(bv x24)] [] (.tup [(iv x25),(iv x26)]) []
abbrev j_WidthR (nn : Nat) (x0 x1 x2 : Int) (x3 : List AV) (x4 : Bool) (x5 x6 x7 : Int) (x8 : ByteArray) (x9 x10 : Int) (x11 : List AV) (x12 x13 x14 : Int) (x15 : List AV) (x16 : Bool) (x17 x18 x19 : Int) (x20 : ByteArray) (x21 x22 : Int) (x23 : List AV) (x24 : Bool) (kK : Int → Int → HC) : HC := ⟨.ev nn (.ask (eI fun x25=>eI fun x26=>.done (.res (.tup [(iv x25),(iv x26)]) [] (post_WidthR x0 x1 x2 x3 x4 x5 x6 x7 x8 x9 x10 x11 x12 x13 x14 x15 x16 x17 x18 x19 x20 x21 x22 x23 x24 x25 x26)) ((kK x25 x26).h))),E_WidthR x0 x1 x2 x3 x4 x5 x6 x7 x8 x9 x10 x11 x12 x13 x14 x15 x16 x17 x18 x19 x20 x21 x22 x23 x24 ∧ (∀ x25 x26,post_WidthR x0 x1 x2 x3 x4 x5 x6 x7 x8 x9 x10 x11 x12 x13 x14 x15 x16 x17 x18 x19 x20 x21 x22 x23 x24 x25 x26 → (kK x25 x26).p)⟩
def IH_WidthR (b : Nat) : Prop := ∀ {x0 : Int} {x1 : Int} {x2 : Int} {x3 : List AV} {x4 : Bool} {x5 : Int} {x6 : Int} {x7 : Int} {x8 : ByteArray} {x9 : Int} {x10 : Int} {x11 : List AV} {x12 : Int} {x13 : Int} {x14 : Int} {x15 : List AV} {x16 : Bool} {x17 : Int} {x18 : Int} {x19 : Int} {x20 : ByteArray} {x21 : Int} {x22 : Int} {x23 : List AV} {x24 : Bool},rank_WidthR x0 x1 x2 x3 x4 x5 x6 x7 x8 x9 x10 x11 x12 x13 x14 x15 x16 x17 x18 x19 x20 x21 x22 x23 x24 < b → pre_WidthR x0 x1 x2 x3 x4 x5 x6 x7 x8 x9 x10 x11 x12 x13 x14 x15 x16 x17 x18 x19 x20 x21 x22 x23 x24 → E_WidthR x0 x1 x2 x3 x4 x5 x6 x7 x8 x9 x10 x11 x12 x13 x14 x15 x16 x17 x18 x19 x20 x21 x22 x23 x24
def s_WidthR_0 (x0 : Bool) (x1 x2 x3 : Int) (x4 : List AV) (x5 : Bool) (x6 x7 x8 : Int) (x9 : ByteArray) (x10 x11 : Int) (x12 : List AV) (x13 x14 x15 : Int) (x16 : List AV) (x17 : Bool) (x18 x19 x20 : Int) (x21 : ByteArray) (x22 x23 : Int) (x24 : List AV) (x25 x26 x27 : Int) : St := ⟨[],[(2,(bv x0)),(3,(.ea [(iv x1),(iv x2),(iv x3),(.sl 2 x4),(bv x5),(iv x6),(iv x7),(iv x8),(sv x9),(iv x10),(iv x11),(.sl 12 x12)])),(4,(.ea [(iv x13),(iv x14),(iv x15),(.sl 2 x16),(bv x17),(iv x18),(iv x19),(iv x20),(sv x21),(iv x22),(iv x23),(.sl 12 x24)])),(9,(iv x25)),(10,(iv x26)),(11,(iv x27))],[],0⟩
def x_WidthR_0_0 (x0 : Bool) (x1 x2 x3 : Int) (x4 : List AV) (x5 : Bool) (x6 x7 x8 : Int) (x9 : ByteArray) (x10 x11 : Int) (x12 : List AV) (x13 x14 x15 : Int) (x16 : List AV) (x17 : Bool) (x18 x19 x20 : Int) (x21 : ByteArray) (x22 x23 : Int) (x24 : List AV) (y25 y26 y27 : Int) : St := ⟨[],[(2,(bv x0)),(3,(.ea [(iv x1),(iv x2),(iv x3),(.sl 2 x4),(bv x5),(iv x6),(iv x7),(iv x8),(sv x9),(iv x10),(iv x11),(.sl 12 x12)])),(4,(.ea [(iv x13),(iv x14),(iv x15),(.sl 2 x16),(bv x17),(iv x18),(iv x19),(iv x20),(sv x21),(iv x22),(iv x23),(.sl 12 x24)])),(9,(iv y25)),(10,(iv y26)),(11,(iv y27)),(43,(bv false))],[],0⟩
abbrev E_WidthR_0 (x0 : Bool) (x1 x2 x3 : Int) (x4 : List AV) (x5 : Bool) (x6 x7 x8 : Int) (x9 : ByteArray) (x10 x11 : Int) (x12 : List AV) (x13 x14 x15 : Int) (x16 : List AV) (x17 : Bool) (x18 x19 x20 : Int) (x21 : ByteArray) (x22 x23 : Int) (x24 : List AV) (x25o x26o x27o : Int) : Prop := (∃ y28 y29 y30,out_WidthR_0_0 x0 x1 x2 x3 x4 x5 x6 x7 x8 x9 x10 x11 x12 x13 x14 x15 x16 x17 x18 x19 x20 x21 x22 x23 x24 x25o x26o x27o y28 y29 y30 ∧ R 16 0 (s_WidthR_0 x0 x1 x2 x3 x4 x5 x6 x7 x8 x9 x10 x11 x12 x13 x14 x15 x16 x17 x18 x19 x20 x21 x22 x23 x24 x25o x26o x27o) ((Ex.exit 1),x_WidthR_0_0 x0 x1 x2 x3 x4 x5 x6 x7 x8 x9 x10 x11 x12 x13 x14 x15 x16 x17 x18 x19 x20 x21 x22 x23 x24 y28 y29 y30))
abbrev j_WidthR_0 (nn : Nat) (x0 : Bool) (x1 x2 x3 : Int) (x4 : List AV) (x5 : Bool) (x6 x7 x8 : Int) (x9 : ByteArray) (x10 x11 : Int) (x12 : List AV) (x13 x14 x15 : Int) (x16 : List AV) (x17 : Bool) (x18 x19 x20 : Int) (x21 : ByteArray) (x22 x23 : Int) (x24 : List AV) (x25o x26o x27o : Int) (f0 : Int → Int → Int → HC) : HC := ⟨.ev nn (.ask (eI fun y28=>eI fun y29=>eI fun y30=>.done (.exit (Ex.exit 1) (x_WidthR_0_0 x0 x1 x2 x3 x4 x5 x6 x7 x8 x9 x10 x11 x12 x13 x14 x15 x16 x17 x18 x19 x20 x21 x22 x23 x24 y28 y29 y30) (out_WidthR_0_0 x0 x1 x2 x3 x4 x5 x6 x7 x8 x9 x10 x11 x12 x13 x14 x15 x16 x17 x18 x19 x20 x21 x22 x23 x24 x25o x26o x27o y28 y29 y30)) (f0 y28 y29 y30).h)),E_WidthR_0 x0 x1 x2 x3 x4 x5 x6 x7 x8 x9 x10 x11 x12 x13 x14 x15 x16 x17 x18 x19 x20 x21 x22 x23 x24 x25o x26o x27o ∧ (∀ y28 y29 y30,out_WidthR_0_0 x0 x1 x2 x3 x4 x5 x6 x7 x8 x9 x10 x11 x12 x13 x14 x15 x16 x17 x18 x19 x20 x21 x22 x23 x24 x25o x26o x27o y28 y29 y30 → (f0 y28 y29 y30).p)⟩
abbrev t_WidthR_0 (x0 : Bool) (x1 x2 x3 : Int) (x4 : List AV) (x5 : Bool) (x6 x7 x8 : Int) (x9 : ByteArray) (x10 x11 : Int) (x12 : List AV) (x13 x14 x15 : Int) (x16 : List AV) (x17 : Bool) (x18 x19 x20 : Int) (x21 : ByteArray) (x22 x23 : Int) (x24 : List AV) (x25 x26 x27 : Int) (Q : Ex → St → Prop) : HC := (dd 1 ((decide (x27 < (↑x12.length : Int)))) (oo 0 ((decide (0 ≤ x27))) (pN 1 ((x12[x27.toNat]?)) fun x28 x29 x30 x31 x32 x33 x34 x35 x36 x37 x38 x39=>(oo 0 ((npL [(.agg (nR x28 x29 x30 x31 x32 x33 x34 x35 x36 x37 x38 x39)),(.agg (nR x13 x14 x15 x16 x17 x18 x19 x20 x21 x22 x23 x24)),(bv x0)])) (j_WidthR 0 x28 x29 x30 x31 x32 x33 x34 x35 x36 x37 x38 x39 x13 x14 x15 x16 x17 x18 x19 x20 x21 x22 x23 x24 x0 fun x40 x41=>(dd 2 ((decide (x26 < 0))) (j_cutR 4 (w6 (x25 + x40)) (-1) fun x42 x43=>(zz 1 (Q .norm (s_WidthR_0 x0 x1 x2 x3 x4 x5 x6 x7 x8 x9 x10 x11 x12 x13 x14 x15 x16 x17 x18 x19 x20 x21 x22 x23 x24 x42 x43 (w6 (x27 + 1)))))) (dd 3 ((decide (x41 < 0))) (j_cutR 1 (w6 (x25 + x40)) (-1) fun x44 x45=>(zz 1 (Q .norm (s_WidthR_0 x0 x1 x2 x3 x4 x5 x6 x7 x8 x9 x10 x11 x12 x13 x14 x15 x16 x17 x18 x19 x20 x21 x22 x23 x24 x44 x45 (w6 (x27 + 1)))))) (j_cutR 2 (w6 (x25 + x40)) (w6 (x26 + x41)) fun x46 x47=>(zz 1 (Q .norm (s_WidthR_0 x0 x1 x2 x3 x4 x5 x6 x7 x8 x9 x10 x11 x12 x13 x14 x15 x16 x17 x18 x19 x20 x21 x22 x23 x24 x46 x47 (w6 (x27 + 1)))))))))))) (zz 0 (Q (Ex.exit 1) (x_WidthR_0_0 x0 x1 x2 x3 x4 x5 x6 x7 x8 x9 x10 x11 x12 x13 x14 x15 x16 x17 x18 x19 x20 x21 x22 x23 x24 x25 x26 x27))))
theorem l_WidthR_0 (x0 x1 x2 x3 x4 x5 x6 x7 x8 x9 x10 x11 x12 x13 x14 x15 x16 x17 x18 x19 x20 x21 x22 x23 x24 x25 x26 x27) (Q : Ex → St → Prop) (h : (t_WidthR_0 x0 x1 x2 x3 x4 x5 x6 x7 x8 x9 x10 x11 x12 x13 x14 x15 x16 x17 x18 x19 x20 x21 x22 x23 x24 x25 x26 x27 Q).p) : ∃ e s',L 16 0 (s_WidthR_0 x0 x1 x2 x3 x4 x5 x6 x7 x8 x9 x10 x11 x12 x13 x14 x15 x16 x17 x18 x19 x20 x21 x22 x23 x24 x25 x26 x27) (e,s') ∧ Q e s' :=
 Leads.wq (t_WidthR_0 x0 x1 x2 x3 x4 x5 x6 x7 x8 x9 x10 x11 x12 x13 x14 x15 x16 x17 x18 x19 x20 x21 x22 x23 x24 x25 x26 x27 Q).h (by kernel_rfl) h
theorem k_WidthR_0 {B : Nat} (ih_WidthR : IH_WidthR B) {x0 x1 x2 x3 x4 x5 x6 x7 x8 x9 x10 x11 x12 x13 x14 x15 x16 x17 x18 x19 x20 x21 x22 x23 x24 x25o x26o x27o} (hi : inv_WidthR_0 B x0 x1 x2 x3 x4 x5 x6 x7 x8 x9 x10 x11 x12 x13 x14 x15 x16 x17 x18 x19 x20 x21 x22 x23 x24 x25o x26o x27o x25o x26o x27o) : E_WidthR_0 x0 x1 x2 x3 x4 x5 x6 x7 x8 x9 x10 x11 x12 x13 x14 x15 x16 x17 x18 x19 x20 x21 x22 x23 x24 x25o x26o x27o := by
 obtain ⟨e,s',hr,hq⟩ := Rounds.byInv (st := fun (w : Int × Int × Int)=>s_WidthR_0 x0 x1 x2 x3 x4 x5 x6 x7 x8 x9 x10 x11 x12 x13 x14 x15 x16 x17 x18 x19 x20 x21 x22 x23 x24 w.1 w.2.1 w.2.2) (Inv := fun w=>inv_WidthR_0 B x0 x1 x2 x3 x4 x5 x6 x7 x8 x9 x10 x11 x12 x13 x14 x15 x16 x17 x18 x19 x20 x21 x22 x23 x24 x25o x26o x27o w.1 w.2.1 w.2.2) (μ := fun w=>mu_WidthR_0 x0 x1 x2 x3 x4 x5 x6 x7 x8 x9 x10 x11 x12 x13 x14 x15 x16 x17 x18 x19 x20 x21 x22 x23 x24 w.1 w.2.1 w.2.2) (Q := fun e s'=>(∃ y28 y29 y30,out_WidthR_0_0 x0 x1 x2 x3 x4 x5 x6 x7 x8 x9 x10 x11 x12 x13 x14 x15 x16 x17 x18 x19 x20 x21 x22 x23 x24 x25o x26o x27o y28 y29 y30 ∧ e = (Ex.exit 1) ∧ s' = x_WidthR_0_0 x0 x1 x2 x3 x4 x5 x6 x7 x8 x9 x10 x11 x12 x13 x14 x15 x16 x17 x18 x19 x20 x21 x22 x23 x24 y28 y29 y30)) (by
  rintro ⟨x25,x26,x27⟩ hi
  have hi : inv_WidthR_0 B x0 x1 x2 x3 x4 x5 x6 x7 x8 x9 x10 x11 x12 x13 x14 x15 x16 x17 x18 x19 x20 x21 x22 x23 x24 x25o x26o x27o x25 x26 x27 := hi
  refine l_WidthR_0 x0 x1 x2 x3 x4 x5 x6 x7 x8 x9 x10 x11 x12 x13 x14 x15 x16 x17 x18 x19 x20 x21 x22 x23 x24 x25 x26 x27 _ ?_
  obtain ⟨_,⟨_,_,_,_⟩,_,⟨_,_,_,_⟩,_,_,_,_,_,_,_,_⟩ := hi
  apply bS <;> intro _
  ·refine ⟨by (try have hs := shape1 (show shapeN x28 x32 x33 x34 from by with_reducible assumption) (by omega)); exact tD,?_⟩
   refine ⟨by first | (refine Ns.get (show Ns x34 from by with_reducible assumption) ?_; exact shape1 (show shapeN x28 x32 x33 x34 from by with_reducible assumption) (by omega)) | (have hk := (show x28 = 19 from by with_reducible assumption); have hs := shape19 (show shapeN x28 x32 x33 x34 from by with_reducible assumption) hk; first | (refine Ns.get (show Ns x34 from by with_reducible assumption) ?_; omega) | (obtain ⟨d1,d2,d3,d4⟩ := dropped (show Ns x34 from by with_reducible assumption); refine Ns.get d1 ?_; omega)) | exact tG,fun _ _ _ _ _ _ _ _ _ _ _ _ g47=>?_⟩
   have edg74 := nsz_drop g47; first | (have eg47 := Ns.elem tA g47; have eng74 := nsz_get g47; obtain ⟨_,_,_,_⟩ := eg47.nw) | (obtain ⟨d1,d2,d3,d4⟩ := dropped (show Ns x34 from by with_reducible assumption); have eg47 := Ns.elem d1 g47; have eng74 := nsz_get g47; obtain ⟨_,_,_,_⟩ := eg47.nw)
   refine ⟨tN,ih_WidthR (by (try unfold rank_WidthR); (try unfold rank_WidthR); (try rw [rkT]); (try have hw := rkF (show x48 = false from by assumption)); omega) zl2x6,fun x49 x50 p51=>?_⟩
   obtain ⟨_,_,_,_,_⟩ := p51
   apply bS <;> intro _
   ·try have := tW (x25 + x49)
    refine ⟨c_cutR zl2x6,fun x53 x54 p55=>?_⟩
    obtain ⟨_,_,_,_,_⟩ := p55
    try have := tW (x27 + 1)
    exact .inl ⟨rfl,(x53,x54,(w6 (x27 + 1))),rfl,zl2x7,by unfold mu_WidthR_0; exact tI⟩
   apply bS <;> intro _
   ·try have := tW (x25 + x49)
    refine ⟨c_cutR zl2x6,fun x57 x58 p59=>?_⟩
    obtain ⟨_,_,_,_,_⟩ := p59
    try have := tW (x27 + 1)
    exact .inl ⟨rfl,(x57,x58,(w6 (x27 + 1))),rfl,zl2x7,by unfold mu_WidthR_0; exact tI⟩
   try have := tW (x26 + x50)
   try have := tW (x25 + x49)
   refine ⟨c_cutR zl2x6,fun x60 x61 p62=>?_⟩
   obtain ⟨_,_,_,_,_⟩ := p62
   try have := tW (x27 + 1)
   exact .inl ⟨rfl,(x60,x61,(w6 (x27 + 1))),rfl,zl2x7,by unfold mu_WidthR_0; exact tI⟩
  exact .inr ⟨by simp,⟨_,_,_,by refine ⟨by omega,by omega,by omega,by omega,?_⟩; first | exact seq_e tA (by omega) | exact tail_e tA (by rw [List.length_drop]; omega),rfl,rfl⟩⟩) (x25o,x26o,x27o) hi
 rcases hq with ⟨_,_,_,ho,rfl,rfl⟩
 exact ⟨_,_,_,ho,hr⟩
def s_WidthR_1 (x0 : Bool) (x1 x2 x3 : Int) (x4 : List AV) (x5 : Bool) (x6 x7 x8 : Int) (x9 : ByteArray) (x10 x11 : Int) (x12 : List AV) (x13 x14 x15 : Int) (x16 : List AV) (x17 : Bool) (x18 x19 x20 : Int) (x21 : ByteArray) (x22 x23 : Int) (x24 : List AV) (x25 x26 x27 : Int) : St := ⟨[],[(2,(bv x0)),(3,(.ea [(iv x1),(iv x2),(iv x3),(.sl 2 x4),(bv x5),(iv x6),(iv x7),(iv x8),(sv x9),(iv x10),(iv x11),(.sl 12 x12)])),(4,(.ea [(iv x13),(iv x14),(iv x15),(.sl 2 x16),(bv x17),(iv x18),(iv x19),(iv x20),(sv x21),(iv x22),(iv x23),(.sl 12 x24)])),(14,(iv x25)),(15,(iv x26)),(16,(iv x27))],[],0⟩
def x_WidthR_1_0 (x0 : Bool) (x1 x2 x3 : Int) (x4 : List AV) (x5 : Bool) (x6 x7 x8 : Int) (x9 : ByteArray) (x10 x11 : Int) (x12 : List AV) (x13 x14 x15 : Int) (x16 : List AV) (x17 : Bool) (x18 x19 x20 : Int) (x21 : ByteArray) (x22 x23 : Int) (x24 : List AV) (y25 y26 y27 : Int) : St := ⟨[],[(2,(bv x0)),(3,(.ea [(iv x1),(iv x2),(iv x3),(.sl 2 x4),(bv x5),(iv x6),(iv x7),(iv x8),(sv x9),(iv x10),(iv x11),(.sl 12 x12)])),(4,(.ea [(iv x13),(iv x14),(iv x15),(.sl 2 x16),(bv x17),(iv x18),(iv x19),(iv x20),(sv x21),(iv x22),(iv x23),(.sl 12 x24)])),(14,(iv y25)),(15,(iv y26)),(16,(iv y27)),(94,(bv false))],[],0⟩
abbrev E_WidthR_1 (x0 : Bool) (x1 x2 x3 : Int) (x4 : List AV) (x5 : Bool) (x6 x7 x8 : Int) (x9 : ByteArray) (x10 x11 : Int) (x12 : List AV) (x13 x14 x15 : Int) (x16 : List AV) (x17 : Bool) (x18 x19 x20 : Int) (x21 : ByteArray) (x22 x23 : Int) (x24 : List AV) (x25o x26o x27o : Int) : Prop := (∃ y28 y29 y30,out_WidthR_1_0 x0 x1 x2 x3 x4 x5 x6 x7 x8 x9 x10 x11 x12 x13 x14 x15 x16 x17 x18 x19 x20 x21 x22 x23 x24 x25o x26o x27o y28 y29 y30 ∧ R 16 1 (s_WidthR_1 x0 x1 x2 x3 x4 x5 x6 x7 x8 x9 x10 x11 x12 x13 x14 x15 x16 x17 x18 x19 x20 x21 x22 x23 x24 x25o x26o x27o) ((Ex.exit 3),x_WidthR_1_0 x0 x1 x2 x3 x4 x5 x6 x7 x8 x9 x10 x11 x12 x13 x14 x15 x16 x17 x18 x19 x20 x21 x22 x23 x24 y28 y29 y30))
abbrev j_WidthR_1 (nn : Nat) (x0 : Bool) (x1 x2 x3 : Int) (x4 : List AV) (x5 : Bool) (x6 x7 x8 : Int) (x9 : ByteArray) (x10 x11 : Int) (x12 : List AV) (x13 x14 x15 : Int) (x16 : List AV) (x17 : Bool) (x18 x19 x20 : Int) (x21 : ByteArray) (x22 x23 : Int) (x24 : List AV) (x25o x26o x27o : Int) (f0 : Int → Int → Int → HC) : HC := ⟨.ev nn (.ask (eI fun y28=>eI fun y29=>eI fun y30=>.done (.exit (Ex.exit 3) (x_WidthR_1_0 x0 x1 x2 x3 x4 x5 x6 x7 x8 x9 x10 x11 x12 x13 x14 x15 x16 x17 x18 x19 x20 x21 x22 x23 x24 y28 y29 y30) (out_WidthR_1_0 x0 x1 x2 x3 x4 x5 x6 x7 x8 x9 x10 x11 x12 x13 x14 x15 x16 x17 x18 x19 x20 x21 x22 x23 x24 x25o x26o x27o y28 y29 y30)) (f0 y28 y29 y30).h)),E_WidthR_1 x0 x1 x2 x3 x4 x5 x6 x7 x8 x9 x10 x11 x12 x13 x14 x15 x16 x17 x18 x19 x20 x21 x22 x23 x24 x25o x26o x27o ∧ (∀ y28 y29 y30,out_WidthR_1_0 x0 x1 x2 x3 x4 x5 x6 x7 x8 x9 x10 x11 x12 x13 x14 x15 x16 x17 x18 x19 x20 x21 x22 x23 x24 x25o x26o x27o y28 y29 y30 → (f0 y28 y29 y30).p)⟩
abbrev t_WidthR_1 (x0 : Bool) (x1 x2 x3 : Int) (x4 : List AV) (x5 : Bool) (x6 x7 x8 : Int) (x9 : ByteArray) (x10 x11 : Int) (x12 : List AV) (x13 x14 x15 : Int) (x16 : List AV) (x17 : Bool) (x18 x19 x20 : Int) (x21 : ByteArray) (x22 x23 : Int) (x24 : List AV) (x25 x26 x27 : Int) (Q : Ex → St → Prop) : HC := (dd 1 ((decide (x27 < (↑x12.length : Int)))) (oo 0 ((decide (0 ≤ x27))) (pN 1 ((x12[x27.toNat]?)) fun x28 x29 x30 x31 x32 x33 x34 x35 x36 x37 x38 x39=>(oo 0 ((npL [(.agg (nR x28 x29 x30 x31 x32 x33 x34 x35 x36 x37 x38 x39)),(.agg (nR x13 x14 x15 x16 x17 x18 x19 x20 x21 x22 x23 x24)),(bv x0)])) (j_WidthR 0 x28 x29 x30 x31 x32 x33 x34 x35 x36 x37 x38 x39 x13 x14 x15 x16 x17 x18 x19 x20 x21 x22 x23 x24 x0 fun x40 x41=>(j_orR 1 x25 x26 x40 x41 fun x42 x43=>(zz 1 (Q .norm (s_WidthR_1 x0 x1 x2 x3 x4 x5 x6 x7 x8 x9 x10 x11 x12 x13 x14 x15 x16 x17 x18 x19 x20 x21 x22 x23 x24 x42 x43 (w6 (x27 + 1)))))))))) (zz 0 (Q (Ex.exit 3) (x_WidthR_1_0 x0 x1 x2 x3 x4 x5 x6 x7 x8 x9 x10 x11 x12 x13 x14 x15 x16 x17 x18 x19 x20 x21 x22 x23 x24 x25 x26 x27))))
theorem l_WidthR_1 (x0 x1 x2 x3 x4 x5 x6 x7 x8 x9 x10 x11 x12 x13 x14 x15 x16 x17 x18 x19 x20 x21 x22 x23 x24 x25 x26 x27) (Q : Ex → St → Prop) (h : (t_WidthR_1 x0 x1 x2 x3 x4 x5 x6 x7 x8 x9 x10 x11 x12 x13 x14 x15 x16 x17 x18 x19 x20 x21 x22 x23 x24 x25 x26 x27 Q).p) : ∃ e s',L 16 1 (s_WidthR_1 x0 x1 x2 x3 x4 x5 x6 x7 x8 x9 x10 x11 x12 x13 x14 x15 x16 x17 x18 x19 x20 x21 x22 x23 x24 x25 x26 x27) (e,s') ∧ Q e s' :=
 Leads.wq (t_WidthR_1 x0 x1 x2 x3 x4 x5 x6 x7 x8 x9 x10 x11 x12 x13 x14 x15 x16 x17 x18 x19 x20 x21 x22 x23 x24 x25 x26 x27 Q).h (by kernel_rfl) h
theorem k_WidthR_1 {B : Nat} (ih_WidthR : IH_WidthR B) {x0 x1 x2 x3 x4 x5 x6 x7 x8 x9 x10 x11 x12 x13 x14 x15 x16 x17 x18 x19 x20 x21 x22 x23 x24 x25o x26o x27o} (hi : inv_WidthR_1 B x0 x1 x2 x3 x4 x5 x6 x7 x8 x9 x10 x11 x12 x13 x14 x15 x16 x17 x18 x19 x20 x21 x22 x23 x24 x25o x26o x27o x25o x26o x27o) : E_WidthR_1 x0 x1 x2 x3 x4 x5 x6 x7 x8 x9 x10 x11 x12 x13 x14 x15 x16 x17 x18 x19 x20 x21 x22 x23 x24 x25o x26o x27o := by
 obtain ⟨e,s',hr,hq⟩ := Rounds.byInv (st := fun (w : Int × Int × Int)=>s_WidthR_1 x0 x1 x2 x3 x4 x5 x6 x7 x8 x9 x10 x11 x12 x13 x14 x15 x16 x17 x18 x19 x20 x21 x22 x23 x24 w.1 w.2.1 w.2.2) (Inv := fun w=>inv_WidthR_1 B x0 x1 x2 x3 x4 x5 x6 x7 x8 x9 x10 x11 x12 x13 x14 x15 x16 x17 x18 x19 x20 x21 x22 x23 x24 x25o x26o x27o w.1 w.2.1 w.2.2) (μ := fun w=>mu_WidthR_1 x0 x1 x2 x3 x4 x5 x6 x7 x8 x9 x10 x11 x12 x13 x14 x15 x16 x17 x18 x19 x20 x21 x22 x23 x24 w.1 w.2.1 w.2.2) (Q := fun e s'=>(∃ y28 y29 y30,out_WidthR_1_0 x0 x1 x2 x3 x4 x5 x6 x7 x8 x9 x10 x11 x12 x13 x14 x15 x16 x17 x18 x19 x20 x21 x22 x23 x24 x25o x26o x27o y28 y29 y30 ∧ e = (Ex.exit 3) ∧ s' = x_WidthR_1_0 x0 x1 x2 x3 x4 x5 x6 x7 x8 x9 x10 x11 x12 x13 x14 x15 x16 x17 x18 x19 x20 x21 x22 x23 x24 y28 y29 y30)) (by
  rintro ⟨x25,x26,x27⟩ hi
  have hi : inv_WidthR_1 B x0 x1 x2 x3 x4 x5 x6 x7 x8 x9 x10 x11 x12 x13 x14 x15 x16 x17 x18 x19 x20 x21 x22 x23 x24 x25o x26o x27o x25 x26 x27 := hi
  refine l_WidthR_1 x0 x1 x2 x3 x4 x5 x6 x7 x8 x9 x10 x11 x12 x13 x14 x15 x16 x17 x18 x19 x20 x21 x22 x23 x24 x25 x26 x27 _ ?_
  obtain ⟨_,⟨_,_,_,_⟩,_,⟨_,_,_,_⟩,_,_,_,_,_,_,_,_⟩ := hi
  apply bS <;> intro _
  ·refine ⟨by (try have hs := shape1 (show shapeN x28 x32 x33 x34 from by with_reducible assumption) (by omega)); exact tD,?_⟩
   refine ⟨by first | (refine Ns.get (show Ns x34 from by with_reducible assumption) ?_; exact shape1 (show shapeN x28 x32 x33 x34 from by with_reducible assumption) (by omega)) | (have hk := (show x28 = 19 from by with_reducible assumption); have hs := shape19 (show shapeN x28 x32 x33 x34 from by with_reducible assumption) hk; first | (refine Ns.get (show Ns x34 from by with_reducible assumption) ?_; omega) | (obtain ⟨d1,d2,d3,d4⟩ := dropped (show Ns x34 from by with_reducible assumption); refine Ns.get d1 ?_; omega)) | exact tG,fun _ _ _ _ _ _ _ _ _ _ _ _ g47=>?_⟩
   have edg264 := nsz_drop g47; first | (have eg47 := Ns.elem tA g47; have eng264 := nsz_get g47; obtain ⟨_,_,_,_⟩ := eg47.nw) | (obtain ⟨d1,d2,d3,d4⟩ := dropped (show Ns x34 from by with_reducible assumption); have eg47 := Ns.elem d1 g47; have eng264 := nsz_get g47; obtain ⟨_,_,_,_⟩ := eg47.nw)
   refine ⟨tN,ih_WidthR (by (try unfold rank_WidthR); (try unfold rank_WidthR); (try rw [rkT]); (try have hw := rkF (show x48 = false from by assumption)); omega) zl2x6,fun _ _ p51=>?_⟩
   obtain ⟨_,_,_,_,_⟩ := p51
   refine ⟨c_orR zl2x6,fun x52 x53 p54=>?_⟩
   obtain ⟨_,_,_,_,_⟩ := p54
   try have := tW (x27 + 1)
   exact .inl ⟨rfl,(x52,x53,(w6 (x27 + 1))),rfl,zl2x7,by unfold mu_WidthR_1; exact tI⟩
  exact .inr ⟨by simp,⟨_,_,_,by refine ⟨by omega,by omega,by omega,by omega,?_⟩; first | exact seq_e tA (by omega) | exact tail_e tA (by rw [List.length_drop]; omega),rfl,rfl⟩⟩) (x25o,x26o,x27o) hi
 rcases hq with ⟨_,_,_,ho,rfl,rfl⟩
 exact ⟨_,_,_,ho,hr⟩
abbrev t_WidthR (x0 x1 x2 : Int) (x3 : List AV) (x4 : Bool) (x5 x6 x7 : Int) (x8 : ByteArray) (x9 x10 : Int) (x11 : List AV) (x12 x13 x14 : Int) (x15 : List AV) (x16 : Bool) (x17 x18 x19 : Int) (x20 : ByteArray) (x21 x22 : Int) (x23 : List AV) (x24 : Bool) (Q : AV → HH → Prop) : HC := (oo 0 ((npL [(.agg (nR x0 x1 x2 x3 x4 x5 x6 x7 x8 x9 x10 x11))])) (j_accR 0 x0 x1 x2 x3 x4 x5 x6 x7 x8 x9 x10 x11 fun x25=>(dd 0 x25 (qq 1 Q (.tup [(iv 0),(iv (-1))])) (dd 1 ((x0 == 2)) (qq 1 Q (.tup [(iv 1),(iv 1)])) (dd 1 ((x0 == 7)) (qq 1 Q (.tup [(iv 0),(iv (-1))])) (dd 1 ((x0 == 12)) (j_WidthR_0 0 x24 x0 x1 x2 x3 x4 x5 x6 x7 x8 x9 x10 x11 x12 x13 x14 x15 x16 x17 x18 x19 x20 x21 x22 x23 0 0 0 (fun x26 x27 x28=>(qq 1 Q (.tup [(iv x26),(iv x27)])))) (dd 1 ((x0 == 13)) (pN 3 ((x11[0]?)) fun x29 x30 x31 x32 x33 x34 x35 x36 x37 x38 x39 x40=>(oo 0 ((npL [(.agg (nR x29 x30 x31 x32 x33 x34 x35 x36 x37 x38 x39 x40)),(.agg (nR x12 x13 x14 x15 x16 x17 x18 x19 x20 x21 x22 x23)),(bv x24)])) (j_WidthR 0 x29 x30 x31 x32 x33 x34 x35 x36 x37 x38 x39 x40 x12 x13 x14 x15 x16 x17 x18 x19 x20 x21 x22 x23 x24 fun x41 x42=>(j_WidthR_1 0 x24 x0 x1 x2 x3 x4 x5 x6 x7 x8 x9 x10 x11 x12 x13 x14 x15 x16 x17 x18 x19 x20 x21 x22 x23 x41 x42 1 (fun x43 x44 x45=>(qq 1 Q (.tup [(iv x43),(iv x44)]))))))) (dd 1 ((x0 == 16)) (pN 2 ((x11[0]?)) fun x46 x47 x48 x49 x50 x51 x52 x53 x54 x55 x56 x57=>(oo 0 ((npL [(.agg (nR x46 x47 x48 x49 x50 x51 x52 x53 x54 x55 x56 x57)),(.agg (nR x12 x13 x14 x15 x16 x17 x18 x19 x20 x21 x22 x23)),(bv x24)])) (j_WidthR 0 x46 x47 x48 x49 x50 x51 x52 x53 x54 x55 x56 x57 x12 x13 x14 x15 x16 x17 x18 x19 x20 x21 x22 x23 x24 fun x58 x59=>(j_WidthR_1 0 x24 x0 x1 x2 x3 x4 x5 x6 x7 x8 x9 x10 x11 x12 x13 x14 x15 x16 x17 x18 x19 x20 x21 x22 x23 x58 x59 1 (fun x60 x61 x62=>(qq 1 Q (.tup [(iv x60),(iv x61)]))))))) (dd 1 ((x0 == 14)) (pN 3 ((x11[0]?)) fun x63 x64 x65 x66 x67 x68 x69 x70 x71 x72 x73 x74=>(oo 0 ((npL [(.agg (nR x63 x64 x65 x66 x67 x68 x69 x70 x71 x72 x73 x74)),(.agg (nR x12 x13 x14 x15 x16 x17 x18 x19 x20 x21 x22 x23)),(bv x24)])) (j_WidthR 0 x63 x64 x65 x66 x67 x68 x69 x70 x71 x72 x73 x74 x12 x13 x14 x15 x16 x17 x18 x19 x20 x21 x22 x23 x24 fun x75 x76=>(qq 1 Q (.tup [(iv x75),(iv x76)]))))) (dd 1 ((x0 == 17)) (pN 2 ((x11[0]?)) fun x77 x78 x79 x80 x81 x82 x83 x84 x85 x86 x87 x88=>(oo 0 ((npL [(.agg (nR x77 x78 x79 x80 x81 x82 x83 x84 x85 x86 x87 x88)),(.agg (nR x12 x13 x14 x15 x16 x17 x18 x19 x20 x21 x22 x23)),(bv x24)])) (j_WidthR 0 x77 x78 x79 x80 x81 x82 x83 x84 x85 x86 x87 x88 x12 x13 x14 x15 x16 x17 x18 x19 x20 x21 x22 x23 x24 fun x89 x90=>(qq 1 Q (.tup [(iv x89),(iv x90)]))))) (dd 1 ((x0 == 19)) (dd 1 ((x5 == 12)) (qq 1 Q (.tup [(iv 0),(iv 0)])) (dd 1 ((x5 == 13)) (oo 2 (((Nat.ble 1 x11.length) && (x11.length.ble x11.length))) (pN 2 (((List.drop 1 (List.take x11.length x11))[0]?)) fun x91 x92 x93 x94 x95 x96 x97 x98 x99 x100 x101 x102=>(oo 0 ((npL [(.agg (nR x91 x92 x93 x94 x95 x96 x97 x98 x99 x100 x101 x102)),(.agg (nR x12 x13 x14 x15 x16 x17 x18 x19 x20 x21 x22 x23)),(bv x24)])) (j_WidthR 0 x91 x92 x93 x94 x95 x96 x97 x98 x99 x100 x101 x102 x12 x13 x14 x15 x16 x17 x18 x19 x20 x21 x22 x23 x24 fun x103 x104=>(dd 1 (((↑(List.drop 1 (List.take x11.length x11)).length : Int) == 1)) (j_orR 1 x103 x104 0 0 fun x105 x106=>(qq 1 Q (.tup [(iv x105),(iv x106)]))) (pN 2 (((List.drop 1 (List.take x11.length x11))[1]?)) fun x107 x108 x109 x110 x111 x112 x113 x114 x115 x116 x117 x118=>(oo 0 ((npL [(.agg (nR x107 x108 x109 x110 x111 x112 x113 x114 x115 x116 x117 x118)),(.agg (nR x12 x13 x14 x15 x16 x17 x18 x19 x20 x21 x22 x23)),(bv x24)])) (j_WidthR 0 x107 x108 x109 x110 x111 x112 x113 x114 x115 x116 x117 x118 x12 x13 x14 x15 x16 x17 x18 x19 x20 x21 x22 x23 x24 fun x119 x120=>(j_orR 1 x103 x104 x119 x120 fun x121 x122=>(qq 1 Q (.tup [(iv x121),(iv x122)]))))))))))) (pN 2 ((x11[0]?)) fun x123 x124 x125 x126 x127 x128 x129 x130 x131 x132 x133 x134=>(oo 0 ((npL [(.agg (nR x123 x124 x125 x126 x127 x128 x129 x130 x131 x132 x133 x134)),(.agg (nR x12 x13 x14 x15 x16 x17 x18 x19 x20 x21 x22 x23)),(bv x24)])) (j_WidthR 0 x123 x124 x125 x126 x127 x128 x129 x130 x131 x132 x133 x134 x12 x13 x14 x15 x16 x17 x18 x19 x20 x21 x22 x23 x24 fun x135 x136=>(dd 1 (((↑x11.length : Int) == 1)) (j_orR 1 x135 x136 0 0 fun x137 x138=>(qq 1 Q (.tup [(iv x137),(iv x138)]))) (pN 2 ((x11[1]?)) fun x139 x140 x141 x142 x143 x144 x145 x146 x147 x148 x149 x150=>(oo 0 ((npL [(.agg (nR x139 x140 x141 x142 x143 x144 x145 x146 x147 x148 x149 x150)),(.agg (nR x12 x13 x14 x15 x16 x17 x18 x19 x20 x21 x22 x23)),(bv x24)])) (j_WidthR 0 x139 x140 x141 x142 x143 x144 x145 x146 x147 x148 x149 x150 x12 x13 x14 x15 x16 x17 x18 x19 x20 x21 x22 x23 x24 fun x151 x152=>(j_orR 1 x135 x136 x151 x152 fun x153 x154=>(qq 1 Q (.tup [(iv x153),(iv x154)])))))))))))) (dd 1 ((x0 == 20)) (pN 2 ((x11[0]?)) fun x155 x156 x157 x158 x159 x160 x161 x162 x163 x164 x165 x166=>(oo 0 ((npL [(.agg (nR x155 x156 x157 x158 x159 x160 x161 x162 x163 x164 x165 x166)),(.agg (nR x12 x13 x14 x15 x16 x17 x18 x19 x20 x21 x22 x23)),(bv x24)])) (j_WidthR 0 x155 x156 x157 x158 x159 x160 x161 x162 x163 x164 x165 x166 x12 x13 x14 x15 x16 x17 x18 x19 x20 x21 x22 x23 x24 fun x167 x168=>(dd 2 ((x6 == 0)) (j_cutR 4 (w6 (x167 * x5)) 0 fun x169 x170=>(qq 1 Q (.tup [(iv x169),(iv x170)]))) (dd 3 ((x168 == 0)) (j_cutR 1 (w6 (x167 * x5)) 0 fun x171 x172=>(qq 1 Q (.tup [(iv x171),(iv x172)]))) (dd 1 ((decide (x6 < 0))) (j_cutR 4 (w6 (x167 * x5)) (-1) fun x173 x174=>(qq 1 Q (.tup [(iv x173),(iv x174)]))) (dd 3 ((decide (x168 < 0))) (j_cutR 1 (w6 (x167 * x5)) (-1) fun x175 x176=>(qq 1 Q (.tup [(iv x175),(iv x176)]))) (j_cutR 2 (w6 (x167 * x5)) (w6 (x168 * x6)) fun x177 x178=>(qq 1 Q (.tup [(iv x177),(iv x178)])))))))))) (dd 1 ((x0 == 8)) (oo 0 ((npL [(.agg (nR x12 x13 x14 x15 x16 x17 x18 x19 x20 x21 x22 x23)),(iv x5)])) (j_GroupR 0 x12 x13 x14 x15 x16 x17 x18 x19 x20 x21 x22 x23 x5 fun x179 x180 x181 x182 x183 x184 x185 x186 x187 x188 x189 x190 x191=>(dd 1 ((!x191)) (qq 3 Q (.tup [(iv 0),(iv (-1))])) (dd 1 x24 (qq 1 Q (.tup [(iv 0),(iv (-1))])) (oo 0 ((npL [(.agg (nR x179 x180 x181 x182 x183 x184 x185 x186 x187 x188 x189 x190)),(.agg (nR x12 x13 x14 x15 x16 x17 x18 x19 x20 x21 x22 x23)),(bv true)])) (j_WidthR 0 x179 x180 x181 x182 x183 x184 x185 x186 x187 x188 x189 x190 x12 x13 x14 x15 x16 x17 x18 x19 x20 x21 x22 x23 true fun x192 x193=>(qq 1 Q (.tup [(iv x192),(iv x193)])))))))) (qq 1 Q (.tup [(iv 0),(iv 0)])))))))))))))))
theorem w_WidthR (x0 x1 x2 x3 x4 x5 x6 x7 x8 x9 x10 x11 x12 x13 x14 x15 x16 x17 x18 x19 x20 x21 x22 x23 x24) (Q : AV → HH → Prop) (h : (t_WidthR x0 x1 x2 x3 x4 x5 x6 x7 x8 x9 x10 x11 x12 x13 x14 x15 x16 x17 x18 x19 x20 x21 x22 x23 x24 Q).p) : ∃ r H',A 16 [(.agg (nR x0 x1 x2 x3 x4 x5 x6 x7 x8 x9 x10 x11)),(.agg (nR x12 x13 x14 x15 x16 x17 x18 x19 x20 x21 x22 x23)),(bv x24)] [] r H' ∧ Q r H' :=
 Ans.wq rfl (t_WidthR x0 x1 x2 x3 x4 x5 x6 x7 x8 x9 x10 x11 x12 x13 x14 x15 x16 x17 x18 x19 x20 x21 x22 x23 x24 Q).h (by kernel_rfl) h
theorem i_WidthR {x0 x1 x2 x3 x4 x5 x6 x7 x8 x9 x10 x11 x12 x13 x14 x15 x16 x17 x18 x19 x20 x21 x22 x23 x24} (ih_WidthR : IH_WidthR (rank_WidthR x0 x1 x2 x3 x4 x5 x6 x7 x8 x9 x10 x11 x12 x13 x14 x15 x16 x17 x18 x19 x20 x21 x22 x23 x24)) (hp : pre_WidthR x0 x1 x2 x3 x4 x5 x6 x7 x8 x9 x10 x11 x12 x13 x14 x15 x16 x17 x18 x19 x20 x21 x22 x23 x24) : E_WidthR x0 x1 x2 x3 x4 x5 x6 x7 x8 x9 x10 x11 x12 x13 x14 x15 x16 x17 x18 x19 x20 x21 x22 x23 x24 := by
 obtain ⟨_,_,ha,_,_,hq,rfl,rfl⟩ := w_WidthR x0 x1 x2 x3 x4 x5 x6 x7 x8 x9 x10 x11 x12 x13 x14 x15 x16 x17 x18 x19 x20 x21 x22 x23 x24 (fun r H'=>∃ x25 x26,post_WidthR x0 x1 x2 x3 x4 x5 x6 x7 x8 x9 x10 x11 x12 x13 x14 x15 x16 x17 x18 x19 x20 x21 x22 x23 x24 x25 x26 ∧ r = (.tup [(iv x25),(iv x26)]) ∧ H' = []) (by
  obtain ⟨⟨_,_,_,_⟩,_,⟨_,_,_,_⟩,_⟩ := hp
  refine ⟨tN,c_accR zl2x8,fun _ p28=>?_⟩
  unfold post_accR at p28
  apply bS <;> intro _
  ·exact ⟨0,_,zl2x9,rfl,rfl⟩
  apply bS <;> intro _
  ·exact ⟨1,1,zl2x9,rfl,rfl⟩
  apply bS <;> intro _
  ·exact ⟨0,_,zl2x9,rfl,rfl⟩
  apply bS <;> intro _
  ·refine ⟨k_WidthR_0 ih_WidthR zl2x10,fun _ _ _ e36=>?_⟩
   obtain ⟨_,_,_,_,_⟩ := e36
   exact ⟨_,_,zl2x9,rfl,rfl⟩
  apply bS <;> intro _
  ·refine ⟨zl2x11,fun _ _ _ _ _ _ _ _ _ _ _ _ g50=>?_⟩
   have edg219 := nsz_drop g50; first | (have eg50 := Ns.elem tA g50; have eng219 := nsz_get g50; obtain ⟨_,_,_,_⟩ := eg50.nw) | (obtain ⟨d1,d2,d3,d4⟩ := dropped (show Ns x11 from by with_reducible assumption); have eg50 := Ns.elem d1 g50; have eng219 := nsz_get g50; obtain ⟨_,_,_,_⟩ := eg50.nw)
   refine ⟨tN,ih_WidthR zl2x12 zl2x8,fun _ _ p53=>?_⟩
   obtain ⟨_,_,_,_,_⟩ := p53
   refine ⟨k_WidthR_1 ih_WidthR zl2x10,fun _ _ _ e57=>?_⟩
   obtain ⟨_,_,_,_,_⟩ := e57
   exact ⟨_,_,zl2x9,rfl,rfl⟩
  apply bS <;> intro _
  ·refine ⟨zl2x11,fun _ _ _ _ _ _ _ _ _ _ _ _ g71=>?_⟩
   have edg345 := nsz_drop g71; first | (have eg71 := Ns.elem tA g71; have eng345 := nsz_get g71; obtain ⟨_,_,_,_⟩ := eg71.nw) | (obtain ⟨d1,d2,d3,d4⟩ := dropped (show Ns x11 from by with_reducible assumption); have eg71 := Ns.elem d1 g71; have eng345 := nsz_get g71; obtain ⟨_,_,_,_⟩ := eg71.nw)
   refine ⟨tN,ih_WidthR zl2x12 zl2x8,fun _ _ p74=>?_⟩
   obtain ⟨_,_,_,_,_⟩ := p74
   refine ⟨k_WidthR_1 ih_WidthR zl2x10,fun _ _ _ e78=>?_⟩
   obtain ⟨_,_,_,_,_⟩ := e78
   exact ⟨_,_,zl2x9,rfl,rfl⟩
  apply bS <;> intro _
  ·refine ⟨zl2x11,fun _ _ _ _ _ _ _ _ _ _ _ _ g92=>?_⟩
   have edg366 := nsz_drop g92; first | (have eg92 := Ns.elem tA g92; have eng366 := nsz_get g92; obtain ⟨_,_,_,_⟩ := eg92.nw) | (obtain ⟨d1,d2,d3,d4⟩ := dropped (show Ns x11 from by with_reducible assumption); have eg92 := Ns.elem d1 g92; have eng366 := nsz_get g92; obtain ⟨_,_,_,_⟩ := eg92.nw)
   refine ⟨tN,ih_WidthR zl2x12 zl2x8,fun _ _ p95=>?_⟩
   obtain ⟨_,_,_,_,_⟩ := p95
   exact ⟨_,_,zl2x9,rfl,rfl⟩
  apply bS <;> intro _
  ·refine ⟨zl2x11,fun _ _ _ _ _ _ _ _ _ _ _ _ g109=>?_⟩
   have edg383 := nsz_drop g109; first | (have eg109 := Ns.elem tA g109; have eng383 := nsz_get g109; obtain ⟨_,_,_,_⟩ := eg109.nw) | (obtain ⟨d1,d2,d3,d4⟩ := dropped (show Ns x11 from by with_reducible assumption); have eg109 := Ns.elem d1 g109; have eng383 := nsz_get g109; obtain ⟨_,_,_,_⟩ := eg109.nw)
   refine ⟨tN,ih_WidthR zl2x12 zl2x8,fun _ _ p112=>?_⟩
   obtain ⟨_,_,_,_,_⟩ := p112
   exact ⟨_,_,zl2x9,rfl,rfl⟩
  apply bS <;> intro _
  ·apply bS <;> intro _
   ·exact ⟨0,0,zl2x9,rfl,rfl⟩
   apply bS <;> intro _
   ·refine ⟨by (try have hs := shape1 (show shapeN x0 x5 x6 x11 from by with_reducible assumption) (by omega)); exact tD,?_⟩
    refine ⟨zl2x11,fun _ _ _ _ _ _ _ _ _ _ _ _ g128=>?_⟩
    have edg402 := nsz_drop g128; first | (have eg128 := Ns.elem tA g128; have eng402 := nsz_get g128; obtain ⟨_,_,_,_⟩ := eg128.nw) | (obtain ⟨d1,d2,d3,d4⟩ := dropped (show Ns x11 from by with_reducible assumption); have eg128 := Ns.elem d1 g128; have eng402 := nsz_get g128; obtain ⟨_,_,_,_⟩ := eg128.nw)
    refine ⟨tN,ih_WidthR zl2x12 zl2x8,fun _ _ p131=>?_⟩
    obtain ⟨_,_,_,_,_⟩ := p131
    apply bS <;> intro h132
    ·try replace h132 := nz h132
     refine ⟨c_orR zl2x8,fun _ _ p135=>?_⟩
     obtain ⟨_,_,_,_,_⟩ := p135
     exact ⟨_,_,zl2x9,rfl,rfl⟩
    try replace h132 := nz h132
    refine ⟨zl2x11,fun _ _ _ _ _ _ _ _ _ _ _ _ g148=>?_⟩
    have edg422 := nsz_drop g148; first | (have eg148 := Ns.elem tA g148; have eng422 := nsz_get g148; obtain ⟨_,_,_,_⟩ := eg148.nw) | (obtain ⟨d1,d2,d3,d4⟩ := dropped (show Ns x11 from by with_reducible assumption); have eg148 := Ns.elem d1 g148; have eng422 := nsz_get g148; obtain ⟨_,_,_,_⟩ := eg148.nw)
    refine ⟨tN,ih_WidthR zl2x12 zl2x8,fun _ _ p151=>?_⟩
    obtain ⟨_,_,_,_,_⟩ := p151
    refine ⟨c_orR zl2x8,fun _ _ p154=>?_⟩
    obtain ⟨_,_,_,_,_⟩ := p154
    exact ⟨_,_,zl2x9,rfl,rfl⟩
   refine ⟨zl2x11,fun _ _ _ _ _ _ _ _ _ _ _ _ g167=>?_⟩
   have edg441 := nsz_drop g167; first | (have eg167 := Ns.elem tA g167; have eng441 := nsz_get g167; obtain ⟨_,_,_,_⟩ := eg167.nw) | (obtain ⟨d1,d2,d3,d4⟩ := dropped (show Ns x11 from by with_reducible assumption); have eg167 := Ns.elem d1 g167; have eng441 := nsz_get g167; obtain ⟨_,_,_,_⟩ := eg167.nw)
   refine ⟨tN,ih_WidthR zl2x12 zl2x8,fun _ _ p170=>?_⟩
   obtain ⟨_,_,_,_,_⟩ := p170
   apply bS <;> intro _
   ·refine ⟨c_orR zl2x8,fun _ _ p174=>?_⟩
    obtain ⟨_,_,_,_,_⟩ := p174
    exact ⟨_,_,zl2x9,rfl,rfl⟩
   refine ⟨zl2x11,fun _ _ _ _ _ _ _ _ _ _ _ _ g187=>?_⟩
   have edg461 := nsz_drop g187; first | (have eg187 := Ns.elem tA g187; have eng461 := nsz_get g187; obtain ⟨_,_,_,_⟩ := eg187.nw) | (obtain ⟨d1,d2,d3,d4⟩ := dropped (show Ns x11 from by with_reducible assumption); have eg187 := Ns.elem d1 g187; have eng461 := nsz_get g187; obtain ⟨_,_,_,_⟩ := eg187.nw)
   refine ⟨tN,ih_WidthR zl2x12 zl2x8,fun _ _ p190=>?_⟩
   obtain ⟨_,_,_,_,_⟩ := p190
   refine ⟨c_orR zl2x8,fun _ _ p193=>?_⟩
   obtain ⟨_,_,_,_,_⟩ := p193
   exact ⟨_,_,zl2x9,rfl,rfl⟩
  apply bS <;> intro _
  ·refine ⟨zl2x11,fun _ _ _ _ _ _ _ _ _ _ _ _ g207=>?_⟩
   have edg481 := nsz_drop g207; first | (have eg207 := Ns.elem tA g207; have eng481 := nsz_get g207; obtain ⟨_,_,_,_⟩ := eg207.nw) | (obtain ⟨d1,d2,d3,d4⟩ := dropped (show Ns x11 from by with_reducible assumption); have eg207 := Ns.elem d1 g207; have eng481 := nsz_get g207; obtain ⟨_,_,_,_⟩ := eg207.nw)
   refine ⟨tN,ih_WidthR zl2x12 zl2x8,fun x208 x209 p210=>?_⟩
   obtain ⟨_,_,_,_,_⟩ := p210
   apply bS <;> intro _
   ·try have := tW (x208 * x5)
    refine ⟨c_cutR zl2x8,fun _ _ p214=>?_⟩
    obtain ⟨_,_,_,_,_⟩ := p214
    exact ⟨_,_,zl2x9,rfl,rfl⟩
   apply bS <;> intro _
   ·try have := tW (x208 * x5)
    refine ⟨c_cutR zl2x8,fun _ _ p218=>?_⟩
    obtain ⟨_,_,_,_,_⟩ := p218
    exact ⟨_,_,zl2x9,rfl,rfl⟩
   apply bS <;> intro _
   ·try have := tW (x208 * x5)
    refine ⟨c_cutR zl2x8,fun _ _ p222=>?_⟩
    obtain ⟨_,_,_,_,_⟩ := p222
    exact ⟨_,_,zl2x9,rfl,rfl⟩
   apply bS <;> intro _
   ·try have := tW (x208 * x5)
    refine ⟨c_cutR zl2x8,fun _ _ p226=>?_⟩
    obtain ⟨_,_,_,_,_⟩ := p226
    exact ⟨_,_,zl2x9,rfl,rfl⟩
   try have := tW (x209 * x6)
   try have := tW (x208 * x5)
   refine ⟨c_cutR zl2x8,fun _ _ p229=>?_⟩
   obtain ⟨_,_,_,_,_⟩ := p229
   exact ⟨_,_,zl2x9,rfl,rfl⟩
  apply bS <;> intro _
  ·refine ⟨tN,c_GroupR zl2x8,fun _ _ _ _ _ _ _ _ _ _ _ _ _ p244=>?_⟩
   obtain ⟨p244_0,p244_1⟩ := p244
   apply bS <;> intro h245
   ·have p244_1c := p244_1 h245
    exact ⟨0,_,zl2x9,rfl,rfl⟩
   obtain ⟨⟨_,_,_,_⟩,_,_⟩ := p244_0 h245
   apply bS <;> intro _
   ·exact ⟨0,_,zl2x9,rfl,rfl⟩
   refine ⟨tN,ih_WidthR zl2x12 zl2x8,fun _ _ p249=>?_⟩
   obtain ⟨_,_,_,_,_⟩ := p249
   exact ⟨_,_,zl2x9,rfl,rfl⟩
  exact ⟨0,0,zl2x9,rfl,rfl⟩)
 exact ⟨_,_,hq,ha⟩
theorem r_WidthR : ∀ b,IH_WidthR b
 | 0=>fun hr _=>absurd hr (Nat.not_lt_zero _)
 | b + 1=>fun hr hp=>i_WidthR (fun hr' hp'=>r_WidthR b (by omega) hp') hp
theorem c_WidthR {x0 x1 x2 x3 x4 x5 x6 x7 x8 x9 x10 x11 x12 x13 x14 x15 x16 x17 x18 x19 x20 x21 x22 x23 x24} (hp : pre_WidthR x0 x1 x2 x3 x4 x5 x6 x7 x8 x9 x10 x11 x12 x13 x14 x15 x16 x17 x18 x19 x20 x21 x22 x23 x24) : E_WidthR x0 x1 x2 x3 x4 x5 x6 x7 x8 x9 x10 x11 x12 x13 x14 x15 x16 x17 x18 x19 x20 x21 x22 x23 x24 := r_WidthR (rank_WidthR x0 x1 x2 x3 x4 x5 x6 x7 x8 x9 x10 x11 x12 x13 x14 x15 x16 x17 x18 x19 x20 x21 x22 x23 x24 + 1) (Nat.lt_succ_self _) hp
abbrev E_AltsR (x0 x1 x2 : Int) (x3 : List AV) (x4 : Bool) (x5 x6 x7 : Int) (x8 : ByteArray) (x9 x10 : Int) (x11 : List AV) : Prop := ∃ x12,post_AltsR x0 x1 x2 x3 x4 x5 x6 x7 x8 x9 x10 x11 x12 ∧ A 15 [(.agg (nR x0 x1 x2 x3 x4 x5 x6 x7 x8 x9 x10 x11))] [] (.sl 12 x12) []
abbrev j_AltsR (nn : Nat) (x0 x1 x2 : Int) (x3 : List AV) (x4 : Bool) (x5 x6 x7 : Int) (x8 : ByteArray) (x9 x10 : Int) (x11 : List AV) (kK : List AV → HC) : HC := ⟨.ev nn (.ask (eL fun x12=>.done (.res (.sl 12 x12) [] (post_AltsR x0 x1 x2 x3 x4 x5 x6 x7 x8 x9 x10 x11 x12)) ((kK x12).h))),E_AltsR x0 x1 x2 x3 x4 x5 x6 x7 x8 x9 x10 x11 ∧ (∀ x12,post_AltsR x0 x1 x2 x3 x4 x5 x6 x7 x8 x9 x10 x11 x12 → (kK x12).p)⟩
abbrev t_AltsR (x0 x1 x2 : Int) (x3 : List AV) (x4 : Bool) (x5 x6 x7 : Int) (x8 : ByteArray) (x9 x10 : Int) (x11 : List AV) (Q : AV → HH → Prop) : HC := (pN 2 ((x11[0]?)) fun x12 x13 x14 x15 x16 x17 x18 x19 x20 x21 x22 x23=>(dd 1 ((x12 == 13)) (pN 2 ((x11[0]?)) fun x24 x25 x26 x27 x28 x29 x30 x31 x32 x33 x34 x35=>(qq 1 Q (.sl 12 x35))) (qq 1 Q (.sl 12 x11))))
theorem w_AltsR (x0 x1 x2 x3 x4 x5 x6 x7 x8 x9 x10 x11) (Q : AV → HH → Prop) (h : (t_AltsR x0 x1 x2 x3 x4 x5 x6 x7 x8 x9 x10 x11 Q).p) : ∃ r H',A 15 [(.agg (nR x0 x1 x2 x3 x4 x5 x6 x7 x8 x9 x10 x11))] [] r H' ∧ Q r H' :=
 Ans.wq rfl (t_AltsR x0 x1 x2 x3 x4 x5 x6 x7 x8 x9 x10 x11 Q).h (by kernel_rfl) h
theorem c_AltsR {x0 x1 x2 x3 x4 x5 x6 x7 x8 x9 x10 x11} (hp : pre_AltsR x0 x1 x2 x3 x4 x5 x6 x7 x8 x9 x10 x11) : E_AltsR x0 x1 x2 x3 x4 x5 x6 x7 x8 x9 x10 x11 := by
 obtain ⟨_,_,ha,_,hq,rfl,rfl⟩ := w_AltsR x0 x1 x2 x3 x4 x5 x6 x7 x8 x9 x10 x11 (fun r H'=>∃ x12,post_AltsR x0 x1 x2 x3 x4 x5 x6 x7 x8 x9 x10 x11 x12 ∧ r = (.sl 12 x12) ∧ H' = []) (by
  obtain ⟨⟨_,_,_,_⟩,_⟩ := hp
  refine ⟨tG,fun _ _ _ _ _ _ _ _ _ _ _ _ g25=>?_⟩
  first | (have q := elN tA g25; obtain ⟨_,_,_,_,_,_,_⟩ := q) | (have q := elF tA g25; obtain ⟨_,_,_,_,_⟩ := q)
  apply bS <;> intro _
  ·refine ⟨tG,fun _ _ _ _ _ _ _ _ _ _ _ _ g39=>?_⟩
   first | (have q := elN tA g39; obtain ⟨_,_,_,_,_,_,_⟩ := q) | (have q := elF tA g39; obtain ⟨_,_,_,_,_⟩ := q)
   exact ⟨_,by first | exact ⟨(alt_2 tA tA tA).symm,tP,tP,alts_sz tA⟩ | exact ⟨(alt_n tA tA).symm,tP,tP,Nat.le_refl _⟩,rfl,rfl⟩
  exact ⟨_,by first | exact ⟨(alt_2 tA tA tA).symm,tP,tP,alts_sz tA⟩ | exact ⟨(alt_n tA tA).symm,tP,tP,Nat.le_refl _⟩,rfl,rfl⟩)
 exact ⟨_,hq,ha⟩
abbrev E_checkP (x0 x1 x2 : Int) (x3 : List AV) (x4 : Bool) (x5 x6 x7 : Int) (x8 : ByteArray) (x9 x10 : Int) (x11 : List AV) (x12 x13 x14 : Int) (x15 : List AV) (x16 : Bool) (x17 x18 x19 : Int) (x20 : ByteArray) (x21 x22 : Int) (x23 : List AV) : Prop := ∃ x24 x25,post_checkP x0 x1 x2 x3 x4 x5 x6 x7 x8 x9 x10 x11 x12 x13 x14 x15 x16 x17 x18 x19 x20 x21 x22 x23 x24 x25 ∧ A 14 [(.agg (nR x0 x1 x2 x3 x4 x5 x6 x7 x8 x9 x10 x11)),(.agg (nR x12 x13 x14 x15 x16 x17 x18 x19 x20 x21 x22 x23))] [] (.tup [(iv x24),(iv x25)]) []
abbrev j_checkP (nn : Nat) (x0 x1 x2 : Int) (x3 : List AV) (x4 : Bool) (x5 x6 x7 : Int) (x8 : ByteArray) (x9 x10 : Int) (x11 : List AV) (x12 x13 x14 : Int) (x15 : List AV) (x16 : Bool) (x17 x18 x19 : Int) (x20 : ByteArray) (x21 x22 : Int) (x23 : List AV) (kK : Int → Int → HC) : HC := ⟨.ev nn (.ask (eI fun x24=>eI fun x25=>.done (.res (.tup [(iv x24),(iv x25)]) [] (post_checkP x0 x1 x2 x3 x4 x5 x6 x7 x8 x9 x10 x11 x12 x13 x14 x15 x16 x17 x18 x19 x20 x21 x22 x23 x24 x25)) ((kK x24 x25).h))),E_checkP x0 x1 x2 x3 x4 x5 x6 x7 x8 x9 x10 x11 x12 x13 x14 x15 x16 x17 x18 x19 x20 x21 x22 x23 ∧ (∀ x24 x25,post_checkP x0 x1 x2 x3 x4 x5 x6 x7 x8 x9 x10 x11 x12 x13 x14 x15 x16 x17 x18 x19 x20 x21 x22 x23 x24 x25 → (kK x24 x25).p)⟩
def IH_checkP (b : Nat) : Prop := ∀ {x0 : Int} {x1 : Int} {x2 : Int} {x3 : List AV} {x4 : Bool} {x5 : Int} {x6 : Int} {x7 : Int} {x8 : ByteArray} {x9 : Int} {x10 : Int} {x11 : List AV} {x12 : Int} {x13 : Int} {x14 : Int} {x15 : List AV} {x16 : Bool} {x17 : Int} {x18 : Int} {x19 : Int} {x20 : ByteArray} {x21 : Int} {x22 : Int} {x23 : List AV},rank_checkP x0 x1 x2 x3 x4 x5 x6 x7 x8 x9 x10 x11 x12 x13 x14 x15 x16 x17 x18 x19 x20 x21 x22 x23 < b → pre_checkP x0 x1 x2 x3 x4 x5 x6 x7 x8 x9 x10 x11 x12 x13 x14 x15 x16 x17 x18 x19 x20 x21 x22 x23 → E_checkP x0 x1 x2 x3 x4 x5 x6 x7 x8 x9 x10 x11 x12 x13 x14 x15 x16 x17 x18 x19 x20 x21 x22 x23
def s_checkP_0 (x0 x1 x2 : Int) (x3 : List AV) (x4 : Bool) (x5 x6 x7 : Int) (x8 : ByteArray) (x9 x10 : Int) (x11 : List AV) (x12 x13 x14 : Int) (x15 : List AV) (x16 : Bool) (x17 x18 x19 : Int) (x20 : ByteArray) (x21 x22 : Int) (x23 x24 : List AV) (x25 x26 : Int) : St := ⟨[],[(2,(.ea [(iv x0),(iv x1),(iv x2),(.sl 2 x3),(bv x4),(iv x5),(iv x6),(iv x7),(sv x8),(iv x9),(iv x10),(.sl 12 x11)])),(3,(.ea [(iv x12),(iv x13),(iv x14),(.sl 2 x15),(bv x16),(iv x17),(iv x18),(iv x19),(sv x20),(iv x21),(iv x22),(.sl 12 x23)])),(34,(.sl 12 x24)),(35,(iv x25)),(36,(iv x26))],[],0⟩
def x_checkP_0_0 (x0 x1 x2 : Int) (x3 : List AV) (x4 : Bool) (x5 x6 x7 : Int) (x8 : ByteArray) (x9 x10 : Int) (x11 : List AV) (x12 x13 x14 : Int) (x15 : List AV) (x16 : Bool) (x17 x18 x19 : Int) (x20 : ByteArray) (x21 x22 : Int) (x23 x24 : List AV) (x25 : Int) : St := ⟨[],[(4,(iv 35)),(5,(iv x1))],[],0⟩
def x_checkP_0_1 (x0 x1 x2 : Int) (x3 : List AV) (x4 : Bool) (x5 x6 x7 : Int) (x8 : ByteArray) (x9 x10 : Int) (x11 : List AV) (x12 x13 x14 : Int) (x15 : List AV) (x16 : Bool) (x17 x18 x19 : Int) (x20 : ByteArray) (x21 x22 : Int) (x23 x24 : List AV) (x25 y26 : Int) : St := ⟨[],[(2,(.ea [(iv x0),(iv x1),(iv x2),(.sl 2 x3),(bv x4),(iv x5),(iv x6),(iv x7),(sv x8),(iv x9),(iv x10),(.sl 12 x11)])),(3,(.ea [(iv x12),(iv x13),(iv x14),(.sl 2 x15),(bv x16),(iv x17),(iv x18),(iv x19),(sv x20),(iv x21),(iv x22),(.sl 12 x23)])),(34,(.sl 12 x24)),(35,(iv x25)),(36,(iv y26)),(37,(bv false))],[],0⟩
abbrev E_checkP_0 (x0 x1 x2 : Int) (x3 : List AV) (x4 : Bool) (x5 x6 x7 : Int) (x8 : ByteArray) (x9 x10 : Int) (x11 : List AV) (x12 x13 x14 : Int) (x15 : List AV) (x16 : Bool) (x17 x18 x19 : Int) (x20 : ByteArray) (x21 x22 : Int) (x23 x24 : List AV) (x25 x26o : Int) : Prop := ((out_checkP_0_0 x0 x1 x2 x3 x4 x5 x6 x7 x8 x9 x10 x11 x12 x13 x14 x15 x16 x17 x18 x19 x20 x21 x22 x23 x24 x25 x26o ∧ R 14 0 (s_checkP_0 x0 x1 x2 x3 x4 x5 x6 x7 x8 x9 x10 x11 x12 x13 x14 x15 x16 x17 x18 x19 x20 x21 x22 x23 x24 x25 x26o) (Ex.ret,x_checkP_0_0 x0 x1 x2 x3 x4 x5 x6 x7 x8 x9 x10 x11 x12 x13 x14 x15 x16 x17 x18 x19 x20 x21 x22 x23 x24 x25)) ∨ (∃ y27,out_checkP_0_1 x0 x1 x2 x3 x4 x5 x6 x7 x8 x9 x10 x11 x12 x13 x14 x15 x16 x17 x18 x19 x20 x21 x22 x23 x24 x25 x26o y27 ∧ R 14 0 (s_checkP_0 x0 x1 x2 x3 x4 x5 x6 x7 x8 x9 x10 x11 x12 x13 x14 x15 x16 x17 x18 x19 x20 x21 x22 x23 x24 x25 x26o) ((.exit 0),x_checkP_0_1 x0 x1 x2 x3 x4 x5 x6 x7 x8 x9 x10 x11 x12 x13 x14 x15 x16 x17 x18 x19 x20 x21 x22 x23 x24 x25 y27)))
abbrev j_checkP_0 (nn : Nat) (x0 x1 x2 : Int) (x3 : List AV) (x4 : Bool) (x5 x6 x7 : Int) (x8 : ByteArray) (x9 x10 : Int) (x11 : List AV) (x12 x13 x14 : Int) (x15 : List AV) (x16 : Bool) (x17 x18 x19 : Int) (x20 : ByteArray) (x21 x22 : Int) (x23 x24 : List AV) (x25 x26o : Int) (f0 : HC) (f1 : Int → HC) : HC := ⟨.ev nn (.ask (.or (.done (.exit Ex.ret (x_checkP_0_0 x0 x1 x2 x3 x4 x5 x6 x7 x8 x9 x10 x11 x12 x13 x14 x15 x16 x17 x18 x19 x20 x21 x22 x23 x24 x25) (out_checkP_0_0 x0 x1 x2 x3 x4 x5 x6 x7 x8 x9 x10 x11 x12 x13 x14 x15 x16 x17 x18 x19 x20 x21 x22 x23 x24 x25 x26o)) f0.h) (eI fun y27=>.done (.exit (.exit 0) (x_checkP_0_1 x0 x1 x2 x3 x4 x5 x6 x7 x8 x9 x10 x11 x12 x13 x14 x15 x16 x17 x18 x19 x20 x21 x22 x23 x24 x25 y27) (out_checkP_0_1 x0 x1 x2 x3 x4 x5 x6 x7 x8 x9 x10 x11 x12 x13 x14 x15 x16 x17 x18 x19 x20 x21 x22 x23 x24 x25 x26o y27)) (f1 y27).h))),E_checkP_0 x0 x1 x2 x3 x4 x5 x6 x7 x8 x9 x10 x11 x12 x13 x14 x15 x16 x17 x18 x19 x20 x21 x22 x23 x24 x25 x26o ∧ ((out_checkP_0_0 x0 x1 x2 x3 x4 x5 x6 x7 x8 x9 x10 x11 x12 x13 x14 x15 x16 x17 x18 x19 x20 x21 x22 x23 x24 x25 x26o → f0.p) ∧ (∀ y27,out_checkP_0_1 x0 x1 x2 x3 x4 x5 x6 x7 x8 x9 x10 x11 x12 x13 x14 x15 x16 x17 x18 x19 x20 x21 x22 x23 x24 x25 x26o y27 → (f1 y27).p))⟩
abbrev t_checkP_0 (x0 x1 x2 : Int) (x3 : List AV) (x4 : Bool) (x5 x6 x7 : Int) (x8 : ByteArray) (x9 x10 : Int) (x11 : List AV) (x12 x13 x14 : Int) (x15 : List AV) (x16 : Bool) (x17 x18 x19 : Int) (x20 : ByteArray) (x21 x22 : Int) (x23 x24 : List AV) (x25 x26 : Int) (Q : Ex → St → Prop) : HC := (dd 1 ((decide (x26 < x25))) (oo 0 ((decide (0 ≤ x26))) (pN 1 ((x24[x26.toNat]?)) fun x27 x28 x29 x30 x31 x32 x33 x34 x35 x36 x37 x38=>(oo 0 ((npL [(.agg (nR x27 x28 x29 x30 x31 x32 x33 x34 x35 x36 x37 x38)),(.agg (nR x12 x13 x14 x15 x16 x17 x18 x19 x20 x21 x22 x23))])) (j_WidthP 0 x27 x28 x29 x30 x31 x32 x33 x34 x35 x36 x37 x38 x12 x13 x14 x15 x16 x17 x18 x19 x20 x21 x22 x23 fun x39 x40=>(dd 1 ((!x39 == x40)) (zz 3 (Q Ex.ret (x_checkP_0_0 x0 x1 x2 x3 x4 x5 x6 x7 x8 x9 x10 x11 x12 x13 x14 x15 x16 x17 x18 x19 x20 x21 x22 x23 x24 x25))) (dd 3 ((decide (x40 > 255))) (zz 0 (Q Ex.ret (x_checkP_0_0 x0 x1 x2 x3 x4 x5 x6 x7 x8 x9 x10 x11 x12 x13 x14 x15 x16 x17 x18 x19 x20 x21 x22 x23 x24 x25))) (zz 1 (Q .norm (s_checkP_0 x0 x1 x2 x3 x4 x5 x6 x7 x8 x9 x10 x11 x12 x13 x14 x15 x16 x17 x18 x19 x20 x21 x22 x23 x24 x25 (w6 (x26 + 1))))))))))) (zz 0 (Q (.exit 0) (x_checkP_0_1 x0 x1 x2 x3 x4 x5 x6 x7 x8 x9 x10 x11 x12 x13 x14 x15 x16 x17 x18 x19 x20 x21 x22 x23 x24 x25 x26))))
theorem l_checkP_0 (x0 x1 x2 x3 x4 x5 x6 x7 x8 x9 x10 x11 x12 x13 x14 x15 x16 x17 x18 x19 x20 x21 x22 x23 x24 x25 x26) (Q : Ex → St → Prop) (h : (t_checkP_0 x0 x1 x2 x3 x4 x5 x6 x7 x8 x9 x10 x11 x12 x13 x14 x15 x16 x17 x18 x19 x20 x21 x22 x23 x24 x25 x26 Q).p) : ∃ e s',L 14 0 (s_checkP_0 x0 x1 x2 x3 x4 x5 x6 x7 x8 x9 x10 x11 x12 x13 x14 x15 x16 x17 x18 x19 x20 x21 x22 x23 x24 x25 x26) (e,s') ∧ Q e s' :=
 Leads.wq (t_checkP_0 x0 x1 x2 x3 x4 x5 x6 x7 x8 x9 x10 x11 x12 x13 x14 x15 x16 x17 x18 x19 x20 x21 x22 x23 x24 x25 x26 Q).h (by kernel_rfl) h
theorem k_checkP_0 {x0 x1 x2 x3 x4 x5 x6 x7 x8 x9 x10 x11 x12 x13 x14 x15 x16 x17 x18 x19 x20 x21 x22 x23 x24 x25 x26o} (hi : inv_checkP_0 x0 x1 x2 x3 x4 x5 x6 x7 x8 x9 x10 x11 x12 x13 x14 x15 x16 x17 x18 x19 x20 x21 x22 x23 x24 x25 x26o x26o) : E_checkP_0 x0 x1 x2 x3 x4 x5 x6 x7 x8 x9 x10 x11 x12 x13 x14 x15 x16 x17 x18 x19 x20 x21 x22 x23 x24 x25 x26o := by
 obtain ⟨e,s',hr,hq⟩ := Rounds.byInv (st := fun (w : Int)=>s_checkP_0 x0 x1 x2 x3 x4 x5 x6 x7 x8 x9 x10 x11 x12 x13 x14 x15 x16 x17 x18 x19 x20 x21 x22 x23 x24 x25 w) (Inv := fun w=>inv_checkP_0 x0 x1 x2 x3 x4 x5 x6 x7 x8 x9 x10 x11 x12 x13 x14 x15 x16 x17 x18 x19 x20 x21 x22 x23 x24 x25 x26o w) (μ := fun w=>mu_checkP_0 x0 x1 x2 x3 x4 x5 x6 x7 x8 x9 x10 x11 x12 x13 x14 x15 x16 x17 x18 x19 x20 x21 x22 x23 x24 x25 w) (Q := fun e s'=>((out_checkP_0_0 x0 x1 x2 x3 x4 x5 x6 x7 x8 x9 x10 x11 x12 x13 x14 x15 x16 x17 x18 x19 x20 x21 x22 x23 x24 x25 x26o ∧ e = Ex.ret ∧ s' = x_checkP_0_0 x0 x1 x2 x3 x4 x5 x6 x7 x8 x9 x10 x11 x12 x13 x14 x15 x16 x17 x18 x19 x20 x21 x22 x23 x24 x25) ∨ (∃ y27,out_checkP_0_1 x0 x1 x2 x3 x4 x5 x6 x7 x8 x9 x10 x11 x12 x13 x14 x15 x16 x17 x18 x19 x20 x21 x22 x23 x24 x25 x26o y27 ∧ e = (.exit 0) ∧ s' = x_checkP_0_1 x0 x1 x2 x3 x4 x5 x6 x7 x8 x9 x10 x11 x12 x13 x14 x15 x16 x17 x18 x19 x20 x21 x22 x23 x24 x25 y27))) (by
  intro x26 hi
  have hi : inv_checkP_0 x0 x1 x2 x3 x4 x5 x6 x7 x8 x9 x10 x11 x12 x13 x14 x15 x16 x17 x18 x19 x20 x21 x22 x23 x24 x25 x26o x26 := hi
  refine l_checkP_0 x0 x1 x2 x3 x4 x5 x6 x7 x8 x9 x10 x11 x12 x13 x14 x15 x16 x17 x18 x19 x20 x21 x22 x23 x24 x25 x26 _ ?_
  obtain ⟨⟨_,_,_,_⟩,_,⟨_,_,_,_⟩,_,_,_,_,_,_,_,_⟩ := hi
  apply bS <;> intro _
  ·refine ⟨tD,by first | (refine Ns.get (show Ns x29 from by with_reducible assumption) ?_; rw [(shape18 (show shapeN x27 x30 x31 x29 from by with_reducible assumption) tA).1]; decide) | exact tG,fun _ _ _ _ _ _ _ _ _ _ _ _ g44=>?_⟩
   have edg95 := nsz_drop g44; first | (have eg44 := Ns.elem tA g44; have eng95 := nsz_get g44; obtain ⟨_,_,_,_⟩ := eg44.nw) | (have eg44 := Nf.elem tA g44; have eng95 := nsz_get g44; obtain ⟨_,_⟩ := eg44.nw)
   refine ⟨tN,c_WidthP tP,fun _ _ p47=>?_⟩
   obtain ⟨_,_,_,_⟩ := p47
   apply bS <;> intro _
   ·exact .inr ⟨by simp,.inl ⟨zl2x13,rfl,rfl⟩⟩
   apply bS <;> intro _
   ·exact .inr ⟨by simp,.inl ⟨zl2x13,rfl,rfl⟩⟩
   try have := tW (x26 + 1)
   exact .inl ⟨rfl,(w6 (x26 + 1)),rfl,zl2x14,by unfold mu_checkP_0; exact tI⟩
  exact .inr ⟨by simp,.inr (⟨_,zl2x13,rfl,rfl⟩)⟩) x26o hi
 rcases hq with ⟨ho,rfl,rfl⟩ | ⟨_,ho,rfl,rfl⟩
 
 ·exact .inl ⟨ho,hr⟩
 ·exact .inr (⟨_,ho,hr⟩)
def s_checkP_1 (x0 x1 x2 : Int) (x3 : List AV) (x4 : Bool) (x5 x6 x7 : Int) (x8 : ByteArray) (x9 x10 : Int) (x11 x12 : List AV) (x13 x14 : Int) : St := ⟨[],[(3,(.ea [(iv x0),(iv x1),(iv x2),(.sl 2 x3),(bv x4),(iv x5),(iv x6),(iv x7),(sv x8),(iv x9),(iv x10),(.sl 12 x11)])),(57,(.sl 12 x12)),(58,(iv x13)),(59,(iv x14))],[],0⟩
def x_checkP_1_0 (x0 x1 x2 : Int) (x3 : List AV) (x4 : Bool) (x5 x6 x7 : Int) (x8 : ByteArray) (x9 x10 : Int) (x11 x12 : List AV) (x13 y14 y15 : Int) : St := ⟨[],[(4,(iv y14)),(5,(iv y15))],[],0⟩
def x_checkP_1_1 (x0 x1 x2 : Int) (x3 : List AV) (x4 : Bool) (x5 x6 x7 : Int) (x8 : ByteArray) (x9 x10 : Int) (x11 x12 : List AV) (x13 y14 : Int) : St := ⟨[],[(3,(.ea [(iv x0),(iv x1),(iv x2),(.sl 2 x3),(bv x4),(iv x5),(iv x6),(iv x7),(sv x8),(iv x9),(iv x10),(.sl 12 x11)])),(57,(.sl 12 x12)),(58,(iv x13)),(59,(iv y14)),(60,(bv false))],[],0⟩
abbrev E_checkP_1 (x0 x1 x2 : Int) (x3 : List AV) (x4 : Bool) (x5 x6 x7 : Int) (x8 : ByteArray) (x9 x10 : Int) (x11 x12 : List AV) (x13 x14o : Int) : Prop := ((∃ y15 y16,out_checkP_1_0 x0 x1 x2 x3 x4 x5 x6 x7 x8 x9 x10 x11 x12 x13 x14o y15 y16 ∧ R 14 1 (s_checkP_1 x0 x1 x2 x3 x4 x5 x6 x7 x8 x9 x10 x11 x12 x13 x14o) (Ex.ret,x_checkP_1_0 x0 x1 x2 x3 x4 x5 x6 x7 x8 x9 x10 x11 x12 x13 y15 y16)) ∨ (∃ y15,out_checkP_1_1 x0 x1 x2 x3 x4 x5 x6 x7 x8 x9 x10 x11 x12 x13 x14o y15 ∧ R 14 1 (s_checkP_1 x0 x1 x2 x3 x4 x5 x6 x7 x8 x9 x10 x11 x12 x13 x14o) ((Ex.exit 2),x_checkP_1_1 x0 x1 x2 x3 x4 x5 x6 x7 x8 x9 x10 x11 x12 x13 y15)))
abbrev j_checkP_1 (nn : Nat) (x0 x1 x2 : Int) (x3 : List AV) (x4 : Bool) (x5 x6 x7 : Int) (x8 : ByteArray) (x9 x10 : Int) (x11 x12 : List AV) (x13 x14o : Int) (f0 : Int → Int → HC) (f1 : Int → HC) : HC := ⟨.ev nn (.ask (.or (eI fun y15=>eI fun y16=>.done (.exit Ex.ret (x_checkP_1_0 x0 x1 x2 x3 x4 x5 x6 x7 x8 x9 x10 x11 x12 x13 y15 y16) (out_checkP_1_0 x0 x1 x2 x3 x4 x5 x6 x7 x8 x9 x10 x11 x12 x13 x14o y15 y16)) (f0 y15 y16).h) (eI fun y15=>.done (.exit (Ex.exit 2) (x_checkP_1_1 x0 x1 x2 x3 x4 x5 x6 x7 x8 x9 x10 x11 x12 x13 y15) (out_checkP_1_1 x0 x1 x2 x3 x4 x5 x6 x7 x8 x9 x10 x11 x12 x13 x14o y15)) (f1 y15).h))),E_checkP_1 x0 x1 x2 x3 x4 x5 x6 x7 x8 x9 x10 x11 x12 x13 x14o ∧ ((∀ y15 y16,out_checkP_1_0 x0 x1 x2 x3 x4 x5 x6 x7 x8 x9 x10 x11 x12 x13 x14o y15 y16 → (f0 y15 y16).p) ∧ (∀ y15,out_checkP_1_1 x0 x1 x2 x3 x4 x5 x6 x7 x8 x9 x10 x11 x12 x13 x14o y15 → (f1 y15).p))⟩
abbrev t_checkP_1 (x0 x1 x2 : Int) (x3 : List AV) (x4 : Bool) (x5 x6 x7 : Int) (x8 : ByteArray) (x9 x10 : Int) (x11 x12 : List AV) (x13 x14 : Int) (Q : Ex → St → Prop) : HC := (dd 1 ((decide (x14 < x13))) (oo 0 ((decide (0 ≤ x14))) (pN 1 ((x12[x14.toNat]?)) fun x15 x16 x17 x18 x19 x20 x21 x22 x23 x24 x25 x26=>(oo 0 ((npL [(.agg (nR x15 x16 x17 x18 x19 x20 x21 x22 x23 x24 x25 x26)),(.agg (nR x0 x1 x2 x3 x4 x5 x6 x7 x8 x9 x10 x11))])) (j_checkP 0 x15 x16 x17 x18 x19 x20 x21 x22 x23 x24 x25 x26 x0 x1 x2 x3 x4 x5 x6 x7 x8 x9 x10 x11 fun x27 x28=>(dd 1 ((!x27 == 0)) (zz 0 (Q Ex.ret (x_checkP_1_0 x0 x1 x2 x3 x4 x5 x6 x7 x8 x9 x10 x11 x12 x13 x27 x28))) (zz 1 (Q .norm (s_checkP_1 x0 x1 x2 x3 x4 x5 x6 x7 x8 x9 x10 x11 x12 x13 (w6 (x14 + 1)))))))))) (zz 0 (Q (Ex.exit 2) (x_checkP_1_1 x0 x1 x2 x3 x4 x5 x6 x7 x8 x9 x10 x11 x12 x13 x14))))
theorem l_checkP_1 (x0 x1 x2 x3 x4 x5 x6 x7 x8 x9 x10 x11 x12 x13 x14) (Q : Ex → St → Prop) (h : (t_checkP_1 x0 x1 x2 x3 x4 x5 x6 x7 x8 x9 x10 x11 x12 x13 x14 Q).p) : ∃ e s',L 14 1 (s_checkP_1 x0 x1 x2 x3 x4 x5 x6 x7 x8 x9 x10 x11 x12 x13 x14) (e,s') ∧ Q e s' :=
 Leads.wq (t_checkP_1 x0 x1 x2 x3 x4 x5 x6 x7 x8 x9 x10 x11 x12 x13 x14 Q).h (by kernel_rfl) h
theorem k_checkP_1 {B : Nat} (ih_checkP : IH_checkP B) {x0 x1 x2 x3 x4 x5 x6 x7 x8 x9 x10 x11 x12 x13 x14o} (hi : inv_checkP_1 B x0 x1 x2 x3 x4 x5 x6 x7 x8 x9 x10 x11 x12 x13 x14o x14o) : E_checkP_1 x0 x1 x2 x3 x4 x5 x6 x7 x8 x9 x10 x11 x12 x13 x14o := by
 obtain ⟨e,s',hr,hq⟩ := Rounds.byInv (st := fun (w : Int)=>s_checkP_1 x0 x1 x2 x3 x4 x5 x6 x7 x8 x9 x10 x11 x12 x13 w) (Inv := fun w=>inv_checkP_1 B x0 x1 x2 x3 x4 x5 x6 x7 x8 x9 x10 x11 x12 x13 x14o w) (μ := fun w=>mu_checkP_1 x0 x1 x2 x3 x4 x5 x6 x7 x8 x9 x10 x11 x12 x13 w) (Q := fun e s'=>((∃ y15 y16,out_checkP_1_0 x0 x1 x2 x3 x4 x5 x6 x7 x8 x9 x10 x11 x12 x13 x14o y15 y16 ∧ e = Ex.ret ∧ s' = x_checkP_1_0 x0 x1 x2 x3 x4 x5 x6 x7 x8 x9 x10 x11 x12 x13 y15 y16) ∨ (∃ y15,out_checkP_1_1 x0 x1 x2 x3 x4 x5 x6 x7 x8 x9 x10 x11 x12 x13 x14o y15 ∧ e = (Ex.exit 2) ∧ s' = x_checkP_1_1 x0 x1 x2 x3 x4 x5 x6 x7 x8 x9 x10 x11 x12 x13 y15))) (by
  intro x14 hi
  have hi : inv_checkP_1 B x0 x1 x2 x3 x4 x5 x6 x7 x8 x9 x10 x11 x12 x13 x14o x14 := hi
  refine l_checkP_1 x0 x1 x2 x3 x4 x5 x6 x7 x8 x9 x10 x11 x12 x13 x14 _ ?_
  obtain ⟨_,_,_,_,⟨_,_,_,_⟩,_,_,_,_,_⟩ := hi
  apply bS <;> intro _
  ·refine ⟨tD,by first | (refine Ns.get (show Ns x18 from by with_reducible assumption) ?_; rw [(shape18 (show shapeN x15 x19 x20 x18 from by with_reducible assumption) tA).1]; decide) | exact tG,fun _ _ _ _ _ _ _ _ _ _ _ _ g33=>?_⟩
   have edg191 := nsz_drop g33; first | (have eg33 := Ns.elem tA g33; have eng191 := nsz_get g33; obtain ⟨_,_,_,_⟩ := eg33.nw) | (have eg33 := Nf.elem tA g33; have eng191 := nsz_get g33; obtain ⟨_,_⟩ := eg33.nw)
   refine ⟨tN,ih_checkP (by (try unfold rank_checkP); (try unfold rank_checkP); exact tI) tP,fun _ _ p36=>?_⟩
   unfold post_checkP at p36
   apply bS <;> intro _
   ·exact .inr ⟨by simp,.inl ⟨_,_,zl2x13,rfl,rfl⟩⟩
   try have := tW (x14 + 1)
   exact .inl ⟨rfl,(w6 (x14 + 1)),rfl,zl2x14,by unfold mu_checkP_1; exact tI⟩
  exact .inr ⟨by simp,.inr (⟨_,zl2x13,rfl,rfl⟩)⟩) x14o hi
 rcases hq with ⟨_,_,ho,rfl,rfl⟩ | ⟨_,ho,rfl,rfl⟩
 
 ·exact .inl ⟨_,_,ho,hr⟩
 ·exact .inr (⟨_,ho,hr⟩)
abbrev t_checkP (x0 x1 x2 : Int) (x3 : List AV) (x4 : Bool) (x5 x6 x7 : Int) (x8 : ByteArray) (x9 x10 : Int) (x11 : List AV) (x12 x13 x14 : Int) (x15 : List AV) (x16 : Bool) (x17 x18 x19 : Int) (x20 : ByteArray) (x21 x22 : Int) (x23 : List AV) (Q : AV → HH → Prop) : HC := (dd 1 ((x0 == 18)) (dd 4 ((decide (x5 ≥ 7))) (pN 2 ((x11[0]?)) fun x24 x25 x26 x27 x28 x29 x30 x31 x32 x33 x34 x35=>(dd 1 ((x24 == 13)) (pN 2 ((x11[0]?)) fun x36 x37 x38 x39 x40 x41 x42 x43 x44 x45 x46 x47=>(j_checkP_0 0 x0 x1 x2 x3 x4 x5 x6 x7 x8 x9 x10 x11 x12 x13 x14 x15 x16 x17 x18 x19 x20 x21 x22 x23 x47 ((↑x47.length : Int)) 0 (qq 1 Q (.tup [(iv 35),(iv x1)])) (fun x48=>(j_checkP_1 0 x12 x13 x14 x15 x16 x17 x18 x19 x20 x21 x22 x23 x11 ((↑x11.length : Int)) 0 (fun x49 x50=>(qq 1 Q (.tup [(iv x49),(iv x50)]))) (fun x51=>(qq 1 Q (.tup [(iv 0),(iv 0)]))))))) (j_checkP_0 0 x0 x1 x2 x3 x4 x5 x6 x7 x8 x9 x10 x11 x12 x13 x14 x15 x16 x17 x18 x19 x20 x21 x22 x23 x11 ((↑x11.length : Int)) 0 (qq 1 Q (.tup [(iv 35),(iv x1)])) (fun x52=>(j_checkP_1 0 x12 x13 x14 x15 x16 x17 x18 x19 x20 x21 x22 x23 x11 ((↑x11.length : Int)) 0 (fun x53 x54=>(qq 1 Q (.tup [(iv x53),(iv x54)]))) (fun x55=>(qq 1 Q (.tup [(iv 0),(iv 0)])))))))) (j_checkP_1 0 x12 x13 x14 x15 x16 x17 x18 x19 x20 x21 x22 x23 x11 ((↑x11.length : Int)) 0 (fun x56 x57=>(qq 1 Q (.tup [(iv x56),(iv x57)]))) (fun x58=>(qq 1 Q (.tup [(iv 0),(iv 0)]))))) (j_checkP_1 4 x12 x13 x14 x15 x16 x17 x18 x19 x20 x21 x22 x23 x11 ((↑x11.length : Int)) 0 (fun x59 x60=>(qq 1 Q (.tup [(iv x59),(iv x60)]))) (fun x61=>(qq 1 Q (.tup [(iv 0),(iv 0)])))))
theorem w_checkP (x0 x1 x2 x3 x4 x5 x6 x7 x8 x9 x10 x11 x12 x13 x14 x15 x16 x17 x18 x19 x20 x21 x22 x23) (Q : AV → HH → Prop) (h : (t_checkP x0 x1 x2 x3 x4 x5 x6 x7 x8 x9 x10 x11 x12 x13 x14 x15 x16 x17 x18 x19 x20 x21 x22 x23 Q).p) : ∃ r H',A 14 [(.agg (nR x0 x1 x2 x3 x4 x5 x6 x7 x8 x9 x10 x11)),(.agg (nR x12 x13 x14 x15 x16 x17 x18 x19 x20 x21 x22 x23))] [] r H' ∧ Q r H' :=
 Ans.wq rfl (t_checkP x0 x1 x2 x3 x4 x5 x6 x7 x8 x9 x10 x11 x12 x13 x14 x15 x16 x17 x18 x19 x20 x21 x22 x23 Q).h (by kernel_rfl) h
theorem i_checkP {x0 x1 x2 x3 x4 x5 x6 x7 x8 x9 x10 x11 x12 x13 x14 x15 x16 x17 x18 x19 x20 x21 x22 x23} (ih_checkP : IH_checkP (rank_checkP x0 x1 x2 x3 x4 x5 x6 x7 x8 x9 x10 x11 x12 x13 x14 x15 x16 x17 x18 x19 x20 x21 x22 x23)) (hp : pre_checkP x0 x1 x2 x3 x4 x5 x6 x7 x8 x9 x10 x11 x12 x13 x14 x15 x16 x17 x18 x19 x20 x21 x22 x23) : E_checkP x0 x1 x2 x3 x4 x5 x6 x7 x8 x9 x10 x11 x12 x13 x14 x15 x16 x17 x18 x19 x20 x21 x22 x23 := by
 obtain ⟨_,_,ha,_,_,hq,rfl,rfl⟩ := w_checkP x0 x1 x2 x3 x4 x5 x6 x7 x8 x9 x10 x11 x12 x13 x14 x15 x16 x17 x18 x19 x20 x21 x22 x23 (fun r H'=>∃ x24 x25,post_checkP x0 x1 x2 x3 x4 x5 x6 x7 x8 x9 x10 x11 x12 x13 x14 x15 x16 x17 x18 x19 x20 x21 x22 x23 x24 x25 ∧ r = (.tup [(iv x24),(iv x25)]) ∧ H' = []) (by
  obtain ⟨⟨_,_,_,_⟩,_,⟨_,_,_,_⟩,_⟩ := hp
  apply bS <;> intro _
  ·apply bS <;> intro _
   ·refine ⟨by first | (refine Ns.get (show Ns x11 from by with_reducible assumption) ?_; rw [(shape18 (show shapeN x0 x5 x6 x11 from by with_reducible assumption) tA).1]; decide) | exact tG,fun _ _ _ _ _ _ _ _ _ _ _ _ g40=>?_⟩
    first | (have q := elN tA g40; obtain ⟨_,_,_,_,_,_,_⟩ := q) | (have q := elF tA g40; obtain ⟨_,_,_,_,_⟩ := q)
    apply bS <;> intro _
    ·refine ⟨by first | (refine Ns.get (show Ns x11 from by with_reducible assumption) ?_; rw [(shape18 (show shapeN x0 x5 x6 x11 from by with_reducible assumption) tA).1]; decide) | exact tG,fun _ _ _ _ _ _ _ _ _ _ _ _ g54=>?_⟩
     first | (have q := elN tA g54; obtain ⟨_,_,_,_,_,_,_⟩ := q) | (have q := elF tA g54; obtain ⟨_,_,_,_,_⟩ := q)
     refine ⟨k_checkP_0 zl2x14,fun e55=>?_,fun _ e57=>?_⟩
     ·have e55_0 := e55
      unfold out_checkP_0_0 at e55_0
      exact ⟨_,_,zl2x15,rfl,rfl⟩
     have e57_0 := e57
     unfold out_checkP_0_1 at e57_0
     refine ⟨k_checkP_1 ih_checkP zl2x14,fun _ _ e60=>?_,fun _ e62=>?_⟩
     ·have e60_0 := e60
      unfold out_checkP_1_0 at e60_0
      exact ⟨_,_,zl2x15,rfl,rfl⟩
     have e62_0 := e62
     unfold out_checkP_1_1 at e62_0
     exact ⟨0,0,zl2x15,rfl,rfl⟩
    refine ⟨k_checkP_0 zl2x14,fun e63=>?_,fun _ e65=>?_⟩
    ·have e63_0 := e63
     unfold out_checkP_0_0 at e63_0
     exact ⟨_,_,zl2x15,rfl,rfl⟩
    have e65_0 := e65
    unfold out_checkP_0_1 at e65_0
    refine ⟨k_checkP_1 ih_checkP zl2x14,fun _ _ e68=>?_,fun _ e70=>?_⟩
    ·have e68_0 := e68
     unfold out_checkP_1_0 at e68_0
     exact ⟨_,_,zl2x15,rfl,rfl⟩
    have e70_0 := e70
    unfold out_checkP_1_1 at e70_0
    exact ⟨0,0,zl2x15,rfl,rfl⟩
   refine ⟨k_checkP_1 ih_checkP zl2x14,fun _ _ e73=>?_,fun _ e75=>?_⟩
   ·have e73_0 := e73
    unfold out_checkP_1_0 at e73_0
    exact ⟨_,_,zl2x15,rfl,rfl⟩
   have e75_0 := e75
   unfold out_checkP_1_1 at e75_0
   exact ⟨0,0,zl2x15,rfl,rfl⟩
  refine ⟨k_checkP_1 ih_checkP zl2x14,fun _ _ e78=>?_,fun _ e80=>?_⟩
  ·have e78_0 := e78
   unfold out_checkP_1_0 at e78_0
   exact ⟨_,_,zl2x15,rfl,rfl⟩
  have e80_0 := e80
  unfold out_checkP_1_1 at e80_0
  exact ⟨0,0,zl2x15,rfl,rfl⟩)
 exact ⟨_,_,hq,ha⟩
theorem r_checkP : ∀ b,IH_checkP b
 | 0=>fun hr _=>absurd hr (Nat.not_lt_zero _)
 | b + 1=>fun hr hp=>i_checkP (fun hr' hp'=>r_checkP b (by omega) hp') hp
theorem c_checkP {x0 x1 x2 x3 x4 x5 x6 x7 x8 x9 x10 x11 x12 x13 x14 x15 x16 x17 x18 x19 x20 x21 x22 x23} (hp : pre_checkP x0 x1 x2 x3 x4 x5 x6 x7 x8 x9 x10 x11 x12 x13 x14 x15 x16 x17 x18 x19 x20 x21 x22 x23) : E_checkP x0 x1 x2 x3 x4 x5 x6 x7 x8 x9 x10 x11 x12 x13 x14 x15 x16 x17 x18 x19 x20 x21 x22 x23 := r_checkP (rank_checkP x0 x1 x2 x3 x4 x5 x6 x7 x8 x9 x10 x11 x12 x13 x14 x15 x16 x17 x18 x19 x20 x21 x22 x23 + 1) (Nat.lt_succ_self _) hp
abbrev E_CheckP (x0 x1 x2 : Int) (x3 : List AV) (x4 : Bool) (x5 x6 x7 : Int) (x8 : ByteArray) (x9 x10 : Int) (x11 : List AV) : Prop := ∃ x12 x13,post_CheckP x0 x1 x2 x3 x4 x5 x6 x7 x8 x9 x10 x11 x12 x13 ∧ A 6 [(.agg (nR x0 x1 x2 x3 x4 x5 x6 x7 x8 x9 x10 x11))] [] (.tup [(iv x12),(iv x13)]) []
abbrev j_CheckP (nn : Nat) (x0 x1 x2 : Int) (x3 : List AV) (x4 : Bool) (x5 x6 x7 : Int) (x8 : ByteArray) (x9 x10 : Int) (x11 : List AV) (kK : Int → Int → HC) : HC := ⟨.ev nn (.ask (eI fun x12=>eI fun x13=>.done (.res (.tup [(iv x12),(iv x13)]) [] (post_CheckP x0 x1 x2 x3 x4 x5 x6 x7 x8 x9 x10 x11 x12 x13)) ((kK x12 x13).h))),E_CheckP x0 x1 x2 x3 x4 x5 x6 x7 x8 x9 x10 x11 ∧ (∀ x12 x13,post_CheckP x0 x1 x2 x3 x4 x5 x6 x7 x8 x9 x10 x11 x12 x13 → (kK x12 x13).p)⟩
abbrev t_CheckP (x0 x1 x2 : Int) (x3 : List AV) (x4 : Bool) (x5 x6 x7 : Int) (x8 : ByteArray) (x9 x10 : Int) (x11 : List AV) (Q : AV → HH → Prop) : HC := (oo 0 ((npL [(.agg (nR x0 x1 x2 x3 x4 x5 x6 x7 x8 x9 x10 x11)),(.agg (nR x0 x1 x2 x3 x4 x5 x6 x7 x8 x9 x10 x11))])) (j_checkP 0 x0 x1 x2 x3 x4 x5 x6 x7 x8 x9 x10 x11 x0 x1 x2 x3 x4 x5 x6 x7 x8 x9 x10 x11 fun x12 x13=>(qq 1 Q (.tup [(iv x12),(iv x13)]))))
theorem w_CheckP (x0 x1 x2 x3 x4 x5 x6 x7 x8 x9 x10 x11) (Q : AV → HH → Prop) (h : (t_CheckP x0 x1 x2 x3 x4 x5 x6 x7 x8 x9 x10 x11 Q).p) : ∃ r H',A 6 [(.agg (nR x0 x1 x2 x3 x4 x5 x6 x7 x8 x9 x10 x11))] [] r H' ∧ Q r H' :=
 Ans.wq rfl (t_CheckP x0 x1 x2 x3 x4 x5 x6 x7 x8 x9 x10 x11 Q).h (by kernel_rfl) h
theorem c_CheckP {x0 x1 x2 x3 x4 x5 x6 x7 x8 x9 x10 x11} (hp : pre_CheckP x0 x1 x2 x3 x4 x5 x6 x7 x8 x9 x10 x11) : E_CheckP x0 x1 x2 x3 x4 x5 x6 x7 x8 x9 x10 x11 := by
 obtain ⟨_,_,ha,_,_,hq,rfl,rfl⟩ := w_CheckP x0 x1 x2 x3 x4 x5 x6 x7 x8 x9 x10 x11 (fun r H'=>∃ x12 x13,post_CheckP x0 x1 x2 x3 x4 x5 x6 x7 x8 x9 x10 x11 x12 x13 ∧ r = (.tup [(iv x12),(iv x13)]) ∧ H' = []) (by
  obtain ⟨⟨_,_,_,_⟩,_⟩ := hp
  refine ⟨tN,c_checkP tP,fun _ _ p16=>?_⟩
  unfold post_checkP at p16
  exact ⟨_,_,by exact Eq.symm tA,rfl,rfl⟩)
 exact ⟨_,_,hq,ha⟩
abbrev E_CheckR (x0 x1 x2 : Int) (x3 : List AV) (x4 : Bool) (x5 x6 x7 : Int) (x8 : ByteArray) (x9 x10 : Int) (x11 : List AV) (x12 x13 x14 : Int) (x15 : List AV) (x16 : Bool) (x17 x18 x19 : Int) (x20 : ByteArray) (x21 x22 : Int) (x23 : List AV) : Prop := ∃ x24 x25,post_CheckR x0 x1 x2 x3 x4 x5 x6 x7 x8 x9 x10 x11 x12 x13 x14 x15 x16 x17 x18 x19 x20 x21 x22 x23 x24 x25 ∧ A 7 [(.agg (nR x0 x1 x2 x3 x4 x5 x6 x7 x8 x9 x10 x11)),(.agg (nR x12 x13 x14 x15 x16 x17 x18 x19 x20 x21 x22 x23))] [] (.tup [(iv x24),(iv x25)]) []
abbrev j_CheckR (nn : Nat) (x0 x1 x2 : Int) (x3 : List AV) (x4 : Bool) (x5 x6 x7 : Int) (x8 : ByteArray) (x9 x10 : Int) (x11 : List AV) (x12 x13 x14 : Int) (x15 : List AV) (x16 : Bool) (x17 x18 x19 : Int) (x20 : ByteArray) (x21 x22 : Int) (x23 : List AV) (kK : Int → Int → HC) : HC := ⟨.ev nn (.ask (eI fun x24=>eI fun x25=>.done (.res (.tup [(iv x24),(iv x25)]) [] (post_CheckR x0 x1 x2 x3 x4 x5 x6 x7 x8 x9 x10 x11 x12 x13 x14 x15 x16 x17 x18 x19 x20 x21 x22 x23 x24 x25)) ((kK x24 x25).h))),E_CheckR x0 x1 x2 x3 x4 x5 x6 x7 x8 x9 x10 x11 x12 x13 x14 x15 x16 x17 x18 x19 x20 x21 x22 x23 ∧ (∀ x24 x25,post_CheckR x0 x1 x2 x3 x4 x5 x6 x7 x8 x9 x10 x11 x12 x13 x14 x15 x16 x17 x18 x19 x20 x21 x22 x23 x24 x25 → (kK x24 x25).p)⟩
def IH_CheckR (b : Nat) : Prop := ∀ {x0 : Int} {x1 : Int} {x2 : Int} {x3 : List AV} {x4 : Bool} {x5 : Int} {x6 : Int} {x7 : Int} {x8 : ByteArray} {x9 : Int} {x10 : Int} {x11 : List AV} {x12 : Int} {x13 : Int} {x14 : Int} {x15 : List AV} {x16 : Bool} {x17 : Int} {x18 : Int} {x19 : Int} {x20 : ByteArray} {x21 : Int} {x22 : Int} {x23 : List AV},rank_CheckR x0 x1 x2 x3 x4 x5 x6 x7 x8 x9 x10 x11 x12 x13 x14 x15 x16 x17 x18 x19 x20 x21 x22 x23 < b → pre_CheckR x0 x1 x2 x3 x4 x5 x6 x7 x8 x9 x10 x11 x12 x13 x14 x15 x16 x17 x18 x19 x20 x21 x22 x23 → E_CheckR x0 x1 x2 x3 x4 x5 x6 x7 x8 x9 x10 x11 x12 x13 x14 x15 x16 x17 x18 x19 x20 x21 x22 x23
def s_CheckR_0 (x0 x1 x2 : Int) (x3 : List AV) (x4 : Bool) (x5 x6 x7 : Int) (x8 : ByteArray) (x9 x10 : Int) (x11 : List AV) (x12 x13 x14 : Int) (x15 : List AV) (x16 : Bool) (x17 x18 x19 : Int) (x20 : ByteArray) (x21 x22 : Int) (x23 x24 : List AV) (x25 : Int) : St := ⟨[],[(2,(.ea [(iv x0),(iv x1),(iv x2),(.sl 2 x3),(bv x4),(iv x5),(iv x6),(iv x7),(sv x8),(iv x9),(iv x10),(.sl 12 x11)])),(3,(.ea [(iv x12),(iv x13),(iv x14),(.sl 2 x15),(bv x16),(iv x17),(iv x18),(iv x19),(sv x20),(iv x21),(iv x22),(.sl 12 x23)])),(6,(.sl 12 x24)),(7,(iv x25))],[],0⟩
def x_CheckR_0_0 (x0 x1 x2 : Int) (x3 : List AV) (x4 : Bool) (x5 x6 x7 : Int) (x8 : ByteArray) (x9 x10 : Int) (x11 : List AV) (x12 x13 x14 : Int) (x15 : List AV) (x16 : Bool) (x17 x18 x19 : Int) (x20 : ByteArray) (x21 x22 : Int) (x23 x24 : List AV) : St := ⟨[],[(4,(iv 35)),(5,(iv x1))],[],0⟩
def x_CheckR_0_1 (x0 x1 x2 : Int) (x3 : List AV) (x4 : Bool) (x5 x6 x7 : Int) (x8 : ByteArray) (x9 x10 : Int) (x11 : List AV) (x12 x13 x14 : Int) (x15 : List AV) (x16 : Bool) (x17 x18 x19 : Int) (x20 : ByteArray) (x21 x22 : Int) (x23 x24 : List AV) (y25 : Int) : St := ⟨[],[(2,(.ea [(iv x0),(iv x1),(iv x2),(.sl 2 x3),(bv x4),(iv x5),(iv x6),(iv x7),(sv x8),(iv x9),(iv x10),(.sl 12 x11)])),(3,(.ea [(iv x12),(iv x13),(iv x14),(.sl 2 x15),(bv x16),(iv x17),(iv x18),(iv x19),(sv x20),(iv x21),(iv x22),(.sl 12 x23)])),(6,(.sl 12 x24)),(7,(iv y25)),(31,(bv false))],[],0⟩
abbrev E_CheckR_0 (x0 x1 x2 : Int) (x3 : List AV) (x4 : Bool) (x5 x6 x7 : Int) (x8 : ByteArray) (x9 x10 : Int) (x11 : List AV) (x12 x13 x14 : Int) (x15 : List AV) (x16 : Bool) (x17 x18 x19 : Int) (x20 : ByteArray) (x21 x22 : Int) (x23 x24 : List AV) (x25o : Int) : Prop := ((out_CheckR_0_0 x0 x1 x2 x3 x4 x5 x6 x7 x8 x9 x10 x11 x12 x13 x14 x15 x16 x17 x18 x19 x20 x21 x22 x23 x24 x25o ∧ R 7 0 (s_CheckR_0 x0 x1 x2 x3 x4 x5 x6 x7 x8 x9 x10 x11 x12 x13 x14 x15 x16 x17 x18 x19 x20 x21 x22 x23 x24 x25o) (Ex.ret,x_CheckR_0_0 x0 x1 x2 x3 x4 x5 x6 x7 x8 x9 x10 x11 x12 x13 x14 x15 x16 x17 x18 x19 x20 x21 x22 x23 x24)) ∨ (∃ y26,out_CheckR_0_1 x0 x1 x2 x3 x4 x5 x6 x7 x8 x9 x10 x11 x12 x13 x14 x15 x16 x17 x18 x19 x20 x21 x22 x23 x24 x25o y26 ∧ R 7 0 (s_CheckR_0 x0 x1 x2 x3 x4 x5 x6 x7 x8 x9 x10 x11 x12 x13 x14 x15 x16 x17 x18 x19 x20 x21 x22 x23 x24 x25o) ((.exit 0),x_CheckR_0_1 x0 x1 x2 x3 x4 x5 x6 x7 x8 x9 x10 x11 x12 x13 x14 x15 x16 x17 x18 x19 x20 x21 x22 x23 x24 y26)))
abbrev j_CheckR_0 (nn : Nat) (x0 x1 x2 : Int) (x3 : List AV) (x4 : Bool) (x5 x6 x7 : Int) (x8 : ByteArray) (x9 x10 : Int) (x11 : List AV) (x12 x13 x14 : Int) (x15 : List AV) (x16 : Bool) (x17 x18 x19 : Int) (x20 : ByteArray) (x21 x22 : Int) (x23 x24 : List AV) (x25o : Int) (f0 : HC) (f1 : Int → HC) : HC := ⟨.ev nn (.ask (.or (.done (.exit Ex.ret (x_CheckR_0_0 x0 x1 x2 x3 x4 x5 x6 x7 x8 x9 x10 x11 x12 x13 x14 x15 x16 x17 x18 x19 x20 x21 x22 x23 x24) (out_CheckR_0_0 x0 x1 x2 x3 x4 x5 x6 x7 x8 x9 x10 x11 x12 x13 x14 x15 x16 x17 x18 x19 x20 x21 x22 x23 x24 x25o)) f0.h) (eI fun y26=>.done (.exit (.exit 0) (x_CheckR_0_1 x0 x1 x2 x3 x4 x5 x6 x7 x8 x9 x10 x11 x12 x13 x14 x15 x16 x17 x18 x19 x20 x21 x22 x23 x24 y26) (out_CheckR_0_1 x0 x1 x2 x3 x4 x5 x6 x7 x8 x9 x10 x11 x12 x13 x14 x15 x16 x17 x18 x19 x20 x21 x22 x23 x24 x25o y26)) (f1 y26).h))),E_CheckR_0 x0 x1 x2 x3 x4 x5 x6 x7 x8 x9 x10 x11 x12 x13 x14 x15 x16 x17 x18 x19 x20 x21 x22 x23 x24 x25o ∧ ((out_CheckR_0_0 x0 x1 x2 x3 x4 x5 x6 x7 x8 x9 x10 x11 x12 x13 x14 x15 x16 x17 x18 x19 x20 x21 x22 x23 x24 x25o → f0.p) ∧ (∀ y26,out_CheckR_0_1 x0 x1 x2 x3 x4 x5 x6 x7 x8 x9 x10 x11 x12 x13 x14 x15 x16 x17 x18 x19 x20 x21 x22 x23 x24 x25o y26 → (f1 y26).p))⟩
abbrev t_CheckR_0 (x0 x1 x2 : Int) (x3 : List AV) (x4 : Bool) (x5 x6 x7 : Int) (x8 : ByteArray) (x9 x10 : Int) (x11 : List AV) (x12 x13 x14 : Int) (x15 : List AV) (x16 : Bool) (x17 x18 x19 : Int) (x20 : ByteArray) (x21 x22 : Int) (x23 x24 : List AV) (x25 : Int) (Q : Ex → St → Prop) : HC := (dd 1 ((decide (x25 < (↑x24.length : Int)))) (oo 0 ((decide (0 ≤ x25))) (pN 1 ((x24[x25.toNat]?)) fun x26 x27 x28 x29 x30 x31 x32 x33 x34 x35 x36 x37=>(oo 0 ((npL [(.agg (nR x26 x27 x28 x29 x30 x31 x32 x33 x34 x35 x36 x37)),(.agg (nR x12 x13 x14 x15 x16 x17 x18 x19 x20 x21 x22 x23)),(bv false)])) (j_WidthR 0 x26 x27 x28 x29 x30 x31 x32 x33 x34 x35 x36 x37 x12 x13 x14 x15 x16 x17 x18 x19 x20 x21 x22 x23 false fun x38 x39=>(dd 1 ((decide (x39 < 0))) (zz 7 (Q Ex.ret (x_CheckR_0_0 x0 x1 x2 x3 x4 x5 x6 x7 x8 x9 x10 x11 x12 x13 x14 x15 x16 x17 x18 x19 x20 x21 x22 x23 x24))) (dd 4 ((!x38 == x39)) (zz 3 (Q Ex.ret (x_CheckR_0_0 x0 x1 x2 x3 x4 x5 x6 x7 x8 x9 x10 x11 x12 x13 x14 x15 x16 x17 x18 x19 x20 x21 x22 x23 x24))) (dd 3 ((decide (x39 > 255))) (zz 0 (Q Ex.ret (x_CheckR_0_0 x0 x1 x2 x3 x4 x5 x6 x7 x8 x9 x10 x11 x12 x13 x14 x15 x16 x17 x18 x19 x20 x21 x22 x23 x24))) (zz 1 (Q .norm (s_CheckR_0 x0 x1 x2 x3 x4 x5 x6 x7 x8 x9 x10 x11 x12 x13 x14 x15 x16 x17 x18 x19 x20 x21 x22 x23 x24 (w6 (x25 + 1)))))))))))) (zz 0 (Q (.exit 0) (x_CheckR_0_1 x0 x1 x2 x3 x4 x5 x6 x7 x8 x9 x10 x11 x12 x13 x14 x15 x16 x17 x18 x19 x20 x21 x22 x23 x24 x25))))
theorem l_CheckR_0 (x0 x1 x2 x3 x4 x5 x6 x7 x8 x9 x10 x11 x12 x13 x14 x15 x16 x17 x18 x19 x20 x21 x22 x23 x24 x25) (Q : Ex → St → Prop) (h : (t_CheckR_0 x0 x1 x2 x3 x4 x5 x6 x7 x8 x9 x10 x11 x12 x13 x14 x15 x16 x17 x18 x19 x20 x21 x22 x23 x24 x25 Q).p) : ∃ e s',L 7 0 (s_CheckR_0 x0 x1 x2 x3 x4 x5 x6 x7 x8 x9 x10 x11 x12 x13 x14 x15 x16 x17 x18 x19 x20 x21 x22 x23 x24 x25) (e,s') ∧ Q e s' :=
 Leads.wq (t_CheckR_0 x0 x1 x2 x3 x4 x5 x6 x7 x8 x9 x10 x11 x12 x13 x14 x15 x16 x17 x18 x19 x20 x21 x22 x23 x24 x25 Q).h (by kernel_rfl) h
theorem k_CheckR_0 {x0 x1 x2 x3 x4 x5 x6 x7 x8 x9 x10 x11 x12 x13 x14 x15 x16 x17 x18 x19 x20 x21 x22 x23 x24 x25o} (hi : inv_CheckR_0 x0 x1 x2 x3 x4 x5 x6 x7 x8 x9 x10 x11 x12 x13 x14 x15 x16 x17 x18 x19 x20 x21 x22 x23 x24 x25o x25o) : E_CheckR_0 x0 x1 x2 x3 x4 x5 x6 x7 x8 x9 x10 x11 x12 x13 x14 x15 x16 x17 x18 x19 x20 x21 x22 x23 x24 x25o := by
 obtain ⟨e,s',hr,hq⟩ := Rounds.byInv (st := fun (w : Int)=>s_CheckR_0 x0 x1 x2 x3 x4 x5 x6 x7 x8 x9 x10 x11 x12 x13 x14 x15 x16 x17 x18 x19 x20 x21 x22 x23 x24 w) (Inv := fun w=>inv_CheckR_0 x0 x1 x2 x3 x4 x5 x6 x7 x8 x9 x10 x11 x12 x13 x14 x15 x16 x17 x18 x19 x20 x21 x22 x23 x24 x25o w) (μ := fun w=>mu_CheckR_0 x0 x1 x2 x3 x4 x5 x6 x7 x8 x9 x10 x11 x12 x13 x14 x15 x16 x17 x18 x19 x20 x21 x22 x23 x24 w) (Q := fun e s'=>((out_CheckR_0_0 x0 x1 x2 x3 x4 x5 x6 x7 x8 x9 x10 x11 x12 x13 x14 x15 x16 x17 x18 x19 x20 x21 x22 x23 x24 x25o ∧ e = Ex.ret ∧ s' = x_CheckR_0_0 x0 x1 x2 x3 x4 x5 x6 x7 x8 x9 x10 x11 x12 x13 x14 x15 x16 x17 x18 x19 x20 x21 x22 x23 x24) ∨ (∃ y26,out_CheckR_0_1 x0 x1 x2 x3 x4 x5 x6 x7 x8 x9 x10 x11 x12 x13 x14 x15 x16 x17 x18 x19 x20 x21 x22 x23 x24 x25o y26 ∧ e = (.exit 0) ∧ s' = x_CheckR_0_1 x0 x1 x2 x3 x4 x5 x6 x7 x8 x9 x10 x11 x12 x13 x14 x15 x16 x17 x18 x19 x20 x21 x22 x23 x24 y26))) (by
  intro x25 hi
  have hi : inv_CheckR_0 x0 x1 x2 x3 x4 x5 x6 x7 x8 x9 x10 x11 x12 x13 x14 x15 x16 x17 x18 x19 x20 x21 x22 x23 x24 x25o x25 := hi
  refine l_CheckR_0 x0 x1 x2 x3 x4 x5 x6 x7 x8 x9 x10 x11 x12 x13 x14 x15 x16 x17 x18 x19 x20 x21 x22 x23 x24 x25 _ ?_
  obtain ⟨⟨_,_,_,_⟩,_,⟨_,_,_,_⟩,_,_,_,_,_,_,_⟩ := hi
  apply bS <;> intro _
  ·refine ⟨tD,tG,fun _ _ _ _ _ _ _ _ _ _ _ _ g40=>?_⟩
   have edg69 := nsz_drop g40; first | (have eg40 := Ns.elem tA g40; have eng69 := nsz_get g40; obtain ⟨_,_,_,_⟩ := eg40.nw) | (have eg40 := Nf.elem tA g40; have eng69 := nsz_get g40; obtain ⟨_,_⟩ := eg40.nw)
   refine ⟨tN,c_WidthR (by first | (refine ⟨⟨tA,tA,tA,tA⟩,?_⟩; exact (shape18 (show shapeN x26 x41 x42 x43 from by with_reducible assumption) tA).1) | exact tP),fun _ _ p46=>?_⟩
   obtain ⟨_,_,_,_,_⟩ := p46
   apply bS <;> intro _
   ·exact .inr ⟨by simp,.inl ⟨zl2x16,rfl,rfl⟩⟩
   apply bS <;> intro _
   ·exact .inr ⟨by simp,.inl ⟨zl2x16,rfl,rfl⟩⟩
   apply bS <;> intro _
   ·exact .inr ⟨by simp,.inl ⟨zl2x16,rfl,rfl⟩⟩
   try have := tW (x25 + 1)
   exact .inl ⟨rfl,(w6 (x25 + 1)),rfl,zl2x17,by unfold mu_CheckR_0; exact tI⟩
  exact .inr ⟨by simp,.inr (⟨_,zl2x16,rfl,rfl⟩)⟩) x25o hi
 rcases hq with ⟨ho,rfl,rfl⟩ | ⟨_,ho,rfl,rfl⟩
 
 ·exact .inl ⟨ho,hr⟩
 ·exact .inr (⟨_,ho,hr⟩)
def s_CheckR_1 (x0 x1 x2 : Int) (x3 : List AV) (x4 : Bool) (x5 x6 x7 : Int) (x8 : ByteArray) (x9 x10 : Int) (x11 : List AV) (x12 x13 x14 : Int) (x15 : List AV) (x16 : Bool) (x17 x18 x19 : Int) (x20 : ByteArray) (x21 x22 : Int) (x23 : List AV) (x24 : Int) : St := ⟨[],[(2,(.ea [(iv x0),(iv x1),(iv x2),(.sl 2 x3),(bv x4),(iv x5),(iv x6),(iv x7),(sv x8),(iv x9),(iv x10),(.sl 12 x11)])),(3,(.ea [(iv x12),(iv x13),(iv x14),(.sl 2 x15),(bv x16),(iv x17),(iv x18),(iv x19),(sv x20),(iv x21),(iv x22),(.sl 12 x23)])),(10,(iv x24))],[],0⟩
def x_CheckR_1_0 (x0 x1 x2 : Int) (x3 : List AV) (x4 : Bool) (x5 x6 x7 : Int) (x8 : ByteArray) (x9 x10 : Int) (x11 : List AV) (x12 x13 x14 : Int) (x15 : List AV) (x16 : Bool) (x17 x18 x19 : Int) (x20 : ByteArray) (x21 x22 : Int) (x23 : List AV) (y24 y25 : Int) : St := ⟨[],[(4,(iv y24)),(5,(iv y25))],[],0⟩
def x_CheckR_1_1 (x0 x1 x2 : Int) (x3 : List AV) (x4 : Bool) (x5 x6 x7 : Int) (x8 : ByteArray) (x9 x10 : Int) (x11 : List AV) (x12 x13 x14 : Int) (x15 : List AV) (x16 : Bool) (x17 x18 x19 : Int) (x20 : ByteArray) (x21 x22 : Int) (x23 : List AV) (y24 : Int) : St := ⟨[],[(2,(.ea [(iv x0),(iv x1),(iv x2),(.sl 2 x3),(bv x4),(iv x5),(iv x6),(iv x7),(sv x8),(iv x9),(iv x10),(.sl 12 x11)])),(3,(.ea [(iv x12),(iv x13),(iv x14),(.sl 2 x15),(bv x16),(iv x17),(iv x18),(iv x19),(sv x20),(iv x21),(iv x22),(.sl 12 x23)])),(10,(iv y24)),(60,(bv false))],[],0⟩
abbrev E_CheckR_1 (x0 x1 x2 : Int) (x3 : List AV) (x4 : Bool) (x5 x6 x7 : Int) (x8 : ByteArray) (x9 x10 : Int) (x11 : List AV) (x12 x13 x14 : Int) (x15 : List AV) (x16 : Bool) (x17 x18 x19 : Int) (x20 : ByteArray) (x21 x22 : Int) (x23 : List AV) (x24o : Int) : Prop := ((∃ y25 y26,out_CheckR_1_0 x0 x1 x2 x3 x4 x5 x6 x7 x8 x9 x10 x11 x12 x13 x14 x15 x16 x17 x18 x19 x20 x21 x22 x23 x24o y25 y26 ∧ R 7 1 (s_CheckR_1 x0 x1 x2 x3 x4 x5 x6 x7 x8 x9 x10 x11 x12 x13 x14 x15 x16 x17 x18 x19 x20 x21 x22 x23 x24o) (Ex.ret,x_CheckR_1_0 x0 x1 x2 x3 x4 x5 x6 x7 x8 x9 x10 x11 x12 x13 x14 x15 x16 x17 x18 x19 x20 x21 x22 x23 y25 y26)) ∨ (∃ y25,out_CheckR_1_1 x0 x1 x2 x3 x4 x5 x6 x7 x8 x9 x10 x11 x12 x13 x14 x15 x16 x17 x18 x19 x20 x21 x22 x23 x24o y25 ∧ R 7 1 (s_CheckR_1 x0 x1 x2 x3 x4 x5 x6 x7 x8 x9 x10 x11 x12 x13 x14 x15 x16 x17 x18 x19 x20 x21 x22 x23 x24o) ((Ex.exit 2),x_CheckR_1_1 x0 x1 x2 x3 x4 x5 x6 x7 x8 x9 x10 x11 x12 x13 x14 x15 x16 x17 x18 x19 x20 x21 x22 x23 y25)))
abbrev j_CheckR_1 (nn : Nat) (x0 x1 x2 : Int) (x3 : List AV) (x4 : Bool) (x5 x6 x7 : Int) (x8 : ByteArray) (x9 x10 : Int) (x11 : List AV) (x12 x13 x14 : Int) (x15 : List AV) (x16 : Bool) (x17 x18 x19 : Int) (x20 : ByteArray) (x21 x22 : Int) (x23 : List AV) (x24o : Int) (f0 : Int → Int → HC) (f1 : Int → HC) : HC := ⟨.ev nn (.ask (.or (eI fun y25=>eI fun y26=>.done (.exit Ex.ret (x_CheckR_1_0 x0 x1 x2 x3 x4 x5 x6 x7 x8 x9 x10 x11 x12 x13 x14 x15 x16 x17 x18 x19 x20 x21 x22 x23 y25 y26) (out_CheckR_1_0 x0 x1 x2 x3 x4 x5 x6 x7 x8 x9 x10 x11 x12 x13 x14 x15 x16 x17 x18 x19 x20 x21 x22 x23 x24o y25 y26)) (f0 y25 y26).h) (eI fun y25=>.done (.exit (Ex.exit 2) (x_CheckR_1_1 x0 x1 x2 x3 x4 x5 x6 x7 x8 x9 x10 x11 x12 x13 x14 x15 x16 x17 x18 x19 x20 x21 x22 x23 y25) (out_CheckR_1_1 x0 x1 x2 x3 x4 x5 x6 x7 x8 x9 x10 x11 x12 x13 x14 x15 x16 x17 x18 x19 x20 x21 x22 x23 x24o y25)) (f1 y25).h))),E_CheckR_1 x0 x1 x2 x3 x4 x5 x6 x7 x8 x9 x10 x11 x12 x13 x14 x15 x16 x17 x18 x19 x20 x21 x22 x23 x24o ∧ ((∀ y25 y26,out_CheckR_1_0 x0 x1 x2 x3 x4 x5 x6 x7 x8 x9 x10 x11 x12 x13 x14 x15 x16 x17 x18 x19 x20 x21 x22 x23 x24o y25 y26 → (f0 y25 y26).p) ∧ (∀ y25,out_CheckR_1_1 x0 x1 x2 x3 x4 x5 x6 x7 x8 x9 x10 x11 x12 x13 x14 x15 x16 x17 x18 x19 x20 x21 x22 x23 x24o y25 → (f1 y25).p))⟩
abbrev t_CheckR_1 (x0 x1 x2 : Int) (x3 : List AV) (x4 : Bool) (x5 x6 x7 : Int) (x8 : ByteArray) (x9 x10 : Int) (x11 : List AV) (x12 x13 x14 : Int) (x15 : List AV) (x16 : Bool) (x17 x18 x19 : Int) (x20 : ByteArray) (x21 x22 : Int) (x23 : List AV) (x24 : Int) (Q : Ex → St → Prop) : HC := (dd 1 ((decide (x24 < (↑x11.length : Int)))) (oo 0 ((decide (0 ≤ x24))) (pN 1 ((x11[x24.toNat]?)) fun x25 x26 x27 x28 x29 x30 x31 x32 x33 x34 x35 x36=>(oo 0 ((npL [(.agg (nR x25 x26 x27 x28 x29 x30 x31 x32 x33 x34 x35 x36)),(.agg (nR x12 x13 x14 x15 x16 x17 x18 x19 x20 x21 x22 x23))])) (j_CheckR 0 x25 x26 x27 x28 x29 x30 x31 x32 x33 x34 x35 x36 x12 x13 x14 x15 x16 x17 x18 x19 x20 x21 x22 x23 fun x37 x38=>(dd 1 ((!x37 == 0)) (zz 0 (Q Ex.ret (x_CheckR_1_0 x0 x1 x2 x3 x4 x5 x6 x7 x8 x9 x10 x11 x12 x13 x14 x15 x16 x17 x18 x19 x20 x21 x22 x23 x37 x38))) (zz 1 (Q .norm (s_CheckR_1 x0 x1 x2 x3 x4 x5 x6 x7 x8 x9 x10 x11 x12 x13 x14 x15 x16 x17 x18 x19 x20 x21 x22 x23 (w6 (x24 + 1)))))))))) (zz 0 (Q (Ex.exit 2) (x_CheckR_1_1 x0 x1 x2 x3 x4 x5 x6 x7 x8 x9 x10 x11 x12 x13 x14 x15 x16 x17 x18 x19 x20 x21 x22 x23 x24))))
theorem l_CheckR_1 (x0 x1 x2 x3 x4 x5 x6 x7 x8 x9 x10 x11 x12 x13 x14 x15 x16 x17 x18 x19 x20 x21 x22 x23 x24) (Q : Ex → St → Prop) (h : (t_CheckR_1 x0 x1 x2 x3 x4 x5 x6 x7 x8 x9 x10 x11 x12 x13 x14 x15 x16 x17 x18 x19 x20 x21 x22 x23 x24 Q).p) : ∃ e s',L 7 1 (s_CheckR_1 x0 x1 x2 x3 x4 x5 x6 x7 x8 x9 x10 x11 x12 x13 x14 x15 x16 x17 x18 x19 x20 x21 x22 x23 x24) (e,s') ∧ Q e s' :=
 Leads.wq (t_CheckR_1 x0 x1 x2 x3 x4 x5 x6 x7 x8 x9 x10 x11 x12 x13 x14 x15 x16 x17 x18 x19 x20 x21 x22 x23 x24 Q).h (by kernel_rfl) h
theorem k_CheckR_1 {B : Nat} (ih_CheckR : IH_CheckR B) {x0 x1 x2 x3 x4 x5 x6 x7 x8 x9 x10 x11 x12 x13 x14 x15 x16 x17 x18 x19 x20 x21 x22 x23 x24o} (hi : inv_CheckR_1 B x0 x1 x2 x3 x4 x5 x6 x7 x8 x9 x10 x11 x12 x13 x14 x15 x16 x17 x18 x19 x20 x21 x22 x23 x24o x24o) : E_CheckR_1 x0 x1 x2 x3 x4 x5 x6 x7 x8 x9 x10 x11 x12 x13 x14 x15 x16 x17 x18 x19 x20 x21 x22 x23 x24o := by
 obtain ⟨e,s',hr,hq⟩ := Rounds.byInv (st := fun (w : Int)=>s_CheckR_1 x0 x1 x2 x3 x4 x5 x6 x7 x8 x9 x10 x11 x12 x13 x14 x15 x16 x17 x18 x19 x20 x21 x22 x23 w) (Inv := fun w=>inv_CheckR_1 B x0 x1 x2 x3 x4 x5 x6 x7 x8 x9 x10 x11 x12 x13 x14 x15 x16 x17 x18 x19 x20 x21 x22 x23 x24o w) (μ := fun w=>mu_CheckR_1 x0 x1 x2 x3 x4 x5 x6 x7 x8 x9 x10 x11 x12 x13 x14 x15 x16 x17 x18 x19 x20 x21 x22 x23 w) (Q := fun e s'=>((∃ y25 y26,out_CheckR_1_0 x0 x1 x2 x3 x4 x5 x6 x7 x8 x9 x10 x11 x12 x13 x14 x15 x16 x17 x18 x19 x20 x21 x22 x23 x24o y25 y26 ∧ e = Ex.ret ∧ s' = x_CheckR_1_0 x0 x1 x2 x3 x4 x5 x6 x7 x8 x9 x10 x11 x12 x13 x14 x15 x16 x17 x18 x19 x20 x21 x22 x23 y25 y26) ∨ (∃ y25,out_CheckR_1_1 x0 x1 x2 x3 x4 x5 x6 x7 x8 x9 x10 x11 x12 x13 x14 x15 x16 x17 x18 x19 x20 x21 x22 x23 x24o y25 ∧ e = (Ex.exit 2) ∧ s' = x_CheckR_1_1 x0 x1 x2 x3 x4 x5 x6 x7 x8 x9 x10 x11 x12 x13 x14 x15 x16 x17 x18 x19 x20 x21 x22 x23 y25))) (by
  intro x24 hi
  have hi : inv_CheckR_1 B x0 x1 x2 x3 x4 x5 x6 x7 x8 x9 x10 x11 x12 x13 x14 x15 x16 x17 x18 x19 x20 x21 x22 x23 x24o x24 := hi
  refine l_CheckR_1 x0 x1 x2 x3 x4 x5 x6 x7 x8 x9 x10 x11 x12 x13 x14 x15 x16 x17 x18 x19 x20 x21 x22 x23 x24 _ ?_
  obtain ⟨_,⟨_,_,_,_⟩,_,⟨_,_,_,_⟩,_,_,_,_⟩ := hi
  apply bS <;> intro _
  ·refine ⟨tD,tG,fun _ _ _ _ _ _ _ _ _ _ _ _ g40=>?_⟩
   have edg176 := nsz_drop g40; first | (have eg40 := Ns.elem tA g40; have eng176 := nsz_get g40; obtain ⟨_,_,_,_⟩ := eg40.nw) | (have eg40 := Nf.elem tA g40; have eng176 := nsz_get g40; obtain ⟨_,_⟩ := eg40.nw)
   refine ⟨tN,ih_CheckR (by (try unfold rank_CheckR); (try unfold rank_CheckR); exact tI) (by first | (refine ⟨⟨tA,tA,tA,tA⟩,?_⟩; exact (shape18 (show shapeN x25 x41 x42 x43 from by with_reducible assumption) tA).1) | exact tP),fun _ _ p46=>?_⟩
   unfold post_CheckR at p46
   apply bS <;> intro _
   ·exact .inr ⟨by simp,.inl ⟨_,_,zl2x16,rfl,rfl⟩⟩
   try have := tW (x24 + 1)
   exact .inl ⟨rfl,(w6 (x24 + 1)),rfl,zl2x17,by unfold mu_CheckR_1; exact tI⟩
  exact .inr ⟨by simp,.inr (⟨_,zl2x16,rfl,rfl⟩)⟩) x24o hi
 rcases hq with ⟨_,_,ho,rfl,rfl⟩ | ⟨_,ho,rfl,rfl⟩
 
 ·exact .inl ⟨_,_,ho,hr⟩
 ·exact .inr (⟨_,ho,hr⟩)
abbrev t_CheckR (x0 x1 x2 : Int) (x3 : List AV) (x4 : Bool) (x5 x6 x7 : Int) (x8 : ByteArray) (x9 x10 : Int) (x11 : List AV) (x12 x13 x14 : Int) (x15 : List AV) (x16 : Bool) (x17 x18 x19 : Int) (x20 : ByteArray) (x21 x22 : Int) (x23 : List AV) (Q : AV → HH → Prop) : HC := (dd 1 ((x0 == 18)) (dd 4 ((x5 == 7)) (oo 6 ((npL [(.agg (nR x0 x1 x2 x3 x4 x5 x6 x7 x8 x9 x10 x11))])) (j_AltsR 0 x0 x1 x2 x3 x4 x5 x6 x7 x8 x9 x10 x11 fun x24=>(j_CheckR_0 0 x0 x1 x2 x3 x4 x5 x6 x7 x8 x9 x10 x11 x12 x13 x14 x15 x16 x17 x18 x19 x20 x21 x22 x23 x24 0 (qq 1 Q (.tup [(iv 35),(iv x1)])) (fun x25=>(j_CheckR_1 0 x0 x1 x2 x3 x4 x5 x6 x7 x8 x9 x10 x11 x12 x13 x14 x15 x16 x17 x18 x19 x20 x21 x22 x23 0 (fun x26 x27=>(qq 1 Q (.tup [(iv x26),(iv x27)]))) (fun x28=>(qq 1 Q (.tup [(iv 0),(iv 0)])))))))) (dd 6 ((x5 == 8)) (oo 0 ((npL [(.agg (nR x0 x1 x2 x3 x4 x5 x6 x7 x8 x9 x10 x11))])) (j_AltsR 0 x0 x1 x2 x3 x4 x5 x6 x7 x8 x9 x10 x11 fun x29=>(j_CheckR_0 0 x0 x1 x2 x3 x4 x5 x6 x7 x8 x9 x10 x11 x12 x13 x14 x15 x16 x17 x18 x19 x20 x21 x22 x23 x29 0 (qq 1 Q (.tup [(iv 35),(iv x1)])) (fun x30=>(j_CheckR_1 0 x0 x1 x2 x3 x4 x5 x6 x7 x8 x9 x10 x11 x12 x13 x14 x15 x16 x17 x18 x19 x20 x21 x22 x23 0 (fun x31 x32=>(qq 1 Q (.tup [(iv x31),(iv x32)]))) (fun x33=>(qq 1 Q (.tup [(iv 0),(iv 0)])))))))) (j_CheckR_1 0 x0 x1 x2 x3 x4 x5 x6 x7 x8 x9 x10 x11 x12 x13 x14 x15 x16 x17 x18 x19 x20 x21 x22 x23 0 (fun x34 x35=>(qq 1 Q (.tup [(iv x34),(iv x35)]))) (fun x36=>(qq 1 Q (.tup [(iv 0),(iv 0)])))))) (j_CheckR_1 6 x0 x1 x2 x3 x4 x5 x6 x7 x8 x9 x10 x11 x12 x13 x14 x15 x16 x17 x18 x19 x20 x21 x22 x23 0 (fun x37 x38=>(qq 1 Q (.tup [(iv x37),(iv x38)]))) (fun x39=>(qq 1 Q (.tup [(iv 0),(iv 0)])))))
theorem w_CheckR (x0 x1 x2 x3 x4 x5 x6 x7 x8 x9 x10 x11 x12 x13 x14 x15 x16 x17 x18 x19 x20 x21 x22 x23) (Q : AV → HH → Prop) (h : (t_CheckR x0 x1 x2 x3 x4 x5 x6 x7 x8 x9 x10 x11 x12 x13 x14 x15 x16 x17 x18 x19 x20 x21 x22 x23 Q).p) : ∃ r H',A 7 [(.agg (nR x0 x1 x2 x3 x4 x5 x6 x7 x8 x9 x10 x11)),(.agg (nR x12 x13 x14 x15 x16 x17 x18 x19 x20 x21 x22 x23))] [] r H' ∧ Q r H' :=
 Ans.wq rfl (t_CheckR x0 x1 x2 x3 x4 x5 x6 x7 x8 x9 x10 x11 x12 x13 x14 x15 x16 x17 x18 x19 x20 x21 x22 x23 Q).h (by kernel_rfl) h
theorem i_CheckR {x0 x1 x2 x3 x4 x5 x6 x7 x8 x9 x10 x11 x12 x13 x14 x15 x16 x17 x18 x19 x20 x21 x22 x23} (ih_CheckR : IH_CheckR (rank_CheckR x0 x1 x2 x3 x4 x5 x6 x7 x8 x9 x10 x11 x12 x13 x14 x15 x16 x17 x18 x19 x20 x21 x22 x23)) (hp : pre_CheckR x0 x1 x2 x3 x4 x5 x6 x7 x8 x9 x10 x11 x12 x13 x14 x15 x16 x17 x18 x19 x20 x21 x22 x23) : E_CheckR x0 x1 x2 x3 x4 x5 x6 x7 x8 x9 x10 x11 x12 x13 x14 x15 x16 x17 x18 x19 x20 x21 x22 x23 := by
 obtain ⟨_,_,ha,_,_,hq,rfl,rfl⟩ := w_CheckR x0 x1 x2 x3 x4 x5 x6 x7 x8 x9 x10 x11 x12 x13 x14 x15 x16 x17 x18 x19 x20 x21 x22 x23 (fun r H'=>∃ x24 x25,post_CheckR x0 x1 x2 x3 x4 x5 x6 x7 x8 x9 x10 x11 x12 x13 x14 x15 x16 x17 x18 x19 x20 x21 x22 x23 x24 x25 ∧ r = (.tup [(iv x24),(iv x25)]) ∧ H' = []) (by
  obtain ⟨⟨_,_,_,_⟩,_,⟨_,_,_,_⟩,_⟩ := hp
  apply bS <;> intro _
  ·apply bS <;> intro _
   ·refine ⟨tN,c_AltsR (by first | (refine ⟨⟨tA,tA,tA,tA⟩,?_⟩; exact (shape18 (show shapeN x0 x5 x6 x11 from by with_reducible assumption) tA).1) | exact tP),fun _ p29=>?_⟩
    obtain ⟨_,_,_,_⟩ := p29
    refine ⟨k_CheckR_0 zl2x17,fun e30=>?_,fun _ e32=>?_⟩
    ·have e30_0 := e30
     unfold out_CheckR_0_0 at e30_0
     exact ⟨_,_,zl2x18,rfl,rfl⟩
    have e32_0 := e32
    unfold out_CheckR_0_1 at e32_0
    refine ⟨k_CheckR_1 ih_CheckR zl2x17,fun _ _ e35=>?_,fun _ e37=>?_⟩
    ·have e35_0 := e35
     unfold out_CheckR_1_0 at e35_0
     exact ⟨_,_,zl2x18,rfl,rfl⟩
    have e37_0 := e37
    unfold out_CheckR_1_1 at e37_0
    exact ⟨0,0,zl2x18,rfl,rfl⟩
   apply bS <;> intro _
   ·refine ⟨tN,c_AltsR (by first | (refine ⟨⟨tA,tA,tA,tA⟩,?_⟩; exact (shape18 (show shapeN x0 x5 x6 x11 from by with_reducible assumption) tA).1) | exact tP),fun _ p40=>?_⟩
    obtain ⟨_,_,_,_⟩ := p40
    refine ⟨k_CheckR_0 zl2x17,fun e41=>?_,fun _ e43=>?_⟩
    ·have e41_0 := e41
     unfold out_CheckR_0_0 at e41_0
     exact ⟨_,_,zl2x18,rfl,rfl⟩
    have e43_0 := e43
    unfold out_CheckR_0_1 at e43_0
    refine ⟨k_CheckR_1 ih_CheckR zl2x17,fun _ _ e46=>?_,fun _ e48=>?_⟩
    ·have e46_0 := e46
     unfold out_CheckR_1_0 at e46_0
     exact ⟨_,_,zl2x18,rfl,rfl⟩
    have e48_0 := e48
    unfold out_CheckR_1_1 at e48_0
    exact ⟨0,0,zl2x18,rfl,rfl⟩
   refine ⟨k_CheckR_1 ih_CheckR zl2x17,fun _ _ e51=>?_,fun _ e53=>?_⟩
   ·have e51_0 := e51
    unfold out_CheckR_1_0 at e51_0
    exact ⟨_,_,zl2x18,rfl,rfl⟩
   have e53_0 := e53
   unfold out_CheckR_1_1 at e53_0
   exact ⟨0,0,zl2x18,rfl,rfl⟩
  refine ⟨k_CheckR_1 ih_CheckR zl2x17,fun _ _ e56=>?_,fun _ e58=>?_⟩
  ·have e56_0 := e56
   unfold out_CheckR_1_0 at e56_0
   exact ⟨_,_,zl2x18,rfl,rfl⟩
  have e58_0 := e58
  unfold out_CheckR_1_1 at e58_0
  exact ⟨0,0,zl2x18,rfl,rfl⟩)
 exact ⟨_,_,hq,ha⟩
theorem r_CheckR : ∀ b,IH_CheckR b
 | 0=>fun hr _=>absurd hr (Nat.not_lt_zero _)
 | b + 1=>fun hr hp=>i_CheckR (fun hr' hp'=>r_CheckR b (by omega) hp') hp
theorem c_CheckR {x0 x1 x2 x3 x4 x5 x6 x7 x8 x9 x10 x11 x12 x13 x14 x15 x16 x17 x18 x19 x20 x21 x22 x23} (hp : pre_CheckR x0 x1 x2 x3 x4 x5 x6 x7 x8 x9 x10 x11 x12 x13 x14 x15 x16 x17 x18 x19 x20 x21 x22 x23) : E_CheckR x0 x1 x2 x3 x4 x5 x6 x7 x8 x9 x10 x11 x12 x13 x14 x15 x16 x17 x18 x19 x20 x21 x22 x23 := r_CheckR (rank_CheckR x0 x1 x2 x3 x4 x5 x6 x7 x8 x9 x10 x11 x12 x13 x14 x15 x16 x17 x18 x19 x20 x21 x22 x23 + 1) (Nat.lt_succ_self _) hp
abbrev E_WidthsChecks (x0 : List AV) (x1 : Int) : Prop := ∃ x2,post_WidthsChecks x0 x1 x2 ∧ A 3 [(.sl 1 x0),(iv x1)] [] (bv x2) []
abbrev j_WidthsChecks (nn : Nat) (x0 : List AV) (x1 : Int) (kK : Bool → HC) : HC := ⟨.ev nn (.ask (eB fun x2=>.done (.res (bv x2) [] (post_WidthsChecks x0 x1 x2)) ((kK x2).h))),E_WidthsChecks x0 x1 ∧ (∀ x2,post_WidthsChecks x0 x1 x2 → (kK x2).p)⟩
abbrev t_WidthsChecks (x0 : List AV) (x1 : Int) (Q : AV → HH → Prop) : HC := (j_awake 1 fun x2=>(dd 1 ((!x2)) (qq 1 Q (bv false)) (oo 0 ((npL [(.sl 1 x0),(iv x1)])) (j_resolved 0 x0 x1 fun x3 x4 x5 x6 x7 x8 x9 x10 x11 x12 x13 x14 x15=>(dd 1 ((!x15)) (qq 1 Q (bv true)) (oo 0 ((npL [(.agg (nR x3 x4 x5 x6 x7 x8 x9 x10 x11 x12 x13 x14))])) (j_CheckP 0 x3 x4 x5 x6 x7 x8 x9 x10 x11 x12 x13 x14 fun x16 x17=>(oo 0 ((npL [(.agg (nR x3 x4 x5 x6 x7 x8 x9 x10 x11 x12 x13 x14)),(.agg (nR x3 x4 x5 x6 x7 x8 x9 x10 x11 x12 x13 x14))])) (j_CheckR 0 x3 x4 x5 x6 x7 x8 x9 x10 x11 x12 x13 x14 x3 x4 x5 x6 x7 x8 x9 x10 x11 x12 x13 x14 fun x18 x19=>(dd 1 ((x16 == x18)) (qq 5 Q (bv (x17 == x19))) (qq 4 Q (bv false))))))))))))
theorem w_WidthsChecks (x0 x1) (Q : AV → HH → Prop) (h : (t_WidthsChecks x0 x1 Q).p) : ∃ r H',A 3 [(.sl 1 x0),(iv x1)] [] r H' ∧ Q r H' :=
 Ans.wq rfl (t_WidthsChecks x0 x1 Q).h (by kernel_rfl) h
theorem c_WidthsChecks {x0 x1} (hp : pre_WidthsChecks x0 x1) : E_WidthsChecks x0 x1 := by
 obtain ⟨_,_,ha,_,hq,rfl,rfl⟩ := w_WidthsChecks x0 x1 (fun r H'=>∃ x2,post_WidthsChecks x0 x1 x2 ∧ r = (bv x2) ∧ H' = []) (by
  obtain ⟨_,_⟩ := hp
  refine ⟨c_awake tP,fun _ p4=>?_⟩
  unfold post_awake at p4
  apply bS <;> intro _
  ·exact ⟨_,zl2x19,rfl,rfl⟩
  refine ⟨tN,c_resolved tP,fun _ _ _ _ _ _ _ _ _ _ _ _ _ p19=>?_⟩
  unfold post_resolved at p19
  apply bS <;> intro h20
  ·exact ⟨_,zl2x19,rfl,rfl⟩
  obtain ⟨⟨p19c_0,p19c_1,p19c_2,p19c_3⟩,p19c_4⟩ := p19 h20
  refine ⟨tN,c_CheckP tP,fun _ _ p23=>?_⟩
  unfold post_CheckP at p23
  refine ⟨tN,c_CheckR tP,fun _ _ p26=>?_⟩
  unfold post_CheckR at p26
  apply bS <;> intro _
  ·exact ⟨_,zl2x19,rfl,rfl⟩
  exact ⟨_,zl2x19,rfl,rfl⟩)
 exact ⟨_,hq,ha⟩
end
end Go.Proofs.YtcjcdammcmjbnaaGreat.U
