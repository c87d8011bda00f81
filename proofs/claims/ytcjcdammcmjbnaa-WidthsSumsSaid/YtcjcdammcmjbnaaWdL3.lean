/- Blocks: walks of the program's functions, each told by what is asked and what comes back; they hold as they stand. -/
import Derived.Test.YtcjcdammcmjbnaaWidO
import Derived.Test.YtcjcdammcmjbnaaWdL2
namespace Go.Proofs.Ytcjcdammcmjbnaa.U
open Go Go.Vai
set_option linter.unusedVariables false
set_option linter.unusedSimpArgs false
set_option maxRecDepth 100000
set_option maxHeartbeats 8000000
attribute [local irreducible] IntKind.wrap Rs Is Bs Ws Ts Ns Nf kindOf shapeN nszL
noncomputable section
theorem zl3x0 {p : Prop} (h : p := by first | (refine ⟨⟨tP,tP,tP,sh20 (tmod9 (by omega)) rfl⟩,tP,⟨tP,tP,tP,sh20 (tmod9 (by omega)) rfl⟩,tP⟩) | exact tP) : p := h
theorem zl3x1 {p : Prop} (h : p := by first | rfl | (have ps := (show (_,_) = widV _ (.agg (nR 12 _ _ _ _ _ _ _ _ _ _ [_,_])) from by with_reducible assumption); have pt := (show (_,_) = widV _ (.agg (nR 13 _ _ _ _ _ _ _ _ _ _ [_,_])) from by with_reducible assumption); have pu := (show (_,_) = widV _ (.agg (nR 20 _ _ _ _ _ _ _ _ _ _ [_])) from by with_reducible assumption); obtain ⟨s1,s2,s3⟩ := sum_S (NV.of ⟨tA,tA,tA,tA⟩) (NV.of ⟨tA,tA,tA,tA⟩) (Eq.trans (Eq.symm tA) tA) (Eq.trans (Eq.symm tA) tA) (Eq.trans (Eq.symm tA) tA) (Eq.trans (Eq.symm tA) tA) tA tA ⟨by omega,by omega,by omega,by omega⟩ ⟨by omega,by omega,by omega,by omega⟩ ps;  obtain ⟨t1,t3,t4⟩ := sum_T (NV.of ⟨tA,tA,tA,tA⟩) (NV.of ⟨tA,tA,tA,tA⟩) (Eq.trans (Eq.symm tA) tA) (Eq.trans (Eq.symm tA) tA) (Eq.trans (Eq.symm tA) tA) (Eq.trans (Eq.symm tA) tA) tA tA pt;  obtain ⟨u1,u2,u3,u4,u6⟩ := sum_U (NV.of ⟨tA,tA,tA,tA⟩) (Eq.trans (Eq.symm tA) tA) (Eq.trans (Eq.symm tA) tA) tA ⟨by omega,by omega,by omega,by omega⟩ (tmod9 (by omega)) pu; (first | (have u5 := u2 (by omega); clear u2 u3 u4) | (have u5 := u3 (by omega) (by omega); clear u2 u3 u4) | (have u5 := u4 (by omega) (by omega); clear u2 u3 u4)); first | (exfalso; omega) | exact beq_iff_eq.2 (by omega) | exact decide_eq_true (by omega)) | (exfalso; exact Bool.noConfusion (Eq.trans (Eq.symm (show post_awake _ from by with_reducible assumption)) (by with_reducible assumption)))) : p := h
abbrev E_WidthsSums (x0 x1 : List AV) (x2 : Int) : Prop := ∃ x3,post_WidthsSums x0 x1 x2 x3 ∧ A 4 [(.sl 1 x0),(.sl 1 x1),(iv x2)] [] (bv x3) []
abbrev j_WidthsSums (nn : Nat) (x0 x1 : List AV) (x2 : Int) (kK : Bool → HC) : HC := ⟨.ev nn (.ask (eB fun x3=>.done (.res (bv x3) [] (post_WidthsSums x0 x1 x2 x3)) ((kK x3).h))),E_WidthsSums x0 x1 x2 ∧ (∀ x3,post_WidthsSums x0 x1 x2 x3 → (kK x3).p)⟩
abbrev t_WidthsSums (x0 x1 : List AV) (x2 : Int) (Q : AV → HH → Prop) : HC := (j_awake 1 fun x3=>(dd 1 ((!x3)) (qq 1 Q (bv false)) (oo 0 ((npL [(.sl 1 x0),(iv 0)])) (j_resolved 0 x0 0 fun x4 x5 x6 x7 x8 x9 x10 x11 x12 x13 x14 x15 x16=>(oo 0 ((npL [(.sl 1 x1),(iv 0)])) (j_resolved 0 x1 0 fun x17 x18 x19 x20 x21 x22 x23 x24 x25 x26 x27 x28 x29=>(dd 1 ((!x16)) (qq 10 Q (bv true)) (dd 3 ((!x29)) (qq 7 Q (bv true)) (oo 1 ((npL [(.agg (nR x4 x5 x6 x7 x8 x9 x10 x11 x12 x13 x14 x15))])) (j_callsS 0 x4 x5 x6 x7 x8 x9 x10 x11 x12 x13 x14 x15 fun x30=>(dd 1 x30 (qq 4 Q (bv true)) (oo 1 ((npL [(.agg (nR x17 x18 x19 x20 x21 x22 x23 x24 x25 x26 x27 x28))])) (j_callsS 0 x17 x18 x19 x20 x21 x22 x23 x24 x25 x26 x27 x28 fun x31=>(dd 1 x31 (qq 1 Q (bv true)) (dd 1 ((decide (x2 < 0))) (oo 3 ((npL [(.agg (nR x4 x5 x6 x7 x8 x9 x10 x11 x12 x13 x14 x15)),(.agg (nR x4 x5 x6 x7 x8 x9 x10 x11 x12 x13 x14 x15))])) (j_WidthP 0 x4 x5 x6 x7 x8 x9 x10 x11 x12 x13 x14 x15 x4 x5 x6 x7 x8 x9 x10 x11 x12 x13 x14 x15 fun x32 x33=>(oo 0 ((npL [(.agg (nR x17 x18 x19 x20 x21 x22 x23 x24 x25 x26 x27 x28)),(.agg (nR x17 x18 x19 x20 x21 x22 x23 x24 x25 x26 x27 x28))])) (j_WidthP 0 x17 x18 x19 x20 x21 x22 x23 x24 x25 x26 x27 x28 x17 x18 x19 x20 x21 x22 x23 x24 x25 x26 x27 x28 fun x34 x35=>(dd 1 ((decide (x32 > 100))) (qq 16 Q (bv true)) (dd 3 ((decide (x33 > 100))) (qq 13 Q (bv true)) (dd 3 ((decide (x34 > 100))) (qq 10 Q (bv true)) (dd 3 ((decide (x35 > 100))) (qq 7 Q (bv true)) (oo 1 ((npL [(.agg (nR x4 x5 x6 x7 x8 x9 x10 x11 x12 x13 x14 x15))])) (j_accR 0 x4 x5 x6 x7 x8 x9 x10 x11 x12 x13 x14 x15 fun x36=>(dd 1 x36 (qq 4 Q (bv true)) (oo 1 ((npL [(.agg (nR x17 x18 x19 x20 x21 x22 x23 x24 x25 x26 x27 x28))])) (j_accR 0 x17 x18 x19 x20 x21 x22 x23 x24 x25 x26 x27 x28 fun x37=>(dd 1 x37 (qq 1 Q (bv true)) (oo 0 ((npL [(.agg (nR 12 0 0 [] false 0 0 0 (bs []) 0 0 [(.agg (nR x4 x5 x6 x7 x8 x9 x10 x11 x12 x13 x14 x15)),(.agg (nR x17 x18 x19 x20 x21 x22 x23 x24 x25 x26 x27 x28))])),(.agg (nR 12 0 0 [] false 0 0 0 (bs []) 0 0 [(.agg (nR x4 x5 x6 x7 x8 x9 x10 x11 x12 x13 x14 x15)),(.agg (nR x17 x18 x19 x20 x21 x22 x23 x24 x25 x26 x27 x28))]))])) (j_WidthP 0 12 0 0 [] false 0 0 0 (bs []) 0 0 [(.agg (nR x4 x5 x6 x7 x8 x9 x10 x11 x12 x13 x14 x15)),(.agg (nR x17 x18 x19 x20 x21 x22 x23 x24 x25 x26 x27 x28))] 12 0 0 [] false 0 0 0 (bs []) 0 0 [(.agg (nR x4 x5 x6 x7 x8 x9 x10 x11 x12 x13 x14 x15)),(.agg (nR x17 x18 x19 x20 x21 x22 x23 x24 x25 x26 x27 x28))] fun x38 x39=>(oo 0 ((npL [(.agg (nR 13 0 0 [] false 0 0 0 (bs []) 0 0 [(.agg (nR x4 x5 x6 x7 x8 x9 x10 x11 x12 x13 x14 x15)),(.agg (nR x17 x18 x19 x20 x21 x22 x23 x24 x25 x26 x27 x28))])),(.agg (nR 13 0 0 [] false 0 0 0 (bs []) 0 0 [(.agg (nR x4 x5 x6 x7 x8 x9 x10 x11 x12 x13 x14 x15)),(.agg (nR x17 x18 x19 x20 x21 x22 x23 x24 x25 x26 x27 x28))]))])) (j_WidthP 0 13 0 0 [] false 0 0 0 (bs []) 0 0 [(.agg (nR x4 x5 x6 x7 x8 x9 x10 x11 x12 x13 x14 x15)),(.agg (nR x17 x18 x19 x20 x21 x22 x23 x24 x25 x26 x27 x28))] 13 0 0 [] false 0 0 0 (bs []) 0 0 [(.agg (nR x4 x5 x6 x7 x8 x9 x10 x11 x12 x13 x14 x15)),(.agg (nR x17 x18 x19 x20 x21 x22 x23 x24 x25 x26 x27 x28))] fun x40 x41=>(oo 0 ((npL [(.agg (nR 20 0 0 [] false ((w6 (0 - w6 (x2 + 1))).tmod 9) ((w6 (0 - w6 (x2 + 1))).tmod 9) 0 (bs []) 0 0 [(.agg (nR x4 x5 x6 x7 x8 x9 x10 x11 x12 x13 x14 x15))])),(.agg (nR 20 0 0 [] false ((w6 (0 - w6 (x2 + 1))).tmod 9) ((w6 (0 - w6 (x2 + 1))).tmod 9) 0 (bs []) 0 0 [(.agg (nR x4 x5 x6 x7 x8 x9 x10 x11 x12 x13 x14 x15))]))])) (j_WidthP 0 20 0 0 [] false ((w6 (0 - w6 (x2 + 1))).tmod 9) ((w6 (0 - w6 (x2 + 1))).tmod 9) 0 (bs []) 0 0 [(.agg (nR x4 x5 x6 x7 x8 x9 x10 x11 x12 x13 x14 x15))] 20 0 0 [] false ((w6 (0 - w6 (x2 + 1))).tmod 9) ((w6 (0 - w6 (x2 + 1))).tmod 9) 0 (bs []) 0 0 [(.agg (nR x4 x5 x6 x7 x8 x9 x10 x11 x12 x13 x14 x15))] fun x42 x43=>(dd 4 ((decide (x33 < 0))) (oo 4 ((decide (x33 < 0))) (dd 3 ((decide ((w6 (0 - w6 (x2 + 1))).tmod 9 > 0))) (dd 1 (((w6 (0 - w6 (x2 + 1))).tmod 9 == 0)) (dd 2 ((x38 == w6 (x32 + x34))) (dd 4 ((x39 == -1)) (dd 7 ((x40 == if x34 < x32 then x34 else x32)) (dd 4 ((x41 == -1)) (dd 7 ((x42 == w6 (x32 * (w6 (0 - w6 (x2 + 1))).tmod 9))) (qq 5 Q (bv (x43 == 0))) (qq 4 Q (bv false))) (qq 10 Q (bv false))) (qq 14 Q (bv false))) (qq 20 Q (bv false))) (qq 24 Q (bv false))) (dd 2 ((x38 == w6 (x32 + x34))) (dd 4 ((x39 == -1)) (dd 7 ((x40 == if x34 < x32 then x34 else x32)) (dd 4 ((x41 == -1)) (dd 7 ((x42 == w6 (x32 * (w6 (0 - w6 (x2 + 1))).tmod 9))) (qq 5 Q (bv (x43 == -1))) (qq 4 Q (bv false))) (qq 10 Q (bv false))) (qq 14 Q (bv false))) (qq 20 Q (bv false))) (qq 24 Q (bv false)))) (dd 1 (((w6 (0 - w6 (x2 + 1))).tmod 9 == 0)) (dd 2 ((x38 == w6 (x32 + x34))) (dd 4 ((x39 == -1)) (dd 7 ((x40 == if x34 < x32 then x34 else x32)) (dd 4 ((x41 == -1)) (dd 7 ((x42 == w6 (x32 * (w6 (0 - w6 (x2 + 1))).tmod 9))) (qq 5 Q (bv (x43 == 0))) (qq 4 Q (bv false))) (qq 10 Q (bv false))) (qq 14 Q (bv false))) (qq 20 Q (bv false))) (qq 24 Q (bv false))) (dd 2 ((x38 == w6 (x32 + x34))) (dd 4 ((x39 == -1)) (dd 7 ((x40 == if x34 < x32 then x34 else x32)) (dd 4 ((x41 == -1)) (dd 7 ((x42 == w6 (x32 * (w6 (0 - w6 (x2 + 1))).tmod 9))) (qq 5 Q (bv (x43 == w6 (x33 * (w6 (0 - w6 (x2 + 1))).tmod 9)))) (qq 4 Q (bv false))) (qq 10 Q (bv false))) (qq 14 Q (bv false))) (qq 20 Q (bv false))) (qq 24 Q (bv false)))))) (dd 3 ((decide (x35 < 0))) (nn 1 ((decide (x33 < 0))) (dd 4 (((w6 (0 - w6 (x2 + 1))).tmod 9 == 0)) (dd 2 ((x38 == w6 (x32 + x34))) (dd 4 ((x39 == -1)) (dd 7 ((x40 == if x34 < x32 then x34 else x32)) (dd 4 ((x41 == -1)) (dd 7 ((x42 == w6 (x32 * (w6 (0 - w6 (x2 + 1))).tmod 9))) (qq 5 Q (bv (x43 == 0))) (qq 4 Q (bv false))) (qq 10 Q (bv false))) (qq 14 Q (bv false))) (qq 20 Q (bv false))) (qq 24 Q (bv false))) (dd 2 ((x38 == w6 (x32 + x34))) (dd 4 ((x39 == -1)) (dd 7 ((x40 == if x34 < x32 then x34 else x32)) (dd 4 ((x41 == -1)) (dd 7 ((x42 == w6 (x32 * (w6 (0 - w6 (x2 + 1))).tmod 9))) (qq 5 Q (bv (x43 == w6 (x33 * (w6 (0 - w6 (x2 + 1))).tmod 9)))) (qq 4 Q (bv false))) (qq 10 Q (bv false))) (qq 14 Q (bv false))) (qq 20 Q (bv false))) (qq 24 Q (bv false))))) (nn 1 ((decide (x33 < 0))) (dd 4 (((w6 (0 - w6 (x2 + 1))).tmod 9 == 0)) (dd 2 ((x38 == w6 (x32 + x34))) (dd 4 ((x39 == w6 (x33 + x35))) (dd 7 ((x40 == if x34 < x32 then x34 else x32)) (dd 4 ((x41 == if x35 > x33 then x35 else x33)) (dd 7 ((x42 == w6 (x32 * (w6 (0 - w6 (x2 + 1))).tmod 9))) (qq 5 Q (bv (x43 == 0))) (qq 4 Q (bv false))) (qq 10 Q (bv false))) (qq 14 Q (bv false))) (qq 20 Q (bv false))) (qq 24 Q (bv false))) (dd 2 ((x38 == w6 (x32 + x34))) (dd 4 ((x39 == w6 (x33 + x35))) (dd 7 ((x40 == if x34 < x32 then x34 else x32)) (dd 4 ((x41 == if x35 > x33 then x35 else x33)) (dd 7 ((x42 == w6 (x32 * (w6 (0 - w6 (x2 + 1))).tmod 9))) (qq 5 Q (bv (x43 == w6 (x33 * (w6 (0 - w6 (x2 + 1))).tmod 9)))) (qq 4 Q (bv false))) (qq 10 Q (bv false))) (qq 14 Q (bv false))) (qq 20 Q (bv false))) (qq 24 Q (bv false))))))))))))))))))))))))))) (oo 1 ((npL [(.agg (nR x4 x5 x6 x7 x8 x9 x10 x11 x12 x13 x14 x15)),(.agg (nR x4 x5 x6 x7 x8 x9 x10 x11 x12 x13 x14 x15))])) (j_WidthP 0 x4 x5 x6 x7 x8 x9 x10 x11 x12 x13 x14 x15 x4 x5 x6 x7 x8 x9 x10 x11 x12 x13 x14 x15 fun x44 x45=>(oo 0 ((npL [(.agg (nR x17 x18 x19 x20 x21 x22 x23 x24 x25 x26 x27 x28)),(.agg (nR x17 x18 x19 x20 x21 x22 x23 x24 x25 x26 x27 x28))])) (j_WidthP 0 x17 x18 x19 x20 x21 x22 x23 x24 x25 x26 x27 x28 x17 x18 x19 x20 x21 x22 x23 x24 x25 x26 x27 x28 fun x46 x47=>(dd 1 ((decide (x44 > 100))) (qq 16 Q (bv true)) (dd 3 ((decide (x45 > 100))) (qq 13 Q (bv true)) (dd 3 ((decide (x46 > 100))) (qq 10 Q (bv true)) (dd 3 ((decide (x47 > 100))) (qq 7 Q (bv true)) (oo 1 ((npL [(.agg (nR x4 x5 x6 x7 x8 x9 x10 x11 x12 x13 x14 x15))])) (j_accR 0 x4 x5 x6 x7 x8 x9 x10 x11 x12 x13 x14 x15 fun x48=>(dd 1 x48 (qq 4 Q (bv true)) (oo 1 ((npL [(.agg (nR x17 x18 x19 x20 x21 x22 x23 x24 x25 x26 x27 x28))])) (j_accR 0 x17 x18 x19 x20 x21 x22 x23 x24 x25 x26 x27 x28 fun x49=>(dd 1 x49 (qq 1 Q (bv true)) (oo 0 ((npL [(.agg (nR 12 0 0 [] false 0 0 0 (bs []) 0 0 [(.agg (nR x4 x5 x6 x7 x8 x9 x10 x11 x12 x13 x14 x15)),(.agg (nR x17 x18 x19 x20 x21 x22 x23 x24 x25 x26 x27 x28))])),(.agg (nR 12 0 0 [] false 0 0 0 (bs []) 0 0 [(.agg (nR x4 x5 x6 x7 x8 x9 x10 x11 x12 x13 x14 x15)),(.agg (nR x17 x18 x19 x20 x21 x22 x23 x24 x25 x26 x27 x28))]))])) (j_WidthP 0 12 0 0 [] false 0 0 0 (bs []) 0 0 [(.agg (nR x4 x5 x6 x7 x8 x9 x10 x11 x12 x13 x14 x15)),(.agg (nR x17 x18 x19 x20 x21 x22 x23 x24 x25 x26 x27 x28))] 12 0 0 [] false 0 0 0 (bs []) 0 0 [(.agg (nR x4 x5 x6 x7 x8 x9 x10 x11 x12 x13 x14 x15)),(.agg (nR x17 x18 x19 x20 x21 x22 x23 x24 x25 x26 x27 x28))] fun x50 x51=>(oo 0 ((npL [(.agg (nR 13 0 0 [] false 0 0 0 (bs []) 0 0 [(.agg (nR x4 x5 x6 x7 x8 x9 x10 x11 x12 x13 x14 x15)),(.agg (nR x17 x18 x19 x20 x21 x22 x23 x24 x25 x26 x27 x28))])),(.agg (nR 13 0 0 [] false 0 0 0 (bs []) 0 0 [(.agg (nR x4 x5 x6 x7 x8 x9 x10 x11 x12 x13 x14 x15)),(.agg (nR x17 x18 x19 x20 x21 x22 x23 x24 x25 x26 x27 x28))]))])) (j_WidthP 0 13 0 0 [] false 0 0 0 (bs []) 0 0 [(.agg (nR x4 x5 x6 x7 x8 x9 x10 x11 x12 x13 x14 x15)),(.agg (nR x17 x18 x19 x20 x21 x22 x23 x24 x25 x26 x27 x28))] 13 0 0 [] false 0 0 0 (bs []) 0 0 [(.agg (nR x4 x5 x6 x7 x8 x9 x10 x11 x12 x13 x14 x15)),(.agg (nR x17 x18 x19 x20 x21 x22 x23 x24 x25 x26 x27 x28))] fun x52 x53=>(oo 0 ((npL [(.agg (nR 20 0 0 [] false (x2.tmod 9) (x2.tmod 9) 0 (bs []) 0 0 [(.agg (nR x4 x5 x6 x7 x8 x9 x10 x11 x12 x13 x14 x15))])),(.agg (nR 20 0 0 [] false (x2.tmod 9) (x2.tmod 9) 0 (bs []) 0 0 [(.agg (nR x4 x5 x6 x7 x8 x9 x10 x11 x12 x13 x14 x15))]))])) (j_WidthP 0 20 0 0 [] false (x2.tmod 9) (x2.tmod 9) 0 (bs []) 0 0 [(.agg (nR x4 x5 x6 x7 x8 x9 x10 x11 x12 x13 x14 x15))] 20 0 0 [] false (x2.tmod 9) (x2.tmod 9) 0 (bs []) 0 0 [(.agg (nR x4 x5 x6 x7 x8 x9 x10 x11 x12 x13 x14 x15))] fun x54 x55=>(dd 4 ((decide (x45 < 0))) (oo 4 ((decide (x45 < 0))) (dd 3 ((decide (x2.tmod 9 > 0))) (dd 1 ((x2.tmod 9 == 0)) (dd 2 ((x50 == w6 (x44 + x46))) (dd 4 ((x51 == -1)) (dd 7 ((x52 == if x46 < x44 then x46 else x44)) (dd 4 ((x53 == -1)) (dd 7 ((x54 == w6 (x44 * x2.tmod 9))) (qq 5 Q (bv (x55 == 0))) (qq 4 Q (bv false))) (qq 10 Q (bv false))) (qq 14 Q (bv false))) (qq 20 Q (bv false))) (qq 24 Q (bv false))) (dd 2 ((x50 == w6 (x44 + x46))) (dd 4 ((x51 == -1)) (dd 7 ((x52 == if x46 < x44 then x46 else x44)) (dd 4 ((x53 == -1)) (dd 7 ((x54 == w6 (x44 * x2.tmod 9))) (qq 5 Q (bv (x55 == -1))) (qq 4 Q (bv false))) (qq 10 Q (bv false))) (qq 14 Q (bv false))) (qq 20 Q (bv false))) (qq 24 Q (bv false)))) (dd 1 ((x2.tmod 9 == 0)) (dd 2 ((x50 == w6 (x44 + x46))) (dd 4 ((x51 == -1)) (dd 7 ((x52 == if x46 < x44 then x46 else x44)) (dd 4 ((x53 == -1)) (dd 7 ((x54 == w6 (x44 * x2.tmod 9))) (qq 5 Q (bv (x55 == 0))) (qq 4 Q (bv false))) (qq 10 Q (bv false))) (qq 14 Q (bv false))) (qq 20 Q (bv false))) (qq 24 Q (bv false))) (dd 2 ((x50 == w6 (x44 + x46))) (dd 4 ((x51 == -1)) (dd 7 ((x52 == if x46 < x44 then x46 else x44)) (dd 4 ((x53 == -1)) (dd 7 ((x54 == w6 (x44 * x2.tmod 9))) (qq 5 Q (bv (x55 == w6 (x45 * x2.tmod 9)))) (qq 4 Q (bv false))) (qq 10 Q (bv false))) (qq 14 Q (bv false))) (qq 20 Q (bv false))) (qq 24 Q (bv false)))))) (dd 3 ((decide (x47 < 0))) (nn 1 ((decide (x45 < 0))) (dd 4 ((x2.tmod 9 == 0)) (dd 2 ((x50 == w6 (x44 + x46))) (dd 4 ((x51 == -1)) (dd 7 ((x52 == if x46 < x44 then x46 else x44)) (dd 4 ((x53 == -1)) (dd 7 ((x54 == w6 (x44 * x2.tmod 9))) (qq 5 Q (bv (x55 == 0))) (qq 4 Q (bv false))) (qq 10 Q (bv false))) (qq 14 Q (bv false))) (qq 20 Q (bv false))) (qq 24 Q (bv false))) (dd 2 ((x50 == w6 (x44 + x46))) (dd 4 ((x51 == -1)) (dd 7 ((x52 == if x46 < x44 then x46 else x44)) (dd 4 ((x53 == -1)) (dd 7 ((x54 == w6 (x44 * x2.tmod 9))) (qq 5 Q (bv (x55 == w6 (x45 * x2.tmod 9)))) (qq 4 Q (bv false))) (qq 10 Q (bv false))) (qq 14 Q (bv false))) (qq 20 Q (bv false))) (qq 24 Q (bv false))))) (nn 1 ((decide (x45 < 0))) (dd 4 ((x2.tmod 9 == 0)) (dd 2 ((x50 == w6 (x44 + x46))) (dd 4 ((x51 == w6 (x45 + x47))) (dd 7 ((x52 == if x46 < x44 then x46 else x44)) (dd 4 ((x53 == if x47 > x45 then x47 else x45)) (dd 7 ((x54 == w6 (x44 * x2.tmod 9))) (qq 5 Q (bv (x55 == 0))) (qq 4 Q (bv false))) (qq 10 Q (bv false))) (qq 14 Q (bv false))) (qq 20 Q (bv false))) (qq 24 Q (bv false))) (dd 2 ((x50 == w6 (x44 + x46))) (dd 4 ((x51 == w6 (x45 + x47))) (dd 7 ((x52 == if x46 < x44 then x46 else x44)) (dd 4 ((x53 == if x47 > x45 then x47 else x45)) (dd 7 ((x54 == w6 (x44 * x2.tmod 9))) (qq 5 Q (bv (x55 == w6 (x45 * x2.tmod 9)))) (qq 4 Q (bv false))) (qq 10 Q (bv false))) (qq 14 Q (bv false))) (qq 20 Q (bv false))) (qq 24 Q (bv false))))))))))))))))))))))))))))))))))))))))))
theorem w_WidthsSums (x0 x1 x2) (Q : AV → HH → Prop) (h : (t_WidthsSums x0 x1 x2 Q).p) : ∃ r H',A 4 [(.sl 1 x0),(.sl 1 x1),(iv x2)] [] r H' ∧ Q r H' :=
 Ans.wq rfl (t_WidthsSums x0 x1 x2 Q).h (by kernel_rfl) h
theorem c_WidthsSums {x0 x1 x2} (hp : pre_WidthsSums x0 x1 x2) : E_WidthsSums x0 x1 x2 := by
 obtain ⟨_,_,ha,_,hq,rfl,rfl⟩ := w_WidthsSums x0 x1 x2 (fun r H'=>∃ x3,post_WidthsSums x0 x1 x2 x3 ∧ r = (bv x3) ∧ H' = []) (by
  obtain ⟨_,_,_,_,_,_⟩ := hp
  refine ⟨c_awake zl3x0,fun _ p5=>?_⟩
  unfold post_awake at p5
  apply bS <;> intro _
  ·exact ⟨_,zl3x1,rfl,rfl⟩
  refine ⟨tN,c_resolved zl3x0,fun _ _ _ _ _ _ _ _ _ _ _ _ _ p20=>?_⟩
  unfold post_resolved at p20
  refine ⟨tN,c_resolved zl3x0,fun _ _ _ _ _ _ _ _ _ _ _ _ _ p34=>?_⟩
  unfold post_resolved at p34
  apply bS <;> intro h35
  ·exact ⟨_,zl3x1,rfl,rfl⟩
  obtain ⟨⟨p20c_0,p20c_1,p20c_2,p20c_3⟩,p20c_4⟩ := p20 h35
  apply bS <;> intro h36
  ·exact ⟨_,zl3x1,rfl,rfl⟩
  obtain ⟨⟨p34c_0,p34c_1,p34c_2,p34c_3⟩,p34c_4⟩ := p34 h36
  refine ⟨tN,c_callsS zl3x0,fun _ p38=>?_⟩
  unfold post_callsS at p38
  apply bS <;> intro _
  ·exact ⟨_,zl3x1,rfl,rfl⟩
  refine ⟨tN,c_callsS zl3x0,fun _ p41=>?_⟩
  unfold post_callsS at p41
  apply bS <;> intro _
  ·exact ⟨_,zl3x1,rfl,rfl⟩
  apply bS <;> intro _
  ·refine ⟨tN,c_WidthP zl3x0,fun x44 x45 p46=>?_⟩
   obtain ⟨_,_,_,_⟩ := p46
   refine ⟨tN,c_WidthP zl3x0,fun x47 x48 p49=>?_⟩
   obtain ⟨_,_,_,_⟩ := p49
   apply bS <;> intro _
   ·exact ⟨_,zl3x1,rfl,rfl⟩
   apply bS <;> intro _
   ·exact ⟨_,zl3x1,rfl,rfl⟩
   apply bS <;> intro _
   ·exact ⟨_,zl3x1,rfl,rfl⟩
   apply bS <;> intro _
   ·exact ⟨_,zl3x1,rfl,rfl⟩
   refine ⟨tN,c_accR zl3x0,fun _ p55=>?_⟩
   unfold post_accR at p55
   apply bS <;> intro _
   ·exact ⟨_,zl3x1,rfl,rfl⟩
   refine ⟨tN,c_accR zl3x0,fun _ p58=>?_⟩
   unfold post_accR at p58
   apply bS <;> intro _
   ·exact ⟨_,zl3x1,rfl,rfl⟩
   refine ⟨tN,c_WidthP zl3x0,fun _ _ p62=>?_⟩
   obtain ⟨_,_,_,_⟩ := p62
   refine ⟨tN,c_WidthP zl3x0,fun _ _ p65=>?_⟩
   obtain ⟨_,_,_,_⟩ := p65
   try have := tW (x2 + 1)
   try have := tW (0 - w6 (x2 + 1))
   refine ⟨tN,c_WidthP zl3x0,fun _ _ p68=>?_⟩
   obtain ⟨_,_,_,_⟩ := p68
   apply bS <;> intro _
   ·refine ⟨tD,?_⟩
    apply bS <;> intro _
    ·apply bS <;> intro _
     ·try have := tW (x44 + x47)
      apply bS <;> intro _
      ·apply bS <;> intro _
       ·apply bS <;> intro _
        ·apply bS <;> intro _
         ·try have := tW (x44 * (w6 (0 - w6 (x2 + 1))).tmod 9)
          apply bS <;> intro _
          ·exact ⟨_,zl3x1,rfl,rfl⟩
          exact ⟨_,zl3x1,rfl,rfl⟩
         exact ⟨_,zl3x1,rfl,rfl⟩
        exact ⟨_,zl3x1,rfl,rfl⟩
       exact ⟨_,zl3x1,rfl,rfl⟩
      exact ⟨_,zl3x1,rfl,rfl⟩
     try have := tW (x44 + x47)
     apply bS <;> intro _
     ·apply bS <;> intro _
      ·apply bS <;> intro _
       ·apply bS <;> intro _
        ·try have := tW (x44 * (w6 (0 - w6 (x2 + 1))).tmod 9)
         apply bS <;> intro _
         ·exact ⟨_,zl3x1,rfl,rfl⟩
         exact ⟨_,zl3x1,rfl,rfl⟩
        exact ⟨_,zl3x1,rfl,rfl⟩
       exact ⟨_,zl3x1,rfl,rfl⟩
      exact ⟨_,zl3x1,rfl,rfl⟩
     exact ⟨_,zl3x1,rfl,rfl⟩
    apply bS <;> intro _
    ·try have := tW (x44 + x47)
     apply bS <;> intro _
     ·apply bS <;> intro _
      ·apply bS <;> intro _
       ·apply bS <;> intro _
        ·try have := tW (x44 * (w6 (0 - w6 (x2 + 1))).tmod 9)
         apply bS <;> intro _
         ·exact ⟨_,zl3x1,rfl,rfl⟩
         exact ⟨_,zl3x1,rfl,rfl⟩
        exact ⟨_,zl3x1,rfl,rfl⟩
       exact ⟨_,zl3x1,rfl,rfl⟩
      exact ⟨_,zl3x1,rfl,rfl⟩
     exact ⟨_,zl3x1,rfl,rfl⟩
    try have := tW (x44 + x47)
    apply bS <;> intro _
    ·apply bS <;> intro _
     ·apply bS <;> intro _
      ·apply bS <;> intro _
       ·try have := tW (x44 * (w6 (0 - w6 (x2 + 1))).tmod 9)
        apply bS <;> intro _
        ·try have := tW (x45 * (w6 (0 - w6 (x2 + 1))).tmod 9)
         exact ⟨_,zl3x1,rfl,rfl⟩
        exact ⟨_,zl3x1,rfl,rfl⟩
       exact ⟨_,zl3x1,rfl,rfl⟩
      exact ⟨_,zl3x1,rfl,rfl⟩
     exact ⟨_,zl3x1,rfl,rfl⟩
    exact ⟨_,zl3x1,rfl,rfl⟩
   apply bS <;> intro _
   ·refine ⟨tD,?_⟩
    apply bS <;> intro _
    ·try have := tW (x44 + x47)
     apply bS <;> intro _
     ·apply bS <;> intro _
      ·apply bS <;> intro _
       ·apply bS <;> intro _
        ·try have := tW (x44 * (w6 (0 - w6 (x2 + 1))).tmod 9)
         apply bS <;> intro _
         ·exact ⟨_,zl3x1,rfl,rfl⟩
         exact ⟨_,zl3x1,rfl,rfl⟩
        exact ⟨_,zl3x1,rfl,rfl⟩
       exact ⟨_,zl3x1,rfl,rfl⟩
      exact ⟨_,zl3x1,rfl,rfl⟩
     exact ⟨_,zl3x1,rfl,rfl⟩
    try have := tW (x44 + x47)
    apply bS <;> intro _
    ·apply bS <;> intro _
     ·apply bS <;> intro _
      ·apply bS <;> intro _
       ·try have := tW (x44 * (w6 (0 - w6 (x2 + 1))).tmod 9)
        apply bS <;> intro _
        ·try have := tW (x45 * (w6 (0 - w6 (x2 + 1))).tmod 9)
         exact ⟨_,zl3x1,rfl,rfl⟩
        exact ⟨_,zl3x1,rfl,rfl⟩
       exact ⟨_,zl3x1,rfl,rfl⟩
      exact ⟨_,zl3x1,rfl,rfl⟩
     exact ⟨_,zl3x1,rfl,rfl⟩
    exact ⟨_,zl3x1,rfl,rfl⟩
   refine ⟨tD,?_⟩
   apply bS <;> intro _
   ·try have := tW (x44 + x47)
    apply bS <;> intro _
    ·try have := tW (x45 + x48)
     apply bS <;> intro _
     ·apply bS <;> intro _
      ·apply bS <;> intro _
       ·try have := tW (x44 * (w6 (0 - w6 (x2 + 1))).tmod 9)
        apply bS <;> intro _
        ·exact ⟨_,zl3x1,rfl,rfl⟩
        exact ⟨_,zl3x1,rfl,rfl⟩
       exact ⟨_,zl3x1,rfl,rfl⟩
      exact ⟨_,zl3x1,rfl,rfl⟩
     exact ⟨_,zl3x1,rfl,rfl⟩
    exact ⟨_,zl3x1,rfl,rfl⟩
   try have := tW (x44 + x47)
   apply bS <;> intro _
   ·try have := tW (x45 + x48)
    apply bS <;> intro _
    ·apply bS <;> intro _
     ·apply bS <;> intro _
      ·try have := tW (x44 * (w6 (0 - w6 (x2 + 1))).tmod 9)
       apply bS <;> intro _
       ·try have := tW (x45 * (w6 (0 - w6 (x2 + 1))).tmod 9)
        exact ⟨_,zl3x1,rfl,rfl⟩
       exact ⟨_,zl3x1,rfl,rfl⟩
      exact ⟨_,zl3x1,rfl,rfl⟩
     exact ⟨_,zl3x1,rfl,rfl⟩
    exact ⟨_,zl3x1,rfl,rfl⟩
   exact ⟨_,zl3x1,rfl,rfl⟩
  refine ⟨tN,c_WidthP zl3x0,fun x116 x117 p118=>?_⟩
  obtain ⟨_,_,_,_⟩ := p118
  refine ⟨tN,c_WidthP zl3x0,fun x119 x120 p121=>?_⟩
  obtain ⟨_,_,_,_⟩ := p121
  apply bS <;> intro _
  ·exact ⟨_,zl3x1,rfl,rfl⟩
  apply bS <;> intro _
  ·exact ⟨_,zl3x1,rfl,rfl⟩
  apply bS <;> intro _
  ·exact ⟨_,zl3x1,rfl,rfl⟩
  apply bS <;> intro _
  ·exact ⟨_,zl3x1,rfl,rfl⟩
  refine ⟨tN,c_accR zl3x0,fun _ p127=>?_⟩
  unfold post_accR at p127
  apply bS <;> intro _
  ·exact ⟨_,zl3x1,rfl,rfl⟩
  refine ⟨tN,c_accR zl3x0,fun _ p130=>?_⟩
  unfold post_accR at p130
  apply bS <;> intro _
  ·exact ⟨_,zl3x1,rfl,rfl⟩
  refine ⟨tN,c_WidthP zl3x0,fun _ _ p134=>?_⟩
  obtain ⟨_,_,_,_⟩ := p134
  refine ⟨tN,c_WidthP zl3x0,fun _ _ p137=>?_⟩
  obtain ⟨_,_,_,_⟩ := p137
  refine ⟨tN,c_WidthP zl3x0,fun _ _ p140=>?_⟩
  obtain ⟨_,_,_,_⟩ := p140
  apply bS <;> intro _
  ·refine ⟨tD,?_⟩
   apply bS <;> intro _
   ·apply bS <;> intro _
    ·try have := tW (x116 + x119)
     apply bS <;> intro _
     ·apply bS <;> intro _
      ·apply bS <;> intro _
       ·apply bS <;> intro _
        ·try have := tW (x116 * x2.tmod 9)
         apply bS <;> intro _
         ·exact ⟨_,zl3x1,rfl,rfl⟩
         exact ⟨_,zl3x1,rfl,rfl⟩
        exact ⟨_,zl3x1,rfl,rfl⟩
       exact ⟨_,zl3x1,rfl,rfl⟩
      exact ⟨_,zl3x1,rfl,rfl⟩
     exact ⟨_,zl3x1,rfl,rfl⟩
    try have := tW (x116 + x119)
    apply bS <;> intro _
    ·apply bS <;> intro _
     ·apply bS <;> intro _
      ·apply bS <;> intro _
       ·try have := tW (x116 * x2.tmod 9)
        apply bS <;> intro _
        ·exact ⟨_,zl3x1,rfl,rfl⟩
        exact ⟨_,zl3x1,rfl,rfl⟩
       exact ⟨_,zl3x1,rfl,rfl⟩
      exact ⟨_,zl3x1,rfl,rfl⟩
     exact ⟨_,zl3x1,rfl,rfl⟩
    exact ⟨_,zl3x1,rfl,rfl⟩
   apply bS <;> intro _
   ·try have := tW (x116 + x119)
    apply bS <;> intro _
    ·apply bS <;> intro _
     ·apply bS <;> intro _
      ·apply bS <;> intro _
       ·try have := tW (x116 * x2.tmod 9)
        apply bS <;> intro _
        ·exact ⟨_,zl3x1,rfl,rfl⟩
        exact ⟨_,zl3x1,rfl,rfl⟩
       exact ⟨_,zl3x1,rfl,rfl⟩
      exact ⟨_,zl3x1,rfl,rfl⟩
     exact ⟨_,zl3x1,rfl,rfl⟩
    exact ⟨_,zl3x1,rfl,rfl⟩
   try have := tW (x116 + x119)
   apply bS <;> intro _
   ·apply bS <;> intro _
    ·apply bS <;> intro _
     ·apply bS <;> intro _
      ·try have := tW (x116 * x2.tmod 9)
       apply bS <;> intro _
       ·try have := tW (x117 * x2.tmod 9)
        exact ⟨_,zl3x1,rfl,rfl⟩
       exact ⟨_,zl3x1,rfl,rfl⟩
      exact ⟨_,zl3x1,rfl,rfl⟩
     exact ⟨_,zl3x1,rfl,rfl⟩
    exact ⟨_,zl3x1,rfl,rfl⟩
   exact ⟨_,zl3x1,rfl,rfl⟩
  apply bS <;> intro _
  ·refine ⟨tD,?_⟩
   apply bS <;> intro _
   ·try have := tW (x116 + x119)
    apply bS <;> intro _
    ·apply bS <;> intro _
     ·apply bS <;> intro _
      ·apply bS <;> intro _
       ·try have := tW (x116 * x2.tmod 9)
        apply bS <;> intro _
        ·exact ⟨_,zl3x1,rfl,rfl⟩
        exact ⟨_,zl3x1,rfl,rfl⟩
       exact ⟨_,zl3x1,rfl,rfl⟩
      exact ⟨_,zl3x1,rfl,rfl⟩
     exact ⟨_,zl3x1,rfl,rfl⟩
    exact ⟨_,zl3x1,rfl,rfl⟩
   try have := tW (x116 + x119)
   apply bS <;> intro _
   ·apply bS <;> intro _
    ·apply bS <;> intro _
     ·apply bS <;> intro _
      ·try have := tW (x116 * x2.tmod 9)
       apply bS <;> intro _
       ·try have := tW (x117 * x2.tmod 9)
        exact ⟨_,zl3x1,rfl,rfl⟩
       exact ⟨_,zl3x1,rfl,rfl⟩
      exact ⟨_,zl3x1,rfl,rfl⟩
     exact ⟨_,zl3x1,rfl,rfl⟩
    exact ⟨_,zl3x1,rfl,rfl⟩
   exact ⟨_,zl3x1,rfl,rfl⟩
  refine ⟨tD,?_⟩
  apply bS <;> intro _
  ·try have := tW (x116 + x119)
   apply bS <;> intro _
   ·try have := tW (x117 + x120)
    apply bS <;> intro _
    ·apply bS <;> intro _
     ·apply bS <;> intro _
      ·try have := tW (x116 * x2.tmod 9)
       apply bS <;> intro _
       ·exact ⟨_,zl3x1,rfl,rfl⟩
       exact ⟨_,zl3x1,rfl,rfl⟩
      exact ⟨_,zl3x1,rfl,rfl⟩
     exact ⟨_,zl3x1,rfl,rfl⟩
    exact ⟨_,zl3x1,rfl,rfl⟩
   exact ⟨_,zl3x1,rfl,rfl⟩
  try have := tW (x116 + x119)
  apply bS <;> intro _
  ·try have := tW (x117 + x120)
   apply bS <;> intro _
   ·apply bS <;> intro _
    ·apply bS <;> intro _
     ·try have := tW (x116 * x2.tmod 9)
      apply bS <;> intro _
      ·try have := tW (x117 * x2.tmod 9)
       exact ⟨_,zl3x1,rfl,rfl⟩
      exact ⟨_,zl3x1,rfl,rfl⟩
     exact ⟨_,zl3x1,rfl,rfl⟩
    exact ⟨_,zl3x1,rfl,rfl⟩
   exact ⟨_,zl3x1,rfl,rfl⟩
  exact ⟨_,zl3x1,rfl,rfl⟩)
 exact ⟨_,hq,ha⟩
end
end Go.Proofs.Ytcjcdammcmjbnaa.U
