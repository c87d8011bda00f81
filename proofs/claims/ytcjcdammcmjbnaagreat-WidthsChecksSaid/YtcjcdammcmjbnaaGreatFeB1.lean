/- Blocks: walks of the program's functions, each told by what is asked and what comes back; they hold as they stand. -/
import Derived.Test.YtcjcdammcmjbnaaGreatFeZZ
namespace Go.Proofs.YtcjcdammcmjbnaaGreat.U
open Go Go.Vai
set_option linter.unusedVariables false
set_option linter.unusedSimpArgs false
set_option maxRecDepth 100000
set_option maxHeartbeats 8000000
attribute [local irreducible] IntKind.wrap Rs Is Bs Ws Ts Ns Nf kindOf shapeN nszL
noncomputable section
theorem zb1x0 {p : Prop} (h : p := by show inv_Edges_0 x0 x1 x2o x3o x2 (IntKind.i64.wrap (x3 + 1)); exact jEdgesINV) : p := h
theorem zb1x1 {p : Prop} (h : p := by show mu_Edges_0 x0 x1 x2 (IntKind.i64.wrap (x3 + 1)) < mu_Edges_0 x0 x1 x2 x3; exact qP) : p := h
theorem zb1x2 {p : Prop} (h : p := by simp only [npL,np,Bool.and_true,Bool.and_eq_true]; first | exact Rs.np tB | exact Rs.np (Rs.app tB tB)) : p := h
theorem zb1x3 {p : Prop} (h : p := by show inv_Join_0 x0 x1 x2 x3 x4o x5o x4 (IntKind.i64.wrap (x5 + 1)); exact jJoinINV) : p := h
theorem zb1x4 {p : Prop} (h : p := by show mu_Join_0 x0 x1 x2 x3 x4 (IntKind.i64.wrap (x5 + 1)) < mu_Join_0 x0 x1 x2 x3 x4 x5; (try unfold mu_Join_0); (try simp (disch := omega) only [wrap_id]); omega) : p := h
def E_Sequence (x0 : Int) : Prop := ∃ x1,post_Sequence x0 x1 ∧ A 87 [(iv x0)] [] (.sl 1 x1) []
abbrev j_Sequence (nn : Nat) (x0 : Int) (kK : List AV → HC) : HC := ⟨.ev nn (.ask (eL fun x1=>.done (.res (.sl 1 x1) [] (post_Sequence x0 x1)) ((kK x1).h))),E_Sequence x0 ∧ (∀ x1,post_Sequence x0 x1 → (kK x1).p)⟩
abbrev t_Sequence (x0 : Int) (Q : AV → HH → Prop) : HC := (cd 1 ((decide (x0 < 0))) (cq 9 Q (.sl 1 [])) (cd 3 ((decide (x0 > 1114111))) (cq 6 Q (.sl 1 [])) (cd 3 ((decide (x0 ≥ 55296))) (cd 5 ((decide (x0 ≤ 57343))) (cq 1 Q (.sl 1 [])) (cd 1 ((decide (x0 < 128))) (cq 2 Q (.sl 1 [(.sc (.int .u8 (IntKind.u8.wrap x0)))])) (cd 1 ((decide (x0 < 2048))) (ww (128 + x0.tmod 64) (ww (x0.tdiv 64) (ww (192 + w6 (x0.tdiv 64)) (cq 7 Q (.sl 1 [(.sc (.int .u8 (IntKind.u8.wrap (w6 (192 + w6 (x0.tdiv 64)))))),(.sc (.int .u8 (IntKind.u8.wrap (w6 (128 + x0.tmod 64)))))]))))) (cd 1 ((decide (x0 < 65536))) (ww (128 + x0.tmod 64) (ww (x0.tdiv 64) (ww (128 + (w6 (x0.tdiv 64)).tmod 64) (ww (x0.tdiv 4096) (ww (224 + w6 (x0.tdiv 4096)) (cq 11 Q (.sl 1 [(.sc (.int .u8 (IntKind.u8.wrap (w6 (224 + w6 (x0.tdiv 4096)))))),(.sc (.int .u8 (IntKind.u8.wrap (w6 (128 + (w6 (x0.tdiv 64)).tmod 64))))),(.sc (.int .u8 (IntKind.u8.wrap (w6 (128 + x0.tmod 64)))))]))))))) (ww (128 + x0.tmod 64) (ww (x0.tdiv 64) (ww (128 + (w6 (x0.tdiv 64)).tmod 64) (ww (x0.tdiv 4096) (ww (128 + (w6 (x0.tdiv 4096)).tmod 64) (ww (x0.tdiv 262144) (ww (240 + w6 (x0.tdiv 262144)) (cq 15 Q (.sl 1 [(.sc (.int .u8 (IntKind.u8.wrap (w6 (240 + w6 (x0.tdiv 262144)))))),(.sc (.int .u8 (IntKind.u8.wrap (w6 (128 + (w6 (x0.tdiv 4096)).tmod 64))))),(.sc (.int .u8 (IntKind.u8.wrap (w6 (128 + (w6 (x0.tdiv 64)).tmod 64))))),(.sc (.int .u8 (IntKind.u8.wrap (w6 (128 + x0.tmod 64)))))]))))))))))))) (cd 6 ((decide (x0 < 128))) (cq 2 Q (.sl 1 [(.sc (.int .u8 (IntKind.u8.wrap x0)))])) (cd 1 ((decide (x0 < 2048))) (ww (128 + x0.tmod 64) (ww (x0.tdiv 64) (ww (192 + w6 (x0.tdiv 64)) (cq 7 Q (.sl 1 [(.sc (.int .u8 (IntKind.u8.wrap (w6 (192 + w6 (x0.tdiv 64)))))),(.sc (.int .u8 (IntKind.u8.wrap (w6 (128 + x0.tmod 64)))))]))))) (cd 1 ((decide (x0 < 65536))) (ww (128 + x0.tmod 64) (ww (x0.tdiv 64) (ww (128 + (w6 (x0.tdiv 64)).tmod 64) (ww (x0.tdiv 4096) (ww (224 + w6 (x0.tdiv 4096)) (cq 11 Q (.sl 1 [(.sc (.int .u8 (IntKind.u8.wrap (w6 (224 + w6 (x0.tdiv 4096)))))),(.sc (.int .u8 (IntKind.u8.wrap (w6 (128 + (w6 (x0.tdiv 64)).tmod 64))))),(.sc (.int .u8 (IntKind.u8.wrap (w6 (128 + x0.tmod 64)))))]))))))) (ww (128 + x0.tmod 64) (ww (x0.tdiv 64) (ww (128 + (w6 (x0.tdiv 64)).tmod 64) (ww (x0.tdiv 4096) (ww (128 + (w6 (x0.tdiv 4096)).tmod 64) (ww (x0.tdiv 262144) (ww (240 + w6 (x0.tdiv 262144)) (cq 15 Q (.sl 1 [(.sc (.int .u8 (IntKind.u8.wrap (w6 (240 + w6 (x0.tdiv 262144)))))),(.sc (.int .u8 (IntKind.u8.wrap (w6 (128 + (w6 (x0.tdiv 4096)).tmod 64))))),(.sc (.int .u8 (IntKind.u8.wrap (w6 (128 + (w6 (x0.tdiv 64)).tmod 64))))),(.sc (.int .u8 (IntKind.u8.wrap (w6 (128 + x0.tmod 64)))))])))))))))))))))
theorem w_Sequence (x0) (Q : AV → HH → Prop) (h : (t_Sequence x0 Q).p) : ∃ r H',A 87 [(iv x0)] [] r H' ∧ Q r H' :=
 Ans.wq rfl (t_Sequence x0 Q).h (by kernel_rfl) h
instance c_Sequence {x0} : C (E_Sequence x0) (pre_Sequence x0) := ⟨fun hp=>by
 unfold E_Sequence
 obtain ⟨_,_,ha,x1,hq,rfl,rfl⟩ := w_Sequence x0 (fun r H'=>∃ x1,post_Sequence x0 x1 ∧ r = (.sl 1 x1) ∧ H' = []) (by
  revert hp
  exact tZ)
 exact ⟨x1,hq,ha⟩⟩
def E_OfL (x0 : List AV) : Prop := ∃ x1,post_OfL x0 x1 ∧ A 64 [(.sl 1 x0)] [] (iv x1) []
abbrev j_OfL (nn : Nat) (x0 : List AV) (kK : Int → HC) : HC := ⟨.ev nn (.ask (eI fun x1=>.done (.res (iv x1) [] (post_OfL x0 x1)) ((kK x1).h))),E_OfL x0 ∧ (∀ x1,post_OfL x0 x1 → (kK x1).p)⟩
abbrev t_OfL (x0 : List AV) (Q : AV → HH → Prop) : HC := (cd 1 (((↑x0.length : Int) == 1)) (cv1 2 ((x0[0]?)) (fun (x1 : Int)=>(.sc (.int .u8 x1))) fun x1=>(ww x1 (j_Sequence 2 (w6 x1) fun x2=>(cw1 0 ((match bytesOf x2 with | some b=>some (Value.string { data := b.toArray }) | none=>none)) (fun (x3 : ByteArray)=>(.string x3)) fun x3=>(cw1 0 ((match bytesOf x0 with | some b=>some (Value.string { data := b.toArray }) | none=>none)) (fun (x4 : ByteArray)=>(.string x4)) fun x4=>(cd 1 ((!x3.toList == x4.toList)) (cq 5 Q (iv (-1))) (cd 4 (((↑x0.length : Int) == 0)) (cq 1 Q (iv (-1))) (cq 1 Q (iv (w6 x1)))))))))) (cd 1 (((↑x0.length : Int) == 2)) (cv1 2 ((x0[0]?)) (fun (x5 : Int)=>(.sc (.int .u8 x5))) fun x5=>(cv1 5 ((x0[1]?)) (fun (x6 : Int)=>(.sc (.int .u8 x6))) fun x6=>(ww x6 (ww x5 (ww (w6 x5 - 192) (ww (w6 (w6 x5 - 192) * 64) (ww (w6 (w6 (w6 x5 - 192) * 64) + w6 x6) (j_Sequence 4 (w6   (w6 (w6 (w6 (w6 x5 - 192) * 64) + w6 x6) -     128)) fun x7=>(cw1 0 ((match bytesOf x7 with | some b=>some (Value.string { data := b.toArray }) | none=>none)) (fun (x8 : ByteArray)=>(.string x8)) fun x8=>(cw1 0 ((match bytesOf x0 with | some b=>some (Value.string { data := b.toArray }) | none=>none)) (fun (x9 : ByteArray)=>(.string x9)) fun x9=>(cd 1 ((!x8.toList == x9.toList)) (cq 5 Q (iv (-1))) (cd 4 (((↑x0.length : Int) == 0)) (cq 1 Q (iv (-1))) (cq 1 Q (iv (w6   (w6 (w6 (w6 (w6 x5 - 192) * 64) + w6 x6) -     128)))))))))))))))) (cd 1 (((↑x0.length : Int) == 3)) (cv1 2 ((x0[0]?)) (fun (x10 : Int)=>(.sc (.int .u8 x10))) fun x10=>(cv1 5 ((x0[1]?)) (fun (x11 : Int)=>(.sc (.int .u8 x11))) fun x11=>(cv1 6 ((x0[2]?)) (fun (x12 : Int)=>(.sc (.int .u8 x12))) fun x12=>(ww x12 (ww x11 (ww x10 (ww (w6 x11 - 128) (ww (w6 (w6 x11 - 128) * 64) (ww (w6 x10 - 224) (ww (w6 (w6 x10 - 224) * 4096) (j_Sequence 4 (w6   (w6       (w6           (w6 (w6 (w6 x10 - 224) * 4096) +             w6 (w6 (w6 x11 - 128) * 64)) +         w6 x12) -     128)) fun x13=>(cw1 0 ((match bytesOf x13 with | some b=>some (Value.string { data := b.toArray }) | none=>none)) (fun (x14 : ByteArray)=>(.string x14)) fun x14=>(cw1 0 ((match bytesOf x0 with | some b=>some (Value.string { data := b.toArray }) | none=>none)) (fun (x15 : ByteArray)=>(.string x15)) fun x15=>(cd 1 ((!x14.toList == x15.toList)) (cq 5 Q (iv (-1))) (cd 4 (((↑x0.length : Int) == 0)) (cq 1 Q (iv (-1))) (cq 1 Q (iv (w6   (w6       (w6           (w6 (w6 (w6 x10 - 224) * 4096) +             w6 (w6 (w6 x11 - 128) * 64)) +         w6 x12) -     128))))))))))))))))))) (cd 1 (((↑x0.length : Int) == 4)) (cv1 2 ((x0[0]?)) (fun (x16 : Int)=>(.sc (.int .u8 x16))) fun x16=>(cv1 5 ((x0[1]?)) (fun (x17 : Int)=>(.sc (.int .u8 x17))) fun x17=>(cv1 6 ((x0[2]?)) (fun (x18 : Int)=>(.sc (.int .u8 x18))) fun x18=>(cv1 6 ((x0[3]?)) (fun (x19 : Int)=>(.sc (.int .u8 x19))) fun x19=>(ww x19 (ww x18 (ww x17 (ww x16 (ww (w6 x18 - 128) (ww (w6 (w6 x18 - 128) * 64) (ww (w6 x17 - 128) (ww (w6 (w6 x17 - 128) * 4096) (ww (w6 x16 - 240) (ww (w6 (w6 x16 - 240) * 262144) (j_Sequence 4 (w6   (w6       (w6           (w6               (w6 (w6 (w6 x16 - 240) * 262144) +                 w6 (w6 (w6 x17 - 128) * 4096)) +             w6 (w6 (w6 x18 - 128) * 64)) +         w6 x19) -     128)) fun x20=>(cw1 0 ((match bytesOf x20 with | some b=>some (Value.string { data := b.toArray }) | none=>none)) (fun (x21 : ByteArray)=>(.string x21)) fun x21=>(cw1 0 ((match bytesOf x0 with | some b=>some (Value.string { data := b.toArray }) | none=>none)) (fun (x22 : ByteArray)=>(.string x22)) fun x22=>(cd 1 ((!x21.toList == x22.toList)) (cq 5 Q (iv (-1))) (cd 4 (((↑x0.length : Int) == 0)) (cq 1 Q (iv (-1))) (cq 1 Q (iv (w6   (w6       (w6           (w6               (w6 (w6 (w6 x16 - 240) * 262144) +                 w6 (w6 (w6 x17 - 128) * 4096)) +             w6 (w6 (w6 x18 - 128) * 64)) +         w6 x19) -     128))))))))))))))))))))))) (j_Sequence 1 (-1) fun x23=>(cw1 0 ((match bytesOf x23 with | some b=>some (Value.string { data := b.toArray }) | none=>none)) (fun (x24 : ByteArray)=>(.string x24)) fun x24=>(cw1 0 ((match bytesOf x0 with | some b=>some (Value.string { data := b.toArray }) | none=>none)) (fun (x25 : ByteArray)=>(.string x25)) fun x25=>(cd 1 ((!x24.toList == x25.toList)) (cq 5 Q (iv (-1))) (cd 4 (((↑x0.length : Int) == 0)) (cq 1 Q (iv (-1))) (cq 1 Q (iv (-1))))))))))))
theorem w_OfL (x0) (Q : AV → HH → Prop) (h : (t_OfL x0 Q).p) : ∃ r H',A 64 [(.sl 1 x0)] [] r H' ∧ Q r H' :=
 Ans.wq rfl (t_OfL x0 Q).h (by kernel_rfl) h
instance c_OfL {x0} : C (E_OfL x0) (pre_OfL x0) := ⟨fun hp=>by
 unfold E_OfL
 obtain ⟨_,_,ha,x1,hq,rfl,rfl⟩ := w_OfL x0 (fun r H'=>∃ x1,post_OfL x0 x1 ∧ r = (iv x1) ∧ H' = []) (by
  revert hp
  exact tZ)
 exact ⟨x1,hq,ha⟩⟩
def E_Of (b : List AV) : Prop := ∃ c,post_Of b c ∧ A 64 [.sl 1 b] [] (iv c) []
abbrev j_Of (nn : Nat) (b : List AV) (k : Int → HC) : HC := ⟨.ev nn (.ask (eI fun c=>.done (.res (iv c) [] (post_Of b c)) (k c).h)),E_Of b ∧ ∀ c,post_Of b c → (k c).p⟩
instance c_Of {b} : C (E_Of b) (pre_Of b) := ⟨fun hp=>by
 by_cases h : b = [.sc (.int .u8 40)]
 ·subst h
  exact Exists.intro 40 ⟨fun _=>rfl,Ans.at 50 (by kernel_rfl)⟩
 ·obtain ⟨c,_,k⟩ := (C.c hp : E_OfL b)
  exact Exists.intro c ⟨fun e=>absurd e h,k⟩⟩
def E_At (x0 : List AV) (x1 : Int) : Prop := ∃ x2 x3,post_At x0 x1 x2 x3 ∧ A 41 [(.sl 1 x0),(iv x1)] [] (.tup [(iv x2),(iv x3)]) []
abbrev j_At (nn : Nat) (x0 : List AV) (x1 : Int) (kK : Int → Int → HC) : HC := ⟨.ev nn (.ask (eI fun x2=>eI fun x3=>.done (.res (.tup [(iv x2),(iv x3)]) [] (post_At x0 x1 x2 x3)) ((kK x2 x3).h))),E_At x0 x1 ∧ (∀ x2 x3,post_At x0 x1 x2 x3 → (kK x2 x3).p)⟩
def s_At_0 (x0 : List AV) (x1 x2 : Int) : St := ⟨[],[(0,(.sl 1 x0)),(1,(iv x1)),(6,(iv x2))],[],0⟩
def x_At_0_0 (x0 : List AV) (x1 y2 y3 : Int) : St := ⟨[],[(4,(iv y2)),(5,(iv y3))],[],0⟩
def x_At_0_1 (x0 : List AV) (x1 y2 : Int) : St := ⟨[],[(0,(.sl 1 x0)),(1,(iv x1)),(6,(iv y2)),(17,(bv false))],[],0⟩
def E_At_0 (x0 : List AV) (x1 x2o : Int) : Prop := ((∃ y3 y4,out_At_0_0 x0 x1 x2o y3 y4 ∧ R 41 0 (s_At_0 x0 x1 x2o) (Ex.ret,x_At_0_0 x0 x1 y3 y4)) ∨ (∃ y3,out_At_0_1 x0 x1 x2o y3 ∧ R 41 0 (s_At_0 x0 x1 x2o) ((.exit 0),x_At_0_1 x0 x1 y3)))
abbrev j_At_0 (nn : Nat) (x0 : List AV) (x1 x2o : Int) (f0 : Int → Int → HC) (f1 : Int → HC) : HC := ⟨.ev nn (.ask (.or (eI fun y3=>eI fun y4=>.done (.exit Ex.ret (x_At_0_0 x0 x1 y3 y4) (out_At_0_0 x0 x1 x2o y3 y4)) (f0 y3 y4).h) (eI fun y3=>.done (.exit (.exit 0) (x_At_0_1 x0 x1 y3) (out_At_0_1 x0 x1 x2o y3)) (f1 y3).h))),E_At_0 x0 x1 x2o ∧ ((∀ y3 y4,out_At_0_0 x0 x1 x2o y3 y4 → (f0 y3 y4).p) ∧ (∀ y3,out_At_0_1 x0 x1 x2o y3 → (f1 y3).p))⟩
abbrev t_At_0 (x0 : List AV) (x1 x2 : Int) (Q : Ex → St → Prop) : HC := (cd 1 ((decide (x2 ≤ 4))) (ww (x1 + x2) (cd 8 ((decide (w6 (x1 + x2) ≤ (↑x0.length : Int)))) (co 1 ((decide (0 ≤ x1))) (co 1 ((decide (0 ≤ w6 (x1 + x2)))) (co 1 (((x1.toNat.ble (w6 (x1 + x2)).toNat) && ((w6 (x1 + x2)).toNat.ble x0.length))) (cp 0 ((npL [(.sl 1 (List.drop x1.toNat (List.take (w6 (x1 + x2)).toNat x0)))])) (j_Of 0 (List.drop x1.toNat (List.take (w6 (x1 + x2)).toNat x0)) fun x3=>(cd 1 ((decide (x3 ≥ 0))) (cz 0 (Q Ex.ret (x_At_0_0 x0 x1 x3 x2))) (ww (x2 + 1) (cz 1 (Q .norm (s_At_0 x0 x1 (w6 (x2 + 1)))))))))))) (cz 0 (Q (.exit 0) (x_At_0_1 x0 x1 x2))))) (cz 7 (Q (.exit 0) (x_At_0_1 x0 x1 x2))))
theorem l_At_0 (x0 x1 x2) (Q : Ex → St → Prop) (h : (t_At_0 x0 x1 x2 Q).p) : ∃ e s',L 41 0 (s_At_0 x0 x1 x2) (e,s') ∧ Q e s' :=
 Leads.wq (t_At_0 x0 x1 x2 Q).h (by kernel_rfl) h
instance k_At_0 {x0 x1 x2o} : C (E_At_0 x0 x1 x2o) (inv_At_0 x0 x1 x2o x2o) := ⟨fun hi=>by
 obtain ⟨e,s',hr,hq⟩ := Rounds.byInv (st := fun (w : Int)=>s_At_0 x0 x1 w) (Inv := fun w=>inv_At_0 x0 x1 x2o w) (μ := fun w=>mu_At_0 x0 x1 w) (Q := fun e s'=>((∃ y3 y4,out_At_0_0 x0 x1 x2o y3 y4 ∧ e = Ex.ret ∧ s' = x_At_0_0 x0 x1 y3 y4) ∨ (∃ y3,out_At_0_1 x0 x1 x2o y3 ∧ e = (.exit 0) ∧ s' = x_At_0_1 x0 x1 y3))) (by
  intro x2 hi
  have hi : inv_At_0 x0 x1 x2o x2 := hi
  refine l_At_0 x0 x1 x2 _ ?_
  have hM {p : Prop} (h : p := by unfold mu_At_0; exact tI) : p := h
  have hI {p : Prop} (h : p := by (try dsimp only); refine ⟨tP,tP,tP,?_⟩; first | exact fun _=>rfl | (exact fun hb=>by have hq := at_eq (by assumption) (by assumption) (by omega) (by omega) hb; omega)) : p := h
  have hO {p : Prop} (h : p := by first | (refine ⟨tP,tP,tP,tP,tP,fun hb=>?_⟩; exact (at_eq (by assumption) (by assumption) (by omega) (by omega) hb).1) | (intro hb; have hl := (List.getElem?_eq_some_iff.1 hb).1; have hn := hi_6 hb; omega)) : p := h
  revert hi
  exact tZ) x2o hi
 unfold E_At_0
 rcases hq with ⟨_,_,ho,rfl,rfl⟩ | ⟨_,ho,rfl,rfl⟩
 
 ·exact .inl ⟨_,_,ho,hr⟩
 ·exact .inr (⟨_,ho,hr⟩)⟩
abbrev t_At (x0 : List AV) (x1 : Int) (Q : AV → HH → Prop) : HC := (j_At_0 0 x0 x1 1 (fun x2 x3=>(cq 1 Q (.tup [(iv x2),(iv x3)]))) (fun x4=>(cq 1 Q (.tup [(iv (-1)),(iv 0)]))))
theorem w_At (x0 x1) (Q : AV → HH → Prop) (h : (t_At x0 x1 Q).p) : ∃ r H',A 41 [(.sl 1 x0),(iv x1)] [] r H' ∧ Q r H' :=
 Ans.wq rfl (t_At x0 x1 Q).h (by kernel_rfl) h
instance c_At {x0 x1} : C (E_At x0 x1) (pre_At x0 x1) := ⟨fun hp=>by
 unfold E_At
 obtain ⟨_,_,ha,x2,x3,hq,rfl,rfl⟩ := w_At x0 x1 (fun r H'=>∃ x2 x3,post_At x0 x1 x2 x3 ∧ r = (.tup [(iv x2),(iv x3)]) ∧ H' = []) (by
  have hQ {p : Prop} (h : p := by refine ⟨tP,tP,tP,tP,tP,?_⟩; first | assumption | exact fun hb=>((by assumption : _ → False) hb).elim) : p := h
  have hI {p : Prop} (h : p := by (try dsimp only); refine ⟨tP,tP,tP,?_⟩; first | exact fun _=>rfl | (exact fun hb=>by have hq := at_eq (by assumption) (by assumption) (by omega) (by omega) hb; omega)) : p := h
  revert hp
  exact tZ)
 exact ⟨x2,x3,hq,ha⟩⟩
def E_Next (x0 : List AV) (x1 : Int) (x2 : Bool) : Prop := ∃ x3 x4,post_Next x0 x1 x2 x3 x4 ∧ A 42 [(.sl 1 x0),(iv x1),(bv x2)] [] (.tup [(iv x3),(iv x4)]) []
abbrev j_Next (nn : Nat) (x0 : List AV) (x1 : Int) (x2 : Bool) (kK : Int → Int → HC) : HC := ⟨.ev nn (.ask (eI fun x3=>eI fun x4=>.done (.res (.tup [(iv x3),(iv x4)]) [] (post_Next x0 x1 x2 x3 x4)) ((kK x3 x4).h))),E_Next x0 x1 x2 ∧ (∀ x3 x4,post_Next x0 x1 x2 x3 x4 → (kK x3 x4).p)⟩
abbrev t_Next (x0 : List AV) (x1 : Int) (x2 : Bool) (Q : AV → HH → Prop) : HC := (cd 1 ((decide (x1 < 0))) (cq 6 Q (.tup [(iv (-1)),(iv x1)])) (cd 5 ((decide (x1 ≥ (↑x0.length : Int)))) (cq 1 Q (.tup [(iv (-1)),(iv x1)])) (cp 0 ((npL [(.sl 1 x0),(iv x1)])) (j_At 0 x0 x1 fun x3 x4=>(cd 0 x2 (cd 3 ((decide (x4 > 0))) (ww (x1 + x4) (cq 2 Q (.tup [(iv x3),(iv (w6 (x1 + x4)))]))) (co 0 ((decide (0 ≤ x1))) (cv1 1 ((x0[x1.toNat]?)) (fun (x5 : Int)=>(.sc (.int .u8 x5))) fun x5=>(ww x5 (ww (x1 + 1) (cq 3 Q (.tup [(iv (w6 x5)),(iv (w6 (x1 + 1)))]))))))) (co 3 ((decide (0 ≤ x1))) (cv1 1 ((x0[x1.toNat]?)) (fun (x6 : Int)=>(.sc (.int .u8 x6))) fun x6=>(ww x6 (ww (x1 + 1) (cq 3 Q (.tup [(iv (w6 x6)),(iv (w6 (x1 + 1)))])))))))))))
theorem w_Next (x0 x1 x2) (Q : AV → HH → Prop) (h : (t_Next x0 x1 x2 Q).p) : ∃ r H',A 42 [(.sl 1 x0),(iv x1),(bv x2)] [] r H' ∧ Q r H' :=
 Ans.wq rfl (t_Next x0 x1 x2 Q).h (by kernel_rfl) h
instance c_Next {x0 x1 x2} : C (E_Next x0 x1 x2) (pre_Next x0 x1 x2) := ⟨fun hp=>by
 unfold E_Next
 obtain ⟨_,_,ha,x3,x4,hq,rfl,rfl⟩ := w_Next x0 x1 x2 (fun r H'=>∃ x3 x4,post_Next x0 x1 x2 x3 x4 ∧ r = (.tup [(iv x3),(iv x4)]) ∧ H' = []) (by
  have hQ {p : Prop} (h : p := by refine ⟨tP,tP,tP,?_⟩; first | assumption | (intro hb; have hl := (List.getElem?_eq_some_iff.1 hb).1; exfalso; omega) | (have hg := (show _ = some (AV.sc (Value.int IntKind.u8 _)) from by assumption); intro hb; have he := hg.symm.trans hb; simp only [Option.some.injEq,AV.sc.injEq,Value.int.injEq,true_and] at he; omega)) : p := h
  revert hp
  exact tZ)
 exact ⟨x3,x4,hq,ha⟩⟩
def E_Char (x0 : ByteArray) (x1 x2 : Bool) (x3 x4 : Int) : Prop := ∃ x5 x6,post_Char x0 x1 x2 x3 x4 x5 x6 ∧ A 21 [(.agg [(sv x0),(bv x1),(bv x2),(iv x3)]),(iv x4)] [] (.tup [(iv x5),(iv x6)]) []
abbrev j_Char (nn : Nat) (x0 : ByteArray) (x1 x2 : Bool) (x3 x4 : Int) (kK : Int → Int → HC) : HC := ⟨.ev nn (.ask (eI fun x5=>eI fun x6=>.done (.res (.tup [(iv x5),(iv x6)]) [] (post_Char x0 x1 x2 x3 x4 x5 x6)) ((kK x5 x6).h))),E_Char x0 x1 x2 x3 x4 ∧ (∀ x5 x6,post_Char x0 x1 x2 x3 x4 x5 x6 → (kK x5 x6).p)⟩
abbrev t_Char (x0 : ByteArray) (x1 x2 : Bool) (x3 x4 : Int) (Q : AV → HH → Prop) : HC := (cp 0 ((npL [(.sl 1 (bytesAV x0)),(iv x4),(bv x1)])) (j_Next 0 (bytesAV x0) x4 x1 fun x5 x6=>(cq 1 Q (.tup [(iv x5),(iv x6)]))))
theorem w_Char (x0 x1 x2 x3 x4) (Q : AV → HH → Prop) (h : (t_Char x0 x1 x2 x3 x4 Q).p) : ∃ r H',A 21 [(.agg [(sv x0),(bv x1),(bv x2),(iv x3)]),(iv x4)] [] r H' ∧ Q r H' :=
 Ans.wq rfl (t_Char x0 x1 x2 x3 x4 Q).h (by kernel_rfl) h
instance c_Char {x0 x1 x2 x3 x4} : C (E_Char x0 x1 x2 x3 x4) (pre_Char x0 x1 x2 x3 x4) := ⟨fun hp=>by
 unfold E_Char
 obtain ⟨_,_,ha,x5,x6,hq,rfl,rfl⟩ := w_Char x0 x1 x2 x3 x4 (fun r H'=>∃ x5 x6,post_Char x0 x1 x2 x3 x4 x5 x6 ∧ r = (.tup [(iv x5),(iv x6)]) ∧ H' = []) (by
  have hQ {p : Prop} (h : p := by refine ⟨tP,tP,tP,?_⟩; exact fun h=>(show _ → _ = (40 : Int) from by with_reducible assumption) (isB_at h)) : p := h
  revert hp
  exact tZ)
 exact ⟨x5,x6,hq,ha⟩⟩
def s_put_0 (x0 : List AV) (x1 x2 : Int) : St := ⟨[],[(0,(.sl 1 x0)),(1,(iv x1)),(5,(iv x2))],[],0⟩
def x_put_0_0 (x0 : List AV) (x1 y2 : Int) : St := ⟨[],[(0,(.sl 1 x0)),(1,(iv x1)),(5,(iv y2)),(18,(bv false))],[],0⟩
theorem l_put_0 (x0 x1 x2) (Q : Ex → St → Prop) (h : (((decide (x2 < (↑x0.length : Int))) = true → ((decide (0 ≤ x2)) = true ∧ ((∃ x3 : Int,(x0[x2.toNat]?) = some (iv x3)) ∧ (∀ x3 : Int,(x0[x2.toNat]?) = some (iv x3) → (((decide (x3 < x1)) = true → (Q .norm (s_put_0 x0 x1 (IntKind.i64.wrap (x2 + 1))))) ∧ ((decide (x3 < x1)) = false → (Q (.exit 0) (x_put_0_0 x0 x1 x2)))))))) ∧ ((decide (x2 < (↑x0.length : Int))) = false → (Q (.exit 0) (x_put_0_0 x0 x1 x2))))) : ∃ e s',L 101 0 (s_put_0 x0 x1 x2) (e,s') ∧ Q e s' :=
 Leads.wq (sS 1 (oO 2 (aA 1 (eI fun x3=>.done (.av (iv x3)) (sS 5 (zZ 1) .stop)))) (zZ 7)) (by kernel_rfl) h
theorem k_put_0 (x0 x1 x2) (hi : inv_put_0 x0 x1 x2 x2) : (∃ y3 : Int,out_put_0_0 x0 x1 x2 y3 ∧ R 101 0 (s_put_0 x0 x1 x2) ((.exit 0),x_put_0_0 x0 x1 y3)) := by
 have hk : ∀ (x2o : Int),inv_put_0 x0 x1 x2o x2 → ∃ e s',R 101 0 (s_put_0 x0 x1 x2) (e,s') ∧ (∃ y3 : Int,out_put_0_0 x0 x1 x2o y3 ∧ e = (.exit 0) ∧ s' = x_put_0_0 x0 x1 y3) := by
  intro x2o hi
  exact Rounds.byInv (st := fun (w : Int)=>s_put_0 x0 x1 w) (Inv := fun w=>inv_put_0 x0 x1 x2o w) (μ := fun w=>mu_put_0 x0 x1 w) (Q := fun e s'=>(∃ y3,out_put_0_0 x0 x1 x2o y3 ∧ e = (.exit 0) ∧ s' = x_put_0_0 x0 x1 y3)) (by
   intro x2 hi
   have hi : inv_put_0 x0 x1 x2o x2 := hi
   refine l_put_0 x0 x1 x2 _ ?_
   obtain ⟨hi_0,hi_1,hi_2,hi_3,hi_4⟩ := hi
   try replace hi_0 := nq hi_0
   try replace hi_1 := nq hi_1
   try replace hi_2 := nq hi_2
   try replace hi_3 := nq hi_3
   try replace hi_4 := nq hi_4
   refine ⟨fun h4=>?_,fun h4=>?_⟩
   ·replace h4 := dt h4
    try replace h4 := nq h4
    refine ⟨qD,qG,fun _ g6=>?_⟩
    try replace g6 := nw g6
    first | have hsg6 := rsame tA' g6 | have hsg6 := isame tA' g6 | skip
    first | (have eg6 := Rs.elem tA' g6; try have eog6 := OkJ.get tA' eg6) | (have eg6 := Is.elem tA' g6; try have eog6 := OkE.get tA' eg6) | skip
    refine ⟨fun h7=>?_,fun h7=>?_⟩
    ·replace h7 := dt h7
     try replace h7 := nq h7
     exact .inl ⟨rfl,(IntKind.i64.wrap (x2 + 1)),rfl,by show inv_put_0 x0 x1 x2o (IntKind.i64.wrap (x2 + 1)); exact jputINV,by show mu_put_0 x0 x1 (IntKind.i64.wrap (x2 + 1)) < mu_put_0 x0 x1 x2; exact qP⟩
    ·replace h7 := df h7
     try replace h7 := nq h7
     exact .inr ⟨by simp,⟨x2,by show out_put_0_0 x0 x1 x2o x2; refine ⟨?_,by omega,by omega⟩; first | exact Put.mk1 tB (by omega) (by omega) tB tB (by omega) | exact Put.mk2 tB (by omega) (by omega) tB (by omega),rfl,rfl⟩⟩
   ·replace h4 := df h4
    try replace h4 := nq h4
    exact .inr ⟨by simp,⟨x2,by show out_put_0_0 x0 x1 x2o x2; refine ⟨?_,by omega,by omega⟩; first | exact Put.mk1 tB (by omega) (by omega) tB tB (by omega) | exact Put.mk2 tB (by omega) (by omega) tB (by omega),rfl,rfl⟩⟩) x2 hi
 obtain ⟨e,s',hr,hq⟩ := hk x2 hi
 rcases hq with ⟨_,ho,rfl,rfl⟩
 exact ⟨_,ho,hr⟩
theorem w_put (x0 x1) (Q : AV → HH → Prop) (h : ((∃ x2 : Int,out_put_0_0 x0 x1 0 x2 ∧ R 101 0 (s_put_0 x0 x1 0) ((.exit 0),x_put_0_0 x0 x1 x2)) ∧ (∀ x2 : Int,out_put_0_0 x0 x1 0 x2 → (((decide (x2 < (↑x0.length : Int))) = true → ((decide (0 ≤ x2)) = true ∧ ((∃ x3 : Int,(x0[x2.toNat]?) = some (iv x3)) ∧ (∀ x3 : Int,(x0[x2.toNat]?) = some (iv x3) → (((x3 == x1) = true → Q (.sl 1 x0) []) ∧ ((x3 == x1) = false → ((decide (0 ≤ x2)) = true ∧ ((true && (x2.toNat.ble x0.length)) = true ∧ ((roomD pr 3 0 (List.take x2.toNat x0).length) = true ∧ ((roomD pr 3 (List.take x2.toNat x0).length 1) = true ∧ ((decide (0 ≤ x2)) = true ∧ (((x2.toNat.ble x0.length) && (x0.length.ble x0.length)) = true ∧ ((roomD pr 3 (List.take x2.toNat x0 ++ [iv x1]).length (List.drop x2.toNat (List.take x0.length x0)).length) = true ∧ Q (.sl 1 (List.take x2.toNat x0 ++ [iv x1] ++ List.drop x2.toNat (List.take x0.length x0))) []))))))))))))) ∧ ((decide (x2 < (↑x0.length : Int))) = false → ((decide (0 ≤ x2)) = true ∧ ((true && (x2.toNat.ble x0.length)) = true ∧ ((roomD pr 3 0 (List.take x2.toNat x0).length) = true ∧ ((roomD pr 3 (List.take x2.toNat x0).length 1) = true ∧ ((decide (0 ≤ x2)) = true ∧ (((x2.toNat.ble x0.length) && (x0.length.ble x0.length)) = true ∧ ((roomD pr 3 (List.take x2.toNat x0 ++ [iv x1]).length (List.drop x2.toNat (List.take x0.length x0)).length) = true ∧ Q (.sl 1 (List.take x2.toNat x0 ++ [iv x1] ++ List.drop x2.toNat (List.take x0.length x0))) [])))))))))))) : ∃ r H',A 101 [(.sl 1 x0),(iv x1)] [] r H' ∧ Q r H' :=
 Ans.wq rfl (.ask (eI fun x2=>.done (.exit (.exit 0) (x_put_0_0 x0 x1 x2) (out_put_0_0 x0 x1 0 x2)) (sS 1 (oO 2 (aA 1 (eI fun x3=>.done (.av (iv x3)) (sS 5 (zZ 1) (.one true (oO 1 (.one true (.one true (.one true (oO 1 (.one true (zZ 1)))))))))))) (oO 7 (oO 1 (.one true (.one true (.one true (oO 1 (.one true (zZ 1))))))))))) (by kernel_rfl) h
theorem c_put (x0 x1) (hp : pre_put x0 x1) : ∃ x2 : List AV,post_put x0 x1 x2 ∧ A 101 [(.sl 1 x0),(iv x1)] [] (.sl 1 x2) [] := by
 obtain ⟨_,_,ha,_,hq,rfl,rfl⟩ := w_put x0 x1 (fun r H'=>∃ x2,post_put x0 x1 x2 ∧ r = (.sl 1 x2) ∧ H' = []) (by
  obtain ⟨hp_0,hp_1⟩ := hp
  try replace hp_0 := nq hp_0
  try replace hp_1 := nq hp_1
  refine ⟨k_put_0 x0 x1 0 (by exact jputINV),fun x3 e4=>?_⟩
  obtain ⟨e4_0,e4_1,e4_2⟩ := e4
  try replace e4_0 := nq e4_0
  try replace e4_1 := nq e4_1
  try replace e4_2 := nq e4_2
  refine ⟨fun h5=>?_,fun h5=>?_⟩
  ·replace h5 := dt h5
   try replace h5 := nq h5
   refine ⟨qD,qG,fun _ g7=>?_⟩
   try replace g7 := nw g7
   first | have hsg7 := rsame tA' g7 | have hsg7 := isame tA' g7 | skip
   first | (have eg7 := Rs.elem tA' g7; try have eog7 := OkJ.get tA' eg7) | (have eg7 := Is.elem tA' g7; try have eog7 := OkE.get tA' eg7) | skip
   refine ⟨fun h8=>?_,fun h8=>?_⟩
   ·try replace h8 := nq h8
    exact ⟨x0,by show post_put x0 x1 x0; exact jputPOST,rfl,rfl⟩
   ·try replace h8 := nq h8
    refine ⟨qD,qD,qR,qR,qD,qD,qR,?_⟩
    exact ⟨(List.take x3.toNat x0 ++ [iv x1] ++ List.drop x3.toNat (List.take x0.length x0)),by show post_put x0 x1 (List.take x3.toNat x0 ++ [iv x1] ++ List.drop x3.toNat (List.take x0.length x0)); exact jputPOST,rfl,rfl⟩
  ·replace h5 := df h5
   try replace h5 := nq h5
   refine ⟨qD,qD,qR,qR,qD,qD,qR,?_⟩
   exact ⟨(List.take x3.toNat x0 ++ [iv x1] ++ List.drop x3.toNat (List.take x0.length x0)),by show post_put x0 x1 (List.take x3.toNat x0 ++ [iv x1] ++ List.drop x3.toNat (List.take x0.length x0)); exact jputPOST,rfl,rfl⟩)
 exact ⟨_,hq,ha⟩
def s_Edges_0 (x0 : List AV) (x1 : Int) (x2 : List AV) (x3 : Int) : St := ⟨[],[(0,(.sl 2 x0)),(1,(iv x1)),(5,(.sl 1 x2)),(6,(iv x3))],[],0⟩
def x_Edges_0_0 (x0 : List AV) (x1 : Int) (y2 : List AV) (y0 : Int) : St := ⟨[],[(0,(.sl 2 x0)),(1,(iv x1)),(5,(.sl 1 y2)),(6,(iv y0)),(17,(bv false))],[],0⟩
theorem l_Edges_0 (x0 x1 x2 x3) (Q : Ex → St → Prop) (h : (((decide (x3 < (↑x0.length : Int))) = true → ((decide (0 ≤ x3)) = true ∧ ((∃ (x4 x5 : Int),(x0[x3.toNat]?) = some (.agg [(iv x4),(iv x5)])) ∧ (∀ (x4 x5 : Int),(x0[x3.toNat]?) = some (.agg [(iv x4),(iv x5)]) → (((decide (x4 > 0)) = true → ((decide (0 ≤ x3)) = true ∧ ((∃ (x6 x7 : Int),(x0[x3.toNat]?) = some (.agg [(iv x6),(iv x7)])) ∧ (∀ (x6 x7 : Int),(x0[x3.toNat]?) = some (.agg [(iv x6),(iv x7)]) → (((decide (x6 ≤ x1)) = true → ((decide (0 ≤ x3)) = true ∧ ((∃ (x8 x9 : Int),(x0[x3.toNat]?) = some (.agg [(iv x8),(iv x9)])) ∧ (∀ (x8 x9 : Int),(x0[x3.toNat]?) = some (.agg [(iv x8),(iv x9)]) → ((npL [(.sl 1 x2),(iv x8)]) = true ∧ ((∃ x10 : List AV,post_put x2 x8 x10 ∧ A 101 [(.sl 1 x2),(iv x8)] [] (.sl 1 x10) []) ∧ (∀ x10 : List AV,post_put x2 x8 x10 → ((decide (0 ≤ x3)) = true ∧ ((∃ (x11 x12 : Int),(x0[x3.toNat]?) = some (.agg [(iv x11),(iv x12)])) ∧ (∀ (x11 x12 : Int),(x0[x3.toNat]?) = some (.agg [(iv x11),(iv x12)]) → (((decide (x12 ≥ 0)) = true → ((decide (0 ≤ x3)) = true ∧ ((∃ (x13 x14 : Int),(x0[x3.toNat]?) = some (.agg [(iv x13),(iv x14)])) ∧ (∀ (x13 x14 : Int),(x0[x3.toNat]?) = some (.agg [(iv x13),(iv x14)]) → (((decide (x14 < x1)) = true → ((decide (0 ≤ x3)) = true ∧ ((∃ (x15 x16 : Int),(x0[x3.toNat]?) = some (.agg [(iv x15),(iv x16)])) ∧ (∀ (x15 x16 : Int),(x0[x3.toNat]?) = some (.agg [(iv x15),(iv x16)]) → ((npL [(.sl 1 x10),(iv (IntKind.i64.wrap (x16 + 1)))]) = true ∧ ((∃ x17 : List AV,post_put x10 (IntKind.i64.wrap (x16 + 1)) x17 ∧ A 101 [(.sl 1 x10),(iv (IntKind.i64.wrap (x16 + 1)))] [] (.sl 1 x17) []) ∧ (∀ x17 : List AV,post_put x10 (IntKind.i64.wrap (x16 + 1)) x17 → (Q .norm (s_Edges_0 x0 x1 x17 (IntKind.i64.wrap (x3 + 1))))))))))) ∧ ((decide (x14 < x1)) = false → (Q .norm (s_Edges_0 x0 x1 x10 (IntKind.i64.wrap (x3 + 1)))))))))) ∧ ((decide (x12 ≥ 0)) = false → (Q .norm (s_Edges_0 x0 x1 x10 (IntKind.i64.wrap (x3 + 1)))))))))))))))) ∧ ((decide (x6 ≤ x1)) = false → ((decide (0 ≤ x3)) = true ∧ ((∃ (x18 x19 : Int),(x0[x3.toNat]?) = some (.agg [(iv x18),(iv x19)])) ∧ (∀ (x18 x19 : Int),(x0[x3.toNat]?) = some (.agg [(iv x18),(iv x19)]) → (((decide (x19 ≥ 0)) = true → ((decide (0 ≤ x3)) = true ∧ ((∃ (x20 x21 : Int),(x0[x3.toNat]?) = some (.agg [(iv x20),(iv x21)])) ∧ (∀ (x20 x21 : Int),(x0[x3.toNat]?) = some (.agg [(iv x20),(iv x21)]) → (((decide (x21 < x1)) = true → ((decide (0 ≤ x3)) = true ∧ ((∃ (x22 x23 : Int),(x0[x3.toNat]?) = some (.agg [(iv x22),(iv x23)])) ∧ (∀ (x22 x23 : Int),(x0[x3.toNat]?) = some (.agg [(iv x22),(iv x23)]) → ((npL [(.sl 1 x2),(iv (IntKind.i64.wrap (x23 + 1)))]) = true ∧ ((∃ x24 : List AV,post_put x2 (IntKind.i64.wrap (x23 + 1)) x24 ∧ A 101 [(.sl 1 x2),(iv (IntKind.i64.wrap (x23 + 1)))] [] (.sl 1 x24) []) ∧ (∀ x24 : List AV,post_put x2 (IntKind.i64.wrap (x23 + 1)) x24 → (Q .norm (s_Edges_0 x0 x1 x24 (IntKind.i64.wrap (x3 + 1))))))))))) ∧ ((decide (x21 < x1)) = false → (Q .norm (s_Edges_0 x0 x1 x2 (IntKind.i64.wrap (x3 + 1)))))))))) ∧ ((decide (x19 ≥ 0)) = false → (Q .norm (s_Edges_0 x0 x1 x2 (IntKind.i64.wrap (x3 + 1))))))))))))))) ∧ ((decide (x4 > 0)) = false → ((decide (0 ≤ x3)) = true ∧ ((∃ (x25 x26 : Int),(x0[x3.toNat]?) = some (.agg [(iv x25),(iv x26)])) ∧ (∀ (x25 x26 : Int),(x0[x3.toNat]?) = some (.agg [(iv x25),(iv x26)]) → (((decide (x26 ≥ 0)) = true → ((decide (0 ≤ x3)) = true ∧ ((∃ (x27 x28 : Int),(x0[x3.toNat]?) = some (.agg [(iv x27),(iv x28)])) ∧ (∀ (x27 x28 : Int),(x0[x3.toNat]?) = some (.agg [(iv x27),(iv x28)]) → (((decide (x28 < x1)) = true → ((decide (0 ≤ x3)) = true ∧ ((∃ (x29 x30 : Int),(x0[x3.toNat]?) = some (.agg [(iv x29),(iv x30)])) ∧ (∀ (x29 x30 : Int),(x0[x3.toNat]?) = some (.agg [(iv x29),(iv x30)]) → ((npL [(.sl 1 x2),(iv (IntKind.i64.wrap (x30 + 1)))]) = true ∧ ((∃ x31 : List AV,post_put x2 (IntKind.i64.wrap (x30 + 1)) x31 ∧ A 101 [(.sl 1 x2),(iv (IntKind.i64.wrap (x30 + 1)))] [] (.sl 1 x31) []) ∧ (∀ x31 : List AV,post_put x2 (IntKind.i64.wrap (x30 + 1)) x31 → (Q .norm (s_Edges_0 x0 x1 x31 (IntKind.i64.wrap (x3 + 1))))))))))) ∧ ((decide (x28 < x1)) = false → (Q .norm (s_Edges_0 x0 x1 x2 (IntKind.i64.wrap (x3 + 1)))))))))) ∧ ((decide (x26 ≥ 0)) = false → (Q .norm (s_Edges_0 x0 x1 x2 (IntKind.i64.wrap (x3 + 1))))))))))))))) ∧ ((decide (x3 < (↑x0.length : Int))) = false → (Q (.exit 0) (x_Edges_0_0 x0 x1 x2 x3))))) : ∃ e s',L 97 0 (s_Edges_0 x0 x1 x2 x3) (e,s') ∧ Q e s' :=
 Leads.wq (sS 1 (.one true (aA 1 (eI fun x4=>eI fun x5=>.done (.av (.agg [(iv x4),(iv x5)])) (sS 1 (oO 2 (aA 1 (eI fun x6=>eI fun x7=>.done (.av (.agg [(iv x6),(iv x7)])) (sS 6 (.one true (aA 1 (eI fun x8=>eI fun x9=>.done (.av (.agg [(iv x8),(iv x9)])) (.one true (.ask (eL fun x10=>.done (.res (.sl 1 x10) [] (post_put x2 x8 x10)) (.one true (aA 1 (eI fun x11=>eI fun x12=>.done (.av (.agg [(iv x11),(iv x12)])) (sS 1 (oO 2 (aA 1 (eI fun x13=>eI fun x14=>.done (.av (.agg [(iv x13),(iv x14)])) (sS 6 (.one true (aA 1 (eI fun x15=>eI fun x16=>.done (.av (.agg [(iv x15),(iv x16)])) (oO 1 (.ask (eL fun x17=>.done (.res (.sl 1 x17) [] (post_put x10 (IntKind.i64.wrap (x16 + 1)) x17)) (zZ 1))))))) (zZ 1))))) (zZ 9))))))))))) (.one true (aA 1 (eI fun x18=>eI fun x19=>.done (.av (.agg [(iv x18),(iv x19)])) (sS 1 (oO 2 (aA 1 (eI fun x20=>eI fun x21=>.done (.av (.agg [(iv x20),(iv x21)])) (sS 6 (.one true (aA 1 (eI fun x22=>eI fun x23=>.done (.av (.agg [(iv x22),(iv x23)])) (oO 1 (.ask (eL fun x24=>.done (.res (.sl 1 x24) [] (post_put x2 (IntKind.i64.wrap (x23 + 1)) x24)) (zZ 1))))))) (zZ 1))))) (zZ 9))))))))) (oO 8 (aA 1 (eI fun x25=>eI fun x26=>.done (.av (.agg [(iv x25),(iv x26)])) (sS 1 (oO 2 (aA 1 (eI fun x27=>eI fun x28=>.done (.av (.agg [(iv x27),(iv x28)])) (sS 6 (.one true (aA 1 (eI fun x29=>eI fun x30=>.done (.av (.agg [(iv x29),(iv x30)])) (oO 1 (.ask (eL fun x31=>.done (.res (.sl 1 x31) [] (post_put x2 (IntKind.i64.wrap (x30 + 1)) x31)) (zZ 1))))))) (zZ 1))))) (zZ 9))))))))) .stop) (by kernel_rfl) h
theorem k_Edges_0 (x0 x1 x2 x3) (hi : inv_Edges_0 x0 x1 x2 x3 x2 x3) : (∃ (y4 : List AV) (y5 : Int),out_Edges_0_0 x0 x1 x2 x3 y4 y5 ∧ R 97 0 (s_Edges_0 x0 x1 x2 x3) ((.exit 0),x_Edges_0_0 x0 x1 y4 y5)) := by
 have hk : ∀ (x2o : List AV) (x3o : Int),inv_Edges_0 x0 x1 x2o x3o x2 x3 → ∃ e s',R 97 0 (s_Edges_0 x0 x1 x2 x3) (e,s') ∧ (∃ (y4 : List AV) (y5 : Int),out_Edges_0_0 x0 x1 x2o x3o y4 y5 ∧ e = (.exit 0) ∧ s' = x_Edges_0_0 x0 x1 y4 y5) := by
  intro x2o x3o hi
  exact Rounds.byInv (st := fun (w : (List AV) × Int)=>s_Edges_0 x0 x1 w.1 w.2) (Inv := fun w=>inv_Edges_0 x0 x1 x2o x3o w.1 w.2) (μ := fun w=>mu_Edges_0 x0 x1 w.1 w.2) (Q := fun e s'=>(∃ y4 y5,out_Edges_0_0 x0 x1 x2o x3o y4 y5 ∧ e = (.exit 0) ∧ s' = x_Edges_0_0 x0 x1 y4 y5)) (by
   rintro ⟨x2,x3⟩ hi
   have hi : inv_Edges_0 x0 x1 x2o x3o x2 x3 := hi
   refine l_Edges_0 x0 x1 x2 x3 _ ?_
   obtain ⟨hi_0,hi_1,hi_2,hi_3,hi_4,hi_5,hi_6,hi_7,hi_8⟩ := hi
   try replace hi_0 := nq hi_0
   try replace hi_1 := nq hi_1
   try replace hi_2 := nq hi_2
   try replace hi_3 := nq hi_3
   try replace hi_4 := nq hi_4
   try replace hi_5 := nq hi_5
   try replace hi_6 := nq hi_6
   try replace hi_7 := nq hi_7
   try replace hi_8 := nq hi_8
   refine ⟨fun h6=>?_,fun h6=>?_⟩
   ·replace h6 := dt h6
    try replace h6 := nq h6
    refine ⟨qD,qG,fun _ _ g9=>?_⟩
    try replace g9 := nw g9
    first | have hsg9 := rsame tA' g9 | have hsg9 := isame tA' g9 | skip
    first | (have eg9 := Rs.elem tA' g9; try have eog9 := OkJ.get tA' eg9) | (have eg9 := Is.elem tA' g9; try have eog9 := OkE.get tA' eg9) | skip
    refine ⟨fun h10=>?_,fun h10=>?_⟩
    ·replace h10 := dt h10
     try replace h10 := nq h10
     refine ⟨qD,qG,fun _ _ g13=>?_⟩
     try replace g13 := nw g13
     first | have hsg13 := rsame tA' g13 | have hsg13 := isame tA' g13 | skip
     first | (have eg13 := Rs.elem tA' g13; try have eog13 := OkJ.get tA' eg13) | (have eg13 := Is.elem tA' g13; try have eog13 := OkE.get tA' eg13) | skip
     refine ⟨fun h14=>?_,fun h14=>?_⟩
     ·replace h14 := dt h14
      try replace h14 := nq h14
      refine ⟨qD,qG,fun x15 _ g17=>?_⟩
      try replace g17 := nw g17
      first | have hsg17 := rsame tA' g17 | have hsg17 := isame tA' g17 | skip
      first | (have eg17 := Rs.elem tA' g17; try have eog17 := OkJ.get tA' eg17) | (have eg17 := Is.elem tA' g17; try have eog17 := OkE.get tA' eg17) | skip
      refine ⟨qN,c_put x2 x15 qP,fun x18 p19=>?_⟩
      obtain ⟨p19_0,p19_1,p19_2⟩ := p19
      try replace p19_0 := nq p19_0
      try replace p19_1 := nq p19_1
      try replace p19_2 := nq p19_2
      refine ⟨qD,qG,fun _ _ g22=>?_⟩
      try replace g22 := nw g22
      first | have hsg22 := rsame tA' g22 | have hsg22 := isame tA' g22 | skip
      first | (have eg22 := Rs.elem tA' g22; try have eog22 := OkJ.get tA' eg22) | (have eg22 := Is.elem tA' g22; try have eog22 := OkE.get tA' eg22) | skip
      refine ⟨fun h23=>?_,fun h23=>?_⟩
      ·replace h23 := dt h23
       try replace h23 := nq h23
       refine ⟨qD,qG,fun _ _ g26=>?_⟩
       try replace g26 := nw g26
       first | have hsg26 := rsame tA' g26 | have hsg26 := isame tA' g26 | skip
       first | (have eg26 := Rs.elem tA' g26; try have eog26 := OkJ.get tA' eg26) | (have eg26 := Is.elem tA' g26; try have eog26 := OkE.get tA' eg26) | skip
       refine ⟨fun h27=>?_,fun h27=>?_⟩
       ·replace h27 := dt h27
        try replace h27 := nq h27
        refine ⟨qD,qG,fun _ x29 g30=>?_⟩
        try replace g30 := nw g30
        first | have hsg30 := rsame tA' g30 | have hsg30 := isame tA' g30 | skip
        first | (have eg30 := Rs.elem tA' g30; try have eog30 := OkJ.get tA' eg30) | (have eg30 := Is.elem tA' g30; try have eog30 := OkE.get tA' eg30) | skip
        refine ⟨qN,c_put x18 (IntKind.i64.wrap (x29 + 1)) qP,fun x31 p32=>?_⟩
        obtain ⟨p32_0,p32_1,p32_2⟩ := p32
        try replace p32_0 := nq p32_0
        try replace p32_1 := nq p32_1
        try replace p32_2 := nq p32_2
        exact .inl ⟨rfl,(x31,(IntKind.i64.wrap (x3 + 1))),rfl,by show inv_Edges_0 x0 x1 x2o x3o x31 (IntKind.i64.wrap (x3 + 1)); exact jEdgesINV,by show mu_Edges_0 x0 x1 x31 (IntKind.i64.wrap (x3 + 1)) < mu_Edges_0 x0 x1 x2 x3; exact qP⟩
       ·replace h27 := df h27
        try replace h27 := nq h27
        exact .inl ⟨rfl,(x18,(IntKind.i64.wrap (x3 + 1))),rfl,by show inv_Edges_0 x0 x1 x2o x3o x18 (IntKind.i64.wrap (x3 + 1)); exact jEdgesINV,by show mu_Edges_0 x0 x1 x18 (IntKind.i64.wrap (x3 + 1)) < mu_Edges_0 x0 x1 x2 x3; exact qP⟩
      ·replace h23 := df h23
       try replace h23 := nq h23
       exact .inl ⟨rfl,(x18,(IntKind.i64.wrap (x3 + 1))),rfl,by show inv_Edges_0 x0 x1 x2o x3o x18 (IntKind.i64.wrap (x3 + 1)); exact jEdgesINV,by show mu_Edges_0 x0 x1 x18 (IntKind.i64.wrap (x3 + 1)) < mu_Edges_0 x0 x1 x2 x3; exact qP⟩
     ·replace h14 := df h14
      try replace h14 := nq h14
      refine ⟨qD,qG,fun _ _ g35=>?_⟩
      try replace g35 := nw g35
      first | have hsg35 := rsame tA' g35 | have hsg35 := isame tA' g35 | skip
      first | (have eg35 := Rs.elem tA' g35; try have eog35 := OkJ.get tA' eg35) | (have eg35 := Is.elem tA' g35; try have eog35 := OkE.get tA' eg35) | skip
      refine ⟨fun h36=>?_,fun h36=>?_⟩
      ·replace h36 := dt h36
       try replace h36 := nq h36
       refine ⟨qD,qG,fun _ _ g39=>?_⟩
       try replace g39 := nw g39
       first | have hsg39 := rsame tA' g39 | have hsg39 := isame tA' g39 | skip
       first | (have eg39 := Rs.elem tA' g39; try have eog39 := OkJ.get tA' eg39) | (have eg39 := Is.elem tA' g39; try have eog39 := OkE.get tA' eg39) | skip
       refine ⟨fun h40=>?_,fun h40=>?_⟩
       ·replace h40 := dt h40
        try replace h40 := nq h40
        refine ⟨qD,qG,fun _ x42 g43=>?_⟩
        try replace g43 := nw g43
        first | have hsg43 := rsame tA' g43 | have hsg43 := isame tA' g43 | skip
        first | (have eg43 := Rs.elem tA' g43; try have eog43 := OkJ.get tA' eg43) | (have eg43 := Is.elem tA' g43; try have eog43 := OkE.get tA' eg43) | skip
        refine ⟨qN,c_put x2 (IntKind.i64.wrap (x42 + 1)) qP,fun x44 p45=>?_⟩
        obtain ⟨p45_0,p45_1,p45_2⟩ := p45
        try replace p45_0 := nq p45_0
        try replace p45_1 := nq p45_1
        try replace p45_2 := nq p45_2
        exact .inl ⟨rfl,(x44,(IntKind.i64.wrap (x3 + 1))),rfl,by show inv_Edges_0 x0 x1 x2o x3o x44 (IntKind.i64.wrap (x3 + 1)); exact jEdgesINV,by show mu_Edges_0 x0 x1 x44 (IntKind.i64.wrap (x3 + 1)) < mu_Edges_0 x0 x1 x2 x3; exact qP⟩
       ·replace h40 := df h40
        try replace h40 := nq h40
        exact .inl ⟨rfl,(x2,(IntKind.i64.wrap (x3 + 1))),rfl,zb1x0,zb1x1⟩
      ·replace h36 := df h36
       try replace h36 := nq h36
       exact .inl ⟨rfl,(x2,(IntKind.i64.wrap (x3 + 1))),rfl,zb1x0,zb1x1⟩
    ·replace h10 := df h10
     try replace h10 := nq h10
     refine ⟨qD,qG,fun _ _ g48=>?_⟩
     try replace g48 := nw g48
     first | have hsg48 := rsame tA' g48 | have hsg48 := isame tA' g48 | skip
     first | (have eg48 := Rs.elem tA' g48; try have eog48 := OkJ.get tA' eg48) | (have eg48 := Is.elem tA' g48; try have eog48 := OkE.get tA' eg48) | skip
     refine ⟨fun h49=>?_,fun h49=>?_⟩
     ·replace h49 := dt h49
      try replace h49 := nq h49
      refine ⟨qD,qG,fun _ _ g52=>?_⟩
      try replace g52 := nw g52
      first | have hsg52 := rsame tA' g52 | have hsg52 := isame tA' g52 | skip
      first | (have eg52 := Rs.elem tA' g52; try have eog52 := OkJ.get tA' eg52) | (have eg52 := Is.elem tA' g52; try have eog52 := OkE.get tA' eg52) | skip
      refine ⟨fun h53=>?_,fun h53=>?_⟩
      ·replace h53 := dt h53
       try replace h53 := nq h53
       refine ⟨qD,qG,fun _ x55 g56=>?_⟩
       try replace g56 := nw g56
       first | have hsg56 := rsame tA' g56 | have hsg56 := isame tA' g56 | skip
       first | (have eg56 := Rs.elem tA' g56; try have eog56 := OkJ.get tA' eg56) | (have eg56 := Is.elem tA' g56; try have eog56 := OkE.get tA' eg56) | skip
       refine ⟨qN,c_put x2 (IntKind.i64.wrap (x55 + 1)) qP,fun x57 p58=>?_⟩
       obtain ⟨p58_0,p58_1,p58_2⟩ := p58
       try replace p58_0 := nq p58_0
       try replace p58_1 := nq p58_1
       try replace p58_2 := nq p58_2
       exact .inl ⟨rfl,(x57,(IntKind.i64.wrap (x3 + 1))),rfl,by show inv_Edges_0 x0 x1 x2o x3o x57 (IntKind.i64.wrap (x3 + 1)); exact jEdgesINV,by show mu_Edges_0 x0 x1 x57 (IntKind.i64.wrap (x3 + 1)) < mu_Edges_0 x0 x1 x2 x3; exact qP⟩
      ·replace h53 := df h53
       try replace h53 := nq h53
       exact .inl ⟨rfl,(x2,(IntKind.i64.wrap (x3 + 1))),rfl,zb1x0,zb1x1⟩
     ·replace h49 := df h49
      try replace h49 := nq h49
      exact .inl ⟨rfl,(x2,(IntKind.i64.wrap (x3 + 1))),rfl,zb1x0,zb1x1⟩
   ·replace h6 := df h6
    try replace h6 := nq h6
    exact .inr ⟨by simp,⟨x2,x3,by show out_Edges_0_0 x0 x1 x2o x3o x2 x3; (try unfold out_Edges_0_0); (try simp (disch := omega) only [wrap_id,wrapu_id,fdiv2,Option.getD_some,Option.getD_none,List.length_cons,List.length_nil,List.length_append,List.length_set,List.length_take,List.length_drop,List.length_replicate,Int.toNat_natCast]) <;> (repeat' first | (with_reducible first | apply And.intro | assumption | exact Is.nil | exact Rs.nil | exact Is.one _ | exact Rs.one _ _ | apply Is.app | apply Rs.app | apply Is.take | apply Is.drop | apply Rs.set | exact Rs.rep _ _ _ | exact Is.cons (Is.cons Is.nil)) | omega | (with_reducible exact True.intro) | (with_reducible rfl)); all_goals exact edge_full tB (by rw [RS_len]; omega),rfl,rfl⟩⟩) (x2,x3) hi
 obtain ⟨e,s',hr,hq⟩ := hk x2 x3 hi
 rcases hq with ⟨_,_,ho,rfl,rfl⟩
 exact ⟨_,_,ho,hr⟩
theorem w_Edges (x0 x1) (Q : AV → HH → Prop) (h : (((decide (x1 > 1114111)) = true → ((∃ (x2 : List AV) (x3 : Int),out_Edges_0_0 x0 1114111 [(iv 0),(iv 1114112)] 0 x2 x3 ∧ R 97 0 (s_Edges_0 x0 1114111 [(iv 0),(iv 1114112)] 0) ((.exit 0),x_Edges_0_0 x0 1114111 x2 x3)) ∧ (∀ (x2 : List AV) (x3 : Int),out_Edges_0_0 x0 1114111 [(iv 0),(iv 1114112)] 0 x2 x3 → Q (.sl 1 x2) []))) ∧ ((decide (x1 > 1114111)) = false → (((decide (x1 < 0)) = true → Q (.sl 1 []) []) ∧ ((decide (x1 < 0)) = false → ((∃ (x4 : List AV) (x5 : Int),out_Edges_0_0 x0 x1 [(iv 0),(iv (IntKind.i64.wrap (x1 + 1)))] 0 x4 x5 ∧ R 97 0 (s_Edges_0 x0 x1 [(iv 0),(iv (IntKind.i64.wrap (x1 + 1)))] 0) ((.exit 0),x_Edges_0_0 x0 x1 x4 x5)) ∧ (∀ (x4 : List AV) (x5 : Int),out_Edges_0_0 x0 x1 [(iv 0),(iv (IntKind.i64.wrap (x1 + 1)))] 0 x4 x5 → Q (.sl 1 x4) []))))))) : ∃ r H',A 97 [(.sl 2 x0),(iv x1)] [] r H' ∧ Q r H' :=
 Ans.wq rfl (sS 1 (aA 3 (eL fun x2=>eI fun x3=>.done (.exit (.exit 0) (x_Edges_0_0 x0 1114111 x2 x3) (out_Edges_0_0 x0 1114111 [(iv 0),(iv 1114112)] 0 x2 x3)) (zZ 1))) (sS 1 (zZ 1) (aA 1 (eL fun x4=>eI fun x5=>.done (.exit (.exit 0) (x_Edges_0_0 x0 x1 x4 x5) (out_Edges_0_0 x0 x1 [(iv 0),(iv (IntKind.i64.wrap (x1 + 1)))] 0 x4 x5)) (zZ 1))))) (by kernel_rfl) h
theorem c_Edges (x0 x1) (hp : pre_Edges x0 x1) : ∃ x2 : List AV,post_Edges x0 x1 x2 ∧ A 97 [(.sl 2 x0),(iv x1)] [] (.sl 1 x2) [] := by
 obtain ⟨_,_,ha,_,hq,rfl,rfl⟩ := w_Edges x0 x1 (fun r H'=>∃ x2,post_Edges x0 x1 x2 ∧ r = (.sl 1 x2) ∧ H' = []) (by
  obtain ⟨hp_0,hp_1⟩ := hp
  try replace hp_0 := nq hp_0
  try replace hp_1 := nq hp_1
  refine ⟨fun h3=>?_,fun h3=>?_⟩
  ·replace h3 := dt h3
   try replace h3 := nq h3
   refine ⟨k_Edges_0 x0 1114111 [(iv 0),(iv 1114112)] 0 (by exact jEdgesINV),fun x4 _ e6=>?_⟩
   obtain ⟨e6_0,e6_1,e6_2⟩ := e6
   try replace e6_0 := nq e6_0
   try replace e6_1 := nq e6_1
   try replace e6_2 := nq e6_2
   exact ⟨x4,by show post_Edges x0 x1 x4; exact jEdgesPOST,rfl,rfl⟩
  ·replace h3 := df h3
   try replace h3 := nq h3
   refine ⟨fun h7=>?_,fun h7=>?_⟩
   ·replace h7 := dt h7
    try replace h7 := nq h7
    exact ⟨[],by show post_Edges x0 x1 []; exact jEdgesPOST,rfl,rfl⟩
   ·replace h7 := df h7
    try replace h7 := nq h7
    refine ⟨k_Edges_0 x0 x1 [(iv 0),(iv (IntKind.i64.wrap (x1 + 1)))] 0 (by exact jEdgesINV),fun x8 _ e10=>?_⟩
    obtain ⟨e10_0,e10_1,e10_2⟩ := e10
    try replace e10_0 := nq e10_0
    try replace e10_1 := nq e10_1
    try replace e10_2 := nq e10_2
    exact ⟨x8,by show post_Edges x0 x1 x8; exact jEdgesPOST,rfl,rfl⟩)
 exact ⟨_,hq,ha⟩
def s_In_0 (x0 : List AV) (x1 x2 : Int) : St := ⟨[],[(0,(.sl 2 x0)),(1,(iv x1)),(5,(iv x2))],[],0⟩
def x_In_0_0 (x0 : List AV) (x1 : Int) : St := ⟨[],[(4,(bv true))],[],0⟩
def x_In_0_1 (x0 : List AV) (x1 y2 : Int) : St := ⟨[],[(0,(.sl 2 x0)),(1,(iv x1)),(5,(iv y2)),(9,(bv false))],[],0⟩
theorem l_In_0 (x0 x1 x2) (Q : Ex → St → Prop) (h : (((decide (x2 < (↑x0.length : Int))) = true → ((decide (0 ≤ x2)) = true ∧ ((∃ (x3 x4 : Int),(x0[x2.toNat]?) = some (.agg [(iv x3),(iv x4)])) ∧ (∀ (x3 x4 : Int),(x0[x2.toNat]?) = some (.agg [(iv x3),(iv x4)]) → (((decide (x3 ≤ x1)) = true → ((decide (0 ≤ x2)) = true ∧ ((∃ (x5 x6 : Int),(x0[x2.toNat]?) = some (.agg [(iv x5),(iv x6)])) ∧ (∀ (x5 x6 : Int),(x0[x2.toNat]?) = some (.agg [(iv x5),(iv x6)]) → (((decide (x1 ≤ x6)) = true → (Q Ex.ret (x_In_0_0 x0 x1))) ∧ ((decide (x1 ≤ x6)) = false → (Q .norm (s_In_0 x0 x1 (IntKind.i64.wrap (x2 + 1)))))))))) ∧ ((decide (x3 ≤ x1)) = false → (Q .norm (s_In_0 x0 x1 (IntKind.i64.wrap (x2 + 1)))))))))) ∧ ((decide (x2 < (↑x0.length : Int))) = false → (Q (.exit 0) (x_In_0_1 x0 x1 x2))))) : ∃ e s',L 94 0 (s_In_0 x0 x1 x2) (e,s') ∧ Q e s' :=
 Leads.wq (sS 1 (.one true (aA 1 (eI fun x3=>eI fun x4=>.done (.av (.agg [(iv x3),(iv x4)])) (sS 1 (oO 3 (aA 1 (eI fun x5=>eI fun x6=>.done (.av (.agg [(iv x5),(iv x6)])) (sS 5 .stop (zZ 1))))) (zZ 9))))) .stop) (by kernel_rfl) h
theorem k_In_0 (x0 x1 x2) (hi : inv_In_0 x0 x1 x2 x2) : ((out_In_0_0 x0 x1 x2 ∧ R 94 0 (s_In_0 x0 x1 x2) (Ex.ret,x_In_0_0 x0 x1)) ∨ (∃ y3 : Int,out_In_0_1 x0 x1 x2 y3 ∧ R 94 0 (s_In_0 x0 x1 x2) ((.exit 0),x_In_0_1 x0 x1 y3))) := by
 have hk : ∀ (x2o : Int),inv_In_0 x0 x1 x2o x2 → ∃ e s',R 94 0 (s_In_0 x0 x1 x2) (e,s') ∧ ((out_In_0_0 x0 x1 x2o ∧ e = Ex.ret ∧ s' = x_In_0_0 x0 x1) ∨ (∃ y3 : Int,out_In_0_1 x0 x1 x2o y3 ∧ e = (.exit 0) ∧ s' = x_In_0_1 x0 x1 y3)) := by
  intro x2o hi
  exact Rounds.byInv (st := fun (w : Int)=>s_In_0 x0 x1 w) (Inv := fun w=>inv_In_0 x0 x1 x2o w) (μ := fun w=>mu_In_0 x0 x1 w) (Q := fun e s'=>((out_In_0_0 x0 x1 x2o ∧ e = Ex.ret ∧ s' = x_In_0_0 x0 x1) ∨ (∃ y3,out_In_0_1 x0 x1 x2o y3 ∧ e = (.exit 0) ∧ s' = x_In_0_1 x0 x1 y3))) (by
   intro x2 hi
   have hi : inv_In_0 x0 x1 x2o x2 := hi
   refine l_In_0 x0 x1 x2 _ ?_
   obtain ⟨hi_0,hi_1,hi_2,hi_3,hi_4⟩ := hi
   try replace hi_0 := nq hi_0
   try replace hi_1 := nq hi_1
   try replace hi_2 := nq hi_2
   try replace hi_3 := nq hi_3
   try replace hi_4 := nq hi_4
   refine ⟨fun h4=>?_,fun h4=>?_⟩
   ·replace h4 := dt h4
    try replace h4 := nq h4
    refine ⟨qD,qG,fun _ _ g7=>?_⟩
    try replace g7 := nw g7
    first | have hsg7 := rsame tA' g7 | have hsg7 := isame tA' g7 | skip
    first | (have eg7 := Rs.elem tA' g7; try have eog7 := OkJ.get tA' eg7) | (have eg7 := Is.elem tA' g7; try have eog7 := OkE.get tA' eg7) | skip
    refine ⟨fun h8=>?_,fun h8=>?_⟩
    ·replace h8 := dt h8
     try replace h8 := nq h8
     refine ⟨qD,qG,fun _ _ g11=>?_⟩
     try replace g11 := nw g11
     first | have hsg11 := rsame tA' g11 | have hsg11 := isame tA' g11 | skip
     first | (have eg11 := Rs.elem tA' g11; try have eog11 := OkJ.get tA' eg11) | (have eg11 := Is.elem tA' g11; try have eog11 := OkE.get tA' eg11) | skip
     refine ⟨fun h12=>?_,fun h12=>?_⟩
     ·replace h12 := dt h12
      try replace h12 := nq h12
      exact .inr ⟨by simp,.inl ⟨by show out_In_0_0 x0 x1 x2o; first | exact InS_get tB (by omega) (by omega) | exact not_full tB (by rw [RS_len]; omega),rfl,rfl⟩⟩
     ·replace h12 := df h12
      try replace h12 := nq h12
      exact .inl ⟨rfl,(IntKind.i64.wrap (x2 + 1)),rfl,by show inv_In_0 x0 x1 x2o (IntKind.i64.wrap (x2 + 1)); exact jInINV,by show mu_In_0 x0 x1 (IntKind.i64.wrap (x2 + 1)) < mu_In_0 x0 x1 x2; exact qP⟩
    ·replace h8 := df h8
     try replace h8 := nq h8
     exact .inl ⟨rfl,(IntKind.i64.wrap (x2 + 1)),rfl,by show inv_In_0 x0 x1 x2o (IntKind.i64.wrap (x2 + 1)); exact jInINV,by show mu_In_0 x0 x1 (IntKind.i64.wrap (x2 + 1)) < mu_In_0 x0 x1 x2; exact qP⟩
   ·replace h4 := df h4
    try replace h4 := nq h4
    exact .inr ⟨by simp,.inr (⟨x2,by show out_In_0_1 x0 x1 x2o x2; first | exact InS_get tB (by omega) (by omega) | exact not_full tB (by rw [RS_len]; omega),rfl,rfl⟩)⟩) x2 hi
 obtain ⟨e,s',hr,hq⟩ := hk x2 hi
 rcases hq with ⟨ho,rfl,rfl⟩ | ⟨_,ho,rfl,rfl⟩
 
 ·exact .inl ⟨ho,hr⟩
 ·exact .inr (⟨_,ho,hr⟩)
theorem w_In (x0 x1) (Q : AV → HH → Prop) (h : (((out_In_0_0 x0 x1 0 ∧ R 94 0 (s_In_0 x0 x1 0) (Ex.ret,x_In_0_0 x0 x1)) ∨ (∃ x2 : Int,out_In_0_1 x0 x1 0 x2 ∧ R 94 0 (s_In_0 x0 x1 0) ((.exit 0),x_In_0_1 x0 x1 x2))) ∧ ((out_In_0_0 x0 x1 0 → Q (bv true) []) ∧ (∀ x2 : Int,out_In_0_1 x0 x1 0 x2 → Q (bv false) [])))) : ∃ r H',A 94 [(.sl 2 x0),(iv x1)] [] r H' ∧ Q r H' :=
 Ans.wq rfl (.ask (.or (.done (.exit Ex.ret (x_In_0_0 x0 x1) (out_In_0_0 x0 x1 0)) (zZ 1)) (eI fun x2=>.done (.exit (.exit 0) (x_In_0_1 x0 x1 x2) (out_In_0_1 x0 x1 0 x2)) (zZ 1)))) (by kernel_rfl) h
theorem c_In (x0 x1) (hp : pre_In x0 x1) : ∃ x2 : Bool,post_In x0 x1 x2 ∧ A 94 [(.sl 2 x0),(iv x1)] [] (bv x2) [] := by
 obtain ⟨_,_,ha,_,hq,rfl,rfl⟩ := w_In x0 x1 (fun r H'=>∃ x2,post_In x0 x1 x2 ∧ r = (bv x2) ∧ H' = []) (by
  obtain ⟨hp_0,hp_1⟩ := hp
  try replace hp_0 := nq hp_0
  try replace hp_1 := nq hp_1
  refine ⟨k_In_0 x0 x1 0 (by exact jInINV),fun e3=>?_,fun _ e5=>?_⟩
  ·have e3_0 := e3
   unfold out_In_0_0 at e3_0
   try replace e3_0 := nq e3_0
   exact ⟨true,by show post_In x0 x1 true; first | exact iff_no tB | exact iff_yes tB,rfl,rfl⟩
  ·have e5_0 := e5
   unfold out_In_0_1 at e5_0
   try replace e5_0 := nq e5_0
   exact ⟨false,by show post_In x0 x1 false; first | exact iff_no tB | exact iff_yes tB,rfl,rfl⟩)
 exact ⟨_,hq,ha⟩
def E_In (l : List AV) (c : Int) : Prop := ∃ r,post_In l c r ∧ A 94 [.sl 2 l,iv c] [] (bv r) []
abbrev j_In (nn : Nat) (l : List AV) (c : Int) (k : Bool → HC) : HC := ⟨.ev nn (.ask (eB fun r=>.done (.res (bv r) [] (post_In l c r)) (k r).h)),E_In l c ∧ ∀ r,post_In l c r → (k r).p⟩
instance {l : List AV} {c : Int} : C (E_In l c) (pre_In l c) := ⟨fun hp=>c_In l c hp⟩
def s_Join_0 (x0 : Int) (x1 x2 x3 x4 : List AV) (x5 : Int) : St := ⟨[],[(0,(iv x0)),(1,(.sl 2 x1)),(2,(.sl 2 x2)),(10,(.sl 1 x3)),(11,(.cap true 105 x4)),(12,(iv x5))],[],0⟩
def x_Join_0_0 (x0 : Int) (x1 x2 x3 y4 : List AV) (y5 : Int) : St := ⟨[],[(0,(iv x0)),(1,(.sl 2 x1)),(2,(.sl 2 x2)),(10,(.sl 1 x3)),(11,(.cap true 105 y4)),(12,(iv y5)),(29,(bv false))],[],0⟩
theorem l_Join_0 (x0 x1 x2 x3 x4 x5) (Q : Ex → St → Prop) (h : (((decide (IntKind.i64.wrap (x5 + 1) < (↑x3.length : Int))) = true → ((decide (0 ≤ x5)) = true ∧ ((∃ x6 : Int,(x3[x5.toNat]?) = some (iv x6)) ∧ (∀ x6 : Int,(x3[x5.toNat]?) = some (iv x6) → ((npL [(.sl 2 x1),(iv x6)]) = true ∧ ((∃ x7 : Bool,post_In x1 x6 x7 ∧ A 94 [(.sl 2 x1),(iv x6)] [] (bv x7) []) ∧ (∀ x7 : Bool,post_In x1 x6 x7 → ((decide (0 ≤ x5)) = true ∧ ((∃ x8 : Int,(x3[x5.toNat]?) = some (iv x8)) ∧ (∀ x8 : Int,(x3[x5.toNat]?) = some (iv x8) → ((npL [(.sl 2 x2),(iv x8)]) = true ∧ ((∃ x9 : Bool,post_In x2 x8 x9 ∧ A 94 [(.sl 2 x2),(iv x8)] [] (bv x9) []) ∧ (∀ x9 : Bool,post_In x2 x8 x9 → ((x7 = true → (((x0 == 1) = true → (x7 = true ∧ (((x0 == 2) = true → ((!!x7) = true ∧ (Q .norm (s_Join_0 x0 x1 x2 x3 x4 (IntKind.i64.wrap (x5 + 1)))))) ∧ ((x0 == 2) = false → (((!x9) = true → (Q .norm (s_Join_0 x0 x1 x2 x3 x4 (IntKind.i64.wrap (x5 + 1))))) ∧ ((!x9) = false → (((decide ((↑x4.length : Int) > 0)) = true → ((decide (0 ≤ IntKind.i64.wrap ((↑x4.length : Int) - 1))) = true ∧ (((IntKind.i64.wrap ((↑x4.length : Int) - 1)).toNat.blt x4.length) = true ∧ ((∃ (x10 x11 : Int),(x4[(IntKind.i64.wrap ((↑x4.length : Int) - 1)).toNat]?) = some (.agg [(iv x10),(iv x11)])) ∧ (∀ (x10 x11 : Int),(x4[(IntKind.i64.wrap ((↑x4.length : Int) - 1)).toNat]?) = some (.agg [(iv x10),(iv x11)]) → ((decide (0 ≤ x5)) = true ∧ ((∃ x12 : Int,(x3[x5.toNat]?) = some (iv x12)) ∧ (∀ x12 : Int,(x3[x5.toNat]?) = some (iv x12) → (((IntKind.i64.wrap (x11 + 1) == x12) = true → ((decide (0 ≤ IntKind.i64.wrap (x5 + 1))) = true ∧ ((∃ x13 : Int,(x3[(IntKind.i64.wrap (x5 + 1)).toNat]?) = some (iv x13)) ∧ (∀ x13 : Int,(x3[(IntKind.i64.wrap (x5 + 1)).toNat]?) = some (iv x13) → ((decide (0 ≤ IntKind.i64.wrap ((↑x4.length : Int) - 1))) = true ∧ (((IntKind.i64.wrap ((↑x4.length : Int) - 1)).toNat.blt x4.length) = true ∧ ((∃ (x14 x15 : Int),(x4[(IntKind.i64.wrap ((↑x4.length : Int) - 1)).toNat]?) = some (.agg [(iv x14),(iv x15)])) ∧ (∀ (x14 x15 : Int),(x4[(IntKind.i64.wrap ((↑x4.length : Int) - 1)).toNat]?) = some (.agg [(iv x14),(iv x15)]) → (Q .norm (s_Join_0 x0 x1 x2 x3 (x4.set (IntKind.i64.wrap ((↑x4.length : Int) - 1)).toNat (AV.agg [iv x14,iv (IntKind.i64.wrap (x13 - 1))])) (IntKind.i64.wrap (x5 + 1)))))))))))) ∧ ((IntKind.i64.wrap (x11 + 1) == x12) = false → ((decide (0 ≤ x5)) = true ∧ ((∃ x16 : Int,(x3[x5.toNat]?) = some (iv x16)) ∧ (∀ x16 : Int,(x3[x5.toNat]?) = some (iv x16) → ((decide (0 ≤ IntKind.i64.wrap (x5 + 1))) = true ∧ ((∃ x17 : Int,(x3[(IntKind.i64.wrap (x5 + 1)).toNat]?) = some (iv x17)) ∧ (∀ x17 : Int,(x3[(IntKind.i64.wrap (x5 + 1)).toNat]?) = some (iv x17) → ((roomD pr 105 x4.length 1) = true ∧ (Q .norm (s_Join_0 x0 x1 x2 x3 (x4 ++ [AV.agg [iv x16,iv (IntKind.i64.wrap (x17 - 1))]]) (IntKind.i64.wrap (x5 + 1))))))))))))))))))))) ∧ ((decide ((↑x4.length : Int) > 0)) = false → ((decide (0 ≤ x5)) = true ∧ ((∃ x18 : Int,(x3[x5.toNat]?) = some (iv x18)) ∧ (∀ x18 : Int,(x3[x5.toNat]?) = some (iv x18) → ((decide (0 ≤ IntKind.i64.wrap (x5 + 1))) = true ∧ ((∃ x19 : Int,(x3[(IntKind.i64.wrap (x5 + 1)).toNat]?) = some (iv x19)) ∧ (∀ x19 : Int,(x3[(IntKind.i64.wrap (x5 + 1)).toNat]?) = some (iv x19) → ((roomD pr 105 x4.length 1) = true ∧ (Q .norm (s_Join_0 x0 x1 x2 x3 (x4 ++ [AV.agg [iv x18,iv (IntKind.i64.wrap (x19 - 1))]]) (IntKind.i64.wrap (x5 + 1))))))))))))))))))) ∧ ((x0 == 1) = false → (((x0 == 2) = true → ((!!x7) = true ∧ (Q .norm (s_Join_0 x0 x1 x2 x3 x4 (IntKind.i64.wrap (x5 + 1)))))) ∧ ((x0 == 2) = false → (((decide ((↑x4.length : Int) > 0)) = true → ((decide (0 ≤ IntKind.i64.wrap ((↑x4.length : Int) - 1))) = true ∧ (((IntKind.i64.wrap ((↑x4.length : Int) - 1)).toNat.blt x4.length) = true ∧ ((∃ (x20 x21 : Int),(x4[(IntKind.i64.wrap ((↑x4.length : Int) - 1)).toNat]?) = some (.agg [(iv x20),(iv x21)])) ∧ (∀ (x20 x21 : Int),(x4[(IntKind.i64.wrap ((↑x4.length : Int) - 1)).toNat]?) = some (.agg [(iv x20),(iv x21)]) → ((decide (0 ≤ x5)) = true ∧ ((∃ x22 : Int,(x3[x5.toNat]?) = some (iv x22)) ∧ (∀ x22 : Int,(x3[x5.toNat]?) = some (iv x22) → (((IntKind.i64.wrap (x21 + 1) == x22) = true → ((decide (0 ≤ IntKind.i64.wrap (x5 + 1))) = true ∧ ((∃ x23 : Int,(x3[(IntKind.i64.wrap (x5 + 1)).toNat]?) = some (iv x23)) ∧ (∀ x23 : Int,(x3[(IntKind.i64.wrap (x5 + 1)).toNat]?) = some (iv x23) → ((decide (0 ≤ IntKind.i64.wrap ((↑x4.length : Int) - 1))) = true ∧ (((IntKind.i64.wrap ((↑x4.length : Int) - 1)).toNat.blt x4.length) = true ∧ ((∃ (x24 x25 : Int),(x4[(IntKind.i64.wrap ((↑x4.length : Int) - 1)).toNat]?) = some (.agg [(iv x24),(iv x25)])) ∧ (∀ (x24 x25 : Int),(x4[(IntKind.i64.wrap ((↑x4.length : Int) - 1)).toNat]?) = some (.agg [(iv x24),(iv x25)]) → (Q .norm (s_Join_0 x0 x1 x2 x3 (x4.set (IntKind.i64.wrap ((↑x4.length : Int) - 1)).toNat (AV.agg [iv x24,iv (IntKind.i64.wrap (x23 - 1))])) (IntKind.i64.wrap (x5 + 1)))))))))))) ∧ ((IntKind.i64.wrap (x21 + 1) == x22) = false → ((decide (0 ≤ x5)) = true ∧ ((∃ x26 : Int,(x3[x5.toNat]?) = some (iv x26)) ∧ (∀ x26 : Int,(x3[x5.toNat]?) = some (iv x26) → ((decide (0 ≤ IntKind.i64.wrap (x5 + 1))) = true ∧ ((∃ x27 : Int,(x3[(IntKind.i64.wrap (x5 + 1)).toNat]?) = some (iv x27)) ∧ (∀ x27 : Int,(x3[(IntKind.i64.wrap (x5 + 1)).toNat]?) = some (iv x27) → ((roomD pr 105 x4.length 1) = true ∧ (Q .norm (s_Join_0 x0 x1 x2 x3 (x4 ++ [AV.agg [iv x26,iv (IntKind.i64.wrap (x27 - 1))]]) (IntKind.i64.wrap (x5 + 1))))))))))))))))))))) ∧ ((decide ((↑x4.length : Int) > 0)) = false → ((decide (0 ≤ x5)) = true ∧ ((∃ x28 : Int,(x3[x5.toNat]?) = some (iv x28)) ∧ (∀ x28 : Int,(x3[x5.toNat]?) = some (iv x28) → ((decide (0 ≤ IntKind.i64.wrap (x5 + 1))) = true ∧ ((∃ x29 : Int,(x3[(IntKind.i64.wrap (x5 + 1)).toNat]?) = some (iv x29)) ∧ (∀ x29 : Int,(x3[(IntKind.i64.wrap (x5 + 1)).toNat]?) = some (iv x29) → ((roomD pr 105 x4.length 1) = true ∧ (Q .norm (s_Join_0 x0 x1 x2 x3 (x4 ++ [AV.agg [iv x28,iv (IntKind.i64.wrap (x29 - 1))]]) (IntKind.i64.wrap (x5 + 1)))))))))))))))))) ∧ (x7 = false → (((x0 == 1) = true → (x7 = false ∧ (((x0 == 2) = true → ((!!x7) = false ∧ (((decide ((↑x4.length : Int) > 0)) = true → ((decide (0 ≤ IntKind.i64.wrap ((↑x4.length : Int) - 1))) = true ∧ (((IntKind.i64.wrap ((↑x4.length : Int) - 1)).toNat.blt x4.length) = true ∧ ((∃ (x30 x31 : Int),(x4[(IntKind.i64.wrap ((↑x4.length : Int) - 1)).toNat]?) = some (.agg [(iv x30),(iv x31)])) ∧ (∀ (x30 x31 : Int),(x4[(IntKind.i64.wrap ((↑x4.length : Int) - 1)).toNat]?) = some (.agg [(iv x30),(iv x31)]) → ((decide (0 ≤ x5)) = true ∧ ((∃ x32 : Int,(x3[x5.toNat]?) = some (iv x32)) ∧ (∀ x32 : Int,(x3[x5.toNat]?) = some (iv x32) → (((IntKind.i64.wrap (x31 + 1) == x32) = true → ((decide (0 ≤ IntKind.i64.wrap (x5 + 1))) = true ∧ ((∃ x33 : Int,(x3[(IntKind.i64.wrap (x5 + 1)).toNat]?) = some (iv x33)) ∧ (∀ x33 : Int,(x3[(IntKind.i64.wrap (x5 + 1)).toNat]?) = some (iv x33) → ((decide (0 ≤ IntKind.i64.wrap ((↑x4.length : Int) - 1))) = true ∧ (((IntKind.i64.wrap ((↑x4.length : Int) - 1)).toNat.blt x4.length) = true ∧ ((∃ (x34 x35 : Int),(x4[(IntKind.i64.wrap ((↑x4.length : Int) - 1)).toNat]?) = some (.agg [(iv x34),(iv x35)])) ∧ (∀ (x34 x35 : Int),(x4[(IntKind.i64.wrap ((↑x4.length : Int) - 1)).toNat]?) = some (.agg [(iv x34),(iv x35)]) → (Q .norm (s_Join_0 x0 x1 x2 x3 (x4.set (IntKind.i64.wrap ((↑x4.length : Int) - 1)).toNat (AV.agg [iv x34,iv (IntKind.i64.wrap (x33 - 1))])) (IntKind.i64.wrap (x5 + 1)))))))))))) ∧ ((IntKind.i64.wrap (x31 + 1) == x32) = false → ((decide (0 ≤ x5)) = true ∧ ((∃ x36 : Int,(x3[x5.toNat]?) = some (iv x36)) ∧ (∀ x36 : Int,(x3[x5.toNat]?) = some (iv x36) → ((decide (0 ≤ IntKind.i64.wrap (x5 + 1))) = true ∧ ((∃ x37 : Int,(x3[(IntKind.i64.wrap (x5 + 1)).toNat]?) = some (iv x37)) ∧ (∀ x37 : Int,(x3[(IntKind.i64.wrap (x5 + 1)).toNat]?) = some (iv x37) → ((roomD pr 105 x4.length 1) = true ∧ (Q .norm (s_Join_0 x0 x1 x2 x3 (x4 ++ [AV.agg [iv x36,iv (IntKind.i64.wrap (x37 - 1))]]) (IntKind.i64.wrap (x5 + 1))))))))))))))))))))) ∧ ((decide ((↑x4.length : Int) > 0)) = false → ((decide (0 ≤ x5)) = true ∧ ((∃ x38 : Int,(x3[x5.toNat]?) = some (iv x38)) ∧ (∀ x38 : Int,(x3[x5.toNat]?) = some (iv x38) → ((decide (0 ≤ IntKind.i64.wrap (x5 + 1))) = true ∧ ((∃ x39 : Int,(x3[(IntKind.i64.wrap (x5 + 1)).toNat]?) = some (iv x39)) ∧ (∀ x39 : Int,(x3[(IntKind.i64.wrap (x5 + 1)).toNat]?) = some (iv x39) → ((roomD pr 105 x4.length 1) = true ∧ (Q .norm (s_Join_0 x0 x1 x2 x3 (x4 ++ [AV.agg [iv x38,iv (IntKind.i64.wrap (x39 - 1))]]) (IntKind.i64.wrap (x5 + 1))))))))))))))) ∧ ((x0 == 2) = false → (Q .norm (s_Join_0 x0 x1 x2 x3 x4 (IntKind.i64.wrap (x5 + 1)))))))) ∧ ((x0 == 1) = false → (((x0 == 2) = true → ((!!x7) = false ∧ (((decide ((↑x4.length : Int) > 0)) = true → ((decide (0 ≤ IntKind.i64.wrap ((↑x4.length : Int) - 1))) = true ∧ (((IntKind.i64.wrap ((↑x4.length : Int) - 1)).toNat.blt x4.length) = true ∧ ((∃ (x40 x41 : Int),(x4[(IntKind.i64.wrap ((↑x4.length : Int) - 1)).toNat]?) = some (.agg [(iv x40),(iv x41)])) ∧ (∀ (x40 x41 : Int),(x4[(IntKind.i64.wrap ((↑x4.length : Int) - 1)).toNat]?) = some (.agg [(iv x40),(iv x41)]) → ((decide (0 ≤ x5)) = true ∧ ((∃ x42 : Int,(x3[x5.toNat]?) = some (iv x42)) ∧ (∀ x42 : Int,(x3[x5.toNat]?) = some (iv x42) → (((IntKind.i64.wrap (x41 + 1) == x42) = true → ((decide (0 ≤ IntKind.i64.wrap (x5 + 1))) = true ∧ ((∃ x43 : Int,(x3[(IntKind.i64.wrap (x5 + 1)).toNat]?) = some (iv x43)) ∧ (∀ x43 : Int,(x3[(IntKind.i64.wrap (x5 + 1)).toNat]?) = some (iv x43) → ((decide (0 ≤ IntKind.i64.wrap ((↑x4.length : Int) - 1))) = true ∧ (((IntKind.i64.wrap ((↑x4.length : Int) - 1)).toNat.blt x4.length) = true ∧ ((∃ (x44 x45 : Int),(x4[(IntKind.i64.wrap ((↑x4.length : Int) - 1)).toNat]?) = some (.agg [(iv x44),(iv x45)])) ∧ (∀ (x44 x45 : Int),(x4[(IntKind.i64.wrap ((↑x4.length : Int) - 1)).toNat]?) = some (.agg [(iv x44),(iv x45)]) → (Q .norm (s_Join_0 x0 x1 x2 x3 (x4.set (IntKind.i64.wrap ((↑x4.length : Int) - 1)).toNat (AV.agg [iv x44,iv (IntKind.i64.wrap (x43 - 1))])) (IntKind.i64.wrap (x5 + 1)))))))))))) ∧ ((IntKind.i64.wrap (x41 + 1) == x42) = false → ((decide (0 ≤ x5)) = true ∧ ((∃ x46 : Int,(x3[x5.toNat]?) = some (iv x46)) ∧ (∀ x46 : Int,(x3[x5.toNat]?) = some (iv x46) → ((decide (0 ≤ IntKind.i64.wrap (x5 + 1))) = true ∧ ((∃ x47 : Int,(x3[(IntKind.i64.wrap (x5 + 1)).toNat]?) = some (iv x47)) ∧ (∀ x47 : Int,(x3[(IntKind.i64.wrap (x5 + 1)).toNat]?) = some (iv x47) → ((roomD pr 105 x4.length 1) = true ∧ (Q .norm (s_Join_0 x0 x1 x2 x3 (x4 ++ [AV.agg [iv x46,iv (IntKind.i64.wrap (x47 - 1))]]) (IntKind.i64.wrap (x5 + 1))))))))))))))))))))) ∧ ((decide ((↑x4.length : Int) > 0)) = false → ((decide (0 ≤ x5)) = true ∧ ((∃ x48 : Int,(x3[x5.toNat]?) = some (iv x48)) ∧ (∀ x48 : Int,(x3[x5.toNat]?) = some (iv x48) → ((decide (0 ≤ IntKind.i64.wrap (x5 + 1))) = true ∧ ((∃ x49 : Int,(x3[(IntKind.i64.wrap (x5 + 1)).toNat]?) = some (iv x49)) ∧ (∀ x49 : Int,(x3[(IntKind.i64.wrap (x5 + 1)).toNat]?) = some (iv x49) → ((roomD pr 105 x4.length 1) = true ∧ (Q .norm (s_Join_0 x0 x1 x2 x3 (x4 ++ [AV.agg [iv x48,iv (IntKind.i64.wrap (x49 - 1))]]) (IntKind.i64.wrap (x5 + 1))))))))))))))) ∧ ((x0 == 2) = false → (((!x9) = true → (Q .norm (s_Join_0 x0 x1 x2 x3 x4 (IntKind.i64.wrap (x5 + 1))))) ∧ ((!x9) = false → (((decide ((↑x4.length : Int) > 0)) = true → ((decide (0 ≤ IntKind.i64.wrap ((↑x4.length : Int) - 1))) = true ∧ (((IntKind.i64.wrap ((↑x4.length : Int) - 1)).toNat.blt x4.length) = true ∧ ((∃ (x50 x51 : Int),(x4[(IntKind.i64.wrap ((↑x4.length : Int) - 1)).toNat]?) = some (.agg [(iv x50),(iv x51)])) ∧ (∀ (x50 x51 : Int),(x4[(IntKind.i64.wrap ((↑x4.length : Int) - 1)).toNat]?) = some (.agg [(iv x50),(iv x51)]) → ((decide (0 ≤ x5)) = true ∧ ((∃ x52 : Int,(x3[x5.toNat]?) = some (iv x52)) ∧ (∀ x52 : Int,(x3[x5.toNat]?) = some (iv x52) → (((IntKind.i64.wrap (x51 + 1) == x52) = true → ((decide (0 ≤ IntKind.i64.wrap (x5 + 1))) = true ∧ ((∃ x53 : Int,(x3[(IntKind.i64.wrap (x5 + 1)).toNat]?) = some (iv x53)) ∧ (∀ x53 : Int,(x3[(IntKind.i64.wrap (x5 + 1)).toNat]?) = some (iv x53) → ((decide (0 ≤ IntKind.i64.wrap ((↑x4.length : Int) - 1))) = true ∧ (((IntKind.i64.wrap ((↑x4.length : Int) - 1)).toNat.blt x4.length) = true ∧ ((∃ (x54 x55 : Int),(x4[(IntKind.i64.wrap ((↑x4.length : Int) - 1)).toNat]?) = some (.agg [(iv x54),(iv x55)])) ∧ (∀ (x54 x55 : Int),(x4[(IntKind.i64.wrap ((↑x4.length : Int) - 1)).toNat]?) = some (.agg [(iv x54),(iv x55)]) → (Q .norm (s_Join_0 x0 x1 x2 x3 (x4.set (IntKind.i64.wrap ((↑x4.length : Int) - 1)).toNat (AV.agg [iv x54,iv (IntKind.i64.wrap (x53 - 1))])) (IntKind.i64.wrap (x5 + 1)))))))))))) ∧ ((IntKind.i64.wrap (x51 + 1) == x52) = false → ((decide (0 ≤ x5)) = true ∧ ((∃ x56 : Int,(x3[x5.toNat]?) = some (iv x56)) ∧ (∀ x56 : Int,(x3[x5.toNat]?) = some (iv x56) → ((decide (0 ≤ IntKind.i64.wrap (x5 + 1))) = true ∧ ((∃ x57 : Int,(x3[(IntKind.i64.wrap (x5 + 1)).toNat]?) = some (iv x57)) ∧ (∀ x57 : Int,(x3[(IntKind.i64.wrap (x5 + 1)).toNat]?) = some (iv x57) → ((roomD pr 105 x4.length 1) = true ∧ (Q .norm (s_Join_0 x0 x1 x2 x3 (x4 ++ [AV.agg [iv x56,iv (IntKind.i64.wrap (x57 - 1))]]) (IntKind.i64.wrap (x5 + 1))))))))))))))))))))) ∧ ((decide ((↑x4.length : Int) > 0)) = false → ((decide (0 ≤ x5)) = true ∧ ((∃ x58 : Int,(x3[x5.toNat]?) = some (iv x58)) ∧ (∀ x58 : Int,(x3[x5.toNat]?) = some (iv x58) → ((decide (0 ≤ IntKind.i64.wrap (x5 + 1))) = true ∧ ((∃ x59 : Int,(x3[(IntKind.i64.wrap (x5 + 1)).toNat]?) = some (iv x59)) ∧ (∀ x59 : Int,(x3[(IntKind.i64.wrap (x5 + 1)).toNat]?) = some (iv x59) → ((roomD pr 105 x4.length 1) = true ∧ (Q .norm (s_Join_0 x0 x1 x2 x3 (x4 ++ [AV.agg [iv x58,iv (IntKind.i64.wrap (x59 - 1))]]) (IntKind.i64.wrap (x5 + 1)))))))))))))))))))))))))))))))))) ∧ ((decide (IntKind.i64.wrap (x5 + 1) < (↑x3.length : Int))) = false → (Q (.exit 0) (x_Join_0_0 x0 x1 x2 x3 x4 x5))))) : ∃ e s',L 85 0 (s_Join_0 x0 x1 x2 x3 x4 x5) (e,s') ∧ Q e s' :=
 Leads.wq (sS 2 (.one true (aA 1 (eI fun x6=>.done (.av (iv x6)) (.one true (.ask (eB fun x7=>.done (.res (bv x7) [] (post_In x1 x6 x7)) (.one true (aA 1 (eI fun x8=>.done (.av (iv x8)) (.one true (.ask (eB fun x9=>.done (.res (bv x9) [] (post_In x2 x8 x9)) (.split (sS 2 (.one true (sS 2 (oO 2 (zZ 1)) (sS 1 (zZ 1) (sS 1 (oO 5 (oO 1 (aA 2 (eI fun x10=>eI fun x11=>.done (.av (.agg [(iv x10),(iv x11)])) (oO 5 (aA 1 (eI fun x12=>.done (.av (iv x12)) (sS 4 (oO 2 (aA 1 (eI fun x13=>.done (.av (iv x13)) (oO 1 (oO 1 (.ask (eI fun x14=>eI fun x15=>.done (.av (.agg [(iv x14),(iv x15)])) (zZ 1)))))))) (.one true (aA 1 (eI fun x16=>.done (.av (iv x16)) (oO 1 (aA 1 (eI fun x17=>.done (.av (iv x17)) (oO 1 (zZ 1)))))))))))))))) (oO 14 (aA 1 (eI fun x18=>.done (.av (iv x18)) (oO 1 (aA 1 (eI fun x19=>.done (.av (iv x19)) (oO 1 (zZ 1)))))))))))) (sS 1 (oO 2 (zZ 1)) (sS 3 (oO 5 (oO 1 (aA 2 (eI fun x20=>eI fun x21=>.done (.av (.agg [(iv x20),(iv x21)])) (oO 5 (aA 1 (eI fun x22=>.done (.av (iv x22)) (sS 4 (oO 2 (aA 1 (eI fun x23=>.done (.av (iv x23)) (oO 1 (oO 1 (.ask (eI fun x24=>eI fun x25=>.done (.av (.agg [(iv x24),(iv x25)])) (zZ 1)))))))) (.one true (aA 1 (eI fun x26=>.done (.av (iv x26)) (oO 1 (aA 1 (eI fun x27=>.done (.av (iv x27)) (oO 1 (zZ 1)))))))))))))))) (oO 14 (aA 1 (eI fun x28=>.done (.av (iv x28)) (oO 1 (aA 1 (eI fun x29=>.done (.av (iv x29)) (oO 1 (zZ 1))))))))))) (sS 2 (.one false (sS 2 (.ev 2 (.one false (sS 1 (oO 5 (oO 1 (aA 2 (eI fun x30=>eI fun x31=>.done (.av (.agg [(iv x30),(iv x31)])) (oO 5 (aA 1 (eI fun x32=>.done (.av (iv x32)) (sS 4 (oO 2 (aA 1 (eI fun x33=>.done (.av (iv x33)) (oO 1 (oO 1 (.ask (eI fun x34=>eI fun x35=>.done (.av (.agg [(iv x34),(iv x35)])) (zZ 1)))))))) (.one true (aA 1 (eI fun x36=>.done (.av (iv x36)) (oO 1 (aA 1 (eI fun x37=>.done (.av (iv x37)) (oO 1 (zZ 1)))))))))))))))) (oO 14 (aA 1 (eI fun x38=>.done (.av (iv x38)) (oO 1 (aA 1 (eI fun x39=>.done (.av (iv x39)) (oO 1 (zZ 1))))))))))) (zZ 3))) (sS 1 (.ev 2 (.one false (sS 1 (oO 5 (oO 1 (aA 2 (eI fun x40=>eI fun x41=>.done (.av (.agg [(iv x40),(iv x41)])) (oO 5 (aA 1 (eI fun x42=>.done (.av (iv x42)) (sS 4 (oO 2 (aA 1 (eI fun x43=>.done (.av (iv x43)) (oO 1 (oO 1 (.ask (eI fun x44=>eI fun x45=>.done (.av (.agg [(iv x44),(iv x45)])) (zZ 1)))))))) (.one true (aA 1 (eI fun x46=>.done (.av (iv x46)) (oO 1 (aA 1 (eI fun x47=>.done (.av (iv x47)) (oO 1 (zZ 1)))))))))))))))) (oO 14 (aA 1 (eI fun x48=>.done (.av (iv x48)) (oO 1 (aA 1 (eI fun x49=>.done (.av (iv x49)) (oO 1 (zZ 1))))))))))) (sS 1 (zZ 1) (sS 1 (oO 5 (oO 1 (aA 2 (eI fun x50=>eI fun x51=>.done (.av (.agg [(iv x50),(iv x51)])) (oO 5 (aA 1 (eI fun x52=>.done (.av (iv x52)) (sS 4 (oO 2 (aA 1 (eI fun x53=>.done (.av (iv x53)) (oO 1 (oO 1 (.ask (eI fun x54=>eI fun x55=>.done (.av (.agg [(iv x54),(iv x55)])) (zZ 1)))))))) (.one true (aA 1 (eI fun x56=>.done (.av (iv x56)) (oO 1 (aA 1 (eI fun x57=>.done (.av (iv x57)) (oO 1 (zZ 1)))))))))))))))) (oO 14 (aA 1 (eI fun x58=>.done (.av (iv x58)) (oO 1 (aA 1 (eI fun x59=>.done (.av (iv x59)) (oO 1 (zZ 1))))))))))))))))))))))))) .stop) (by kernel_rfl) h
theorem k_Join_0 (x0 x1 x2 x3 x4 x5) (hi : inv_Join_0 x0 x1 x2 x3 x4 x5 x4 x5) : (∃ (y6 : List AV) (y7 : Int),out_Join_0_0 x0 x1 x2 x3 x4 x5 y6 y7 ∧ R 85 0 (s_Join_0 x0 x1 x2 x3 x4 x5) ((.exit 0),x_Join_0_0 x0 x1 x2 x3 y6 y7)) := by
 have hk : ∀ (x4o : List AV) (x5o : Int),inv_Join_0 x0 x1 x2 x3 x4o x5o x4 x5 → ∃ e s',R 85 0 (s_Join_0 x0 x1 x2 x3 x4 x5) (e,s') ∧ (∃ (y6 : List AV) (y7 : Int),out_Join_0_0 x0 x1 x2 x3 x4o x5o y6 y7 ∧ e = (.exit 0) ∧ s' = x_Join_0_0 x0 x1 x2 x3 y6 y7) := by
  intro x4o x5o hi
  exact Rounds.byInv (st := fun (w : (List AV) × Int)=>s_Join_0 x0 x1 x2 x3 w.1 w.2) (Inv := fun w=>inv_Join_0 x0 x1 x2 x3 x4o x5o w.1 w.2) (μ := fun w=>mu_Join_0 x0 x1 x2 x3 w.1 w.2) (Q := fun e s'=>(∃ y6 y7,out_Join_0_0 x0 x1 x2 x3 x4o x5o y6 y7 ∧ e = (.exit 0) ∧ s' = x_Join_0_0 x0 x1 x2 x3 y6 y7)) (by
   rintro ⟨x4,x5⟩ hi
   have hi : inv_Join_0 x0 x1 x2 x3 x4o x5o x4 x5 := hi
   refine l_Join_0 x0 x1 x2 x3 x4 x5 _ ?_
   obtain ⟨hi_0,hi_1,hi_2,hi_3,hi_4,hi_5,hi_6,hi_7,hi_8,hi_9,hi_10,hi_11,hi_12⟩ := hi
   try replace hi_0 := nq hi_0
   try replace hi_1 := nq hi_1
   try replace hi_2 := nq hi_2
   try replace hi_3 := nq hi_3
   try replace hi_4 := nq hi_4
   try replace hi_5 := nq hi_5
   try replace hi_6 := nq hi_6
   try replace hi_7 := nq hi_7
   try replace hi_8 := nq hi_8
   try replace hi_9 := nq hi_9
   try replace hi_10 := nq hi_10
   try replace hi_11 := nq hi_11
   try replace hi_12 := nq hi_12
   refine ⟨fun h8=>?_,fun h8=>?_⟩
   ·replace h8 := dt h8
    try replace h8 := nq h8
    refine ⟨qD,qG,fun x9 g10=>?_⟩
    try replace g10 := nw g10
    first | have hsg10 := rsame tA' g10 | have hsg10 := isame tA' g10 | skip
    first | (have eg10 := Rs.elem tA' g10; try have eog10 := OkJ.get tA' eg10) | (have eg10 := Is.elem tA' g10; try have eog10 := OkE.get tA' eg10) | skip
    refine ⟨zb1x2,?_⟩
    refine ⟨c_In x1 x9 qP,fun _ p12=>?_⟩
    unfold post_In at p12
    try replace p12 := nq p12
    refine ⟨qD,qG,fun x13 g14=>?_⟩
    try replace g14 := nw g14
    first | have hsg14 := rsame tA' g14 | have hsg14 := isame tA' g14 | skip
    first | (have eg14 := Rs.elem tA' g14; try have eog14 := OkJ.get tA' eg14) | (have eg14 := Is.elem tA' g14; try have eog14 := OkE.get tA' eg14) | skip
    refine ⟨zb1x2,?_⟩
    refine ⟨c_In x2 x13 qP,fun _ p16=>?_⟩
    unfold post_In at p16
    try replace p16 := nq p16
    refine ⟨fun h17=>?_,fun h17=>?_⟩
    ·try replace h17 := nq h17
     refine ⟨fun h18=>?_,fun h18=>?_⟩
     ·try replace h18 := nq h18
      refine ⟨qD,fun h19=>?_,fun h19=>?_⟩
      ·try replace h19 := nq h19
       refine ⟨qD,?_⟩
       exact .inl ⟨rfl,(x4,(IntKind.i64.wrap (x5 + 1))),rfl,zb1x3,zb1x4⟩
      ·try replace h19 := nq h19
       refine ⟨fun h20=>?_,fun h20=>?_⟩
       ·try replace h20 := nq h20
        exact .inl ⟨rfl,(x4,(IntKind.i64.wrap (x5 + 1))),rfl,zb1x3,zb1x4⟩
       ·try replace h20 := nq h20
        refine ⟨fun h21=>?_,fun h21=>?_⟩
        ·replace h21 := dt h21
         try replace h21 := nq h21
         refine ⟨qD,qD,qG,fun _ _ g24=>?_⟩
         try replace g24 := nw g24
         first | have hsg24 := rsame tA' g24 | have hsg24 := isame tA' g24 | skip
         first | (have eg24 := Rs.elem tA' g24; try have eog24 := OkJ.get tA' eg24) | (have eg24 := Is.elem tA' g24; try have eog24 := OkE.get tA' eg24) | skip
         refine ⟨qD,qG,fun _ g26=>?_⟩
         try replace g26 := nw g26
         first | have hsg26 := rsame tA' g26 | have hsg26 := isame tA' g26 | skip
         first | (have eg26 := Rs.elem tA' g26; try have eog26 := OkJ.get tA' eg26) | (have eg26 := Is.elem tA' g26; try have eog26 := OkE.get tA' eg26) | skip
         refine ⟨fun h27=>?_,fun h27=>?_⟩
         ·try replace h27 := nq h27
          refine ⟨qD,qG,fun x28 g29=>?_⟩
          try replace g29 := nw g29
          first | have hsg29 := rsame tA' g29 | have hsg29 := isame tA' g29 | skip
          first | (have eg29 := Rs.elem tA' g29; try have eog29 := OkJ.get tA' eg29) | (have eg29 := Is.elem tA' g29; try have eog29 := OkE.get tA' eg29) | skip
          refine ⟨qD,qD,qG,fun x30 _ g32=>?_⟩
          try replace g32 := nw g32
          first | have hsg32 := rsame tA' g32 | have hsg32 := isame tA' g32 | skip
          first | (have eg32 := Rs.elem tA' g32; try have eog32 := OkJ.get tA' eg32) | (have eg32 := Is.elem tA' g32; try have eog32 := OkE.get tA' eg32) | skip
          exact .inl ⟨rfl,((x4.set (IntKind.i64.wrap ((↑x4.length : Int) - 1)).toNat (AV.agg [iv x30,iv (IntKind.i64.wrap (x28 - 1))])),(IntKind.i64.wrap (x5 + 1))),rfl,by show inv_Join_0 x0 x1 x2 x3 x4o x5o (x4.set (IntKind.i64.wrap ((↑x4.length : Int) - 1)).toNat (AV.agg [iv x30,iv (IntKind.i64.wrap (x28 - 1))])) (IntKind.i64.wrap (x5 + 1)); exact jJoinINV,by show mu_Join_0 x0 x1 x2 x3 (x4.set (IntKind.i64.wrap ((↑x4.length : Int) - 1)).toNat (AV.agg [iv x30,iv (IntKind.i64.wrap (x28 - 1))])) (IntKind.i64.wrap (x5 + 1)) < mu_Join_0 x0 x1 x2 x3 x4 x5; (try unfold mu_Join_0); (try simp (disch := omega) only [wrap_id]); omega⟩
         ·try replace h27 := nq h27
          refine ⟨qD,qG,fun x33 g34=>?_⟩
          try replace g34 := nw g34
          first | have hsg34 := rsame tA' g34 | have hsg34 := isame tA' g34 | skip
          first | (have eg34 := Rs.elem tA' g34; try have eog34 := OkJ.get tA' eg34) | (have eg34 := Is.elem tA' g34; try have eog34 := OkE.get tA' eg34) | skip
          refine ⟨qD,qG,fun x35 g36=>?_⟩
          try replace g36 := nw g36
          first | have hsg36 := rsame tA' g36 | have hsg36 := isame tA' g36 | skip
          first | (have eg36 := Rs.elem tA' g36; try have eog36 := OkJ.get tA' eg36) | (have eg36 := Is.elem tA' g36; try have eog36 := OkE.get tA' eg36) | skip
          refine ⟨qR,?_⟩
          exact .inl ⟨rfl,((x4 ++ [AV.agg [iv x33,iv (IntKind.i64.wrap (x35 - 1))]]),(IntKind.i64.wrap (x5 + 1))),rfl,by show inv_Join_0 x0 x1 x2 x3 x4o x5o (x4 ++ [AV.agg [iv x33,iv (IntKind.i64.wrap (x35 - 1))]]) (IntKind.i64.wrap (x5 + 1)); exact jJoinINV,by show mu_Join_0 x0 x1 x2 x3 (x4 ++ [AV.agg [iv x33,iv (IntKind.i64.wrap (x35 - 1))]]) (IntKind.i64.wrap (x5 + 1)) < mu_Join_0 x0 x1 x2 x3 x4 x5; (try unfold mu_Join_0); (try simp (disch := omega) only [wrap_id]); omega⟩
        ·replace h21 := df h21
         try replace h21 := nq h21
         refine ⟨qD,qG,fun x37 g38=>?_⟩
         try replace g38 := nw g38
         first | have hsg38 := rsame tA' g38 | have hsg38 := isame tA' g38 | skip
         first | (have eg38 := Rs.elem tA' g38; try have eog38 := OkJ.get tA' eg38) | (have eg38 := Is.elem tA' g38; try have eog38 := OkE.get tA' eg38) | skip
         refine ⟨qD,qG,fun x39 g40=>?_⟩
         try replace g40 := nw g40
         first | have hsg40 := rsame tA' g40 | have hsg40 := isame tA' g40 | skip
         first | (have eg40 := Rs.elem tA' g40; try have eog40 := OkJ.get tA' eg40) | (have eg40 := Is.elem tA' g40; try have eog40 := OkE.get tA' eg40) | skip
         refine ⟨qR,?_⟩
         exact .inl ⟨rfl,((x4 ++ [AV.agg [iv x37,iv (IntKind.i64.wrap (x39 - 1))]]),(IntKind.i64.wrap (x5 + 1))),rfl,by show inv_Join_0 x0 x1 x2 x3 x4o x5o (x4 ++ [AV.agg [iv x37,iv (IntKind.i64.wrap (x39 - 1))]]) (IntKind.i64.wrap (x5 + 1)); exact jJoinINV,by show mu_Join_0 x0 x1 x2 x3 (x4 ++ [AV.agg [iv x37,iv (IntKind.i64.wrap (x39 - 1))]]) (IntKind.i64.wrap (x5 + 1)) < mu_Join_0 x0 x1 x2 x3 x4 x5; (try unfold mu_Join_0); (try simp (disch := omega) only [wrap_id]); omega⟩
     ·try replace h18 := nq h18
      refine ⟨fun h41=>?_,fun h41=>?_⟩
      ·try replace h41 := nq h41
       refine ⟨qD,?_⟩
       exact .inl ⟨rfl,(x4,(IntKind.i64.wrap (x5 + 1))),rfl,zb1x3,zb1x4⟩
      ·try replace h41 := nq h41
       refine ⟨fun h42=>?_,fun h42=>?_⟩
       ·replace h42 := dt h42
        try replace h42 := nq h42
        refine ⟨qD,qD,qG,fun _ _ g45=>?_⟩
        try replace g45 := nw g45
        first | have hsg45 := rsame tA' g45 | have hsg45 := isame tA' g45 | skip
        first | (have eg45 := Rs.elem tA' g45; try have eog45 := OkJ.get tA' eg45) | (have eg45 := Is.elem tA' g45; try have eog45 := OkE.get tA' eg45) | skip
        refine ⟨qD,qG,fun _ g47=>?_⟩
        try replace g47 := nw g47
        first | have hsg47 := rsame tA' g47 | have hsg47 := isame tA' g47 | skip
        first | (have eg47 := Rs.elem tA' g47; try have eog47 := OkJ.get tA' eg47) | (have eg47 := Is.elem tA' g47; try have eog47 := OkE.get tA' eg47) | skip
        refine ⟨fun h48=>?_,fun h48=>?_⟩
        ·try replace h48 := nq h48
         refine ⟨qD,qG,fun x49 g50=>?_⟩
         try replace g50 := nw g50
         first | have hsg50 := rsame tA' g50 | have hsg50 := isame tA' g50 | skip
         first | (have eg50 := Rs.elem tA' g50; try have eog50 := OkJ.get tA' eg50) | (have eg50 := Is.elem tA' g50; try have eog50 := OkE.get tA' eg50) | skip
         refine ⟨qD,qD,qG,fun x51 _ g53=>?_⟩
         try replace g53 := nw g53
         first | have hsg53 := rsame tA' g53 | have hsg53 := isame tA' g53 | skip
         first | (have eg53 := Rs.elem tA' g53; try have eog53 := OkJ.get tA' eg53) | (have eg53 := Is.elem tA' g53; try have eog53 := OkE.get tA' eg53) | skip
         exact .inl ⟨rfl,((x4.set (IntKind.i64.wrap ((↑x4.length : Int) - 1)).toNat (AV.agg [iv x51,iv (IntKind.i64.wrap (x49 - 1))])),(IntKind.i64.wrap (x5 + 1))),rfl,by show inv_Join_0 x0 x1 x2 x3 x4o x5o (x4.set (IntKind.i64.wrap ((↑x4.length : Int) - 1)).toNat (AV.agg [iv x51,iv (IntKind.i64.wrap (x49 - 1))])) (IntKind.i64.wrap (x5 + 1)); exact jJoinINV,by show mu_Join_0 x0 x1 x2 x3 (x4.set (IntKind.i64.wrap ((↑x4.length : Int) - 1)).toNat (AV.agg [iv x51,iv (IntKind.i64.wrap (x49 - 1))])) (IntKind.i64.wrap (x5 + 1)) < mu_Join_0 x0 x1 x2 x3 x4 x5; (try unfold mu_Join_0); (try simp (disch := omega) only [wrap_id]); omega⟩
        ·try replace h48 := nq h48
         refine ⟨qD,qG,fun x54 g55=>?_⟩
         try replace g55 := nw g55
         first | have hsg55 := rsame tA' g55 | have hsg55 := isame tA' g55 | skip
         first | (have eg55 := Rs.elem tA' g55; try have eog55 := OkJ.get tA' eg55) | (have eg55 := Is.elem tA' g55; try have eog55 := OkE.get tA' eg55) | skip
         refine ⟨qD,qG,fun x56 g57=>?_⟩
         try replace g57 := nw g57
         first | have hsg57 := rsame tA' g57 | have hsg57 := isame tA' g57 | skip
         first | (have eg57 := Rs.elem tA' g57; try have eog57 := OkJ.get tA' eg57) | (have eg57 := Is.elem tA' g57; try have eog57 := OkE.get tA' eg57) | skip
         refine ⟨qR,?_⟩
         exact .inl ⟨rfl,((x4 ++ [AV.agg [iv x54,iv (IntKind.i64.wrap (x56 - 1))]]),(IntKind.i64.wrap (x5 + 1))),rfl,by show inv_Join_0 x0 x1 x2 x3 x4o x5o (x4 ++ [AV.agg [iv x54,iv (IntKind.i64.wrap (x56 - 1))]]) (IntKind.i64.wrap (x5 + 1)); exact jJoinINV,by show mu_Join_0 x0 x1 x2 x3 (x4 ++ [AV.agg [iv x54,iv (IntKind.i64.wrap (x56 - 1))]]) (IntKind.i64.wrap (x5 + 1)) < mu_Join_0 x0 x1 x2 x3 x4 x5; (try unfold mu_Join_0); (try simp (disch := omega) only [wrap_id]); omega⟩
       ·replace h42 := df h42
        try replace h42 := nq h42
        refine ⟨qD,qG,fun x58 g59=>?_⟩
        try replace g59 := nw g59
        first | have hsg59 := rsame tA' g59 | have hsg59 := isame tA' g59 | skip
        first | (have eg59 := Rs.elem tA' g59; try have eog59 := OkJ.get tA' eg59) | (have eg59 := Is.elem tA' g59; try have eog59 := OkE.get tA' eg59) | skip
        refine ⟨qD,qG,fun x60 g61=>?_⟩
        try replace g61 := nw g61
        first | have hsg61 := rsame tA' g61 | have hsg61 := isame tA' g61 | skip
        first | (have eg61 := Rs.elem tA' g61; try have eog61 := OkJ.get tA' eg61) | (have eg61 := Is.elem tA' g61; try have eog61 := OkE.get tA' eg61) | skip
        refine ⟨qR,?_⟩
        exact .inl ⟨rfl,((x4 ++ [AV.agg [iv x58,iv (IntKind.i64.wrap (x60 - 1))]]),(IntKind.i64.wrap (x5 + 1))),rfl,by show inv_Join_0 x0 x1 x2 x3 x4o x5o (x4 ++ [AV.agg [iv x58,iv (IntKind.i64.wrap (x60 - 1))]]) (IntKind.i64.wrap (x5 + 1)); exact jJoinINV,by show mu_Join_0 x0 x1 x2 x3 (x4 ++ [AV.agg [iv x58,iv (IntKind.i64.wrap (x60 - 1))]]) (IntKind.i64.wrap (x5 + 1)) < mu_Join_0 x0 x1 x2 x3 x4 x5; (try unfold mu_Join_0); (try simp (disch := omega) only [wrap_id]); omega⟩
    ·try replace h17 := nq h17
     refine ⟨fun h62=>?_,fun h62=>?_⟩
     ·try replace h62 := nq h62
      refine ⟨qD,fun h63=>?_,fun h63=>?_⟩
      ·try replace h63 := nq h63
       refine ⟨qD,fun h64=>?_,fun h64=>?_⟩
       ·replace h64 := dt h64
        try replace h64 := nq h64
        refine ⟨qD,qD,qG,fun _ _ g67=>?_⟩
        try replace g67 := nw g67
        first | have hsg67 := rsame tA' g67 | have hsg67 := isame tA' g67 | skip
        first | (have eg67 := Rs.elem tA' g67; try have eog67 := OkJ.get tA' eg67) | (have eg67 := Is.elem tA' g67; try have eog67 := OkE.get tA' eg67) | skip
        refine ⟨qD,qG,fun _ g69=>?_⟩
        try replace g69 := nw g69
        first | have hsg69 := rsame tA' g69 | have hsg69 := isame tA' g69 | skip
        first | (have eg69 := Rs.elem tA' g69; try have eog69 := OkJ.get tA' eg69) | (have eg69 := Is.elem tA' g69; try have eog69 := OkE.get tA' eg69) | skip
        refine ⟨fun h70=>?_,fun h70=>?_⟩
        ·try replace h70 := nq h70
         refine ⟨qD,qG,fun x71 g72=>?_⟩
         try replace g72 := nw g72
         first | have hsg72 := rsame tA' g72 | have hsg72 := isame tA' g72 | skip
         first | (have eg72 := Rs.elem tA' g72; try have eog72 := OkJ.get tA' eg72) | (have eg72 := Is.elem tA' g72; try have eog72 := OkE.get tA' eg72) | skip
         refine ⟨qD,qD,qG,fun x73 _ g75=>?_⟩
         try replace g75 := nw g75
         first | have hsg75 := rsame tA' g75 | have hsg75 := isame tA' g75 | skip
         first | (have eg75 := Rs.elem tA' g75; try have eog75 := OkJ.get tA' eg75) | (have eg75 := Is.elem tA' g75; try have eog75 := OkE.get tA' eg75) | skip
         exact .inl ⟨rfl,((x4.set (IntKind.i64.wrap ((↑x4.length : Int) - 1)).toNat (AV.agg [iv x73,iv (IntKind.i64.wrap (x71 - 1))])),(IntKind.i64.wrap (x5 + 1))),rfl,by show inv_Join_0 x0 x1 x2 x3 x4o x5o (x4.set (IntKind.i64.wrap ((↑x4.length : Int) - 1)).toNat (AV.agg [iv x73,iv (IntKind.i64.wrap (x71 - 1))])) (IntKind.i64.wrap (x5 + 1)); exact jJoinINV,by show mu_Join_0 x0 x1 x2 x3 (x4.set (IntKind.i64.wrap ((↑x4.length : Int) - 1)).toNat (AV.agg [iv x73,iv (IntKind.i64.wrap (x71 - 1))])) (IntKind.i64.wrap (x5 + 1)) < mu_Join_0 x0 x1 x2 x3 x4 x5; (try unfold mu_Join_0); (try simp (disch := omega) only [wrap_id]); omega⟩
        ·try replace h70 := nq h70
         refine ⟨qD,qG,fun x76 g77=>?_⟩
         try replace g77 := nw g77
         first | have hsg77 := rsame tA' g77 | have hsg77 := isame tA' g77 | skip
         first | (have eg77 := Rs.elem tA' g77; try have eog77 := OkJ.get tA' eg77) | (have eg77 := Is.elem tA' g77; try have eog77 := OkE.get tA' eg77) | skip
         refine ⟨qD,qG,fun x78 g79=>?_⟩
         try replace g79 := nw g79
         first | have hsg79 := rsame tA' g79 | have hsg79 := isame tA' g79 | skip
         first | (have eg79 := Rs.elem tA' g79; try have eog79 := OkJ.get tA' eg79) | (have eg79 := Is.elem tA' g79; try have eog79 := OkE.get tA' eg79) | skip
         refine ⟨qR,?_⟩
         exact .inl ⟨rfl,((x4 ++ [AV.agg [iv x76,iv (IntKind.i64.wrap (x78 - 1))]]),(IntKind.i64.wrap (x5 + 1))),rfl,by show inv_Join_0 x0 x1 x2 x3 x4o x5o (x4 ++ [AV.agg [iv x76,iv (IntKind.i64.wrap (x78 - 1))]]) (IntKind.i64.wrap (x5 + 1)); exact jJoinINV,by show mu_Join_0 x0 x1 x2 x3 (x4 ++ [AV.agg [iv x76,iv (IntKind.i64.wrap (x78 - 1))]]) (IntKind.i64.wrap (x5 + 1)) < mu_Join_0 x0 x1 x2 x3 x4 x5; (try unfold mu_Join_0); (try simp (disch := omega) only [wrap_id]); omega⟩
       ·replace h64 := df h64
        try replace h64 := nq h64
        refine ⟨qD,qG,fun x80 g81=>?_⟩
        try replace g81 := nw g81
        first | have hsg81 := rsame tA' g81 | have hsg81 := isame tA' g81 | skip
        first | (have eg81 := Rs.elem tA' g81; try have eog81 := OkJ.get tA' eg81) | (have eg81 := Is.elem tA' g81; try have eog81 := OkE.get tA' eg81) | skip
        refine ⟨qD,qG,fun x82 g83=>?_⟩
        try replace g83 := nw g83
        first | have hsg83 := rsame tA' g83 | have hsg83 := isame tA' g83 | skip
        first | (have eg83 := Rs.elem tA' g83; try have eog83 := OkJ.get tA' eg83) | (have eg83 := Is.elem tA' g83; try have eog83 := OkE.get tA' eg83) | skip
        refine ⟨qR,?_⟩
        exact .inl ⟨rfl,((x4 ++ [AV.agg [iv x80,iv (IntKind.i64.wrap (x82 - 1))]]),(IntKind.i64.wrap (x5 + 1))),rfl,by show inv_Join_0 x0 x1 x2 x3 x4o x5o (x4 ++ [AV.agg [iv x80,iv (IntKind.i64.wrap (x82 - 1))]]) (IntKind.i64.wrap (x5 + 1)); exact jJoinINV,by show mu_Join_0 x0 x1 x2 x3 (x4 ++ [AV.agg [iv x80,iv (IntKind.i64.wrap (x82 - 1))]]) (IntKind.i64.wrap (x5 + 1)) < mu_Join_0 x0 x1 x2 x3 x4 x5; (try unfold mu_Join_0); (try simp (disch := omega) only [wrap_id]); omega⟩
      ·try replace h63 := nq h63
       exact .inl ⟨rfl,(x4,(IntKind.i64.wrap (x5 + 1))),rfl,zb1x3,zb1x4⟩
     ·try replace h62 := nq h62
      refine ⟨fun h84=>?_,fun h84=>?_⟩
      ·try replace h84 := nq h84
       refine ⟨qD,fun h85=>?_,fun h85=>?_⟩
       ·replace h85 := dt h85
        try replace h85 := nq h85
        refine ⟨qD,qD,qG,fun _ _ g88=>?_⟩
        try replace g88 := nw g88
        first | have hsg88 := rsame tA' g88 | have hsg88 := isame tA' g88 | skip
        first | (have eg88 := Rs.elem tA' g88; try have eog88 := OkJ.get tA' eg88) | (have eg88 := Is.elem tA' g88; try have eog88 := OkE.get tA' eg88) | skip
        refine ⟨qD,qG,fun _ g90=>?_⟩
        try replace g90 := nw g90
        first | have hsg90 := rsame tA' g90 | have hsg90 := isame tA' g90 | skip
        first | (have eg90 := Rs.elem tA' g90; try have eog90 := OkJ.get tA' eg90) | (have eg90 := Is.elem tA' g90; try have eog90 := OkE.get tA' eg90) | skip
        refine ⟨fun h91=>?_,fun h91=>?_⟩
        ·try replace h91 := nq h91
         refine ⟨qD,qG,fun x92 g93=>?_⟩
         try replace g93 := nw g93
         first | have hsg93 := rsame tA' g93 | have hsg93 := isame tA' g93 | skip
         first | (have eg93 := Rs.elem tA' g93; try have eog93 := OkJ.get tA' eg93) | (have eg93 := Is.elem tA' g93; try have eog93 := OkE.get tA' eg93) | skip
         refine ⟨qD,qD,qG,fun x94 _ g96=>?_⟩
         try replace g96 := nw g96
         first | have hsg96 := rsame tA' g96 | have hsg96 := isame tA' g96 | skip
         first | (have eg96 := Rs.elem tA' g96; try have eog96 := OkJ.get tA' eg96) | (have eg96 := Is.elem tA' g96; try have eog96 := OkE.get tA' eg96) | skip
         exact .inl ⟨rfl,((x4.set (IntKind.i64.wrap ((↑x4.length : Int) - 1)).toNat (AV.agg [iv x94,iv (IntKind.i64.wrap (x92 - 1))])),(IntKind.i64.wrap (x5 + 1))),rfl,by show inv_Join_0 x0 x1 x2 x3 x4o x5o (x4.set (IntKind.i64.wrap ((↑x4.length : Int) - 1)).toNat (AV.agg [iv x94,iv (IntKind.i64.wrap (x92 - 1))])) (IntKind.i64.wrap (x5 + 1)); exact jJoinINV,by show mu_Join_0 x0 x1 x2 x3 (x4.set (IntKind.i64.wrap ((↑x4.length : Int) - 1)).toNat (AV.agg [iv x94,iv (IntKind.i64.wrap (x92 - 1))])) (IntKind.i64.wrap (x5 + 1)) < mu_Join_0 x0 x1 x2 x3 x4 x5; (try unfold mu_Join_0); (try simp (disch := omega) only [wrap_id]); omega⟩
        ·try replace h91 := nq h91
         refine ⟨qD,qG,fun x97 g98=>?_⟩
         try replace g98 := nw g98
         first | have hsg98 := rsame tA' g98 | have hsg98 := isame tA' g98 | skip
         first | (have eg98 := Rs.elem tA' g98; try have eog98 := OkJ.get tA' eg98) | (have eg98 := Is.elem tA' g98; try have eog98 := OkE.get tA' eg98) | skip
         refine ⟨qD,qG,fun x99 g100=>?_⟩
         try replace g100 := nw g100
         first | have hsg100 := rsame tA' g100 | have hsg100 := isame tA' g100 | skip
         first | (have eg100 := Rs.elem tA' g100; try have eog100 := OkJ.get tA' eg100) | (have eg100 := Is.elem tA' g100; try have eog100 := OkE.get tA' eg100) | skip
         refine ⟨qR,?_⟩
         exact .inl ⟨rfl,((x4 ++ [AV.agg [iv x97,iv (IntKind.i64.wrap (x99 - 1))]]),(IntKind.i64.wrap (x5 + 1))),rfl,by show inv_Join_0 x0 x1 x2 x3 x4o x5o (x4 ++ [AV.agg [iv x97,iv (IntKind.i64.wrap (x99 - 1))]]) (IntKind.i64.wrap (x5 + 1)); exact jJoinINV,by show mu_Join_0 x0 x1 x2 x3 (x4 ++ [AV.agg [iv x97,iv (IntKind.i64.wrap (x99 - 1))]]) (IntKind.i64.wrap (x5 + 1)) < mu_Join_0 x0 x1 x2 x3 x4 x5; (try unfold mu_Join_0); (try simp (disch := omega) only [wrap_id]); omega⟩
       ·replace h85 := df h85
        try replace h85 := nq h85
        refine ⟨qD,qG,fun x101 g102=>?_⟩
        try replace g102 := nw g102
        first | have hsg102 := rsame tA' g102 | have hsg102 := isame tA' g102 | skip
        first | (have eg102 := Rs.elem tA' g102; try have eog102 := OkJ.get tA' eg102) | (have eg102 := Is.elem tA' g102; try have eog102 := OkE.get tA' eg102) | skip
        refine ⟨qD,qG,fun x103 g104=>?_⟩
        try replace g104 := nw g104
        first | have hsg104 := rsame tA' g104 | have hsg104 := isame tA' g104 | skip
        first | (have eg104 := Rs.elem tA' g104; try have eog104 := OkJ.get tA' eg104) | (have eg104 := Is.elem tA' g104; try have eog104 := OkE.get tA' eg104) | skip
        refine ⟨qR,?_⟩
        exact .inl ⟨rfl,((x4 ++ [AV.agg [iv x101,iv (IntKind.i64.wrap (x103 - 1))]]),(IntKind.i64.wrap (x5 + 1))),rfl,by show inv_Join_0 x0 x1 x2 x3 x4o x5o (x4 ++ [AV.agg [iv x101,iv (IntKind.i64.wrap (x103 - 1))]]) (IntKind.i64.wrap (x5 + 1)); exact jJoinINV,by show mu_Join_0 x0 x1 x2 x3 (x4 ++ [AV.agg [iv x101,iv (IntKind.i64.wrap (x103 - 1))]]) (IntKind.i64.wrap (x5 + 1)) < mu_Join_0 x0 x1 x2 x3 x4 x5; (try unfold mu_Join_0); (try simp (disch := omega) only [wrap_id]); omega⟩
      ·try replace h84 := nq h84
       refine ⟨fun h105=>?_,fun h105=>?_⟩
       ·try replace h105 := nq h105
        exact .inl ⟨rfl,(x4,(IntKind.i64.wrap (x5 + 1))),rfl,zb1x3,zb1x4⟩
       ·try replace h105 := nq h105
        refine ⟨fun h106=>?_,fun h106=>?_⟩
        ·replace h106 := dt h106
         try replace h106 := nq h106
         refine ⟨qD,qD,qG,fun _ _ g109=>?_⟩
         try replace g109 := nw g109
         first | have hsg109 := rsame tA' g109 | have hsg109 := isame tA' g109 | skip
         first | (have eg109 := Rs.elem tA' g109; try have eog109 := OkJ.get tA' eg109) | (have eg109 := Is.elem tA' g109; try have eog109 := OkE.get tA' eg109) | skip
         refine ⟨qD,qG,fun _ g111=>?_⟩
         try replace g111 := nw g111
         first | have hsg111 := rsame tA' g111 | have hsg111 := isame tA' g111 | skip
         first | (have eg111 := Rs.elem tA' g111; try have eog111 := OkJ.get tA' eg111) | (have eg111 := Is.elem tA' g111; try have eog111 := OkE.get tA' eg111) | skip
         refine ⟨fun h112=>?_,fun h112=>?_⟩
         ·try replace h112 := nq h112
          refine ⟨qD,qG,fun x113 g114=>?_⟩
          try replace g114 := nw g114
          first | have hsg114 := rsame tA' g114 | have hsg114 := isame tA' g114 | skip
          first | (have eg114 := Rs.elem tA' g114; try have eog114 := OkJ.get tA' eg114) | (have eg114 := Is.elem tA' g114; try have eog114 := OkE.get tA' eg114) | skip
          refine ⟨qD,qD,qG,fun x115 _ g117=>?_⟩
          try replace g117 := nw g117
          first | have hsg117 := rsame tA' g117 | have hsg117 := isame tA' g117 | skip
          first | (have eg117 := Rs.elem tA' g117; try have eog117 := OkJ.get tA' eg117) | (have eg117 := Is.elem tA' g117; try have eog117 := OkE.get tA' eg117) | skip
          exact .inl ⟨rfl,((x4.set (IntKind.i64.wrap ((↑x4.length : Int) - 1)).toNat (AV.agg [iv x115,iv (IntKind.i64.wrap (x113 - 1))])),(IntKind.i64.wrap (x5 + 1))),rfl,by show inv_Join_0 x0 x1 x2 x3 x4o x5o (x4.set (IntKind.i64.wrap ((↑x4.length : Int) - 1)).toNat (AV.agg [iv x115,iv (IntKind.i64.wrap (x113 - 1))])) (IntKind.i64.wrap (x5 + 1)); exact jJoinINV,by show mu_Join_0 x0 x1 x2 x3 (x4.set (IntKind.i64.wrap ((↑x4.length : Int) - 1)).toNat (AV.agg [iv x115,iv (IntKind.i64.wrap (x113 - 1))])) (IntKind.i64.wrap (x5 + 1)) < mu_Join_0 x0 x1 x2 x3 x4 x5; (try unfold mu_Join_0); (try simp (disch := omega) only [wrap_id]); omega⟩
         ·try replace h112 := nq h112
          refine ⟨qD,qG,fun x118 g119=>?_⟩
          try replace g119 := nw g119
          first | have hsg119 := rsame tA' g119 | have hsg119 := isame tA' g119 | skip
          first | (have eg119 := Rs.elem tA' g119; try have eog119 := OkJ.get tA' eg119) | (have eg119 := Is.elem tA' g119; try have eog119 := OkE.get tA' eg119) | skip
          refine ⟨qD,qG,fun x120 g121=>?_⟩
          try replace g121 := nw g121
          first | have hsg121 := rsame tA' g121 | have hsg121 := isame tA' g121 | skip
          first | (have eg121 := Rs.elem tA' g121; try have eog121 := OkJ.get tA' eg121) | (have eg121 := Is.elem tA' g121; try have eog121 := OkE.get tA' eg121) | skip
          refine ⟨qR,?_⟩
          exact .inl ⟨rfl,((x4 ++ [AV.agg [iv x118,iv (IntKind.i64.wrap (x120 - 1))]]),(IntKind.i64.wrap (x5 + 1))),rfl,by show inv_Join_0 x0 x1 x2 x3 x4o x5o (x4 ++ [AV.agg [iv x118,iv (IntKind.i64.wrap (x120 - 1))]]) (IntKind.i64.wrap (x5 + 1)); exact jJoinINV,by show mu_Join_0 x0 x1 x2 x3 (x4 ++ [AV.agg [iv x118,iv (IntKind.i64.wrap (x120 - 1))]]) (IntKind.i64.wrap (x5 + 1)) < mu_Join_0 x0 x1 x2 x3 x4 x5; (try unfold mu_Join_0); (try simp (disch := omega) only [wrap_id]); omega⟩
        ·replace h106 := df h106
         try replace h106 := nq h106
         refine ⟨qD,qG,fun x122 g123=>?_⟩
         try replace g123 := nw g123
         first | have hsg123 := rsame tA' g123 | have hsg123 := isame tA' g123 | skip
         first | (have eg123 := Rs.elem tA' g123; try have eog123 := OkJ.get tA' eg123) | (have eg123 := Is.elem tA' g123; try have eog123 := OkE.get tA' eg123) | skip
         refine ⟨qD,qG,fun x124 g125=>?_⟩
         try replace g125 := nw g125
         first | have hsg125 := rsame tA' g125 | have hsg125 := isame tA' g125 | skip
         first | (have eg125 := Rs.elem tA' g125; try have eog125 := OkJ.get tA' eg125) | (have eg125 := Is.elem tA' g125; try have eog125 := OkE.get tA' eg125) | skip
         refine ⟨qR,?_⟩
         exact .inl ⟨rfl,((x4 ++ [AV.agg [iv x122,iv (IntKind.i64.wrap (x124 - 1))]]),(IntKind.i64.wrap (x5 + 1))),rfl,by show inv_Join_0 x0 x1 x2 x3 x4o x5o (x4 ++ [AV.agg [iv x122,iv (IntKind.i64.wrap (x124 - 1))]]) (IntKind.i64.wrap (x5 + 1)); exact jJoinINV,by show mu_Join_0 x0 x1 x2 x3 (x4 ++ [AV.agg [iv x122,iv (IntKind.i64.wrap (x124 - 1))]]) (IntKind.i64.wrap (x5 + 1)) < mu_Join_0 x0 x1 x2 x3 x4 x5; (try unfold mu_Join_0); (try simp (disch := omega) only [wrap_id]); omega⟩
   ·replace h8 := df h8
    try replace h8 := nq h8
    exact .inr ⟨by simp,⟨x4,x5,by show out_Join_0_0 x0 x1 x2 x3 x4o x5o x4 x5; (try unfold out_Join_0_0); (try simp (disch := omega) only [wrap_id,wrapu_id,fdiv2,Option.getD_some,Option.getD_none,List.length_cons,List.length_nil,List.length_append,List.length_set,List.length_take,List.length_drop,List.length_replicate,Int.toNat_natCast]) <;> (repeat' first | (with_reducible first | apply And.intro | assumption | exact Is.nil | exact Rs.nil | exact Is.one _ | exact Rs.one _ _ | apply Is.app | apply Rs.app | apply Is.take | apply Is.drop | apply Rs.set | exact Rs.rep _ _ _ | exact Is.cons (Is.cons Is.nil)) | omega | (with_reducible exact True.intro) | (with_reducible rfl)); all_goals exact J_end tB tB (by omega),rfl,rfl⟩⟩) (x4,x5) hi
 obtain ⟨e,s',hr,hq⟩ := hk x4 x5 hi
 rcases hq with ⟨_,_,ho,rfl,rfl⟩
 exact ⟨_,_,ho,hr⟩
theorem w_Join (x0 x1 x2 x3) (Q : AV → HH → Prop) (h : ((roomD pr 105 0 x1.length) = true ∧ ((roomD pr 105 x1.length x2.length) = true ∧ ((npL [(.sl 2 (x1 ++ x2)),(iv x3)]) = true ∧ ((∃ x4 : List AV,post_Edges (x1 ++ x2) x3 x4 ∧ A 97 [(.sl 2 (x1 ++ x2)),(iv x3)] [] (.sl 1 x4) []) ∧ (∀ x4 : List AV,post_Edges (x1 ++ x2) x3 x4 → ((∃ (x5 : List AV) (x6 : Int),out_Join_0_0 x0 x1 x2 x4 [] 0 x5 x6 ∧ R 85 0 (s_Join_0 x0 x1 x2 x4 [] 0) ((.exit 0),x_Join_0_0 x0 x1 x2 x4 x5 x6)) ∧ (∀ (x5 : List AV) (x6 : Int),out_Join_0_0 x0 x1 x2 x4 [] 0 x5 x6 → Q (.sl 2 x5) [])))))))) : ∃ r H',A 85 [(iv x0),(.sl 2 x1),(.sl 2 x2),(iv x3)] [] r H' ∧ Q r H' :=
 Ans.wq rfl (.one true (.one true (.one true (.ask (eL fun x4=>.done (.res (.sl 1 x4) [] (post_Edges (x1 ++ x2) x3 x4)) (.ask (eL fun x5=>eI fun x6=>.done (.exit (.exit 0) (x_Join_0_0 x0 x1 x2 x4 x5 x6) (out_Join_0_0 x0 x1 x2 x4 [] 0 x5 x6)) (zZ 1)))))))) (by kernel_rfl) h
theorem c_Join (x0 x1 x2 x3) (hp : pre_Join x0 x1 x2 x3) : ∃ x4 : List AV,post_Join x0 x1 x2 x3 x4 ∧ A 85 [(iv x0),(.sl 2 x1),(.sl 2 x2),(iv x3)] [] (.sl 2 x4) [] := by
 obtain ⟨_,_,ha,_,hq,rfl,rfl⟩ := w_Join x0 x1 x2 x3 (fun r H'=>∃ x4,post_Join x0 x1 x2 x3 x4 ∧ r = (.sl 2 x4) ∧ H' = []) (by
  obtain ⟨hp_0,hp_1,hp_2,hp_3⟩ := hp
  try replace hp_0 := nq hp_0
  try replace hp_1 := nq hp_1
  try replace hp_2 := nq hp_2
  try replace hp_3 := nq hp_3
  refine ⟨qR,qR,zb1x2,?_⟩
  refine ⟨c_Edges (x1 ++ x2) x3 qP,fun x5 p6=>?_⟩
  obtain ⟨p6_0,p6_1,p6_2⟩ := p6
  try replace p6_0 := nq p6_0
  try replace p6_1 := nq p6_1
  try replace p6_2 := nq p6_2
  refine ⟨k_Join_0 x0 x1 x2 x5 [] 0 (by exact jJoinINV),fun x7 _ e9=>?_⟩
  obtain ⟨e9_0,e9_1,e9_2⟩ := e9
  try replace e9_0 := nq e9_0
  try replace e9_1 := nq e9_1
  try replace e9_2 := nq e9_2
  exact ⟨x7,by show post_Join x0 x1 x2 x3 x7; exact join_post tB tB tB,rfl,rfl⟩)
 exact ⟨_,hq,ha⟩
theorem w_RNew (x0 x1) (Q : AV → HH → Prop) (h : ((npL [(iv 0),(.sl 2 x0),(.sl 2 []),(iv x1)]) = true ∧ ((∃ x2 : List AV,post_Join 0 x0 [] x1 x2 ∧ A 85 [(iv 0),(.sl 2 x0),(.sl 2 []),(iv x1)] [] (.sl 2 x2) []) ∧ (∀ x2 : List AV,post_Join 0 x0 [] x1 x2 → Q (.sl 2 x2) [])))) : ∃ r H',A 54 [(.sl 2 x0),(iv x1)] [] r H' ∧ Q r H' :=
 Ans.wq rfl (.one true (.ask (eL fun x2=>.done (.res (.sl 2 x2) [] (post_Join 0 x0 [] x1 x2)) (zZ 1)))) (by kernel_rfl) h
theorem c_RNew (x0 x1) (hp : pre_RNew x0 x1) : ∃ x2 : List AV,post_RNew x0 x1 x2 ∧ A 54 [(.sl 2 x0),(iv x1)] [] (.sl 2 x2) [] := by
 obtain ⟨_,_,ha,_,hq,rfl,rfl⟩ := w_RNew x0 x1 (fun r H'=>∃ x2,post_RNew x0 x1 x2 ∧ r = (.sl 2 x2) ∧ H' = []) (by
  obtain ⟨hp_0,hp_1⟩ := hp
  try replace hp_0 := nq hp_0
  try replace hp_1 := nq hp_1
  refine ⟨qN,c_Join 0 x0 [] x1 qP,fun x3 p4=>?_⟩
  unfold post_Join at p4
  try replace p4 := nq p4
  exact ⟨x3,by show post_RNew x0 x1 x3; exact RSetP.to tB (fun c=>and_congr_right fun _=>by rw [jf_union,RS_nil,InS_nil,or_false]),rfl,rfl⟩)
 exact ⟨_,hq,ha⟩
def E_NewQ (l : List AV) (most : Int) : Prop := ∃ x,post_NewQ l most x ∧ A 54 [.sl 2 l,iv most] [] (.sl 2 x) []
abbrev j_NewQ (nn : Nat) (l : List AV) (most : Int) (k : List AV → HC) : HC := ⟨.ev nn (.ask (eL fun x=>.done (.res (.sl 2 x) [] (post_NewQ l most x)) (k x).h)),E_NewQ l most ∧ ∀ x,post_NewQ l most x → (k x).p⟩
instance c_NewQ {l most} : C (E_NewQ l most) (pre_NewQ l most) := ⟨fun hp=>by
 obtain ⟨x,h,k⟩ := c_RNew l most hp
 exact Exists.intro x ⟨⟨h.r,h.rs,h.len⟩,k⟩⟩
def E_cut (x0 : ByteArray) (x1 x2 : Bool) (x3 : Int) (x4 : List AV) : Prop := ∃ x5,post_cut x0 x1 x2 x3 x4 x5 ∧ A 73 [(.agg [(sv x0),(bv x1),(bv x2),(iv x3)]),(.sl 2 x4)] [] (.sl 2 x5) []
abbrev j_cut (nn : Nat) (x0 : ByteArray) (x1 x2 : Bool) (x3 : Int) (x4 : List AV) (kK : List AV → HC) : HC := ⟨.ev nn (.ask (eL fun x5=>.done (.res (.sl 2 x5) [] (post_cut x0 x1 x2 x3 x4 x5)) ((kK x5).h))),E_cut x0 x1 x2 x3 x4 ∧ (∀ x5,post_cut x0 x1 x2 x3 x4 x5 → (kK x5).p)⟩
abbrev t_cut (x0 : ByteArray) (x1 x2 : Bool) (x3 : Int) (x4 : List AV) (Q : AV → HH → Prop) : HC := (cp 0 ((npL [(.sl 2 x4),(iv x3)])) (j_NewQ 0 x4 x3 fun x5=>(cq 1 Q (.sl 2 x5))))
theorem w_cut (x0 x1 x2 x3 x4) (Q : AV → HH → Prop) (h : (t_cut x0 x1 x2 x3 x4 Q).p) : ∃ r H',A 73 [(.agg [(sv x0),(bv x1),(bv x2),(iv x3)]),(.sl 2 x4)] [] r H' ∧ Q r H' :=
 Ans.wq rfl (t_cut x0 x1 x2 x3 x4 Q).h (by kernel_rfl) h
instance c_cut {x0 x1 x2 x3 x4} : C (E_cut x0 x1 x2 x3 x4) (pre_cut x0 x1 x2 x3 x4) := ⟨fun hp=>by
 unfold E_cut
 obtain ⟨_,_,ha,x5,hq,rfl,rfl⟩ := w_cut x0 x1 x2 x3 x4 (fun r H'=>∃ x5,post_cut x0 x1 x2 x3 x4 x5 ∧ r = (.sl 2 x5) ∧ H' = []) (by
  revert hp
  exact tZ)
 exact ⟨x5,hq,ha⟩⟩
def E_is (x0 : ByteArray) (x1 x2 : Bool) (x3 x4 : Int) (x5 : ByteArray) : Prop := ∃ x6,post_is x0 x1 x2 x3 x4 x5 x6 ∧ A 20 [(.agg [(sv x0),(bv x1),(bv x2),(iv x3)]),(iv x4),(sv x5)] [] (bv x6) []
abbrev j_is (nn : Nat) (x0 : ByteArray) (x1 x2 : Bool) (x3 x4 : Int) (x5 : ByteArray) (kK : Bool → HC) : HC := ⟨.ev nn (.ask (eB fun x6=>.done (.res (bv x6) [] (post_is x0 x1 x2 x3 x4 x5 x6)) ((kK x6).h))),E_is x0 x1 x2 x3 x4 x5 ∧ (∀ x6,post_is x0 x1 x2 x3 x4 x5 x6 → (kK x6).p)⟩
abbrev t_is (x0 : ByteArray) (x1 x2 : Bool) (x3 x4 : Int) (x5 : ByteArray) (Q : AV → HH → Prop) : HC := (ww (x4 + (↑x5.size : Int)) (cd 2 ((decide (w6 (x4 + (↑x5.size : Int)) ≤ (↑x0.size : Int)))) (co 8 ((decide (0 ≤ x4))) (co 1 ((decide (0 ≤ w6 (x4 + (↑x5.size : Int))))) (co 1 (((x4.toNat.ble (w6 (x4 + (↑x5.size : Int))).toNat) && ((w6 (x4 + (↑x5.size : Int))).toNat.ble x0.size))) (cq 5 Q (bv ((x0.extract x4.toNat (w6 (x4 + (↑x5.size : Int))).toNat).toList == x5.toList)))))) (cq 11 Q (bv false))))
theorem w_is (x0 x1 x2 x3 x4 x5) (Q : AV → HH → Prop) (h : (t_is x0 x1 x2 x3 x4 x5 Q).p) : ∃ r H',A 20 [(.agg [(sv x0),(bv x1),(bv x2),(iv x3)]),(iv x4),(sv x5)] [] r H' ∧ Q r H' :=
 Ans.wq rfl (t_is x0 x1 x2 x3 x4 x5 Q).h (by kernel_rfl) h
instance c_is {x0 x1 x2 x3 x4 x5} : C (E_is x0 x1 x2 x3 x4 x5) (pre_is x0 x1 x2 x3 x4 x5) := ⟨fun hp=>by
 unfold E_is
 obtain ⟨_,_,ha,x6,hq,rfl,rfl⟩ := w_is x0 x1 x2 x3 x4 x5 (fun r H'=>∃ x6,post_is x0 x1 x2 x3 x4 x5 x6 ∧ r = (bv x6) ∧ H' = []) (by
  have hQ {p : Prop} (h : p := by first | (refine ⟨fun _=>by omega,?_⟩; rw [tW (x4 + (x5.size : Int))]; exact is_eq (by omega) (by omega)) | exact ⟨fun h=>(by cases h),(is_false (by omega) (by omega) (by omega)).symm⟩) : p := h
  revert hp
  exact tZ)
 exact ⟨x6,hq,ha⟩⟩
def E_Posix (x0 : ByteArray) : Prop := ∃ x1 x2,post_Posix x0 x1 x2 ∧ A 92 [(sv x0)] [] (.tup [(.sl 2 x1),(bv x2)]) []
abbrev j_Posix (nn : Nat) (x0 : ByteArray) (kK : List AV → Bool → HC) : HC := ⟨.ev nn (.ask (eL fun x1=>eB fun x2=>.done (.res (.tup [(.sl 2 x1),(bv x2)]) [] (post_Posix x0 x1 x2)) ((kK x1 x2).h))),E_Posix x0 ∧ (∀ x1 x2,post_Posix x0 x1 x2 → (kK x1 x2).p)⟩
abbrev t_Posix (x0 : ByteArray) (Q : AV → HH → Prop) : HC := (cd 1 ((x0.toList == (bs [97,108,112,104,97]).toList)) (cq 1 Q (.tup [(.sl 2 [(.agg [(iv 65),(iv 90)]),(.agg [(iv 97),(iv 122)])]),(bv true)])) (cd 1 ((x0.toList == (bs [100,105,103,105,116]).toList)) (cq 4 Q (.tup [(.sl 2 [(.agg [(iv 48),(iv 57)])]),(bv true)])) (cd 1 ((x0.toList == (bs [97,108,110,117,109]).toList)) (cq 1 Q (.tup [(.sl 2 [(.agg [(iv 48),(iv 57)]),(.agg [(iv 65),(iv 90)]),(.agg [(iv 97),(iv 122)])]),(bv true)])) (cd 1 ((x0.toList == (bs [117,112,112,101,114]).toList)) (cq 4 Q (.tup [(.sl 2 [(.agg [(iv 65),(iv 90)])]),(bv true)])) (cd 1 ((x0.toList == (bs [108,111,119,101,114]).toList)) (cq 4 Q (.tup [(.sl 2 [(.agg [(iv 97),(iv 122)])]),(bv true)])) (cd 1 ((x0.toList == (bs [115,112,97,99,101]).toList)) (cq 1 Q (.tup [(.sl 2 [(.agg [(iv 9),(iv 13)]),(.agg [(iv 32),(iv 32)])]),(bv true)])) (cd 1 ((x0.toList == (bs [98,108,97,110,107]).toList)) (cq 1 Q (.tup [(.sl 2 [(.agg [(iv 9),(iv 9)]),(.agg [(iv 32),(iv 32)])]),(bv true)])) (cd 1 ((x0.toList == (bs [112,117,110,99,116]).toList)) (cq 1 Q (.tup [(.sl 2 [(.agg [(iv 33),(iv 47)]),(.agg [(iv 58),(iv 64)]),(.agg [(iv 91),(iv 96)]),(.agg [(iv 123),(iv 126)])]),(bv true)])) (cd 1 ((x0.toList == (bs [99,110,116,114,108]).toList)) (cq 1 Q (.tup [(.sl 2 [(.agg [(iv 0),(iv 31)]),(.agg [(iv 127),(iv 127)])]),(bv true)])) (cd 1 ((x0.toList == (bs [103,114,97,112,104]).toList)) (cq 4 Q (.tup [(.sl 2 [(.agg [(iv 33),(iv 126)])]),(bv true)])) (cd 1 ((x0.toList == (bs [112,114,105,110,116]).toList)) (cq 4 Q (.tup [(.sl 2 [(.agg [(iv 32),(iv 126)])]),(bv true)])) (cd 1 ((x0.toList == (bs [120,100,105,103,105,116]).toList)) (cq 1 Q (.tup [(.sl 2 [(.agg [(iv 48),(iv 57)]),(.agg [(iv 65),(iv 70)]),(.agg [(iv 97),(iv 102)])]),(bv true)])) (cd 1 ((x0.toList == (bs [119,111,114,100]).toList)) (cq 1 Q (.tup [(.sl 2 [(.agg [(iv 48),(iv 57)]),(.agg [(iv 65),(iv 90)]),(.agg [(iv 95),(iv 95)]),(.agg [(iv 97),(iv 122)])]),(bv true)])) (cd 1 ((x0.toList == (bs [97,115,99,105,105]).toList)) (cq 4 Q (.tup [(.sl 2 [(.agg [(iv 0),(iv 127)])]),(bv true)])) (cq 1 Q (.tup [(.sl 2 []),(bv false)]))))))))))))))))
theorem w_Posix (x0) (Q : AV → HH → Prop) (h : (t_Posix x0 Q).p) : ∃ r H',A 92 [(sv x0)] [] r H' ∧ Q r H' :=
 Ans.wq rfl (t_Posix x0 Q).h (by kernel_rfl) h
instance c_Posix {x0} : C (E_Posix x0) (pre_Posix x0) := ⟨fun hp=>by
 unfold E_Posix
 obtain ⟨_,_,ha,x1,x2,hq,rfl,rfl⟩ := w_Posix x0 (fun r H'=>∃ x1 x2,post_Posix x0 x1 x2 ∧ r = (.tup [(.sl 2 x1),(bv x2)]) ∧ H' = []) (by
  revert hp
  exact tZ)
 exact ⟨x1,x2,hq,ha⟩⟩
def E_digit (x0 : Int) : Prop := ∃ x1,post_digit x0 x1 ∧ A 79 [(.sc (.int .u8 x0))] [] (bv x1) []
abbrev j_digit (nn : Nat) (x0 : Int) (kK : Bool → HC) : HC := ⟨.ev nn (.ask (eB fun x1=>.done (.res (bv x1) [] (post_digit x0 x1)) ((kK x1).h))),E_digit x0 ∧ (∀ x1,post_digit x0 x1 → (kK x1).p)⟩
abbrev t_digit (x0 : Int) (Q : AV → HH → Prop) : HC := (cd 1 ((decide (x0 ≥ 48))) (cq 4 Q (bv (decide (x0 ≤ 57)))) (cq 3 Q (bv false)))
theorem w_digit (x0) (Q : AV → HH → Prop) (h : (t_digit x0 Q).p) : ∃ r H',A 79 [(.sc (.int .u8 x0))] [] r H' ∧ Q r H' :=
 Ans.wq rfl (t_digit x0 Q).h (by kernel_rfl) h
instance c_digit {x0} : C (E_digit x0) (pre_digit x0) := ⟨fun hp=>by
 unfold E_digit
 obtain ⟨_,_,ha,x1,hq,rfl,rfl⟩ := w_digit x0 (fun r H'=>∃ x1,post_digit x0 x1 ∧ r = (bv x1) ∧ H' = []) (by
  revert hp
  exact tZ)
 exact ⟨x1,hq,ha⟩⟩
def E_hex (x0 : Int) : Prop := ∃ x1,post_hex x0 x1 ∧ A 88 [(.sc (.int .u8 x0))] [] (iv x1) []
abbrev j_hex (nn : Nat) (x0 : Int) (kK : Int → HC) : HC := ⟨.ev nn (.ask (eI fun x1=>.done (.res (iv x1) [] (post_hex x0 x1)) ((kK x1).h))),E_hex x0 ∧ (∀ x1,post_hex x0 x1 → (kK x1).p)⟩
abbrev t_hex (x0 : Int) (Q : AV → HH → Prop) : HC := (cd 3 ((decide (x0 ≥ 48))) (cd 4 ((decide (x0 ≤ 57))) (ww x0 (ww (w6 x0 - 48) (cq 3 Q (iv (w6 (w6 x0 - 48)))))) (cd 1 ((decide (x0 ≥ 97))) (cd 3 ((decide (x0 ≤ 102))) (ww x0 (ww (w6 x0 - 97) (ww (w6 (w6 x0 - 97) + 10) (cq 4 Q (iv (w6 (w6 (w6 x0 - 97) + 10))))))) (cd 1 ((decide (x0 ≥ 65))) (cd 3 ((decide (x0 ≤ 70))) (ww x0 (ww (w6 x0 - 65) (ww (w6 (w6 x0 - 65) + 10) (cq 4 Q (iv (w6 (w6 (w6 x0 - 65) + 10))))))) (cq 1 Q (iv (-1)))) (cq 4 Q (iv (-1))))) (cd 4 ((decide (x0 ≥ 65))) (cd 3 ((decide (x0 ≤ 70))) (ww x0 (ww (w6 x0 - 65) (ww (w6 (w6 x0 - 65) + 10) (cq 4 Q (iv (w6 (w6 (w6 x0 - 65) + 10))))))) (cq 1 Q (iv (-1)))) (cq 4 Q (iv (-1)))))) (cd 5 ((decide (x0 ≥ 97))) (cd 3 ((decide (x0 ≤ 102))) (ww x0 (ww (w6 x0 - 97) (ww (w6 (w6 x0 - 97) + 10) (cq 4 Q (iv (w6 (w6 (w6 x0 - 97) + 10))))))) (cd 1 ((decide (x0 ≥ 65))) (cd 3 ((decide (x0 ≤ 70))) (ww x0 (ww (w6 x0 - 65) (ww (w6 (w6 x0 - 65) + 10) (cq 4 Q (iv (w6 (w6 (w6 x0 - 65) + 10))))))) (cq 1 Q (iv (-1)))) (cq 4 Q (iv (-1))))) (cd 4 ((decide (x0 ≥ 65))) (cd 3 ((decide (x0 ≤ 70))) (ww x0 (ww (w6 x0 - 65) (ww (w6 (w6 x0 - 65) + 10) (cq 4 Q (iv (w6 (w6 (w6 x0 - 65) + 10))))))) (cq 1 Q (iv (-1)))) (cq 4 Q (iv (-1))))))
theorem w_hex (x0) (Q : AV → HH → Prop) (h : (t_hex x0 Q).p) : ∃ r H',A 88 [(.sc (.int .u8 x0))] [] r H' ∧ Q r H' :=
 Ans.wq rfl (t_hex x0 Q).h (by kernel_rfl) h
instance c_hex {x0} : C (E_hex x0) (pre_hex x0) := ⟨fun hp=>by
 unfold E_hex
 obtain ⟨_,_,ha,x1,hq,rfl,rfl⟩ := w_hex x0 (fun r H'=>∃ x1,post_hex x0 x1 ∧ r = (iv x1) ∧ H' = []) (by
  have hQ {p : Prop} (h : p := by grind [wr,hexv]) : p := h
  revert hp
  exact tZ)
 exact ⟨x1,hq,ha⟩⟩
def E_hexadecimal (x0 : ByteArray) (x1 x2 : Bool) (x3 x4 : Int) : Prop := ∃ x5 x6,post_hexadecimal x0 x1 x2 x3 x4 x5 x6 ∧ A 67 [(.agg [(sv x0),(bv x1),(bv x2),(iv x3)]),(iv x4)] [] (.tup [(iv x5),(iv x6)]) []
abbrev j_hexadecimal (nn : Nat) (x0 : ByteArray) (x1 x2 : Bool) (x3 x4 : Int) (kK : Int → Int → HC) : HC := ⟨.ev nn (.ask (eI fun x5=>eI fun x6=>.done (.res (.tup [(iv x5),(iv x6)]) [] (post_hexadecimal x0 x1 x2 x3 x4 x5 x6)) ((kK x5 x6).h))),E_hexadecimal x0 x1 x2 x3 x4 ∧ (∀ x5 x6,post_hexadecimal x0 x1 x2 x3 x4 x5 x6 → (kK x5 x6).p)⟩
def s_hexadecimal_0 (x0 : Int) (x1 : ByteArray) (x2 x3 : Bool) (x4 x5 x6 : Int) : St := ⟨[],[(1,(iv x0)),(2,(.ea [(sv x1),(bv x2),(bv x3),(iv x4)])),(6,(iv x5)),(7,(iv x6))],[],0⟩
def x_hexadecimal_0_0 (x0 : Int) (x1 : ByteArray) (x2 x3 : Bool) (x4 y5 y6 : Int) : St := ⟨[],[(1,(iv x0)),(2,(.ea [(sv x1),(bv x2),(bv x3),(iv x4)])),(6,(iv y5)),(7,(iv y6)),(32,(bv false))],[],0⟩
def E_hexadecimal_0 (x0 : Int) (x1 : ByteArray) (x2 x3 : Bool) (x4 x5o x6o : Int) : Prop := (∃ y7 y8,out_hexadecimal_0_0 x0 x1 x2 x3 x4 x5o x6o y7 y8 ∧ R 67 0 (s_hexadecimal_0 x0 x1 x2 x3 x4 x5o x6o) ((.exit 0),x_hexadecimal_0_0 x0 x1 x2 x3 x4 y7 y8))
abbrev j_hexadecimal_0 (nn : Nat) (x0 : Int) (x1 : ByteArray) (x2 x3 : Bool) (x4 x5o x6o : Int) (f0 : Int → Int → HC) : HC := ⟨.ev nn (.ask (eI fun y7=>eI fun y8=>.done (.exit (.exit 0) (x_hexadecimal_0_0 x0 x1 x2 x3 x4 y7 y8) (out_hexadecimal_0_0 x0 x1 x2 x3 x4 x5o x6o y7 y8)) (f0 y7 y8).h)),E_hexadecimal_0 x0 x1 x2 x3 x4 x5o x6o ∧ (∀ y7 y8,out_hexadecimal_0_0 x0 x1 x2 x3 x4 x5o x6o y7 y8 → (f0 y7 y8).p)⟩
abbrev t_hexadecimal_0 (x0 : Int) (x1 : ByteArray) (x2 x3 : Bool) (x4 x5 x6 : Int) (Q : Ex → St → Prop) : HC := (cd 1 ((decide (x6 < (↑x1.size : Int)))) (co 3 ((decide (0 ≤ x6))) (cu 1 ((Option.map (fun b=>Value.int IntKind.u8 (↑b.toNat : Int)) x1[x6.toNat]?)) fun x7=>(j_hex 2 (Int.ofNat x7.toNat) fun x8=>(cd 3 ((decide (x8 ≥ 0))) (ww (x0 + 8) (cd 6 ((decide (x6 < w6 (x0 + 8)))) (co 1 ((decide (0 ≤ x6))) (cu 1 ((Option.map (fun b=>Value.int IntKind.u8 (↑b.toNat : Int)) x1[x6.toNat]?)) fun x9=>(j_hex 1 (Int.ofNat x9.toNat) fun x10=>(ww (x6 + 1) (ww (x5 * 16) (ww (w6 (x5 * 16) + x10) (cz 2 (Q .norm (s_hexadecimal_0 x0 x1 x2 x3 x4 (w6 (w6 (x5 * 16) + x10)) (w6 (x6 + 1))))))))))) (cz 0 (Q (.exit 0) (x_hexadecimal_0_0 x0 x1 x2 x3 x4 x5 x6))))) (cz 5 (Q (.exit 0) (x_hexadecimal_0_0 x0 x1 x2 x3 x4 x5 x6))))))) (cz 12 (Q (.exit 0) (x_hexadecimal_0_0 x0 x1 x2 x3 x4 x5 x6))))
theorem l_hexadecimal_0 (x0 x1 x2 x3 x4 x5 x6) (Q : Ex → St → Prop) (h : (t_hexadecimal_0 x0 x1 x2 x3 x4 x5 x6 Q).p) : ∃ e s',L 67 0 (s_hexadecimal_0 x0 x1 x2 x3 x4 x5 x6) (e,s') ∧ Q e s' :=
 Leads.wq (t_hexadecimal_0 x0 x1 x2 x3 x4 x5 x6 Q).h (by kernel_rfl) h
instance k_hexadecimal_0 {x0 x1 x2 x3 x4 x5o x6o} : C (E_hexadecimal_0 x0 x1 x2 x3 x4 x5o x6o) (inv_hexadecimal_0 x0 x1 x2 x3 x4 x5o x6o x5o x6o) := ⟨fun hi=>by
 obtain ⟨e,s',hr,hq⟩ := Rounds.byInv (st := fun (w : Int × Int)=>s_hexadecimal_0 x0 x1 x2 x3 x4 w.1 w.2) (Inv := fun w=>inv_hexadecimal_0 x0 x1 x2 x3 x4 x5o x6o w.1 w.2) (μ := fun w=>mu_hexadecimal_0 x0 x1 x2 x3 x4 w.1 w.2) (Q := fun e s'=>(∃ y7 y8,out_hexadecimal_0_0 x0 x1 x2 x3 x4 x5o x6o y7 y8 ∧ e = (.exit 0) ∧ s' = x_hexadecimal_0_0 x0 x1 x2 x3 x4 y7 y8)) (by
  rintro ⟨x5,x6⟩ hi
  have hi : inv_hexadecimal_0 x0 x1 x2 x3 x4 x5o x6o x5 x6 := hi
  refine l_hexadecimal_0 x0 x1 x2 x3 x4 x5 x6 _ ?_
  have hM {p : Prop} (h : p := by unfold mu_hexadecimal_0; exact tI) : p := h
  revert hi
  exact tZ) (x5o,x6o) hi
 unfold E_hexadecimal_0
 rcases hq with ⟨_,_,ho,rfl,rfl⟩
 exact ⟨_,_,ho,hr⟩⟩
def s_hexadecimal_1 (x0 : ByteArray) (x1 x2 : Bool) (x3 x4 x5 x6 : Int) : St := ⟨[],[(1,(iv x4)),(2,(.ea [(sv x0),(bv x1),(bv x2),(iv x3)])),(6,(iv x5)),(8,(iv x6))],[],0⟩
def x_hexadecimal_1_0 (x0 : ByteArray) (x1 x2 : Bool) (x3 y4 y5 y6 : Int) : St := ⟨[],[(1,(iv y4)),(2,(.ea [(sv x0),(bv x1),(bv x2),(iv x3)])),(6,(iv y5)),(8,(iv y6)),(78,(bv false))],[],0⟩
def E_hexadecimal_1 (x0 : ByteArray) (x1 x2 : Bool) (x3 x4o x5o x6o : Int) : Prop := (∃ y7 y8 y9,out_hexadecimal_1_0 x0 x1 x2 x3 x4o x5o x6o y7 y8 y9 ∧ R 67 1 (s_hexadecimal_1 x0 x1 x2 x3 x4o x5o x6o) ((Ex.exit 2),x_hexadecimal_1_0 x0 x1 x2 x3 y7 y8 y9))
abbrev j_hexadecimal_1 (nn : Nat) (x0 : ByteArray) (x1 x2 : Bool) (x3 x4o x5o x6o : Int) (f0 : Int → Int → Int → HC) : HC := ⟨.ev nn (.ask (eI fun y7=>eI fun y8=>eI fun y9=>.done (.exit (Ex.exit 2) (x_hexadecimal_1_0 x0 x1 x2 x3 y7 y8 y9) (out_hexadecimal_1_0 x0 x1 x2 x3 x4o x5o x6o y7 y8 y9)) (f0 y7 y8 y9).h)),E_hexadecimal_1 x0 x1 x2 x3 x4o x5o x6o ∧ (∀ y7 y8 y9,out_hexadecimal_1_0 x0 x1 x2 x3 x4o x5o x6o y7 y8 y9 → (f0 y7 y8 y9).p)⟩
abbrev t_hexadecimal_1 (x0 : ByteArray) (x1 x2 : Bool) (x3 x4 x5 x6 : Int) (Q : Ex → St → Prop) : HC := (cd 1 ((decide (x6 < 2))) (cd 6 ((decide (x4 < (↑x0.size : Int)))) (co 3 ((decide (0 ≤ x4))) (cu 1 ((Option.map (fun b=>Value.int IntKind.u8 (↑b.toNat : Int)) x0[x4.toNat]?)) fun x7=>(j_hex 2 (Int.ofNat x7.toNat) fun x8=>(cd 3 ((decide (x8 ≥ 0))) (co 1 ((decide (0 ≤ x4))) (cu 1 ((Option.map (fun b=>Value.int IntKind.u8 (↑b.toNat : Int)) x0[x4.toNat]?)) fun x9=>(j_hex 1 (Int.ofNat x9.toNat) fun x10=>(ww (x6 + 1) (ww (x5 * 16) (ww (w6 (x5 * 16) + x10) (ww (x4 + 1) (cz 3 (Q .norm (s_hexadecimal_1 x0 x1 x2 x3 (w6 (x4 + 1)) (w6 (w6 (x5 * 16) + x10)) (w6 (x6 + 1)))))))))))) (cz 0 (Q (Ex.exit 2) (x_hexadecimal_1_0 x0 x1 x2 x3 x4 x5 x6))))))) (cz 7 (Q (Ex.exit 2) (x_hexadecimal_1_0 x0 x1 x2 x3 x4 x5 x6)))) (cz 13 (Q (Ex.exit 2) (x_hexadecimal_1_0 x0 x1 x2 x3 x4 x5 x6))))
theorem l_hexadecimal_1 (x0 x1 x2 x3 x4 x5 x6) (Q : Ex → St → Prop) (h : (t_hexadecimal_1 x0 x1 x2 x3 x4 x5 x6 Q).p) : ∃ e s',L 67 1 (s_hexadecimal_1 x0 x1 x2 x3 x4 x5 x6) (e,s') ∧ Q e s' :=
 Leads.wq (t_hexadecimal_1 x0 x1 x2 x3 x4 x5 x6 Q).h (by kernel_rfl) h
instance k_hexadecimal_1 {x0 x1 x2 x3 x4o x5o x6o} : C (E_hexadecimal_1 x0 x1 x2 x3 x4o x5o x6o) (inv_hexadecimal_1 x0 x1 x2 x3 x4o x5o x6o x4o x5o x6o) := ⟨fun hi=>by
 obtain ⟨e,s',hr,hq⟩ := Rounds.byInv (st := fun (w : Int × Int × Int)=>s_hexadecimal_1 x0 x1 x2 x3 w.1 w.2.1 w.2.2) (Inv := fun w=>inv_hexadecimal_1 x0 x1 x2 x3 x4o x5o x6o w.1 w.2.1 w.2.2) (μ := fun w=>mu_hexadecimal_1 x0 x1 x2 x3 w.1 w.2.1 w.2.2) (Q := fun e s'=>(∃ y7 y8 y9,out_hexadecimal_1_0 x0 x1 x2 x3 x4o x5o x6o y7 y8 y9 ∧ e = (Ex.exit 2) ∧ s' = x_hexadecimal_1_0 x0 x1 x2 x3 y7 y8 y9)) (by
  rintro ⟨x4,x5,x6⟩ hi
  have hi : inv_hexadecimal_1 x0 x1 x2 x3 x4o x5o x6o x4 x5 x6 := hi
  refine l_hexadecimal_1 x0 x1 x2 x3 x4 x5 x6 _ ?_
  have hM {p : Prop} (h : p := by unfold mu_hexadecimal_1; exact tI) : p := h
  revert hi
  exact tZ) (x4o,x5o,x6o) hi
 unfold E_hexadecimal_1
 rcases hq with ⟨_,_,_,ho,rfl,rfl⟩
 exact ⟨_,_,_,ho,hr⟩⟩
abbrev t_hexadecimal (x0 : ByteArray) (x1 x2 : Bool) (x3 x4 : Int) (Q : AV → HH → Prop) : HC := (j_is 1 x0 x1 x2 x3 x4 (bs [123]) fun x5=>(cd 0 x5 (ww (x4 + 1) (j_hexadecimal_0 1 x4 x0 x1 x2 x3 0 (w6 (x4 + 1)) (fun x6 x7=>(cd 2 ((x7 == w6 (x4 + 1))) (cq 11 Q (.tup [(iv (-1)),(iv x4)])) (ww (x4 + 7) (cd 6 ((decide (x7 > w6 (x4 + 7)))) (cq 6 Q (.tup [(iv (-1)),(iv x4)])) (j_is 3 x0 x1 x2 x3 x7 (bs [125]) fun x8=>(cd 3 ((!x8)) (cq 1 Q (.tup [(iv (-1)),(iv x4)])) (cd 2 ((decide (x6 > x3))) (ww (x7 + 1) (cq 8 Q (.tup [(iv (-1)),(iv (w6 (x7 + 1)))]))) (cd 2 x1 (cd 5 ((decide (x6 ≥ 55296))) (cd 5 ((decide (x6 ≤ 57343))) (ww (x7 + 1) (cq 1 Q (.tup [(iv (-1)),(iv (w6 (x7 + 1)))]))) (ww (x7 + 1) (cq 1 Q (.tup [(iv x6),(iv (w6 (x7 + 1)))])))) (ww (x7 + 1) (cq 6 Q (.tup [(iv x6),(iv (w6 (x7 + 1)))])))) (ww (x7 + 1) (cq 11 Q (.tup [(iv x6),(iv (w6 (x7 + 1)))]))))))))))))) (j_hexadecimal_1 0 x0 x1 x2 x3 x4 0 0 (fun x9 x10 x11=>(cd 1 ((decide (x10 > x3))) (cq 8 Q (.tup [(iv (-1)),(iv x9)])) (cd 2 x1 (cd 5 ((decide (x10 ≥ 55296))) (cd 5 ((decide (x10 ≤ 57343))) (cq 1 Q (.tup [(iv (-1)),(iv x9)])) (cq 1 Q (.tup [(iv x10),(iv x9)]))) (cq 6 Q (.tup [(iv x10),(iv x9)]))) (cq 11 Q (.tup [(iv x10),(iv x9)]))))))))
theorem w_hexadecimal (x0 x1 x2 x3 x4) (Q : AV → HH → Prop) (h : (t_hexadecimal x0 x1 x2 x3 x4 Q).p) : ∃ r H',A 67 [(.agg [(sv x0),(bv x1),(bv x2),(iv x3)]),(iv x4)] [] r H' ∧ Q r H' :=
 Ans.wq rfl (t_hexadecimal x0 x1 x2 x3 x4 Q).h (by kernel_rfl) h
instance c_hexadecimal {x0 x1 x2 x3 x4} : C (E_hexadecimal x0 x1 x2 x3 x4) (pre_hexadecimal x0 x1 x2 x3 x4) := ⟨fun hp=>by
 unfold E_hexadecimal
 obtain ⟨_,_,ha,x5,x6,hq,rfl,rfl⟩ := w_hexadecimal x0 x1 x2 x3 x4 (fun r H'=>∃ x5 x6,post_hexadecimal x0 x1 x2 x3 x4 x5 x6 ∧ r = (.tup [(iv x5),(iv x6)]) ∧ H' = []) (by
  revert hp
  exact tZ)
 exact ⟨x5,x6,hq,ha⟩⟩
def E_letter (x0 : Int) : Prop := ∃ x1,post_letter x0 x1 ∧ A 72 [(.sc (.int .u8 x0))] [] (bv x1) []
abbrev j_letter (nn : Nat) (x0 : Int) (kK : Bool → HC) : HC := ⟨.ev nn (.ask (eB fun x1=>.done (.res (bv x1) [] (post_letter x0 x1)) ((kK x1).h))),E_letter x0 ∧ (∀ x1,post_letter x0 x1 → (kK x1).p)⟩
abbrev t_letter (x0 : Int) (Q : AV → HH → Prop) : HC := (cd 1 ((decide (x0 ≥ 97))) (cd 3 ((decide (x0 ≤ 122))) (cq 5 Q (bv true)) (cd 3 ((decide (x0 ≥ 65))) (cq 6 Q (bv (decide (x0 ≤ 90)))) (cq 5 Q (bv false)))) (cd 6 ((decide (x0 ≥ 65))) (cq 6 Q (bv (decide (x0 ≤ 90)))) (cq 5 Q (bv false))))
theorem w_letter (x0) (Q : AV → HH → Prop) (h : (t_letter x0 Q).p) : ∃ r H',A 72 [(.sc (.int .u8 x0))] [] r H' ∧ Q r H' :=
 Ans.wq rfl (t_letter x0 Q).h (by kernel_rfl) h
instance c_letter {x0} : C (E_letter x0) (pre_letter x0) := ⟨fun hp=>by
 unfold E_letter
 obtain ⟨_,_,ha,x1,hq,rfl,rfl⟩ := w_letter x0 (fun r H'=>∃ x1,post_letter x0 x1 ∧ r = (bv x1) ∧ H' = []) (by
  revert hp
  exact tZ)
 exact ⟨x1,hq,ha⟩⟩
def E_Escape (x0 : Int) : Prop := ∃ x1 x2,post_Escape x0 x1 x2 ∧ A 91 [(iv x0)] [] (.tup [(.sl 2 x1),(bv x2)]) []
abbrev j_Escape (nn : Nat) (x0 : Int) (kK : List AV → Bool → HC) : HC := ⟨.ev nn (.ask (eL fun x1=>eB fun x2=>.done (.res (.tup [(.sl 2 x1),(bv x2)]) [] (post_Escape x0 x1 x2)) ((kK x1 x2).h))),E_Escape x0 ∧ (∀ x1 x2,post_Escape x0 x1 x2 → (kK x1 x2).p)⟩
abbrev t_Escape (x0 : Int) (Q : AV → HH → Prop) : HC := (cd 1 ((x0 == 100)) (j_Posix 1 (bs [100,105,103,105,116]) fun x1 x2=>(cq 1 Q (.tup [(.sl 2 x1),(bv x2)]))) (cd 1 ((x0 == 115)) (j_Posix 1 (bs [115,112,97,99,101]) fun x3 x4=>(cq 1 Q (.tup [(.sl 2 x3),(bv x4)]))) (cd 1 ((x0 == 119)) (j_Posix 1 (bs [119,111,114,100]) fun x5 x6=>(cq 1 Q (.tup [(.sl 2 x5),(bv x6)]))) (cd 1 ((x0 == 104)) (cq 1 Q (.tup [(.sl 2 [(.agg [(iv 9),(iv 9)]),(.agg [(iv 32),(iv 32)]),(.agg [(iv 160),(iv 160)]),(.agg [(iv 8192),(iv 8202)])]),(bv true)])) (cd 1 ((x0 == 118)) (cq 1 Q (.tup [(.sl 2 [(.agg [(iv 10),(iv 13)]),(.agg [(iv 133),(iv 133)]),(.agg [(iv 8232),(iv 8233)])]),(bv true)])) (cq 1 Q (.tup [(.sl 2 []),(bv false)])))))))
theorem w_Escape (x0) (Q : AV → HH → Prop) (h : (t_Escape x0 Q).p) : ∃ r H',A 91 [(iv x0)] [] r H' ∧ Q r H' :=
 Ans.wq rfl (t_Escape x0 Q).h (by kernel_rfl) h
instance c_Escape {x0} : C (E_Escape x0) (pre_Escape x0) := ⟨fun hp=>by
 unfold E_Escape
 obtain ⟨_,_,ha,x1,x2,hq,rfl,rfl⟩ := w_Escape x0 (fun r H'=>∃ x1 x2,post_Escape x0 x1 x2 ∧ r = (.tup [(.sl 2 x1),(bv x2)]) ∧ H' = []) (by
  revert hp
  exact tZ)
 exact ⟨x1,x2,hq,ha⟩⟩
def E_JoinQ (kind : Int) (a b : List AV) (most : Int) : Prop := ∃ x,post_JoinQ kind a b most x ∧ A 85 [iv kind,.sl 2 a,.sl 2 b,iv most] [] (.sl 2 x) []
abbrev j_JoinQ (nn : Nat) (kind : Int) (a b : List AV) (most : Int) (k : List AV → HC) : HC := ⟨.ev nn (.ask (eL fun x=>.done (.res (.sl 2 x) [] (post_JoinQ kind a b most x)) (k x).h)),E_JoinQ kind a b most ∧ ∀ x,post_JoinQ kind a b most x → (k x).p⟩
instance c_JoinQ {kind a b most} : C (E_JoinQ kind a b most) (pre_JoinQ kind a b most) := ⟨fun hp=>by
 obtain ⟨x,h,k⟩ := c_Join kind a b most hp
 exact Exists.intro x ⟨⟨h.r,h.rs,h.len⟩,k⟩⟩
def E_Table : Prop := ∃ x0,post_Table x0 ∧ A 99 [] [] (.sl 5 x0) []
abbrev j_Table (nn : Nat) (kK : List AV → HC) : HC := ⟨.ev nn (.ask (eL fun x0=>.done (.res (.sl 5 x0) [] (post_Table x0)) ((kK x0).h))),E_Table ∧ (∀ x0,post_Table x0 → (kK x0).p)⟩
abbrev t_Table (Q : AV → HH → Prop) : HC := (cq 9 Q (.sl 5 [(.agg [(iv 0),(iv 31),(sv (bs [67,99])),(sv (bs [67,111,109,109,111,110])),(iv 0)]),(.agg [(iv 32),(iv 32),(sv (bs [90,115])),(sv (bs [67,111,109,109,111,110])),(iv 0)]),(.agg [(iv 33),(iv 35),(sv (bs [80,111])),(sv (bs [67,111,109,109,111,110])),(iv 0)]),(.agg [(iv 36),(iv 36),(sv (bs [83,99])),(sv (bs [67,111,109,109,111,110])),(iv 0)]),(.agg [(iv 37),(iv 39),(sv (bs [80,111])),(sv (bs [67,111,109,109,111,110])),(iv 0)]),(.agg [(iv 40),(iv 40),(sv (bs [80,115])),(sv (bs [67,111,109,109,111,110])),(iv 0)]),(.agg [(iv 41),(iv 41),(sv (bs [80,101])),(sv (bs [67,111,109,109,111,110])),(iv 0)]),(.agg [(iv 42),(iv 42),(sv (bs [80,111])),(sv (bs [67,111,109,109,111,110])),(iv 0)]),(.agg [(iv 43),(iv 43),(sv (bs [83,109])),(sv (bs [67,111,109,109,111,110])),(iv 0)]),(.agg [(iv 44),(iv 44),(sv (bs [80,111])),(sv (bs [67,111,109,109,111,110])),(iv 0)]),(.agg [(iv 45),(iv 45),(sv (bs [80,100])),(sv (bs [67,111,109,109,111,110])),(iv 0)]),(.agg [(iv 46),(iv 47),(sv (bs [80,111])),(sv (bs [67,111,109,109,111,110])),(iv 0)]),(.agg [(iv 48),(iv 57),(sv (bs [78,100])),(sv (bs [67,111,109,109,111,110])),(iv 0)]),(.agg [(iv 58),(iv 59),(sv (bs [80,111])),(sv (bs [67,111,109,109,111,110])),(iv 0)]),(.agg [(iv 60),(iv 62),(sv (bs [83,109])),(sv (bs [67,111,109,109,111,110])),(iv 0)]),(.agg [(iv 63),(iv 64),(sv (bs [80,111])),(sv (bs [67,111,109,109,111,110])),(iv 0)]),(.agg [(iv 65),(iv 90),(sv (bs [76,117])),(sv (bs [76,97,116,105,110])),(iv 32)]),(.agg [(iv 91),(iv 91),(sv (bs [80,115])),(sv (bs [67,111,109,109,111,110])),(iv 0)]),(.agg [(iv 92),(iv 92),(sv (bs [80,111])),(sv (bs [67,111,109,109,111,110])),(iv 0)]),(.agg [(iv 93),(iv 93),(sv (bs [80,101])),(sv (bs [67,111,109,109,111,110])),(iv 0)]),(.agg [(iv 94),(iv 94),(sv (bs [83,107])),(sv (bs [67,111,109,109,111,110])),(iv 0)]),(.agg [(iv 95),(iv 95),(sv (bs [80,99])),(sv (bs [67,111,109,109,111,110])),(iv 0)]),(.agg [(iv 96),(iv 96),(sv (bs [83,107])),(sv (bs [67,111,109,109,111,110])),(iv 0)]),(.agg [(iv 97),(iv 122),(sv (bs [76,108])),(sv (bs [76,97,116,105,110])),(iv (-32))]),(.agg [(iv 123),(iv 123),(sv (bs [80,115])),(sv (bs [67,111,109,109,111,110])),(iv 0)]),(.agg [(iv 124),(iv 124),(sv (bs [83,109])),(sv (bs [67,111,109,109,111,110])),(iv 0)]),(.agg [(iv 125),(iv 125),(sv (bs [80,101])),(sv (bs [67,111,109,109,111,110])),(iv 0)]),(.agg [(iv 126),(iv 126),(sv (bs [83,109])),(sv (bs [67,111,109,109,111,110])),(iv 0)]),(.agg [(iv 127),(iv 159),(sv (bs [67,99])),(sv (bs [67,111,109,109,111,110])),(iv 0)]),(.agg [(iv 160),(iv 160),(sv (bs [90,115])),(sv (bs [67,111,109,109,111,110])),(iv 0)]),(.agg [(iv 161),(iv 161),(sv (bs [80,111])),(sv (bs [67,111,109,109,111,110])),(iv 0)]),(.agg [(iv 162),(iv 165),(sv (bs [83,99])),(sv (bs [67,111,109,109,111,110])),(iv 0)]),(.agg [(iv 166),(iv 166),(sv (bs [83,111])),(sv (bs [67,111,109,109,111,110])),(iv 0)]),(.agg [(iv 167),(iv 167),(sv (bs [80,111])),(sv (bs [67,111,109,109,111,110])),(iv 0)]),(.agg [(iv 168),(iv 168),(sv (bs [83,107])),(sv (bs [67,111,109,109,111,110])),(iv 0)]),(.agg [(iv 169),(iv 169),(sv (bs [83,111])),(sv (bs [67,111,109,109,111,110])),(iv 0)]),(.agg [(iv 170),(iv 170),(sv (bs [76,111])),(sv (bs [76,97,116,105,110])),(iv 0)]),(.agg [(iv 171),(iv 171),(sv (bs [80,105])),(sv (bs [67,111,109,109,111,110])),(iv 0)]),(.agg [(iv 172),(iv 172),(sv (bs [83,109])),(sv (bs [67,111,109,109,111,110])),(iv 0)]),(.agg [(iv 173),(iv 173),(sv (bs [67,102])),(sv (bs [67,111,109,109,111,110])),(iv 0)]),(.agg [(iv 174),(iv 174),(sv (bs [83,111])),(sv (bs [67,111,109,109,111,110])),(iv 0)]),(.agg [(iv 175),(iv 175),(sv (bs [83,107])),(sv (bs [67,111,109,109,111,110])),(iv 0)]),(.agg [(iv 176),(iv 176),(sv (bs [83,111])),(sv (bs [67,111,109,109,111,110])),(iv 0)]),(.agg [(iv 177),(iv 177),(sv (bs [83,109])),(sv (bs [67,111,109,109,111,110])),(iv 0)]),(.agg [(iv 178),(iv 179),(sv (bs [78,111])),(sv (bs [67,111,109,109,111,110])),(iv 0)]),(.agg [(iv 180),(iv 180),(sv (bs [83,107])),(sv (bs [67,111,109,109,111,110])),(iv 0)]),(.agg [(iv 181),(iv 181),(sv (bs [76,108])),(sv (bs [67,111,109,109,111,110])),(iv 0)]),(.agg [(iv 182),(iv 183),(sv (bs [80,111])),(sv (bs [67,111,109,109,111,110])),(iv 0)]),(.agg [(iv 184),(iv 184),(sv (bs [83,107])),(sv (bs [67,111,109,109,111,110])),(iv 0)]),(.agg [(iv 185),(iv 185),(sv (bs [78,111])),(sv (bs [67,111,109,109,111,110])),(iv 0)]),(.agg [(iv 186),(iv 186),(sv (bs [76,111])),(sv (bs [76,97,116,105,110])),(iv 0)]),(.agg [(iv 187),(iv 187),(sv (bs [80,102])),(sv (bs [67,111,109,109,111,110])),(iv 0)]),(.agg [(iv 188),(iv 190),(sv (bs [78,111])),(sv (bs [67,111,109,109,111,110])),(iv 0)]),(.agg [(iv 191),(iv 191),(sv (bs [80,111])),(sv (bs [67,111,109,109,111,110])),(iv 0)]),(.agg [(iv 192),(iv 214),(sv (bs [76,117])),(sv (bs [76,97,116,105,110])),(iv 32)]),(.agg [(iv 215),(iv 215),(sv (bs [83,109])),(sv (bs [67,111,109,109,111,110])),(iv 0)]),(.agg [(iv 216),(iv 222),(sv (bs [76,117])),(sv (bs [76,97,116,105,110])),(iv 32)]),(.agg [(iv 223),(iv 223),(sv (bs [76,108])),(sv (bs [76,97,116,105,110])),(iv 0)]),(.agg [(iv 224),(iv 246),(sv (bs [76,108])),(sv (bs [76,97,116,105,110])),(iv (-32))]),(.agg [(iv 247),(iv 247),(sv (bs [83,109])),(sv (bs [67,111,109,109,111,110])),(iv 0)]),(.agg [(iv 248),(iv 254),(sv (bs [76,108])),(sv (bs [76,97,116,105,110])),(iv (-32))]),(.agg [(iv 255),(iv 255),(sv (bs [76,108])),(sv (bs [76,97,116,105,110])),(iv 0)]),(.agg [(iv 383),(iv 383),(sv (bs [76,108])),(sv (bs [76,97,116,105,110])),(iv 0)]),(.agg [(iv 768),(iv 879),(sv (bs [77,110])),(sv (bs [73,110,104,101,114,105,116,101,100])),(iv 0)]),(.agg [(iv 913),(iv 929),(sv (bs [76,117])),(sv (bs [71,114,101,101,107])),(iv 32)]),(.agg [(iv 931),(iv 939),(sv (bs [76,117])),(sv (bs [71,114,101,101,107])),(iv 32)]),(.agg [(iv 945),(iv 961),(sv (bs [76,108])),(sv (bs [71,114,101,101,107])),(iv (-32))]),(.agg [(iv 962),(iv 962),(sv (bs [76,108])),(sv (bs [71,114,101,101,107])),(iv 0)]),(.agg [(iv 963),(iv 971),(sv (bs [76,108])),(sv (bs [71,114,101,101,107])),(iv (-32))]),(.agg [(iv 1040),(iv 1071),(sv (bs [76,117])),(sv (bs [67,121,114,105,108,108,105,99])),(iv 32)]),(.agg [(iv 1072),(iv 1103),(sv (bs [76,108])),(sv (bs [67,121,114,105,108,108,105,99])),(iv (-32))]),(.agg [(iv 1488),(iv 1514),(sv (bs [76,111])),(sv (bs [72,101,98,114,101,119])),(iv 0)]),(.agg [(iv 1632),(iv 1641),(sv (bs [78,100])),(sv (bs [65,114,97,98,105,99])),(iv 0)]),(.agg [(iv 8192),(iv 8202),(sv (bs [90,115])),(sv (bs [67,111,109,109,111,110])),(iv 0)]),(.agg [(iv 8232),(iv 8232),(sv (bs [90,108])),(sv (bs [67,111,109,109,111,110])),(iv 0)]),(.agg [(iv 8233),(iv 8233),(sv (bs [90,112])),(sv (bs [67,111,109,109,111,110])),(iv 0)]),(.agg [(iv 8364),(iv 8364),(sv (bs [83,99])),(sv (bs [67,111,109,109,111,110])),(iv 0)]),(.agg [(iv 8490),(iv 8490),(sv (bs [76,117])),(sv (bs [76,97,116,105,110])),(iv 0)]),(.agg [(iv 12353),(iv 12438),(sv (bs [76,111])),(sv (bs [72,105,114,97,103,97,110,97])),(iv 0)]),(.agg [(iv 19968),(iv 40959),(sv (bs [76,111])),(sv (bs [72,97,110])),(iv 0)]),(.agg [(iv 127744),(iv 128511),(sv (bs [83,111])),(sv (bs [67,111,109,109,111,110])),(iv 0)])]))
theorem w_Table (Q : AV → HH → Prop) (h : (t_Table Q).p) : ∃ r H',A 99 [] [] r H' ∧ Q r H' :=
 Ans.wq rfl (t_Table Q).h (by kernel_rfl) h
instance c_Table : C (E_Table) (pre_Table) := ⟨fun hp=>by
 unfold E_Table
 obtain ⟨_,_,ha,x0,hq,rfl,rfl⟩ := w_Table (fun r H'=>∃ x0,post_Table x0 ∧ r = (.sl 5 x0) ∧ H' = []) (by
  have hQ {p : Prop} (h : p := by exact ⟨Ws.of (by kernel_rfl),Nat.le_of_ble_eq_true (by kernel_rfl)⟩) : p := h
  revert hp
  exact tZ)
 exact ⟨x0,hq,ha⟩⟩
def E_Property (x0 : ByteArray) : Prop := ∃ x1 x2,post_Property x0 x1 x2 ∧ A 90 [(sv x0)] [] (.tup [(.sl 2 x1),(bv x2)]) []
abbrev j_Property (nn : Nat) (x0 : ByteArray) (kK : List AV → Bool → HC) : HC := ⟨.ev nn (.ask (eL fun x1=>eB fun x2=>.done (.res (.tup [(.sl 2 x1),(bv x2)]) [] (post_Property x0 x1 x2)) ((kK x1 x2).h))),E_Property x0 ∧ (∀ x1 x2,post_Property x0 x1 x2 → (kK x1 x2).p)⟩
def s_Property_0 (x0 : ByteArray) (x1 x2 x3 : List AV) (x4 : Int) : St := ⟨[],[(0,(sv x0)),(4,(.cap false 105 x2)),(5,(.cap false 105 x3)),(6,(.sl 5 x1)),(7,(iv x4))],[],0⟩
def x_Property_0_0 (x0 : ByteArray) (x1 y2 y3 : List AV) (y4 : Int) : St := ⟨[],[(0,(sv x0)),(4,(.cap false 105 y2)),(5,(.cap false 105 y3)),(6,(.sl 5 x1)),(7,(iv y4)),(17,(bv false))],[],0⟩
def E_Property_0 (x0 : ByteArray) (x1 x2o x3o : List AV) (x4o : Int) : Prop := (∃ y5 y6 y7,out_Property_0_0 x0 x1 x2o x3o x4o y5 y6 y7 ∧ R 90 0 (s_Property_0 x0 x1 x2o x3o x4o) ((.exit 0),x_Property_0_0 x0 x1 y5 y6 y7))
abbrev j_Property_0 (nn : Nat) (x0 : ByteArray) (x1 x2o x3o : List AV) (x4o : Int) (f0 : List AV → List AV → Int → HC) : HC := ⟨.ev nn (.ask (eL fun y5=>eL fun y6=>eI fun y7=>.done (.exit (.exit 0) (x_Property_0_0 x0 x1 y5 y6 y7) (out_Property_0_0 x0 x1 x2o x3o x4o y5 y6 y7)) (f0 y5 y6 y7).h)),E_Property_0 x0 x1 x2o x3o x4o ∧ (∀ y5 y6 y7,out_Property_0_0 x0 x1 x2o x3o x4o y5 y6 y7 → (f0 y5 y6 y7).p)⟩
abbrev t_Property_0 (x0 : ByteArray) (x1 x2 x3 : List AV) (x4 : Int) (Q : Ex → St → Prop) : HC := (cd 1 ((decide (x4 < (↑x1.length : Int)))) (co 0 ((decide (0 ≤ x4))) (cv5 1 ((x1[x4.toNat]?)) (fun (x5 x6 : Int) (x7 x8 : ByteArray) (x9 : Int)=>(.agg [(iv x5),(iv x6),(sv x7),(sv x8),(iv x9)])) fun x5 x6 x7 x8 x9=>(co 0 ((decide (0 ≤ x4))) (cv5 1 ((x1[x4.toNat]?)) (fun (x10 x11 : Int) (x12 x13 : ByteArray) (x14 : Int)=>(.agg [(iv x10),(iv x11),(sv x12),(sv x13),(iv x14)])) fun x10 x11 x12 x13 x14=>(cr 0 ((roomD pr 105 x3.length 1)) (co 0 ((decide (0 ≤ x4))) (cv5 1 ((x1[x4.toNat]?)) (fun (x15 x16 : Int) (x17 x18 : ByteArray) (x19 : Int)=>(.agg [(iv x15),(iv x16),(sv x17),(sv x18),(iv x19)])) fun x15 x16 x17 x18 x19=>(cd 1 ((x17.toList == x0.toList)) (cr 19 ((roomD pr 105 x2.length 1)) (ww (x4 + 1) (cz 1 (Q .norm (s_Property_0 x0 x1 (x2 ++ [AV.agg [iv x5,iv x11]]) (x3 ++ [AV.agg [iv x5,iv x11]]) (w6 (x4 + 1))))))) (co 2 ((decide (0 ≤ x4))) (cv5 1 ((x1[x4.toNat]?)) (fun (x20 x21 : Int) (x22 x23 : ByteArray) (x24 : Int)=>(.agg [(iv x20),(iv x21),(sv x22),(sv x23),(iv x24)])) fun x20 x21 x22 x23 x24=>(cd 6 ((x23.toList == x0.toList)) (cr 11 ((roomD pr 105 x2.length 1)) (ww (x4 + 1) (cz 1 (Q .norm (s_Property_0 x0 x1 (x2 ++ [AV.agg [iv x5,iv x11]]) (x3 ++ [AV.agg [iv x5,iv x11]]) (w6 (x4 + 1))))))) (cd 4 (((↑x0.size : Int) == 1)) (co 3 ((true && ((Int.toNat 1).ble x17.size))) (cd 6 (((x17.extract 0 (Int.toNat 1)).toList == x0.toList)) (cr 5 ((roomD pr 105 x2.length 1)) (ww (x4 + 1) (cz 1 (Q .norm (s_Property_0 x0 x1 (x2 ++ [AV.agg [iv x5,iv x11]]) (x3 ++ [AV.agg [iv x5,iv x11]]) (w6 (x4 + 1))))))) (cd 3 ((x0.toList == (bs [76,38]).toList)) (cd 3 ((x17.toList == (bs [76,117]).toList)) (cr 7 ((roomD pr 105 x2.length 1)) (ww (x4 + 1) (cz 1 (Q .norm (s_Property_0 x0 x1 (x2 ++ [AV.agg [iv x5,iv x11]]) (x3 ++ [AV.agg [iv x5,iv x11]]) (w6 (x4 + 1))))))) (cd 7 ((x17.toList == (bs [76,108]).toList)) (cr 0 ((roomD pr 105 x2.length 1)) (ww (x4 + 1) (cz 1 (Q .norm (s_Property_0 x0 x1 (x2 ++ [AV.agg [iv x5,iv x11]]) (x3 ++ [AV.agg [iv x5,iv x11]]) (w6 (x4 + 1))))))) (ww (x4 + 1) (cz 1 (Q .norm (s_Property_0 x0 x1 x2 (x3 ++ [AV.agg [iv x5,iv x11]]) (w6 (x4 + 1)))))))) (ww (x4 + 1) (cz 8 (Q .norm (s_Property_0 x0 x1 x2 (x3 ++ [AV.agg [iv x5,iv x11]]) (w6 (x4 + 1))))))))) (cd 10 ((x0.toList == (bs [76,38]).toList)) (cd 3 ((x17.toList == (bs [76,117]).toList)) (cr 7 ((roomD pr 105 x2.length 1)) (ww (x4 + 1) (cz 1 (Q .norm (s_Property_0 x0 x1 (x2 ++ [AV.agg [iv x5,iv x11]]) (x3 ++ [AV.agg [iv x5,iv x11]]) (w6 (x4 + 1))))))) (cd 7 ((x17.toList == (bs [76,108]).toList)) (cr 0 ((roomD pr 105 x2.length 1)) (ww (x4 + 1) (cz 1 (Q .norm (s_Property_0 x0 x1 (x2 ++ [AV.agg [iv x5,iv x11]]) (x3 ++ [AV.agg [iv x5,iv x11]]) (w6 (x4 + 1))))))) (ww (x4 + 1) (cz 1 (Q .norm (s_Property_0 x0 x1 x2 (x3 ++ [AV.agg [iv x5,iv x11]]) (w6 (x4 + 1)))))))) (ww (x4 + 1) (cz 8 (Q .norm (s_Property_0 x0 x1 x2 (x3 ++ [AV.agg [iv x5,iv x11]]) (w6 (x4 + 1))))))))))))))))))) (cz 0 (Q (.exit 0) (x_Property_0_0 x0 x1 x2 x3 x4))))
theorem l_Property_0 (x0 x1 x2 x3 x4) (Q : Ex → St → Prop) (h : (t_Property_0 x0 x1 x2 x3 x4 Q).p) : ∃ e s',L 90 0 (s_Property_0 x0 x1 x2 x3 x4) (e,s') ∧ Q e s' :=
 Leads.wq (t_Property_0 x0 x1 x2 x3 x4 Q).h (by kernel_rfl) h
instance k_Property_0 {x0 x1 x2o x3o x4o} : C (E_Property_0 x0 x1 x2o x3o x4o) (inv_Property_0 x0 x1 x2o x3o x4o x2o x3o x4o) := ⟨fun hi=>by
 obtain ⟨e,s',hr,hq⟩ := Rounds.byInv (st := fun (w : (List AV) × (List AV) × Int)=>s_Property_0 x0 x1 w.1 w.2.1 w.2.2) (Inv := fun w=>inv_Property_0 x0 x1 x2o x3o x4o w.1 w.2.1 w.2.2) (μ := fun w=>mu_Property_0 x0 x1 w.1 w.2.1 w.2.2) (Q := fun e s'=>(∃ y5 y6 y7,out_Property_0_0 x0 x1 x2o x3o x4o y5 y6 y7 ∧ e = (.exit 0) ∧ s' = x_Property_0_0 x0 x1 y5 y6 y7)) (by
  rintro ⟨x2,x3,x4⟩ hi
  have hi : inv_Property_0 x0 x1 x2o x3o x4o x2 x3 x4 := hi
  refine l_Property_0 x0 x1 x2 x3 x4 _ ?_
  have hM {p : Prop} (h : p := by unfold mu_Property_0; exact tI) : p := h
  revert hi
  exact tZ) (x2o,x3o,x4o) hi
 unfold E_Property_0
 rcases hq with ⟨_,_,_,ho,rfl,rfl⟩
 exact ⟨_,_,_,ho,hr⟩⟩
abbrev t_Property (x0 : ByteArray) (Q : AV → HH → Prop) : HC := (cd 1 ((x0.toList == (bs [65,110,121]).toList)) (cq 4 Q (.tup [(.sl 2 [(.agg [(iv 0),(iv 1114111)])]),(bv true)])) (j_Table 1 fun x1=>(j_Property_0 0 x0 x1 [] [] 0 (fun x2 x3 x4=>(cd 1 ((x0.toList == (bs [67,110]).toList)) (cp 6 ((npL [(iv 2),(.sl 2 x3),(.sl 2 []),(iv 1114111)])) (j_JoinQ 0 2 x3 [] 1114111 fun x5=>(cr 0 ((roomD pr 105 x2.length x5.length)) (cd 1 (((↑(x2 ++ x5).length : Int) == 0)) (cq 1 Q (.tup [(.sl 2 []),(bv false)])) (cp 0 ((npL [(.sl 2 (x2 ++ x5)),(iv 1114111)])) (j_NewQ 0 (x2 ++ x5) 1114111 fun x6=>(cq 1 Q (.tup [(.sl 2 x6),(bv true)])))))))) (cd 3 ((x0.toList == (bs [67]).toList)) (cp 3 ((npL [(iv 2),(.sl 2 x3),(.sl 2 []),(iv 1114111)])) (j_JoinQ 0 2 x3 [] 1114111 fun x7=>(cr 0 ((roomD pr 105 x2.length x7.length)) (cd 1 (((↑(x2 ++ x7).length : Int) == 0)) (cq 1 Q (.tup [(.sl 2 []),(bv false)])) (cp 0 ((npL [(.sl 2 (x2 ++ x7)),(iv 1114111)])) (j_NewQ 0 (x2 ++ x7) 1114111 fun x8=>(cq 1 Q (.tup [(.sl 2 x8),(bv true)])))))))) (cd 3 ((x0.toList == (bs [85,110,107,110,111,119,110]).toList)) (cp 0 ((npL [(iv 2),(.sl 2 x3),(.sl 2 []),(iv 1114111)])) (j_JoinQ 0 2 x3 [] 1114111 fun x9=>(cr 0 ((roomD pr 105 x2.length x9.length)) (cd 1 (((↑(x2 ++ x9).length : Int) == 0)) (cq 1 Q (.tup [(.sl 2 []),(bv false)])) (cp 0 ((npL [(.sl 2 (x2 ++ x9)),(iv 1114111)])) (j_NewQ 0 (x2 ++ x9) 1114111 fun x10=>(cq 1 Q (.tup [(.sl 2 x10),(bv true)])))))))) (cd 1 (((↑x2.length : Int) == 0)) (cq 1 Q (.tup [(.sl 2 []),(bv false)])) (cp 0 ((npL [(.sl 2 x2),(iv 1114111)])) (j_NewQ 0 x2 1114111 fun x11=>(cq 1 Q (.tup [(.sl 2 x11),(bv true)]))))))))))))
theorem w_Property (x0) (Q : AV → HH → Prop) (h : (t_Property x0 Q).p) : ∃ r H',A 90 [(sv x0)] [] r H' ∧ Q r H' :=
 Ans.wq rfl (t_Property x0 Q).h (by kernel_rfl) h
instance c_Property {x0} : C (E_Property x0) (pre_Property x0) := ⟨fun hp=>by
 unfold E_Property
 obtain ⟨_,_,ha,x1,x2,hq,rfl,rfl⟩ := w_Property x0 (fun r H'=>∃ x1 x2,post_Property x0 x1 x2 ∧ r = (.tup [(.sl 2 x1),(bv x2)]) ∧ H' = []) (by
  revert hp
  exact tZ)
 exact ⟨x1,x2,hq,ha⟩⟩
def E_braced (x0 : ByteArray) (x1 x2 : Bool) (x3 x4 : Int) : Prop := ∃ x5 x6,post_braced x0 x1 x2 x3 x4 x5 x6 ∧ A 89 [(.agg [(sv x0),(bv x1),(bv x2),(iv x3)]),(iv x4)] [] (.tup [(sv x5),(iv x6)]) []
abbrev j_braced (nn : Nat) (x0 : ByteArray) (x1 x2 : Bool) (x3 x4 : Int) (kK : ByteArray → Int → HC) : HC := ⟨.ev nn (.ask (eS fun x5=>eI fun x6=>.done (.res (.tup [(sv x5),(iv x6)]) [] (post_braced x0 x1 x2 x3 x4 x5 x6)) ((kK x5 x6).h))),E_braced x0 x1 x2 x3 x4 ∧ (∀ x5 x6,post_braced x0 x1 x2 x3 x4 x5 x6 → (kK x5 x6).p)⟩
def s_braced_0 (x0 : Int) (x1 : ByteArray) (x2 x3 : Bool) (x4 x5 : Int) : St := ⟨[],[(1,(iv x0)),(2,(.ea [(sv x1),(bv x2),(bv x3),(iv x4)])),(8,(iv x5))],[],0⟩
def x_braced_0_0 (x0 : Int) (x1 : ByteArray) (x2 x3 : Bool) (x4 : Int) (y5 : ByteArray) (y6 : Int) : St := ⟨[],[(4,(sv y5)),(5,(iv y6))],[],0⟩
def x_braced_0_1 (x0 : Int) (x1 : ByteArray) (x2 x3 : Bool) (x4 y5 : Int) : St := ⟨[],[(1,(iv x0)),(2,(.ea [(sv x1),(bv x2),(bv x3),(iv x4)])),(8,(iv y5)),(37,(bv false))],[],0⟩
def E_braced_0 (x0 : Int) (x1 : ByteArray) (x2 x3 : Bool) (x4 x5o : Int) : Prop := ((∃ y6 y7,out_braced_0_0 x0 x1 x2 x3 x4 x5o y6 y7 ∧ R 89 0 (s_braced_0 x0 x1 x2 x3 x4 x5o) (Ex.ret,x_braced_0_0 x0 x1 x2 x3 x4 y6 y7)) ∨ (∃ y6,out_braced_0_1 x0 x1 x2 x3 x4 x5o y6 ∧ R 89 0 (s_braced_0 x0 x1 x2 x3 x4 x5o) ((.exit 0),x_braced_0_1 x0 x1 x2 x3 x4 y6)))
abbrev j_braced_0 (nn : Nat) (x0 : Int) (x1 : ByteArray) (x2 x3 : Bool) (x4 x5o : Int) (f0 : ByteArray → Int → HC) (f1 : Int → HC) : HC := ⟨.ev nn (.ask (.or (eS fun y6=>eI fun y7=>.done (.exit Ex.ret (x_braced_0_0 x0 x1 x2 x3 x4 y6 y7) (out_braced_0_0 x0 x1 x2 x3 x4 x5o y6 y7)) (f0 y6 y7).h) (eI fun y6=>.done (.exit (.exit 0) (x_braced_0_1 x0 x1 x2 x3 x4 y6) (out_braced_0_1 x0 x1 x2 x3 x4 x5o y6)) (f1 y6).h))),E_braced_0 x0 x1 x2 x3 x4 x5o ∧ ((∀ y6 y7,out_braced_0_0 x0 x1 x2 x3 x4 x5o y6 y7 → (f0 y6 y7).p) ∧ (∀ y6,out_braced_0_1 x0 x1 x2 x3 x4 x5o y6 → (f1 y6).p))⟩
abbrev t_braced_0 (x0 : Int) (x1 : ByteArray) (x2 x3 : Bool) (x4 x5 : Int) (Q : Ex → St → Prop) : HC := (cd 1 ((decide (x5 < (↑x1.size : Int)))) (co 0 ((decide (0 ≤ x5))) (cu 1 ((Option.map (fun b=>Value.int IntKind.u8 (↑b.toNat : Int)) x1[x5.toNat]?)) fun x6=>(cd 1 ((Int.ofNat x6.toNat == 125)) (ww (x0 + 1) (co 1 ((decide (0 ≤ w6 (x0 + 1)))) (co 1 ((decide (0 ≤ x5))) (co 1 ((((w6 (x0 + 1)).toNat.ble x5.toNat) && (x5.toNat.ble x1.size))) (ww (x5 + 1) (cz 1 (Q Ex.ret (x_braced_0_0 x0 x1 x2 x3 x4 (x1.extract (w6 (x0 + 1)).toNat x5.toNat) (w6 (x5 + 1)))))))))) (ww (x5 + 1) (cz 1 (Q .norm (s_braced_0 x0 x1 x2 x3 x4 (w6 (x5 + 1))))))))) (cz 0 (Q (.exit 0) (x_braced_0_1 x0 x1 x2 x3 x4 x5))))
theorem l_braced_0 (x0 x1 x2 x3 x4 x5) (Q : Ex → St → Prop) (h : (t_braced_0 x0 x1 x2 x3 x4 x5 Q).p) : ∃ e s',L 89 0 (s_braced_0 x0 x1 x2 x3 x4 x5) (e,s') ∧ Q e s' :=
 Leads.wq (t_braced_0 x0 x1 x2 x3 x4 x5 Q).h (by kernel_rfl) h
instance k_braced_0 {x0 x1 x2 x3 x4 x5o} : C (E_braced_0 x0 x1 x2 x3 x4 x5o) (inv_braced_0 x0 x1 x2 x3 x4 x5o x5o) := ⟨fun hi=>by
 obtain ⟨e,s',hr,hq⟩ := Rounds.byInv (st := fun (w : Int)=>s_braced_0 x0 x1 x2 x3 x4 w) (Inv := fun w=>inv_braced_0 x0 x1 x2 x3 x4 x5o w) (μ := fun w=>mu_braced_0 x0 x1 x2 x3 x4 w) (Q := fun e s'=>((∃ y6 y7,out_braced_0_0 x0 x1 x2 x3 x4 x5o y6 y7 ∧ e = Ex.ret ∧ s' = x_braced_0_0 x0 x1 x2 x3 x4 y6 y7) ∨ (∃ y6,out_braced_0_1 x0 x1 x2 x3 x4 x5o y6 ∧ e = (.exit 0) ∧ s' = x_braced_0_1 x0 x1 x2 x3 x4 y6))) (by
  intro x5 hi
  have hi : inv_braced_0 x0 x1 x2 x3 x4 x5o x5 := hi
  refine l_braced_0 x0 x1 x2 x3 x4 x5 _ ?_
  have hM {p : Prop} (h : p := by unfold mu_braced_0; exact tI) : p := h
  revert hi
  exact tZ) x5o hi
 unfold E_braced_0
 rcases hq with ⟨_,_,ho,rfl,rfl⟩ | ⟨_,ho,rfl,rfl⟩
 
 ·exact .inl ⟨_,_,ho,hr⟩
 ·exact .inr (⟨_,ho,hr⟩)⟩
abbrev t_braced (x0 : ByteArray) (x1 x2 : Bool) (x3 x4 : Int) (Q : AV → HH → Prop) : HC := (cd 1 ((decide (x4 ≥ (↑x0.size : Int)))) (cq 1 Q (.tup [(sv (bs [])),(iv (-1))])) (co 0 ((decide (0 ≤ x4))) (cu 1 ((Option.map (fun b=>Value.int IntKind.u8 (↑b.toNat : Int)) x0[x4.toNat]?)) fun x5=>(cd 1 ((!Int.ofNat x5.toNat == 123)) (j_Char 1 x0 x1 x2 x3 x4 fun x6 x7=>(co 0 ((decide (0 ≤ x4))) (co 1 ((decide (0 ≤ x7))) (co 1 (((x4.toNat.ble x7.toNat) && (x7.toNat.ble x0.size))) (cq 1 Q (.tup [(sv (x0.extract x4.toNat x7.toNat)),(iv x7)])))))) (ww (x4 + 1) (j_braced_0 1 x4 x0 x1 x2 x3 (w6 (x4 + 1)) (fun x8 x9=>(cq 1 Q (.tup [(sv x8),(iv x9)]))) (fun x10=>(cq 1 Q (.tup [(sv (bs [])),(iv (-1))])))))))))
theorem w_braced (x0 x1 x2 x3 x4) (Q : AV → HH → Prop) (h : (t_braced x0 x1 x2 x3 x4 Q).p) : ∃ r H',A 89 [(.agg [(sv x0),(bv x1),(bv x2),(iv x3)]),(iv x4)] [] r H' ∧ Q r H' :=
 Ans.wq rfl (t_braced x0 x1 x2 x3 x4 Q).h (by kernel_rfl) h
instance c_braced {x0 x1 x2 x3 x4} : C (E_braced x0 x1 x2 x3 x4) (pre_braced x0 x1 x2 x3 x4) := ⟨fun hp=>by
 unfold E_braced
 obtain ⟨_,_,ha,x5,x6,hq,rfl,rfl⟩ := w_braced x0 x1 x2 x3 x4 (fun r H'=>∃ x5 x6,post_braced x0 x1 x2 x3 x4 x5 x6 ∧ r = (.tup [(sv x5),(iv x6)]) ∧ H' = []) (by
  revert hp
  exact tZ)
 exact ⟨x5,x6,hq,ha⟩⟩
def E_many (x0 : ByteArray) (x1 x2 : Bool) (x3 x4 x5 : Int) : Prop := ∃ x6 x7 x8 x9 x10,post_many x0 x1 x2 x3 x4 x5 x6 x7 x8 x9 x10 ∧ A 71 [(.agg [(sv x0),(bv x1),(bv x2),(iv x3)]),(iv x4),(iv x5)] [] (.tup [(.sl 2 x6),(bv x7),(iv x8),(bv x9),(iv x10)]) []
abbrev j_many (nn : Nat) (x0 : ByteArray) (x1 x2 : Bool) (x3 x4 x5 : Int) (kK : List AV → Bool → Int → Bool → Int → HC) : HC := ⟨.ev nn (.ask (eL fun x6=>eB fun x7=>eI fun x8=>eB fun x9=>eI fun x10=>.done (.res (.tup [(.sl 2 x6),(bv x7),(iv x8),(bv x9),(iv x10)]) [] (post_many x0 x1 x2 x3 x4 x5 x6 x7 x8 x9 x10)) ((kK x6 x7 x8 x9 x10).h))),E_many x0 x1 x2 x3 x4 x5 ∧ (∀ x6 x7 x8 x9 x10,post_many x0 x1 x2 x3 x4 x5 x6 x7 x8 x9 x10 → (kK x6 x7 x8 x9 x10).p)⟩
abbrev t_many (x0 : ByteArray) (x1 x2 : Bool) (x3 x4 x5 : Int) (Q : AV → HH → Prop) : HC := (cd 1 ((x4 == 112)) (j_braced 4 x0 x1 x2 x3 x5 fun x6 x7=>(cd 1 ((decide (x7 < 0))) (cq 1 Q (.tup [(.sl 2 []),(bv false),(iv x5),(bv true),(iv 24)])) (cd 2 ((decide ((↑x6.size : Int) > 0))) (cu 3 ((Option.map (fun b=>Value.int IntKind.u8 (↑b.toNat : Int)) x6[0]?)) fun x8=>(cd 3 ((Int.ofNat x8.toNat == 94)) (co 3 (((Nat.ble 1 x6.size) && (x6.size.ble x6.size))) (j_Property 1 (x6.extract 1 x6.size) fun x9 x10=>(cd 1 ((!x10)) (cq 1 Q (.tup [(.sl 2 []),(bv false),(iv x5),(bv true),(iv 24)])) (cp 0 ((npL [(.agg [(sv x0),(bv x1),(bv x2),(iv x3)]),(.sl 2 x9)])) (j_cut 0 x0 x1 x2 x3 x9 fun x11=>(cq 1 Q (.tup [(.sl 2 x11),(bv (!x4 == 80)),(iv x7),(bv true),(iv 0)]))))))) (j_Property 1 x6 fun x12 x13=>(cd 1 ((!x13)) (cq 1 Q (.tup [(.sl 2 []),(bv false),(iv x5),(bv true),(iv 24)])) (cp 0 ((npL [(.agg [(sv x0),(bv x1),(bv x2),(iv x3)]),(.sl 2 x12)])) (j_cut 0 x0 x1 x2 x3 x12 fun x14=>(cq 1 Q (.tup [(.sl 2 x14),(bv (x4 == 80)),(iv x7),(bv true),(iv 0)])))))))) (j_Property 5 x6 fun x15 x16=>(cd 1 ((!x16)) (cq 1 Q (.tup [(.sl 2 []),(bv false),(iv x5),(bv true),(iv 24)])) (cp 0 ((npL [(.agg [(sv x0),(bv x1),(bv x2),(iv x3)]),(.sl 2 x15)])) (j_cut 0 x0 x1 x2 x3 x15 fun x17=>(cq 1 Q (.tup [(.sl 2 x17),(bv (x4 == 80)),(iv x7),(bv true),(iv 0)]))))))))) (cd 3 ((x4 == 80)) (j_braced 1 x0 x1 x2 x3 x5 fun x18 x19=>(cd 1 ((decide (x19 < 0))) (cq 1 Q (.tup [(.sl 2 []),(bv false),(iv x5),(bv true),(iv 24)])) (cd 2 ((decide ((↑x18.size : Int) > 0))) (cu 3 ((Option.map (fun b=>Value.int IntKind.u8 (↑b.toNat : Int)) x18[0]?)) fun x20=>(cd 3 ((Int.ofNat x20.toNat == 94)) (co 3 (((Nat.ble 1 x18.size) && (x18.size.ble x18.size))) (j_Property 1 (x18.extract 1 x18.size) fun x21 x22=>(cd 1 ((!x22)) (cq 1 Q (.tup [(.sl 2 []),(bv false),(iv x5),(bv true),(iv 24)])) (cp 0 ((npL [(.agg [(sv x0),(bv x1),(bv x2),(iv x3)]),(.sl 2 x21)])) (j_cut 0 x0 x1 x2 x3 x21 fun x23=>(cq 1 Q (.tup [(.sl 2 x23),(bv (!x4 == 80)),(iv x19),(bv true),(iv 0)]))))))) (j_Property 1 x18 fun x24 x25=>(cd 1 ((!x25)) (cq 1 Q (.tup [(.sl 2 []),(bv false),(iv x5),(bv true),(iv 24)])) (cp 0 ((npL [(.agg [(sv x0),(bv x1),(bv x2),(iv x3)]),(.sl 2 x24)])) (j_cut 0 x0 x1 x2 x3 x24 fun x26=>(cq 1 Q (.tup [(.sl 2 x26),(bv (x4 == 80)),(iv x19),(bv true),(iv 0)])))))))) (j_Property 5 x18 fun x27 x28=>(cd 1 ((!x28)) (cq 1 Q (.tup [(.sl 2 []),(bv false),(iv x5),(bv true),(iv 24)])) (cp 0 ((npL [(.agg [(sv x0),(bv x1),(bv x2),(iv x3)]),(.sl 2 x27)])) (j_cut 0 x0 x1 x2 x3 x27 fun x29=>(cq 1 Q (.tup [(.sl 2 x29),(bv (x4 == 80)),(iv x19),(bv true),(iv 0)]))))))))) (cd 1 ((decide (x4 ≥ 65))) (cd 3 ((decide (x4 ≤ 90))) (ww (x4 + 32) (j_Escape 2 (w6 (x4 + 32)) fun x30 x31=>(cp 0 ((npL [(.agg [(sv x0),(bv x1),(bv x2),(iv x3)]),(.sl 2 x30)])) (j_cut 0 x0 x1 x2 x3 x30 fun x32=>(cq 1 Q (.tup [(.sl 2 x32),(bv (decide (x4 ≤ 90))),(iv x5),(bv x31),(iv 0)])))))) (j_Escape 1 x4 fun x33 x34=>(cp 0 ((npL [(.agg [(sv x0),(bv x1),(bv x2),(iv x3)]),(.sl 2 x33)])) (j_cut 0 x0 x1 x2 x3 x33 fun x35=>(cq 1 Q (.tup [(.sl 2 x35),(bv (decide (x4 ≤ 90))),(iv x5),(bv x34),(iv 0)])))))) (j_Escape 4 x4 fun x36 x37=>(cp 0 ((npL [(.agg [(sv x0),(bv x1),(bv x2),(iv x3)]),(.sl 2 x36)])) (j_cut 0 x0 x1 x2 x3 x36 fun x38=>(cq 1 Q (.tup [(.sl 2 x38),(bv false),(iv x5),(bv x37),(iv 0)]))))))))
theorem w_many (x0 x1 x2 x3 x4 x5) (Q : AV → HH → Prop) (h : (t_many x0 x1 x2 x3 x4 x5 Q).p) : ∃ r H',A 71 [(.agg [(sv x0),(bv x1),(bv x2),(iv x3)]),(iv x4),(iv x5)] [] r H' ∧ Q r H' :=
 Ans.wq rfl (t_many x0 x1 x2 x3 x4 x5 Q).h (by kernel_rfl) h
instance c_many {x0 x1 x2 x3 x4 x5} : C (E_many x0 x1 x2 x3 x4 x5) (pre_many x0 x1 x2 x3 x4 x5) := ⟨fun hp=>by
 unfold E_many
 obtain ⟨_,_,ha,x6,x7,x8,x9,x10,hq,rfl,rfl⟩ := w_many x0 x1 x2 x3 x4 x5 (fun r H'=>∃ x6 x7 x8 x9 x10,post_many x0 x1 x2 x3 x4 x5 x6 x7 x8 x9 x10 ∧ r = (.tup [(.sl 2 x6),(bv x7),(iv x8),(bv x9),(iv x10)]) ∧ H' = []) (by
  revert hp
  exact tZ)
 exact ⟨x6,x7,x8,x9,x10,hq,ha⟩⟩
def E_not (x0 : ByteArray) (x1 x2 : Bool) (x3 : Int) (x4 : List AV) : Prop := ∃ x5,post_not x0 x1 x2 x3 x4 x5 ∧ A 93 [(.agg [(sv x0),(bv x1),(bv x2),(iv x3)]),(.sl 2 x4)] [] (.sl 2 x5) []
abbrev j_not (nn : Nat) (x0 : ByteArray) (x1 x2 : Bool) (x3 : Int) (x4 : List AV) (kK : List AV → HC) : HC := ⟨.ev nn (.ask (eL fun x5=>.done (.res (.sl 2 x5) [] (post_not x0 x1 x2 x3 x4 x5)) ((kK x5).h))),E_not x0 x1 x2 x3 x4 ∧ (∀ x5,post_not x0 x1 x2 x3 x4 x5 → (kK x5).p)⟩
abbrev t_not (x0 : ByteArray) (x1 x2 : Bool) (x3 : Int) (x4 : List AV) (Q : AV → HH → Prop) : HC := (cp 0 ((npL [(iv 2),(.sl 2 x4),(.sl 2 []),(iv x3)])) (j_JoinQ 0 2 x4 [] x3 fun x5=>(cq 1 Q (.sl 2 x5))))
theorem w_not (x0 x1 x2 x3 x4) (Q : AV → HH → Prop) (h : (t_not x0 x1 x2 x3 x4 Q).p) : ∃ r H',A 93 [(.agg [(sv x0),(bv x1),(bv x2),(iv x3)]),(.sl 2 x4)] [] r H' ∧ Q r H' :=
 Ans.wq rfl (t_not x0 x1 x2 x3 x4 Q).h (by kernel_rfl) h
instance c_not {x0 x1 x2 x3 x4} : C (E_not x0 x1 x2 x3 x4) (pre_not x0 x1 x2 x3 x4) := ⟨fun hp=>by
 unfold E_not
 obtain ⟨_,_,ha,x5,hq,rfl,rfl⟩ := w_not x0 x1 x2 x3 x4 (fun r H'=>∃ x5,post_not x0 x1 x2 x3 x4 x5 ∧ r = (.sl 2 x5) ∧ H' = []) (by
  revert hp
  exact tZ)
 exact ⟨x5,hq,ha⟩⟩
def E_simple (x0 : Int) : Prop := ∃ x1,post_simple x0 x1 ∧ A 66 [(iv x0)] [] (iv x1) []
abbrev j_simple (nn : Nat) (x0 : Int) (kK : Int → HC) : HC := ⟨.ev nn (.ask (eI fun x1=>.done (.res (iv x1) [] (post_simple x0 x1)) ((kK x1).h))),E_simple x0 ∧ (∀ x1,post_simple x0 x1 → (kK x1).p)⟩
abbrev t_simple (x0 : Int) (Q : AV → HH → Prop) : HC := (cd 1 ((x0 == 97)) (cq 1 Q (iv 7)) (cd 1 ((x0 == 101)) (cq 1 Q (iv 27)) (cd 1 ((x0 == 102)) (cq 1 Q (iv 12)) (cd 1 ((x0 == 110)) (cq 1 Q (iv 10)) (cd 1 ((x0 == 114)) (cq 1 Q (iv 13)) (cd 1 ((x0 == 116)) (cq 1 Q (iv 9)) (cq 1 Q (iv (-1)))))))))
theorem w_simple (x0) (Q : AV → HH → Prop) (h : (t_simple x0 Q).p) : ∃ r H',A 66 [(iv x0)] [] r H' ∧ Q r H' :=
 Ans.wq rfl (t_simple x0 Q).h (by kernel_rfl) h
instance c_simple {x0} : C (E_simple x0) (pre_simple x0) := ⟨fun hp=>by
 unfold E_simple
 obtain ⟨_,_,ha,x1,hq,rfl,rfl⟩ := w_simple x0 (fun r H'=>∃ x1,post_simple x0 x1 ∧ r = (iv x1) ∧ H' = []) (by
  revert hp
  exact tZ)
 exact ⟨x1,hq,ha⟩⟩
def E_item (x0 : ByteArray) (x1 x2 : Bool) (x3 x4 : Int) : Prop := ∃ x5 x6 x7 x8 x9,post_item x0 x1 x2 x3 x4 x5 x6 x7 x8 x9 ∧ A 74 [(.agg [(sv x0),(bv x1),(bv x2),(iv x3)]),(iv x4)] [] (.tup [(.sl 2 x5),(bv x6),(iv x7),(iv x8),(iv x9)]) []
abbrev j_item (nn : Nat) (x0 : ByteArray) (x1 x2 : Bool) (x3 x4 : Int) (kK : List AV → Bool → Int → Int → Int → HC) : HC := ⟨.ev nn (.ask (eL fun x5=>eB fun x6=>eI fun x7=>eI fun x8=>eI fun x9=>.done (.res (.tup [(.sl 2 x5),(bv x6),(iv x7),(iv x8),(iv x9)]) [] (post_item x0 x1 x2 x3 x4 x5 x6 x7 x8 x9)) ((kK x5 x6 x7 x8 x9).h))),E_item x0 x1 x2 x3 x4 ∧ (∀ x5 x6 x7 x8 x9,post_item x0 x1 x2 x3 x4 x5 x6 x7 x8 x9 → (kK x5 x6 x7 x8 x9).p)⟩
def s_item_0 (x0 : Int) (x1 : ByteArray) (x2 x3 : Bool) (x4 : Int) (x5 : Bool) (x6 x7 : Int) : St := ⟨[],[(1,(iv x0)),(2,(.ea [(sv x1),(bv x2),(bv x3),(iv x4)])),(9,(iv x7)),(10,(bv x5)),(11,(iv x6))],[],0⟩
def x_item_0_0 (x0 : Int) (x1 : ByteArray) (x2 x3 : Bool) (x4 : Int) (x5 : Bool) (x6 y7 : Int) : St := ⟨[],[(1,(iv x0)),(2,(.ea [(sv x1),(bv x2),(bv x3),(iv x4)])),(9,(iv y7)),(10,(bv x5)),(11,(iv x6)),(46,(bv false))],[],0⟩
def E_item_0 (x0 : Int) (x1 : ByteArray) (x2 x3 : Bool) (x4 : Int) (x5 : Bool) (x6 x7o : Int) : Prop := (∃ y8,out_item_0_0 x0 x1 x2 x3 x4 x5 x6 x7o y8 ∧ R 74 0 (s_item_0 x0 x1 x2 x3 x4 x5 x6 x7o) ((.exit 0),x_item_0_0 x0 x1 x2 x3 x4 x5 x6 y8))
abbrev j_item_0 (nn : Nat) (x0 : Int) (x1 : ByteArray) (x2 x3 : Bool) (x4 : Int) (x5 : Bool) (x6 x7o : Int) (f0 : Int → HC) : HC := ⟨.ev nn (.ask (eI fun y8=>.done (.exit (.exit 0) (x_item_0_0 x0 x1 x2 x3 x4 x5 x6 y8) (out_item_0_0 x0 x1 x2 x3 x4 x5 x6 x7o y8)) (f0 y8).h)),E_item_0 x0 x1 x2 x3 x4 x5 x6 x7o ∧ (∀ y8,out_item_0_0 x0 x1 x2 x3 x4 x5 x6 x7o y8 → (f0 y8).p)⟩
abbrev t_item_0 (x0 : Int) (x1 : ByteArray) (x2 x3 : Bool) (x4 : Int) (x5 : Bool) (x6 x7 : Int) (Q : Ex → St → Prop) : HC := (cd 1 ((decide (x7 < (↑x1.size : Int)))) (co 3 ((decide (0 ≤ x7))) (cu 1 ((Option.map (fun b=>Value.int IntKind.u8 (↑b.toNat : Int)) x1[x7.toNat]?)) fun x8=>(j_letter 2 (Int.ofNat x8.toNat) fun x9=>(cd 1 x9 (ww (x7 + 1) (cz 1 (Q .norm (s_item_0 x0 x1 x2 x3 x4 x5 x6 (w6 (x7 + 1)))))) (cz 0 (Q (.exit 0) (x_item_0_0 x0 x1 x2 x3 x4 x5 x6 x7))))))) (cz 6 (Q (.exit 0) (x_item_0_0 x0 x1 x2 x3 x4 x5 x6 x7))))
theorem l_item_0 (x0 x1 x2 x3 x4 x5 x6 x7) (Q : Ex → St → Prop) (h : (t_item_0 x0 x1 x2 x3 x4 x5 x6 x7 Q).p) : ∃ e s',L 74 0 (s_item_0 x0 x1 x2 x3 x4 x5 x6 x7) (e,s') ∧ Q e s' :=
 Leads.wq (t_item_0 x0 x1 x2 x3 x4 x5 x6 x7 Q).h (by kernel_rfl) h
instance k_item_0 {x0 x1 x2 x3 x4 x5 x6 x7o} : C (E_item_0 x0 x1 x2 x3 x4 x5 x6 x7o) (inv_item_0 x0 x1 x2 x3 x4 x5 x6 x7o x7o) := ⟨fun hi=>by
 obtain ⟨e,s',hr,hq⟩ := Rounds.byInv (st := fun (w : Int)=>s_item_0 x0 x1 x2 x3 x4 x5 x6 w) (Inv := fun w=>inv_item_0 x0 x1 x2 x3 x4 x5 x6 x7o w) (μ := fun w=>mu_item_0 x0 x1 x2 x3 x4 x5 x6 w) (Q := fun e s'=>(∃ y8,out_item_0_0 x0 x1 x2 x3 x4 x5 x6 x7o y8 ∧ e = (.exit 0) ∧ s' = x_item_0_0 x0 x1 x2 x3 x4 x5 x6 y8)) (by
  intro x7 hi
  have hi : inv_item_0 x0 x1 x2 x3 x4 x5 x6 x7o x7 := hi
  refine l_item_0 x0 x1 x2 x3 x4 x5 x6 x7 _ ?_
  have hM {p : Prop} (h : p := by unfold mu_item_0; exact tI) : p := h
  revert hi
  exact tZ) x7o hi
 unfold E_item_0
 rcases hq with ⟨_,ho,rfl,rfl⟩
 exact ⟨_,ho,hr⟩⟩
abbrev t_item (x0 : ByteArray) (x1 x2 : Bool) (x3 x4 : Int) (Q : AV → HH → Prop) : HC := (j_is 1 x0 x1 x2 x3 x4 (bs [91,58]) fun x5=>(cd 0 x5 (ww (x4 + 2) (j_is 2 x0 x1 x2 x3 (w6 (x4 + 2)) (bs [94]) fun x6=>(cd 0 x6 (ww (w6 (x4 + 2) + 1) (j_item_0 1 x4 x0 x1 x2 x3 x6 (w6 (w6 (x4 + 2) + 1)) (w6 (w6 (x4 + 2) + 1)) (fun x7=>(j_is 1 x0 x1 x2 x3 x7 (bs [58,93]) fun x8=>(cd 0 x8 (co 0 ((decide (0 ≤ w6 (w6 (x4 + 2) + 1)))) (co 1 ((decide (0 ≤ x7))) (co 1 ((((w6 (w6 (x4 + 2) + 1)).toNat.ble x7.toNat) && (x7.toNat.ble x0.size))) (j_Posix 1 (x0.extract (w6 (w6 (x4 + 2) + 1)).toNat x7.toNat) fun x9 x10=>(cd 1 ((!x10)) (cq 1 Q (.tup [(.sl 2 []),(bv false),(iv x4),(iv 22),(iv x4)])) (co 0 x6 (cp 0 ((npL [(.agg [(sv x0),(bv x1),(bv x2),(iv x3)]),(.sl 2 x9)])) (j_not 0 x0 x1 x2 x3 x9 fun x11=>(ww (x7 + 2) (cq 2 Q (.tup [(.sl 2 x11),(bv false),(iv (w6 (x7 + 2))),(iv 0),(iv 0)]))))))))))) (j_Char 1 x0 x1 x2 x3 x4 fun x12 x13=>(cd 1 ((!x12 == 92)) (cq 1 Q (.tup [(.sl 2 [(.agg [(iv x12),(iv x12)])]),(bv true),(iv x13),(iv 0),(iv 0)])) (cd 1 ((x13 == (↑x0.size : Int))) (cq 1 Q (.tup [(.sl 2 []),(bv false),(iv x4),(iv 20),(iv ((↑x0.size : Int)))])) (j_Char 1 x0 x1 x2 x3 x13 fun x14 x15=>(cd 1 ((x14 == 120)) (j_hexadecimal 1 x0 x1 x2 x3 x15 fun x16 x17=>(cd 1 ((decide (x16 < 0))) (cq 1 Q (.tup [(.sl 2 []),(bv false),(iv x4),(iv 21),(iv x4)])) (cq 1 Q (.tup [(.sl 2 [(.agg [(iv x16),(iv x16)])]),(bv true),(iv x17),(iv 0),(iv 0)])))) (j_simple 1 x14 fun x18=>(cd 1 ((decide (x18 ≥ 0))) (j_simple 1 x14 fun x19=>(j_simple 1 x14 fun x20=>(cq 1 Q (.tup [(.sl 2 [(.agg [(iv x19),(iv x20)])]),(bv true),(iv x15),(iv 0),(iv 0)])))) (cd 1 ((x14 == 98)) (cq 1 Q (.tup [(.sl 2 [(.agg [(iv 8),(iv 8)])]),(bv true),(iv x15),(iv 0),(iv 0)])) (j_many 1 x0 x1 x2 x3 x14 x15 fun x21 x22 x23 x24 x25=>(cd 1 ((!x25 == 0)) (cq 1 Q (.tup [(.sl 2 []),(bv false),(iv x4),(iv x25),(iv x4)])) (cd 0 x24 (cd 0 x22 (cp 0 ((npL [(.agg [(sv x0),(bv x1),(bv x2),(iv x3)]),(.sl 2 x21)])) (j_not 0 x0 x1 x2 x3 x21 fun x26=>(cq 1 Q (.tup [(.sl 2 x26),(bv false),(iv x23),(iv 0),(iv 0)])))) (cq 1 Q (.tup [(.sl 2 x21),(bv false),(iv x23),(iv 0),(iv 0)]))) (cd 1 ((decide (x14 < 128))) (j_letter 4 (IntKind.u8.wrap x14) fun x27=>(cd 1 x27 (cq 7 Q (.tup [(.sl 2 []),(bv false),(iv x4),(iv 21),(iv x4)])) (j_digit 4 (IntKind.u8.wrap x14) fun x28=>(cd 3 x28 (cq 1 Q (.tup [(.sl 2 []),(bv false),(iv x4),(iv 21),(iv x4)])) (cq 1 Q (.tup [(.sl 2 [(.agg [(iv x14),(iv x14)])]),(bv true),(iv x15),(iv 0),(iv 0)])))))) (cq 7 Q (.tup [(.sl 2 [(.agg [(iv x14),(iv x14)])]),(bv true),(iv x15),(iv 0),(iv 0)]))))))))))))))))))) (j_item_0 0 x4 x0 x1 x2 x3 x6 (w6 (x4 + 2)) (w6 (x4 + 2)) (fun x29=>(j_is 1 x0 x1 x2 x3 x29 (bs [58,93]) fun x30=>(cd 0 x30 (co 0 ((decide (0 ≤ w6 (x4 + 2)))) (co 1 ((decide (0 ≤ x29))) (co 1 ((((w6 (x4 + 2)).toNat.ble x29.toNat) && (x29.toNat.ble x0.size))) (j_Posix 1 (x0.extract (w6 (x4 + 2)).toNat x29.toNat) fun x31 x32=>(cd 1 ((!x32)) (cq 1 Q (.tup [(.sl 2 []),(bv false),(iv x4),(iv 22),(iv x4)])) (cm 0 x6 (ww (x29 + 2) (cq 2 Q (.tup [(.sl 2 x31),(bv false),(iv (w6 (x29 + 2))),(iv 0),(iv 0)]))))))))) (j_Char 1 x0 x1 x2 x3 x4 fun x33 x34=>(cd 1 ((!x33 == 92)) (cq 1 Q (.tup [(.sl 2 [(.agg [(iv x33),(iv x33)])]),(bv true),(iv x34),(iv 0),(iv 0)])) (cd 1 ((x34 == (↑x0.size : Int))) (cq 1 Q (.tup [(.sl 2 []),(bv false),(iv x4),(iv 20),(iv ((↑x0.size : Int)))])) (j_Char 1 x0 x1 x2 x3 x34 fun x35 x36=>(cd 1 ((x35 == 120)) (j_hexadecimal 1 x0 x1 x2 x3 x36 fun x37 x38=>(cd 1 ((decide (x37 < 0))) (cq 1 Q (.tup [(.sl 2 []),(bv false),(iv x4),(iv 21),(iv x4)])) (cq 1 Q (.tup [(.sl 2 [(.agg [(iv x37),(iv x37)])]),(bv true),(iv x38),(iv 0),(iv 0)])))) (j_simple 1 x35 fun x39=>(cd 1 ((decide (x39 ≥ 0))) (j_simple 1 x35 fun x40=>(j_simple 1 x35 fun x41=>(cq 1 Q (.tup [(.sl 2 [(.agg [(iv x40),(iv x41)])]),(bv true),(iv x36),(iv 0),(iv 0)])))) (cd 1 ((x35 == 98)) (cq 1 Q (.tup [(.sl 2 [(.agg [(iv 8),(iv 8)])]),(bv true),(iv x36),(iv 0),(iv 0)])) (j_many 1 x0 x1 x2 x3 x35 x36 fun x42 x43 x44 x45 x46=>(cd 1 ((!x46 == 0)) (cq 1 Q (.tup [(.sl 2 []),(bv false),(iv x4),(iv x46),(iv x4)])) (cd 0 x45 (cd 0 x43 (cp 0 ((npL [(.agg [(sv x0),(bv x1),(bv x2),(iv x3)]),(.sl 2 x42)])) (j_not 0 x0 x1 x2 x3 x42 fun x47=>(cq 1 Q (.tup [(.sl 2 x47),(bv false),(iv x44),(iv 0),(iv 0)])))) (cq 1 Q (.tup [(.sl 2 x42),(bv false),(iv x44),(iv 0),(iv 0)]))) (cd 1 ((decide (x35 < 128))) (j_letter 4 (IntKind.u8.wrap x35) fun x48=>(cd 1 x48 (cq 7 Q (.tup [(.sl 2 []),(bv false),(iv x4),(iv 21),(iv x4)])) (j_digit 4 (IntKind.u8.wrap x35) fun x49=>(cd 3 x49 (cq 1 Q (.tup [(.sl 2 []),(bv false),(iv x4),(iv 21),(iv x4)])) (cq 1 Q (.tup [(.sl 2 [(.agg [(iv x35),(iv x35)])]),(bv true),(iv x36),(iv 0),(iv 0)])))))) (cq 7 Q (.tup [(.sl 2 [(.agg [(iv x35),(iv x35)])]),(bv true),(iv x36),(iv 0),(iv 0)]))))))))))))))))))))) (j_Char 1 x0 x1 x2 x3 x4 fun x50 x51=>(cd 1 ((!x50 == 92)) (cq 1 Q (.tup [(.sl 2 [(.agg [(iv x50),(iv x50)])]),(bv true),(iv x51),(iv 0),(iv 0)])) (cd 1 ((x51 == (↑x0.size : Int))) (cq 1 Q (.tup [(.sl 2 []),(bv false),(iv x4),(iv 20),(iv ((↑x0.size : Int)))])) (j_Char 1 x0 x1 x2 x3 x51 fun x52 x53=>(cd 1 ((x52 == 120)) (j_hexadecimal 1 x0 x1 x2 x3 x53 fun x54 x55=>(cd 1 ((decide (x54 < 0))) (cq 1 Q (.tup [(.sl 2 []),(bv false),(iv x4),(iv 21),(iv x4)])) (cq 1 Q (.tup [(.sl 2 [(.agg [(iv x54),(iv x54)])]),(bv true),(iv x55),(iv 0),(iv 0)])))) (j_simple 1 x52 fun x56=>(cd 1 ((decide (x56 ≥ 0))) (j_simple 1 x52 fun x57=>(j_simple 1 x52 fun x58=>(cq 1 Q (.tup [(.sl 2 [(.agg [(iv x57),(iv x58)])]),(bv true),(iv x53),(iv 0),(iv 0)])))) (cd 1 ((x52 == 98)) (cq 1 Q (.tup [(.sl 2 [(.agg [(iv 8),(iv 8)])]),(bv true),(iv x53),(iv 0),(iv 0)])) (j_many 1 x0 x1 x2 x3 x52 x53 fun x59 x60 x61 x62 x63=>(cd 1 ((!x63 == 0)) (cq 1 Q (.tup [(.sl 2 []),(bv false),(iv x4),(iv x63),(iv x4)])) (cd 0 x62 (cd 0 x60 (cp 0 ((npL [(.agg [(sv x0),(bv x1),(bv x2),(iv x3)]),(.sl 2 x59)])) (j_not 0 x0 x1 x2 x3 x59 fun x64=>(cq 1 Q (.tup [(.sl 2 x64),(bv false),(iv x61),(iv 0),(iv 0)])))) (cq 1 Q (.tup [(.sl 2 x59),(bv false),(iv x61),(iv 0),(iv 0)]))) (cd 1 ((decide (x52 < 128))) (j_letter 4 (IntKind.u8.wrap x52) fun x65=>(cd 1 x65 (cq 7 Q (.tup [(.sl 2 []),(bv false),(iv x4),(iv 21),(iv x4)])) (j_digit 4 (IntKind.u8.wrap x52) fun x66=>(cd 3 x66 (cq 1 Q (.tup [(.sl 2 []),(bv false),(iv x4),(iv 21),(iv x4)])) (cq 1 Q (.tup [(.sl 2 [(.agg [(iv x52),(iv x52)])]),(bv true),(iv x53),(iv 0),(iv 0)])))))) (cq 7 Q (.tup [(.sl 2 [(.agg [(iv x52),(iv x52)])]),(bv true),(iv x53),(iv 0),(iv 0)]))))))))))))))))
theorem w_item (x0 x1 x2 x3 x4) (Q : AV → HH → Prop) (h : (t_item x0 x1 x2 x3 x4 Q).p) : ∃ r H',A 74 [(.agg [(sv x0),(bv x1),(bv x2),(iv x3)]),(iv x4)] [] r H' ∧ Q r H' :=
 Ans.wq rfl (t_item x0 x1 x2 x3 x4 Q).h (by kernel_rfl) h
instance c_item {x0 x1 x2 x3 x4} : C (E_item x0 x1 x2 x3 x4) (pre_item x0 x1 x2 x3 x4) := ⟨fun hp=>by
 unfold E_item
 obtain ⟨_,_,ha,x5,x6,x7,x8,x9,hq,rfl,rfl⟩ := w_item x0 x1 x2 x3 x4 (fun r H'=>∃ x5 x6 x7 x8 x9,post_item x0 x1 x2 x3 x4 x5 x6 x7 x8 x9 ∧ r = (.tup [(.sl 2 x5),(bv x6),(iv x7),(iv x8),(iv x9)]) ∧ H' = []) (by
  revert hp
  exact tZ)
 exact ⟨x5,x6,x7,x8,x9,hq,ha⟩⟩
def E_classTO (x0 : ByteArray) (x1 x2 : Bool) (x3 x4 : Int) : Prop := ∃ x5 x6 x7 x8 x9 x10 x11 x12 x13 x14 x15 x16 x17 x18 x19 x20,post_classTO x0 x1 x2 x3 x4 [(iv x5),(iv x6),(iv x7),(iv x8),(.sl 2 x9),(bv x10),(iv x11),(iv x12),(iv x13),(sv x14),(iv x15),(iv x16),(bv x17),(iv x18),(iv x19),(iv x20)] ∧ A 44 [(.agg [(sv x0),(bv x1),(bv x2),(iv x3)]),(iv x4)] [] (.agg [(iv x5),(iv x6),(iv x7),(iv x8),(.sl 2 x9),(bv x10),(iv x11),(iv x12),(iv x13),(sv x14),(iv x15),(iv x16),(bv x17),(iv x18),(iv x19),(iv x20)]) []
abbrev j_classTO (nn : Nat) (x0 : ByteArray) (x1 x2 : Bool) (x3 x4 : Int) (kK : Int → Int → Int → Int → List AV → Bool → Int → Int → Int → ByteArray → Int → Int → Bool → Int → Int → Int → HC) : HC := ⟨.ev nn (.ask (eG fun x5 x6 x7 x8 x9 x10 x11 x12 x13 x14 x15 x16 x17 x18 x19 x20=>.done (.res (.agg (gR x5 x6 x7 x8 x9 x10 x11 x12 x13 x14 x15 x16 x17 x18 x19 x20)) [] (post_classTO x0 x1 x2 x3 x4 (gR x5 x6 x7 x8 x9 x10 x11 x12 x13 x14 x15 x16 x17 x18 x19 x20))) ((kK x5 x6 x7 x8 x9 x10 x11 x12 x13 x14 x15 x16 x17 x18 x19 x20).h))),E_classTO x0 x1 x2 x3 x4 ∧ (∀ x5 x6 x7 x8 x9 x10 x11 x12 x13 x14 x15 x16 x17 x18 x19 x20,post_classTO x0 x1 x2 x3 x4 (gR x5 x6 x7 x8 x9 x10 x11 x12 x13 x14 x15 x16 x17 x18 x19 x20) → (kK x5 x6 x7 x8 x9 x10 x11 x12 x13 x14 x15 x16 x17 x18 x19 x20).p)⟩
def s_classTO_0 (x0 : Int) (x1 : ByteArray) (x2 x3 : Bool) (x4 : Int) (x5 : Bool) (x6 x7 : Int) (x8 : List AV) : St := ⟨[],[(1,(iv x0)),(2,(.ea [(sv x1),(bv x2),(bv x3),(iv x4)])),(4,(.box [(iv 0),(iv 0),(iv 0),(iv 0),(.sl 2 []),(bv false),(iv 0),(iv 0),(iv 0),(sv (bs [])),(iv 0),(iv 0),(bv false),(iv 0),(iv 0),(iv 0)])),(5,(iv x7)),(6,(bv x5)),(7,(iv x6)),(8,(.cap false 105 x8))],[],0⟩
def x_classTO_0_0 (x0 : Int) (x1 : ByteArray) (x2 x3 : Bool) (x4 : Int) (x5 : Bool) (x6 y7 y8 y9 : Int) (y10 : List AV) (y11 y12 : Bool) (y13 y14 y15 : Int) : St := ⟨[],[(4,(.box [(iv y7),(iv y8),(iv y9),(iv 0),(.sl 2 y10),(bv y11),(iv 0),(iv 0),(iv 0),(sv (bs [])),(iv 0),(iv 0),(bv y12),(iv y13),(iv y14),(iv y15)]))],[],0⟩
def E_classTO_0 (x0 : Int) (x1 : ByteArray) (x2 x3 : Bool) (x4 : Int) (x5 : Bool) (x6 x7o : Int) (x8o : List AV) : Prop := (∃ y9 y10 y11 y12 y13 y14 y15 y16 y17,out_classTO_0_0 x0 x1 x2 x3 x4 x5 x6 x7o x8o y9 y10 y11 y12 y13 y14 y15 y16 y17 ∧ R 44 0 (s_classTO_0 x0 x1 x2 x3 x4 x5 x6 x7o x8o) (Ex.ret,x_classTO_0_0 x0 x1 x2 x3 x4 x5 x6 y9 y10 y11 y12 y13 y14 y15 y16 y17))
abbrev j_classTO_0 (nn : Nat) (x0 : Int) (x1 : ByteArray) (x2 x3 : Bool) (x4 : Int) (x5 : Bool) (x6 x7o : Int) (x8o : List AV) (f0 : Int → Int → Int → List AV → Bool → Bool → Int → Int → Int → HC) : HC := ⟨.ev nn (.ask (eI fun y9=>eI fun y10=>eI fun y11=>eL fun y12=>eB fun y13=>eB fun y14=>eI fun y15=>eI fun y16=>eI fun y17=>.done (.exit Ex.ret (x_classTO_0_0 x0 x1 x2 x3 x4 x5 x6 y9 y10 y11 y12 y13 y14 y15 y16 y17) (out_classTO_0_0 x0 x1 x2 x3 x4 x5 x6 x7o x8o y9 y10 y11 y12 y13 y14 y15 y16 y17)) (f0 y9 y10 y11 y12 y13 y14 y15 y16 y17).h)),E_classTO_0 x0 x1 x2 x3 x4 x5 x6 x7o x8o ∧ (∀ y9 y10 y11 y12 y13 y14 y15 y16 y17,out_classTO_0_0 x0 x1 x2 x3 x4 x5 x6 x7o x8o y9 y10 y11 y12 y13 y14 y15 y16 y17 → (f0 y9 y10 y11 y12 y13 y14 y15 y16 y17).p)⟩
abbrev t_classTO_0 (x0 : Int) (x1 : ByteArray) (x2 x3 : Bool) (x4 : Int) (x5 : Bool) (x6 x7 : Int) (x8 : List AV) (Q : Ex → St → Prop) : HC := (cd 1 ((decide (x7 ≥ (↑x1.size : Int)))) (cz 6 (Q Ex.ret (x_classTO_0_0 x0 x1 x2 x3 x4 x5 x6 0 0 0 [] false false 0 20 ((↑x1.size : Int))))) (co 0 ((decide (0 ≤ x7))) (cu 1 ((Option.map (fun b=>Value.int IntKind.u8 (↑b.toNat : Int)) x1[x7.toNat]?)) fun x9=>(cd 1 ((Int.ofNat x9.toNat == 93)) (cd 4 ((decide (x7 > x6))) (cp 0 ((npL [(.agg [(sv x1),(bv x2),(bv x3),(iv x4)]),(.sl 2 x8)])) (j_cut 0 x1 x2 x3 x4 x8 fun x10=>(ww (x7 + 1) (cp 1 ((npL [(.agg (kR 2 0 0 0 x10 x5 0 0 0 (bs []) 0 0)),(iv x0),(iv (w6 (x7 + 1)))])) (cz 2 (Q Ex.ret (x_classTO_0_0 x0 x1 x2 x3 x4 x5 x6 2 x0 (w6 (x7 + 1)) x10 x5 true (w6 (x7 + 1)) 0 0))))))) (j_item 1 x1 x2 x3 x4 x7 fun x11 x12 x13 x14 x15=>(cd 1 ((!x14 == 0)) (cz 3 (Q Ex.ret (x_classTO_0_0 x0 x1 x2 x3 x4 x5 x6 0 0 0 [] false false 0 x14 x15))) (cd 0 x12 (j_is 3 x1 x2 x3 x4 x13 (bs [45]) fun x16=>(cd 1 x16 (ww (x13 + 1) (cd 8 ((decide (w6 (x13 + 1) < (↑x1.size : Int)))) (co 5 ((decide (0 ≤ w6 (x13 + 1)))) (cu 1 ((Option.map (fun b=>Value.int IntKind.u8 (↑b.toNat : Int)) x1[(w6 (x13 + 1)).toNat]?)) fun x17=>(cd 3 ((!Int.ofNat x17.toNat == 93)) (j_item 2 x1 x2 x3 x4 (w6 (x13 + 1)) fun x18 x19 x20 x21 x22=>(cd 1 ((!x21 == 0)) (cz 3 (Q Ex.ret (x_classTO_0_0 x0 x1 x2 x3 x4 x5 x6 0 0 0 [] false false 0 x21 x22))) (cd 1 ((!x19)) (cz 13 (Q Ex.ret (x_classTO_0_0 x0 x1 x2 x3 x4 x5 x6 0 0 0 [] false false 0 23 x7))) (cb 3 ((x18[0]?)) fun x23 x24=>(cb 6 ((x11[0]?)) fun x25 x26=>(cd 5 ((decide (x23 < x25))) (cz 3 (Q Ex.ret (x_classTO_0_0 x0 x1 x2 x3 x4 x5 x6 0 0 0 [] false false 0 23 x7))) (cb 2 ((x11[0]?)) fun x27 x28=>(cb 2 ((x18[0]?)) fun x29 x30=>(cr 0 ((roomD pr 105 x8.length 1)) (cz 0 (Q .norm (s_classTO_0 x0 x1 x2 x3 x4 x5 x6 x20 (x8 ++ [AV.agg [iv x27,iv x29]]))))))))))))) (cr 0 ((roomD pr 105 x8.length x11.length)) (cz 0 (Q .norm (s_classTO_0 x0 x1 x2 x3 x4 x5 x6 x13 (x8 ++ x11)))))))) (cr 7 ((roomD pr 105 x8.length x11.length)) (cz 0 (Q .norm (s_classTO_0 x0 x1 x2 x3 x4 x5 x6 x13 (x8 ++ x11))))))) (cr 14 ((roomD pr 105 x8.length x11.length)) (cz 0 (Q .norm (s_classTO_0 x0 x1 x2 x3 x4 x5 x6 x13 (x8 ++ x11))))))) (cr 18 ((roomD pr 105 x8.length x11.length)) (cz 0 (Q .norm (s_classTO_0 x0 x1 x2 x3 x4 x5 x6 x13 (x8 ++ x11))))))))) (j_item 5 x1 x2 x3 x4 x7 fun x31 x32 x33 x34 x35=>(cd 1 ((!x34 == 0)) (cz 3 (Q Ex.ret (x_classTO_0_0 x0 x1 x2 x3 x4 x5 x6 0 0 0 [] false false 0 x34 x35))) (cd 0 x32 (j_is 3 x1 x2 x3 x4 x33 (bs [45]) fun x36=>(cd 1 x36 (ww (x33 + 1) (cd 8 ((decide (w6 (x33 + 1) < (↑x1.size : Int)))) (co 5 ((decide (0 ≤ w6 (x33 + 1)))) (cu 1 ((Option.map (fun b=>Value.int IntKind.u8 (↑b.toNat : Int)) x1[(w6 (x33 + 1)).toNat]?)) fun x37=>(cd 3 ((!Int.ofNat x37.toNat == 93)) (j_item 2 x1 x2 x3 x4 (w6 (x33 + 1)) fun x38 x39 x40 x41 x42=>(cd 1 ((!x41 == 0)) (cz 3 (Q Ex.ret (x_classTO_0_0 x0 x1 x2 x3 x4 x5 x6 0 0 0 [] false false 0 x41 x42))) (cd 1 ((!x39)) (cz 13 (Q Ex.ret (x_classTO_0_0 x0 x1 x2 x3 x4 x5 x6 0 0 0 [] false false 0 23 x7))) (cb 3 ((x38[0]?)) fun x43 x44=>(cb 6 ((x31[0]?)) fun x45 x46=>(cd 5 ((decide (x43 < x45))) (cz 3 (Q Ex.ret (x_classTO_0_0 x0 x1 x2 x3 x4 x5 x6 0 0 0 [] false false 0 23 x7))) (cb 2 ((x31[0]?)) fun x47 x48=>(cb 2 ((x38[0]?)) fun x49 x50=>(cr 0 ((roomD pr 105 x8.length 1)) (cz 0 (Q .norm (s_classTO_0 x0 x1 x2 x3 x4 x5 x6 x40 (x8 ++ [AV.agg [iv x47,iv x49]]))))))))))))) (cr 0 ((roomD pr 105 x8.length x31.length)) (cz 0 (Q .norm (s_classTO_0 x0 x1 x2 x3 x4 x5 x6 x33 (x8 ++ x31)))))))) (cr 7 ((roomD pr 105 x8.length x31.length)) (cz 0 (Q .norm (s_classTO_0 x0 x1 x2 x3 x4 x5 x6 x33 (x8 ++ x31))))))) (cr 14 ((roomD pr 105 x8.length x31.length)) (cz 0 (Q .norm (s_classTO_0 x0 x1 x2 x3 x4 x5 x6 x33 (x8 ++ x31))))))) (cr 18 ((roomD pr 105 x8.length x31.length)) (cz 0 (Q .norm (s_classTO_0 x0 x1 x2 x3 x4 x5 x6 x33 (x8 ++ x31))))))))))))
theorem l_classTO_0 (x0 x1 x2 x3 x4 x5 x6 x7 x8) (Q : Ex → St → Prop) (h : (t_classTO_0 x0 x1 x2 x3 x4 x5 x6 x7 x8 Q).p) : ∃ e s',L 44 0 (s_classTO_0 x0 x1 x2 x3 x4 x5 x6 x7 x8) (e,s') ∧ Q e s' :=
 Leads.wq (t_classTO_0 x0 x1 x2 x3 x4 x5 x6 x7 x8 Q).h (by kernel_rfl) h
instance k_classTO_0 {x0 x1 x2 x3 x4 x5 x6 x7o x8o} : C (E_classTO_0 x0 x1 x2 x3 x4 x5 x6 x7o x8o) (inv_classTO_0 x0 x1 x2 x3 x4 x5 x6 x7o x8o x7o x8o) := ⟨fun hi=>by
 obtain ⟨e,s',hr,hq⟩ := Rounds.byInv (st := fun (w : Int × (List AV))=>s_classTO_0 x0 x1 x2 x3 x4 x5 x6 w.1 w.2) (Inv := fun w=>inv_classTO_0 x0 x1 x2 x3 x4 x5 x6 x7o x8o w.1 w.2) (μ := fun w=>mu_classTO_0 x0 x1 x2 x3 x4 x5 x6 w.1 w.2) (Q := fun e s'=>(∃ y9 y10 y11 y12 y13 y14 y15 y16 y17,out_classTO_0_0 x0 x1 x2 x3 x4 x5 x6 x7o x8o y9 y10 y11 y12 y13 y14 y15 y16 y17 ∧ e = Ex.ret ∧ s' = x_classTO_0_0 x0 x1 x2 x3 x4 x5 x6 y9 y10 y11 y12 y13 y14 y15 y16 y17)) (by
  rintro ⟨x7,x8⟩ hi
  have hi : inv_classTO_0 x0 x1 x2 x3 x4 x5 x6 x7o x8o x7 x8 := hi
  refine l_classTO_0 x0 x1 x2 x3 x4 x5 x6 x7 x8 _ ?_
  have hM {p : Prop} (h : p := by unfold mu_classTO_0; exact tI) : p := h
  revert hi
  exact tZ) (x7o,x8o) hi
 unfold E_classTO_0
 rcases hq with ⟨_,_,_,_,_,_,_,_,_,ho,rfl,rfl⟩
 exact ⟨_,_,_,_,_,_,_,_,_,ho,hr⟩⟩
abbrev t_classTO (x0 : ByteArray) (x1 x2 : Bool) (x3 x4 : Int) (Q : AV → HH → Prop) : HC := (ww (x4 + 1) (j_is 2 x0 x1 x2 x3 (w6 (x4 + 1)) (bs [94]) fun x5=>(cd 0 x5 (ww (w6 (x4 + 1) + 1) (j_classTO_0 1 x4 x0 x1 x2 x3 x5 (w6 (w6 (x4 + 1) + 1)) (w6 (w6 (x4 + 1) + 1)) [] (fun x6 x7 x8 x9 x10 x11 x12 x13 x14=>(cq 1 Q (.agg (gR x6 x7 x8 0 x9 x10 0 0 0 (bs []) 0 0 x11 x12 x13 x14)))))) (j_classTO_0 0 x4 x0 x1 x2 x3 x5 (w6 (x4 + 1)) (w6 (x4 + 1)) [] (fun x15 x16 x17 x18 x19 x20 x21 x22 x23=>(cq 1 Q (.agg (gR x15 x16 x17 0 x18 x19 0 0 0 (bs []) 0 0 x20 x21 x22 x23))))))))
theorem w_classTO (x0 x1 x2 x3 x4) (Q : AV → HH → Prop) (h : (t_classTO x0 x1 x2 x3 x4 Q).p) : ∃ r H',A 44 [(.agg [(sv x0),(bv x1),(bv x2),(iv x3)]),(iv x4)] [] r H' ∧ Q r H' :=
 Ans.wq rfl (t_classTO x0 x1 x2 x3 x4 Q).h (by kernel_rfl) h
instance c_classTO {x0 x1 x2 x3 x4} : C (E_classTO x0 x1 x2 x3 x4) (pre_classTO x0 x1 x2 x3 x4) := ⟨fun hp=>by
 unfold E_classTO
 refine GotL.words (P := fun l=>post_classTO x0 x1 x2 x3 x4 l) ?_
 obtain ⟨_,_,ha,x5,hq,rfl,rfl⟩ := w_classTO x0 x1 x2 x3 x4 (fun r H'=>∃ x5,post_classTO x0 x1 x2 x3 x4 x5 ∧ r = (.agg x5) ∧ H' = []) (by
  revert hp
  exact tZ)
 exact ⟨x5,hq,ha⟩⟩
def E_assert (x0 : Int) : Prop := ∃ x1,post_assert x0 x1 ∧ A 68 [(iv x0)] [] (iv x1) []
abbrev j_assert (nn : Nat) (x0 : Int) (kK : Int → HC) : HC := ⟨.ev nn (.ask (eI fun x1=>.done (.res (iv x1) [] (post_assert x0 x1)) ((kK x1).h))),E_assert x0 ∧ (∀ x1,post_assert x0 x1 → (kK x1).p)⟩
abbrev t_assert (x0 : Int) (Q : AV → HH → Prop) : HC := (cd 1 ((x0 == 98)) (cq 1 Q (iv 3)) (cd 1 ((x0 == 66)) (cq 1 Q (iv 4)) (cd 1 ((x0 == 65)) (cq 1 Q (iv 5)) (cd 1 ((x0 == 122)) (cq 1 Q (iv 6)) (cd 1 ((x0 == 90)) (cq 1 Q (iv 7)) (cd 1 ((x0 == 71)) (cq 1 Q (iv 8)) (cq 1 Q (iv 0))))))))
theorem w_assert (x0) (Q : AV → HH → Prop) (h : (t_assert x0 Q).p) : ∃ r H',A 68 [(iv x0)] [] r H' ∧ Q r H' :=
 Ans.wq rfl (t_assert x0 Q).h (by kernel_rfl) h
instance c_assert {x0} : C (E_assert x0) (pre_assert x0) := ⟨fun hp=>by
 unfold E_assert
 obtain ⟨_,_,ha,x1,hq,rfl,rfl⟩ := w_assert x0 (fun r H'=>∃ x1,post_assert x0 x1 ∧ r = (iv x1) ∧ H' = []) (by
  revert hp
  exact tZ)
 exact ⟨x1,hq,ha⟩⟩
def E_name (x0 : ByteArray) (x1 x2 : Bool) (x3 x4 : Int) : Prop := ∃ x5 x6 x7,post_name x0 x1 x2 x3 x4 x5 x6 x7 ∧ A 70 [(.agg [(sv x0),(bv x1),(bv x2),(iv x3)]),(iv x4)] [] (.tup [(sv x5),(iv x6),(bv x7)]) []
abbrev j_name (nn : Nat) (x0 : ByteArray) (x1 x2 : Bool) (x3 x4 : Int) (kK : ByteArray → Int → Bool → HC) : HC := ⟨.ev nn (.ask (eS fun x5=>eI fun x6=>eB fun x7=>.done (.res (.tup [(sv x5),(iv x6),(bv x7)]) [] (post_name x0 x1 x2 x3 x4 x5 x6 x7)) ((kK x5 x6 x7).h))),E_name x0 x1 x2 x3 x4 ∧ (∀ x5 x6 x7,post_name x0 x1 x2 x3 x4 x5 x6 x7 → (kK x5 x6 x7).p)⟩
def s_name_0 (x0 : ByteArray) (x1 x2 : Bool) (x3 x4 x5 : Int) : St := ⟨[],[(1,(iv x5)),(2,(.ea [(sv x0),(bv x1),(bv x2),(iv x3)])),(7,(iv x4))],[],0⟩
def x_name_0_0 (x0 : ByteArray) (x1 x2 : Bool) (x3 x4 y5 : Int) : St := ⟨[],[(1,(iv y5)),(2,(.ea [(sv x0),(bv x1),(bv x2),(iv x3)])),(7,(iv x4)),(35,(bv false))],[],0⟩
def E_name_0 (x0 : ByteArray) (x1 x2 : Bool) (x3 x4 x5o : Int) : Prop := (∃ y6,out_name_0_0 x0 x1 x2 x3 x4 x5o y6 ∧ R 70 0 (s_name_0 x0 x1 x2 x3 x4 x5o) ((.exit 0),x_name_0_0 x0 x1 x2 x3 x4 y6))
abbrev j_name_0 (nn : Nat) (x0 : ByteArray) (x1 x2 : Bool) (x3 x4 x5o : Int) (f0 : Int → HC) : HC := ⟨.ev nn (.ask (eI fun y6=>.done (.exit (.exit 0) (x_name_0_0 x0 x1 x2 x3 x4 y6) (out_name_0_0 x0 x1 x2 x3 x4 x5o y6)) (f0 y6).h)),E_name_0 x0 x1 x2 x3 x4 x5o ∧ (∀ y6,out_name_0_0 x0 x1 x2 x3 x4 x5o y6 → (f0 y6).p)⟩
abbrev t_name_0 (x0 : ByteArray) (x1 x2 : Bool) (x3 x4 x5 : Int) (Q : Ex → St → Prop) : HC := (cd 1 ((decide (x5 < (↑x0.size : Int)))) (co 3 ((decide (0 ≤ x5))) (cu 1 ((Option.map (fun b=>Value.int IntKind.u8 (↑b.toNat : Int)) x0[x5.toNat]?)) fun x6=>(j_letter 2 (Int.ofNat x6.toNat) fun x7=>(cd 1 x7 (ww (x5 + 1) (cz 17 (Q .norm (s_name_0 x0 x1 x2 x3 x4 (w6 (x5 + 1)))))) (co 3 ((decide (0 ≤ x5))) (cu 1 ((Option.map (fun b=>Value.int IntKind.u8 (↑b.toNat : Int)) x0[x5.toNat]?)) fun x8=>(j_digit 2 (Int.ofNat x8.toNat) fun x9=>(cd 3 x9 (ww (x5 + 1) (cz 9 (Q .norm (s_name_0 x0 x1 x2 x3 x4 (w6 (x5 + 1)))))) (co 3 ((decide (0 ≤ x5))) (cu 1 ((Option.map (fun b=>Value.int IntKind.u8 (↑b.toNat : Int)) x0[x5.toNat]?)) fun x10=>(cd 5 ((Int.ofNat x10.toNat == 95)) (ww (x5 + 1) (cz 1 (Q .norm (s_name_0 x0 x1 x2 x3 x4 (w6 (x5 + 1)))))) (cz 0 (Q (.exit 0) (x_name_0_0 x0 x1 x2 x3 x4 x5)))))))))))))) (cz 10 (Q (.exit 0) (x_name_0_0 x0 x1 x2 x3 x4 x5))))
theorem l_name_0 (x0 x1 x2 x3 x4 x5) (Q : Ex → St → Prop) (h : (t_name_0 x0 x1 x2 x3 x4 x5 Q).p) : ∃ e s',L 70 0 (s_name_0 x0 x1 x2 x3 x4 x5) (e,s') ∧ Q e s' :=
 Leads.wq (t_name_0 x0 x1 x2 x3 x4 x5 Q).h (by kernel_rfl) h
instance k_name_0 {x0 x1 x2 x3 x4 x5o} : C (E_name_0 x0 x1 x2 x3 x4 x5o) (inv_name_0 x0 x1 x2 x3 x4 x5o x5o) := ⟨fun hi=>by
 obtain ⟨e,s',hr,hq⟩ := Rounds.byInv (st := fun (w : Int)=>s_name_0 x0 x1 x2 x3 x4 w) (Inv := fun w=>inv_name_0 x0 x1 x2 x3 x4 x5o w) (μ := fun w=>mu_name_0 x0 x1 x2 x3 x4 w) (Q := fun e s'=>(∃ y6,out_name_0_0 x0 x1 x2 x3 x4 x5o y6 ∧ e = (.exit 0) ∧ s' = x_name_0_0 x0 x1 x2 x3 x4 y6)) (by
  intro x5 hi
  have hi : inv_name_0 x0 x1 x2 x3 x4 x5o x5 := hi
  refine l_name_0 x0 x1 x2 x3 x4 x5 _ ?_
  have hM {p : Prop} (h : p := by unfold mu_name_0; exact tI) : p := h
  revert hi
  exact tZ) x5o hi
 unfold E_name_0
 rcases hq with ⟨_,ho,rfl,rfl⟩
 exact ⟨_,ho,hr⟩⟩
abbrev t_name (x0 : ByteArray) (x1 x2 : Bool) (x3 x4 : Int) (Q : AV → HH → Prop) : HC := (j_name_0 0 x0 x1 x2 x3 x4 x4 (fun x5=>(co 0 ((decide (0 ≤ x4))) (co 1 ((decide (0 ≤ x5))) (co 1 (((x4.toNat.ble x5.toNat) && (x5.toNat.ble x0.size))) (cd 1 ((decide ((↑(x0.extract x4.toNat x5.toNat).size : Int) > 0))) (cd 4 ((decide ((↑(x0.extract x4.toNat x5.toNat).size : Int) ≤ 32))) (cu 3 ((Option.map (fun b=>Value.int IntKind.u8 (↑b.toNat : Int)) (x0.extract x4.toNat x5.toNat)[0]?)) fun x6=>(j_digit 2 (Int.ofNat x6.toNat) fun x7=>(cq 4 Q (.tup [(sv (x0.extract x4.toNat x5.toNat)),(iv x5),(bv (!x7))])))) (cq 5 Q (.tup [(sv (x0.extract x4.toNat x5.toNat)),(iv x5),(bv false)]))) (cq 9 Q (.tup [(sv (x0.extract x4.toNat x5.toNat)),(iv x5),(bv false)]))))))))
theorem w_name (x0 x1 x2 x3 x4) (Q : AV → HH → Prop) (h : (t_name x0 x1 x2 x3 x4 Q).p) : ∃ r H',A 70 [(.agg [(sv x0),(bv x1),(bv x2),(iv x3)]),(iv x4)] [] r H' ∧ Q r H' :=
 Ans.wq rfl (t_name x0 x1 x2 x3 x4 Q).h (by kernel_rfl) h
instance c_name {x0 x1 x2 x3 x4} : C (E_name x0 x1 x2 x3 x4) (pre_name x0 x1 x2 x3 x4) := ⟨fun hp=>by
 unfold E_name
 obtain ⟨_,_,ha,x5,x6,x7,hq,rfl,rfl⟩ := w_name x0 x1 x2 x3 x4 (fun r H'=>∃ x5 x6 x7,post_name x0 x1 x2 x3 x4 x5 x6 x7 ∧ r = (.tup [(sv x5),(iv x6),(bv x7)]) ∧ H' = []) (by
  revert hp
  exact tZ)
 exact ⟨x5,x6,x7,hq,ha⟩⟩
def E_number (x0 : ByteArray) (x1 x2 : Bool) (x3 x4 : Int) : Prop := ∃ x5 x6 x7,post_number x0 x1 x2 x3 x4 x5 x6 x7 ∧ A 48 [(.agg [(sv x0),(bv x1),(bv x2),(iv x3)]),(iv x4)] [] (.tup [(iv x5),(iv x6),(bv x7)]) []
abbrev j_number (nn : Nat) (x0 : ByteArray) (x1 x2 : Bool) (x3 x4 : Int) (kK : Int → Int → Bool → HC) : HC := ⟨.ev nn (.ask (eI fun x5=>eI fun x6=>eB fun x7=>.done (.res (.tup [(iv x5),(iv x6),(bv x7)]) [] (post_number x0 x1 x2 x3 x4 x5 x6 x7)) ((kK x5 x6 x7).h))),E_number x0 x1 x2 x3 x4 ∧ (∀ x5 x6 x7,post_number x0 x1 x2 x3 x4 x5 x6 x7 → (kK x5 x6 x7).p)⟩
def s_number_0 (x0 : ByteArray) (x1 x2 : Bool) (x3 x4 x5 : Int) (x6 : Bool) : St := ⟨[],[(1,(iv x4)),(2,(.ea [(sv x0),(bv x1),(bv x2),(iv x3)])),(7,(iv x5)),(8,(bv x6))],[],0⟩
def x_number_0_0 (x0 : ByteArray) (x1 x2 : Bool) (x3 y4 y5 : Int) (y6 : Bool) : St := ⟨[],[(1,(iv y4)),(2,(.ea [(sv x0),(bv x1),(bv x2),(iv x3)])),(7,(iv y5)),(8,(bv y6)),(20,(bv false))],[],0⟩
def E_number_0 (x0 : ByteArray) (x1 x2 : Bool) (x3 x4o x5o : Int) (x6o : Bool) : Prop := (∃ y7 y8 y9,out_number_0_0 x0 x1 x2 x3 x4o x5o x6o y7 y8 y9 ∧ R 48 0 (s_number_0 x0 x1 x2 x3 x4o x5o x6o) ((.exit 0),x_number_0_0 x0 x1 x2 x3 y7 y8 y9))
abbrev j_number_0 (nn : Nat) (x0 : ByteArray) (x1 x2 : Bool) (x3 x4o x5o : Int) (x6o : Bool) (f0 : Int → Int → Bool → HC) : HC := ⟨.ev nn (.ask (eI fun y7=>eI fun y8=>eB fun y9=>.done (.exit (.exit 0) (x_number_0_0 x0 x1 x2 x3 y7 y8 y9) (out_number_0_0 x0 x1 x2 x3 x4o x5o x6o y7 y8 y9)) (f0 y7 y8 y9).h)),E_number_0 x0 x1 x2 x3 x4o x5o x6o ∧ (∀ y7 y8 y9,out_number_0_0 x0 x1 x2 x3 x4o x5o x6o y7 y8 y9 → (f0 y7 y8 y9).p)⟩
abbrev t_number_0 (x0 : ByteArray) (x1 x2 : Bool) (x3 x4 x5 : Int) (x6 : Bool) (Q : Ex → St → Prop) : HC := (cd 1 ((decide (x4 < (↑x0.size : Int)))) (co 3 ((decide (0 ≤ x4))) (cu 1 ((Option.map (fun b=>Value.int IntKind.u8 (↑b.toNat : Int)) x0[x4.toNat]?)) fun x7=>(cd 4 ((decide (Int.ofNat x7.toNat ≥ 48))) (cd 5 ((decide (Int.ofNat x7.toNat ≤ 57))) (co 1 ((decide (0 ≤ x4))) (cu 1 ((Option.map (fun b=>Value.int IntKind.u8 (↑b.toNat : Int)) x0[x4.toNat]?)) fun x8=>(ww (Int.ofNat x8.toNat) (ww (x5 * 10) (ww (w6 (x5 * 10) + w6 (Int.ofNat x8.toNat)) (ww (w6 (w6 (x5 * 10) + w6 (Int.ofNat x8.toNat)) - 48) (cd 4 ((decide   (w6 (w6 (w6 (x5 * 10) + w6 (Int.ofNat x8.toNat)) - 48) >     255))) (ww (x4 + 1) (cz 1 (Q .norm (s_number_0 x0 x1 x2 x3 (w6 (x4 + 1)) 1000 true)))) (ww (x4 + 1) (cz 1 (Q .norm (s_number_0 x0 x1 x2 x3 (w6 (x4 + 1)) (w6 (w6 (w6 (x5 * 10) + w6 (Int.ofNat x8.toNat)) - 48)) x6))))))))))) (cz 0 (Q (.exit 0) (x_number_0_0 x0 x1 x2 x3 x4 x5 x6)))) (cz 5 (Q (.exit 0) (x_number_0_0 x0 x1 x2 x3 x4 x5 x6)))))) (cz 6 (Q (.exit 0) (x_number_0_0 x0 x1 x2 x3 x4 x5 x6))))
theorem l_number_0 (x0 x1 x2 x3 x4 x5 x6) (Q : Ex → St → Prop) (h : (t_number_0 x0 x1 x2 x3 x4 x5 x6 Q).p) : ∃ e s',L 48 0 (s_number_0 x0 x1 x2 x3 x4 x5 x6) (e,s') ∧ Q e s' :=
 Leads.wq (t_number_0 x0 x1 x2 x3 x4 x5 x6 Q).h (by kernel_rfl) h
instance k_number_0 {x0 x1 x2 x3 x4o x5o x6o} : C (E_number_0 x0 x1 x2 x3 x4o x5o x6o) (inv_number_0 x0 x1 x2 x3 x4o x5o x6o x4o x5o x6o) := ⟨fun hi=>by
 obtain ⟨e,s',hr,hq⟩ := Rounds.byInv (st := fun (w : Int × Int × Bool)=>s_number_0 x0 x1 x2 x3 w.1 w.2.1 w.2.2) (Inv := fun w=>inv_number_0 x0 x1 x2 x3 x4o x5o x6o w.1 w.2.1 w.2.2) (μ := fun w=>mu_number_0 x0 x1 x2 x3 w.1 w.2.1 w.2.2) (Q := fun e s'=>(∃ y7 y8 y9,out_number_0_0 x0 x1 x2 x3 x4o x5o x6o y7 y8 y9 ∧ e = (.exit 0) ∧ s' = x_number_0_0 x0 x1 x2 x3 y7 y8 y9)) (by
  rintro ⟨x4,x5,x6⟩ hi
  have hi : inv_number_0 x0 x1 x2 x3 x4o x5o x6o x4 x5 x6 := hi
  refine l_number_0 x0 x1 x2 x3 x4 x5 x6 _ ?_
  have hM {p : Prop} (h : p := by unfold mu_number_0; exact tI) : p := h
  revert hi
  exact tZ) (x4o,x5o,x6o) hi
 unfold E_number_0
 rcases hq with ⟨_,_,_,ho,rfl,rfl⟩
 exact ⟨_,_,_,ho,hr⟩⟩
abbrev t_number (x0 : ByteArray) (x1 x2 : Bool) (x3 x4 : Int) (Q : AV → HH → Prop) : HC := (j_number_0 0 x0 x1 x2 x3 x4 0 false (fun x5 x6 x7=>(cq 1 Q (.tup [(iv x6),(iv x5),(bv x7)]))))
theorem w_number (x0 x1 x2 x3 x4) (Q : AV → HH → Prop) (h : (t_number x0 x1 x2 x3 x4 Q).p) : ∃ r H',A 48 [(.agg [(sv x0),(bv x1),(bv x2),(iv x3)]),(iv x4)] [] r H' ∧ Q r H' :=
 Ans.wq rfl (t_number x0 x1 x2 x3 x4 Q).h (by kernel_rfl) h
instance c_number {x0 x1 x2 x3 x4} : C (E_number x0 x1 x2 x3 x4) (pre_number x0 x1 x2 x3 x4) := ⟨fun hp=>by
 unfold E_number
 obtain ⟨_,_,ha,x5,x6,x7,hq,rfl,rfl⟩ := w_number x0 x1 x2 x3 x4 (fun r H'=>∃ x5 x6 x7,post_number x0 x1 x2 x3 x4 x5 x6 x7 ∧ r = (.tup [(iv x5),(iv x6),(bv x7)]) ∧ H' = []) (by
  revert hp
  exact tZ)
 exact ⟨x5,x6,x7,hq,ha⟩⟩
def E_signed (x0 : ByteArray) (x1 x2 : Bool) (x3 x4 : Int) : Prop := ∃ x5 x6 x7 x8,post_signed x0 x1 x2 x3 x4 x5 x6 x7 x8 ∧ A 80 [(.agg [(sv x0),(bv x1),(bv x2),(iv x3)]),(iv x4)] [] (.tup [(iv x5),(iv x6),(iv x7),(bv x8)]) []
abbrev j_signed (nn : Nat) (x0 : ByteArray) (x1 x2 : Bool) (x3 x4 : Int) (kK : Int → Int → Int → Bool → HC) : HC := ⟨.ev nn (.ask (eI fun x5=>eI fun x6=>eI fun x7=>eB fun x8=>.done (.res (.tup [(iv x5),(iv x6),(iv x7),(bv x8)]) [] (post_signed x0 x1 x2 x3 x4 x5 x6 x7 x8)) ((kK x5 x6 x7 x8).h))),E_signed x0 x1 x2 x3 x4 ∧ (∀ x5 x6 x7 x8,post_signed x0 x1 x2 x3 x4 x5 x6 x7 x8 → (kK x5 x6 x7 x8).p)⟩
abbrev t_signed (x0 : ByteArray) (x1 x2 : Bool) (x3 x4 : Int) (Q : AV → HH → Prop) : HC := (j_is 1 x0 x1 x2 x3 x4 (bs [45]) fun x5=>(cd 0 x5 (ww (x4 + 1) (j_number 2 x0 x1 x2 x3 (w6 (x4 + 1)) fun x6 x7 x8=>(cd 1 ((x7 == w6 (x4 + 1))) (cq 1 Q (.tup [(iv 0),(iv 1),(iv x4),(bv false)])) (cq 1 Q (.tup [(iv x6),(iv 1),(iv x7),(bv x8)]))))) (j_is 1 x0 x1 x2 x3 x4 (bs [43]) fun x9=>(cd 0 x9 (ww (x4 + 1) (j_number 2 x0 x1 x2 x3 (w6 (x4 + 1)) fun x10 x11 x12=>(cd 1 ((x11 == w6 (x4 + 1))) (cq 1 Q (.tup [(iv 0),(iv 2),(iv x4),(bv false)])) (cq 1 Q (.tup [(iv x10),(iv 2),(iv x11),(bv x12)]))))) (j_number 1 x0 x1 x2 x3 x4 fun x13 x14 x15=>(cd 1 ((x14 == x4)) (cq 1 Q (.tup [(iv 0),(iv 0),(iv x4),(bv false)])) (cq 1 Q (.tup [(iv x13),(iv 0),(iv x14),(bv x15)]))))))))
theorem w_signed (x0 x1 x2 x3 x4) (Q : AV → HH → Prop) (h : (t_signed x0 x1 x2 x3 x4 Q).p) : ∃ r H',A 80 [(.agg [(sv x0),(bv x1),(bv x2),(iv x3)]),(iv x4)] [] r H' ∧ Q r H' :=
 Ans.wq rfl (t_signed x0 x1 x2 x3 x4 Q).h (by kernel_rfl) h
instance c_signed {x0 x1 x2 x3 x4} : C (E_signed x0 x1 x2 x3 x4) (pre_signed x0 x1 x2 x3 x4) := ⟨fun hp=>by
 unfold E_signed
 obtain ⟨_,_,ha,x5,x6,x7,x8,hq,rfl,rfl⟩ := w_signed x0 x1 x2 x3 x4 (fun r H'=>∃ x5 x6 x7 x8,post_signed x0 x1 x2 x3 x4 x5 x6 x7 x8 ∧ r = (.tup [(iv x5),(iv x6),(iv x7),(bv x8)]) ∧ H' = []) (by
  revert hp
  exact tZ)
 exact ⟨x5,x6,x7,x8,hq,ha⟩⟩
end
end Go.Proofs.YtcjcdammcmjbnaaGreat.U
