/- Blocks: walks of the program's functions, each told by what is asked and what comes back; they hold as they stand. -/
import Derived.Test.YtcjcdammcmjbnaaFeC
namespace Go.Proofs.Ytcjcdammcmjbnaa.U
open Go Go.Vai
set_option linter.unusedVariables false
set_option linter.unusedSimpArgs false
set_option maxRecDepth 100000
set_option maxHeartbeats 8000000
attribute [local irreducible] IntKind.wrap Rs Is Bs Ws Ts Ns Nf kindOf shapeN nszL
noncomputable section
theorem zb3x0 {p : Prop} (h : p := by unfold mu_number9_0; exact tI) : p := h
theorem zb3x1 {p : Prop} (h : p := by unfold mu_Number_1; exact tI) : p := h
theorem zb3x2 {p : Prop} (h : p := by with_reducible assumption) : p := h
theorem zb3x3 {p : Prop} (h : p := by (unfold mu_sequence_0); (try dsimp only); (repeat' split) <;> omega) : p := h
theorem zb3x4 {p : Prop} (h : p := by first | (exfalso; have hx : kindOf L (w6 (I + 1)) E = 10 := TC.kind (I := I) (by with_reducible assumption) (by with_reducible assumption) (by omega) (by omega) (by omega) (by omega) (by omega); omega) | exact tP) : p := h
theorem zb3x5 {p : Prop} (h : p := by (try unfold rank_alternatives); (try unfold rank_thing); exact tI) : p := h
theorem zb3x6 {p : Prop} (h : p := by unfold mu_node10_0; exact tI) : p := h
abbrev E_caps (x0 x1 x2 : Int) (x3 : List AV) (x4 : Bool) (x5 x6 x7 : Int) (x8 : ByteArray) (x9 x10 : Int) (x11 : List AV) : Prop := ∃ x12,post_caps x0 x1 x2 x3 x4 x5 x6 x7 x8 x9 x10 x11 x12 ∧ A 31 [(.agg (nR x0 x1 x2 x3 x4 x5 x6 x7 x8 x9 x10 x11))] [] (.sl 12 x12) []
abbrev j_caps (nn : Nat) (x0 x1 x2 : Int) (x3 : List AV) (x4 : Bool) (x5 x6 x7 : Int) (x8 : ByteArray) (x9 x10 : Int) (x11 : List AV) (kK : List AV → HC) : HC := ⟨.ev nn (.ask (eL fun x12=>.done (.res (.sl 12 x12) [] (post_caps x0 x1 x2 x3 x4 x5 x6 x7 x8 x9 x10 x11 x12)) ((kK x12).h))),E_caps x0 x1 x2 x3 x4 x5 x6 x7 x8 x9 x10 x11 ∧ (∀ x12,post_caps x0 x1 x2 x3 x4 x5 x6 x7 x8 x9 x10 x11 x12 → (kK x12).p)⟩
def IH_caps (b : Nat) : Prop := ∀ {x0 : Int} {x1 : Int} {x2 : Int} {x3 : List AV} {x4 : Bool} {x5 : Int} {x6 : Int} {x7 : Int} {x8 : ByteArray} {x9 : Int} {x10 : Int} {x11 : List AV},rank_caps x0 x1 x2 x3 x4 x5 x6 x7 x8 x9 x10 x11 < b → pre_caps x0 x1 x2 x3 x4 x5 x6 x7 x8 x9 x10 x11 → E_caps x0 x1 x2 x3 x4 x5 x6 x7 x8 x9 x10 x11
def s_caps_0 (x0 x1 x2 : Int) (x3 : List AV) (x4 : Bool) (x5 x6 x7 : Int) (x8 : ByteArray) (x9 x10 : Int) (x11 x12 : List AV) (x13 : Int) : St := ⟨[],[(1,(.ea [(iv x0),(iv x1),(iv x2),(.sl 2 x3),(bv x4),(iv x5),(iv x6),(iv x7),(sv x8),(iv x9),(iv x10),(.sl 12 x11)])),(3,(.cap false 27 x12)),(4,(iv x13))],[],0⟩
def x_caps_0_0 (x0 x1 x2 : Int) (x3 : List AV) (x4 : Bool) (x5 x6 x7 : Int) (x8 : ByteArray) (x9 x10 : Int) (x11 y12 : List AV) (y13 : Int) : St := ⟨[],[(1,(.ea [(iv x0),(iv x1),(iv x2),(.sl 2 x3),(bv x4),(iv x5),(iv x6),(iv x7),(sv x8),(iv x9),(iv x10),(.sl 12 x11)])),(3,(.cap false 27 y12)),(4,(iv y13)),(16,(bv false))],[],0⟩
abbrev E_caps_0 (x0 x1 x2 : Int) (x3 : List AV) (x4 : Bool) (x5 x6 x7 : Int) (x8 : ByteArray) (x9 x10 : Int) (x11 x12o : List AV) (x13o : Int) : Prop := (∃ y14 y15,out_caps_0_0 x0 x1 x2 x3 x4 x5 x6 x7 x8 x9 x10 x11 x12o x13o y14 y15 ∧ R 31 0 (s_caps_0 x0 x1 x2 x3 x4 x5 x6 x7 x8 x9 x10 x11 x12o x13o) ((.exit 0),x_caps_0_0 x0 x1 x2 x3 x4 x5 x6 x7 x8 x9 x10 x11 y14 y15))
abbrev j_caps_0 (nn : Nat) (x0 x1 x2 : Int) (x3 : List AV) (x4 : Bool) (x5 x6 x7 : Int) (x8 : ByteArray) (x9 x10 : Int) (x11 x12o : List AV) (x13o : Int) (f0 : List AV → Int → HC) : HC := ⟨.ev nn (.ask (eL fun y14=>eI fun y15=>.done (.exit (.exit 0) (x_caps_0_0 x0 x1 x2 x3 x4 x5 x6 x7 x8 x9 x10 x11 y14 y15) (out_caps_0_0 x0 x1 x2 x3 x4 x5 x6 x7 x8 x9 x10 x11 x12o x13o y14 y15)) (f0 y14 y15).h)),E_caps_0 x0 x1 x2 x3 x4 x5 x6 x7 x8 x9 x10 x11 x12o x13o ∧ (∀ y14 y15,out_caps_0_0 x0 x1 x2 x3 x4 x5 x6 x7 x8 x9 x10 x11 x12o x13o y14 y15 → (f0 y14 y15).p)⟩
abbrev t_caps_0 (x0 x1 x2 : Int) (x3 : List AV) (x4 : Bool) (x5 x6 x7 : Int) (x8 : ByteArray) (x9 x10 : Int) (x11 x12 : List AV) (x13 : Int) (Q : Ex → St → Prop) : HC := (dd 1 ((decide (x13 < (↑x11.length : Int)))) (oo 0 ((decide (0 ≤ x13))) (pN 1 ((x11[x13.toNat]?)) fun x14 x15 x16 x17 x18 x19 x20 x21 x22 x23 x24 x25=>(oo 0 ((npL [(.agg (nR x14 x15 x16 x17 x18 x19 x20 x21 x22 x23 x24 x25))])) (j_caps 0 x14 x15 x16 x17 x18 x19 x20 x21 x22 x23 x24 x25 fun x26=>(oo 0 ((roomD pr 27 x12.length x26.length)) (zz 1 (Q .norm (s_caps_0 x0 x1 x2 x3 x4 x5 x6 x7 x8 x9 x10 x11 (x12 ++ x26) (w6 (x13 + 1)))))))))) (zz 0 (Q (.exit 0) (x_caps_0_0 x0 x1 x2 x3 x4 x5 x6 x7 x8 x9 x10 x11 x12 x13))))
theorem l_caps_0 (x0 x1 x2 x3 x4 x5 x6 x7 x8 x9 x10 x11 x12 x13) (Q : Ex → St → Prop) (h : (t_caps_0 x0 x1 x2 x3 x4 x5 x6 x7 x8 x9 x10 x11 x12 x13 Q).p) : ∃ e s',L 31 0 (s_caps_0 x0 x1 x2 x3 x4 x5 x6 x7 x8 x9 x10 x11 x12 x13) (e,s') ∧ Q e s' :=
 Leads.wq (t_caps_0 x0 x1 x2 x3 x4 x5 x6 x7 x8 x9 x10 x11 x12 x13 Q).h (by kernel_rfl) h
theorem k_caps_0 {B : Nat} (ih_caps : IH_caps B) {x0 x1 x2 x3 x4 x5 x6 x7 x8 x9 x10 x11 x12o x13o} (hi : inv_caps_0 B x0 x1 x2 x3 x4 x5 x6 x7 x8 x9 x10 x11 x12o x13o x12o x13o) : E_caps_0 x0 x1 x2 x3 x4 x5 x6 x7 x8 x9 x10 x11 x12o x13o := by
 obtain ⟨e,s',hr,hq⟩ := Rounds.byInv (st := fun (w : (List AV) × Int)=>s_caps_0 x0 x1 x2 x3 x4 x5 x6 x7 x8 x9 x10 x11 w.1 w.2) (Inv := fun w=>inv_caps_0 B x0 x1 x2 x3 x4 x5 x6 x7 x8 x9 x10 x11 x12o x13o w.1 w.2) (μ := fun w=>mu_caps_0 x0 x1 x2 x3 x4 x5 x6 x7 x8 x9 x10 x11 w.1 w.2) (Q := fun e s'=>(∃ y14 y15,out_caps_0_0 x0 x1 x2 x3 x4 x5 x6 x7 x8 x9 x10 x11 x12o x13o y14 y15 ∧ e = (.exit 0) ∧ s' = x_caps_0_0 x0 x1 x2 x3 x4 x5 x6 x7 x8 x9 x10 x11 y14 y15)) (by
  rintro ⟨x12,x13⟩ hi
  have hi : inv_caps_0 B x0 x1 x2 x3 x4 x5 x6 x7 x8 x9 x10 x11 x12o x13o x12 x13 := hi
  refine l_caps_0 x0 x1 x2 x3 x4 x5 x6 x7 x8 x9 x10 x11 x12 x13 _ ?_
  obtain ⟨_,⟨_,_,_,_⟩,_,_,_,_,_⟩ := hi
  apply bS <;> intro _
  ·refine ⟨tD,tG,fun _ _ _ _ _ _ _ _ _ _ _ _ g29=>?_⟩
   have edg41 := nsz_drop g29; first | (have eg29 := Ns.elem tA g29; have eng41 := nsz_get g29; obtain ⟨_,_,_,_⟩ := eg29.nw) | (have eg29 := Nf.elem tA g29; have eng41 := nsz_get g29; obtain ⟨_,_⟩ := eg29.nw)
   refine ⟨tN,ih_caps (by (try unfold rank_caps); exact tI) tP,fun x30 p31=>?_⟩
   obtain ⟨_,_⟩ := p31
   refine ⟨tR,?_⟩
   try have := tW (x13 + 1)
   exact .inl ⟨rfl,((x12 ++ x30),(w6 (x13 + 1))),rfl,tP,by unfold mu_caps_0; exact tI⟩
  exact .inr ⟨by simp,⟨_,_,tP,rfl,rfl⟩⟩) (x12o,x13o) hi
 rcases hq with ⟨_,_,ho,rfl,rfl⟩
 exact ⟨_,_,ho,hr⟩
abbrev t_caps (x0 x1 x2 : Int) (x3 : List AV) (x4 : Bool) (x5 x6 x7 : Int) (x8 : ByteArray) (x9 x10 : Int) (x11 : List AV) (Q : AV → HH → Prop) : HC := (dd 1 ((x0 == 14)) (j_caps_0 1 x0 x1 x2 x3 x4 x5 x6 x7 x8 x9 x10 x11 [(.agg (nR x0 x1 x2 x3 x4 x5 x6 x7 x8 x9 x10 x11))] 0 (fun x12 x13=>(qq 1 Q (.sl 12 x12)))) (j_caps_0 0 x0 x1 x2 x3 x4 x5 x6 x7 x8 x9 x10 x11 [] 0 (fun x14 x15=>(qq 1 Q (.sl 12 x14)))))
theorem w_caps (x0 x1 x2 x3 x4 x5 x6 x7 x8 x9 x10 x11) (Q : AV → HH → Prop) (h : (t_caps x0 x1 x2 x3 x4 x5 x6 x7 x8 x9 x10 x11 Q).p) : ∃ r H',A 31 [(.agg (nR x0 x1 x2 x3 x4 x5 x6 x7 x8 x9 x10 x11))] [] r H' ∧ Q r H' :=
 Ans.wq rfl (t_caps x0 x1 x2 x3 x4 x5 x6 x7 x8 x9 x10 x11 Q).h (by kernel_rfl) h
theorem i_caps {x0 x1 x2 x3 x4 x5 x6 x7 x8 x9 x10 x11} (ih_caps : IH_caps (rank_caps x0 x1 x2 x3 x4 x5 x6 x7 x8 x9 x10 x11)) (hp : pre_caps x0 x1 x2 x3 x4 x5 x6 x7 x8 x9 x10 x11) : E_caps x0 x1 x2 x3 x4 x5 x6 x7 x8 x9 x10 x11 := by
 obtain ⟨_,_,ha,_,hq,rfl,rfl⟩ := w_caps x0 x1 x2 x3 x4 x5 x6 x7 x8 x9 x10 x11 (fun r H'=>∃ x12,post_caps x0 x1 x2 x3 x4 x5 x6 x7 x8 x9 x10 x11 x12 ∧ r = (.sl 12 x12) ∧ H' = []) (by
  obtain ⟨⟨_,_,_,_⟩,_⟩ := hp
  apply bS <;> intro _
  ·refine ⟨k_caps_0 ih_caps tP,fun _ _ e16=>?_⟩
   obtain ⟨e16_0,e16_1⟩ := e16
   try replace e16_0 := nz e16_0
   try replace e16_1 := nz e16_1
   exact ⟨_,tP,rfl,rfl⟩
  refine ⟨k_caps_0 ih_caps tP,fun _ _ e19=>?_⟩
  obtain ⟨e19_0,e19_1⟩ := e19
  try replace e19_0 := nz e19_0
  try replace e19_1 := nz e19_1
  exact ⟨_,tP,rfl,rfl⟩)
 exact ⟨_,hq,ha⟩
theorem r_caps : ∀ b,IH_caps b
 | 0=>fun hr _=>absurd hr (Nat.not_lt_zero _)
 | b + 1=>fun hr hp=>i_caps (fun hr' hp'=>r_caps b (by omega) hp') hp
theorem c_caps {x0 x1 x2 x3 x4 x5 x6 x7 x8 x9 x10 x11} (hp : pre_caps x0 x1 x2 x3 x4 x5 x6 x7 x8 x9 x10 x11) : E_caps x0 x1 x2 x3 x4 x5 x6 x7 x8 x9 x10 x11 := r_caps (rank_caps x0 x1 x2 x3 x4 x5 x6 x7 x8 x9 x10 x11 + 1) (Nat.lt_succ_self _) hp
abbrev E_number9 (x0 x1 x2 : Int) (x3 : List AV) (x4 : Bool) (x5 x6 x7 : Int) (x8 : ByteArray) (x9 x10 : Int) (x11 : List AV) (x12 : Int) : Prop := ∃ x13 x14 x15 x16 x17 x18 x19 x20 x21 x22 x23 x24 x25,post_number9 x0 x1 x2 x3 x4 x5 x6 x7 x8 x9 x10 x11 x12 x13 x14 x15 x16 x17 x18 x19 x20 x21 x22 x23 x24 x25 ∧ A 30 [(.agg (nR x0 x1 x2 x3 x4 x5 x6 x7 x8 x9 x10 x11)),(iv x12)] [] (.tup [(.agg (nR x13 x14 x15 x16 x17 x18 x19 x20 x21 x22 x23 x24)),(iv x25)]) []
abbrev j_number9 (nn : Nat) (x0 x1 x2 : Int) (x3 : List AV) (x4 : Bool) (x5 x6 x7 : Int) (x8 : ByteArray) (x9 x10 : Int) (x11 : List AV) (x12 : Int) (kK : Int → Int → Int → List AV → Bool → Int → Int → Int → ByteArray → Int → Int → List AV → Int → HC) : HC := ⟨.ev nn (.ask (eN fun x13 x14 x15 x16 x17 x18 x19 x20 x21 x22 x23 x24=>eI fun x25=>.done (.res (.tup [(.agg (nR x13 x14 x15 x16 x17 x18 x19 x20 x21 x22 x23 x24)),(iv x25)]) [] (post_number9 x0 x1 x2 x3 x4 x5 x6 x7 x8 x9 x10 x11 x12 x13 x14 x15 x16 x17 x18 x19 x20 x21 x22 x23 x24 x25)) ((kK x13 x14 x15 x16 x17 x18 x19 x20 x21 x22 x23 x24 x25).h))),E_number9 x0 x1 x2 x3 x4 x5 x6 x7 x8 x9 x10 x11 x12 ∧ (∀ x13 x14 x15 x16 x17 x18 x19 x20 x21 x22 x23 x24 x25,post_number9 x0 x1 x2 x3 x4 x5 x6 x7 x8 x9 x10 x11 x12 x13 x14 x15 x16 x17 x18 x19 x20 x21 x22 x23 x24 x25 → (kK x13 x14 x15 x16 x17 x18 x19 x20 x21 x22 x23 x24 x25).p)⟩
def IH_number9 (b : Nat) : Prop := ∀ {x0 : Int} {x1 : Int} {x2 : Int} {x3 : List AV} {x4 : Bool} {x5 : Int} {x6 : Int} {x7 : Int} {x8 : ByteArray} {x9 : Int} {x10 : Int} {x11 : List AV} {x12 : Int},rank_number9 x0 x1 x2 x3 x4 x5 x6 x7 x8 x9 x10 x11 x12 < b → pre_number9 x0 x1 x2 x3 x4 x5 x6 x7 x8 x9 x10 x11 x12 → E_number9 x0 x1 x2 x3 x4 x5 x6 x7 x8 x9 x10 x11 x12
def s_number9_0 (x0 x1 x2 x3 : Int) (x4 : List AV) (x5 : Bool) (x6 x7 x8 : Int) (x9 : ByteArray) (x10 x11 : Int) (x12 : List AV) (x13 : Int) (x14 : List AV) (x15 : Int) : St := ⟨[],[(1,(iv x0)),(2,(.box [(iv x1),(iv x2),(iv x3),(.sl 2 x4),(bv x5),(iv x6),(iv x7),(iv x8),(sv x9),(iv x10),(iv x11),(.sl 12 x12)])),(4,(.box [(iv 0),(iv 0),(iv 0),(.sl 2 []),(bv false),(iv 0),(iv 0),(iv 0),(sv (bs [])),(iv 0),(iv 0),(.sl 12 [])])),(6,(iv x13)),(7,(.cap false 27 x14)),(8,(iv x15))],[],0⟩
def x_number9_0_0 (x0 x1 x2 x3 : Int) (x4 : List AV) (x5 : Bool) (x6 x7 x8 : Int) (x9 : ByteArray) (x10 x11 : Int) (x12 : List AV) (y13 : Int) (y14 : List AV) (y15 : Int) : St := ⟨[],[(1,(iv x0)),(2,(.box [(iv x1),(iv x2),(iv x3),(.sl 2 x4),(bv x5),(iv x6),(iv x7),(iv x8),(sv x9),(iv x10),(iv x11),(.sl 12 x12)])),(4,(.box [(iv 0),(iv 0),(iv 0),(.sl 2 []),(bv false),(iv 0),(iv 0),(iv 0),(sv (bs [])),(iv 0),(iv 0),(.sl 12 [])])),(6,(iv y13)),(7,(.cap false 27 y14)),(8,(iv y15)),(24,(bv false))],[],0⟩
abbrev E_number9_0 (x0 x1 x2 x3 : Int) (x4 : List AV) (x5 : Bool) (x6 x7 x8 : Int) (x9 : ByteArray) (x10 x11 : Int) (x12 : List AV) (x13o : Int) (x14o : List AV) (x15o : Int) : Prop := (∃ y16 y17 y18,out_number9_0_0 x0 x1 x2 x3 x4 x5 x6 x7 x8 x9 x10 x11 x12 x13o x14o x15o y16 y17 y18 ∧ R 30 0 (s_number9_0 x0 x1 x2 x3 x4 x5 x6 x7 x8 x9 x10 x11 x12 x13o x14o x15o) ((.exit 0),x_number9_0_0 x0 x1 x2 x3 x4 x5 x6 x7 x8 x9 x10 x11 x12 y16 y17 y18))
abbrev j_number9_0 (nn : Nat) (x0 x1 x2 x3 : Int) (x4 : List AV) (x5 : Bool) (x6 x7 x8 : Int) (x9 : ByteArray) (x10 x11 : Int) (x12 : List AV) (x13o : Int) (x14o : List AV) (x15o : Int) (f0 : Int → List AV → Int → HC) : HC := ⟨.ev nn (.ask (eI fun y16=>eL fun y17=>eI fun y18=>.done (.exit (.exit 0) (x_number9_0_0 x0 x1 x2 x3 x4 x5 x6 x7 x8 x9 x10 x11 x12 y16 y17 y18) (out_number9_0_0 x0 x1 x2 x3 x4 x5 x6 x7 x8 x9 x10 x11 x12 x13o x14o x15o y16 y17 y18)) (f0 y16 y17 y18).h)),E_number9_0 x0 x1 x2 x3 x4 x5 x6 x7 x8 x9 x10 x11 x12 x13o x14o x15o ∧ (∀ y16 y17 y18,out_number9_0_0 x0 x1 x2 x3 x4 x5 x6 x7 x8 x9 x10 x11 x12 x13o x14o x15o y16 y17 y18 → (f0 y16 y17 y18).p)⟩
abbrev t_number9_0 (x0 x1 x2 x3 : Int) (x4 : List AV) (x5 : Bool) (x6 x7 x8 : Int) (x9 : ByteArray) (x10 x11 : Int) (x12 : List AV) (x13 : Int) (x14 : List AV) (x15 : Int) (Q : Ex → St → Prop) : HC := (dd 1 ((decide (x15 < (↑x12.length : Int)))) (dd 1 ((x1 == 16)) (oo 0 ((decide (0 ≤ x15))) (pN 1 ((x12[x15.toNat]?)) fun x16 x17 x18 x19 x20 x21 x22 x23 x24 x25 x26 x27=>(oo 0 ((npL [(.agg (nR x16 x17 x18 x19 x20 x21 x22 x23 x24 x25 x26 x27)),(iv x0)])) (j_number9 0 x16 x17 x18 x19 x20 x21 x22 x23 x24 x25 x26 x27 x0 fun x28 x29 x30 x31 x32 x33 x34 x35 x36 x37 x38 x39 x40=>(oo 0 ((roomD pr 27 x14.length 1)) (dd 1 ((decide (x40 > x13))) (zz 1 (Q .norm (s_number9_0 x0 x1 x2 x3 x4 x5 x6 x7 x8 x9 x10 x11 x12 x40 (x14 ++   [AV.agg       (nR x28 x29 x30 x31 x32 x33 x34 x35 x36 x37 x38 x39)]) (w6 (x15 + 1))))) (zz 1 (Q .norm (s_number9_0 x0 x1 x2 x3 x4 x5 x6 x7 x8 x9 x10 x11 x12 x13 (x14 ++   [AV.agg       (nR x28 x29 x30 x31 x32 x33 x34 x35 x36 x37 x38 x39)]) (w6 (x15 + 1))))))))))) (oo 0 ((decide (0 ≤ x15))) (pN 1 ((x12[x15.toNat]?)) fun x41 x42 x43 x44 x45 x46 x47 x48 x49 x50 x51 x52=>(oo 0 ((npL [(.agg (nR x41 x42 x43 x44 x45 x46 x47 x48 x49 x50 x51 x52)),(iv x13)])) (j_number9 0 x41 x42 x43 x44 x45 x46 x47 x48 x49 x50 x51 x52 x13 fun x53 x54 x55 x56 x57 x58 x59 x60 x61 x62 x63 x64 x65=>(oo 0 ((roomD pr 27 x14.length 1)) (dd 1 ((decide (x65 > x13))) (zz 1 (Q .norm (s_number9_0 x0 x1 x2 x3 x4 x5 x6 x7 x8 x9 x10 x11 x12 x65 (x14 ++   [AV.agg       (nR x53 x54 x55 x56 x57 x58 x59 x60 x61 x62 x63 x64)]) (w6 (x15 + 1))))) (zz 1 (Q .norm (s_number9_0 x0 x1 x2 x3 x4 x5 x6 x7 x8 x9 x10 x11 x12 x13 (x14 ++   [AV.agg       (nR x53 x54 x55 x56 x57 x58 x59 x60 x61 x62 x63 x64)]) (w6 (x15 + 1)))))))))))) (zz 0 (Q (.exit 0) (x_number9_0_0 x0 x1 x2 x3 x4 x5 x6 x7 x8 x9 x10 x11 x12 x13 x14 x15))))
theorem l_number9_0 (x0 x1 x2 x3 x4 x5 x6 x7 x8 x9 x10 x11 x12 x13 x14 x15) (Q : Ex → St → Prop) (h : (t_number9_0 x0 x1 x2 x3 x4 x5 x6 x7 x8 x9 x10 x11 x12 x13 x14 x15 Q).p) : ∃ e s',L 30 0 (s_number9_0 x0 x1 x2 x3 x4 x5 x6 x7 x8 x9 x10 x11 x12 x13 x14 x15) (e,s') ∧ Q e s' :=
 Leads.wq (t_number9_0 x0 x1 x2 x3 x4 x5 x6 x7 x8 x9 x10 x11 x12 x13 x14 x15 Q).h (by kernel_rfl) h
theorem k_number9_0 {B : Nat} (ih_number9 : IH_number9 B) {x0 x1 x2 x3 x4 x5 x6 x7 x8 x9 x10 x11 x12 x13o x14o x15o} (hi : inv_number9_0 B x0 x1 x2 x3 x4 x5 x6 x7 x8 x9 x10 x11 x12 x13o x14o x15o x13o x14o x15o) : E_number9_0 x0 x1 x2 x3 x4 x5 x6 x7 x8 x9 x10 x11 x12 x13o x14o x15o := by
 obtain ⟨e,s',hr,hq⟩ := Rounds.byInv (st := fun (w : Int × (List AV) × Int)=>s_number9_0 x0 x1 x2 x3 x4 x5 x6 x7 x8 x9 x10 x11 x12 w.1 w.2.1 w.2.2) (Inv := fun w=>inv_number9_0 B x0 x1 x2 x3 x4 x5 x6 x7 x8 x9 x10 x11 x12 x13o x14o x15o w.1 w.2.1 w.2.2) (μ := fun w=>mu_number9_0 x0 x1 x2 x3 x4 x5 x6 x7 x8 x9 x10 x11 x12 w.1 w.2.1 w.2.2) (Q := fun e s'=>(∃ y16 y17 y18,out_number9_0_0 x0 x1 x2 x3 x4 x5 x6 x7 x8 x9 x10 x11 x12 x13o x14o x15o y16 y17 y18 ∧ e = (.exit 0) ∧ s' = x_number9_0_0 x0 x1 x2 x3 x4 x5 x6 x7 x8 x9 x10 x11 x12 y16 y17 y18)) (by
  rintro ⟨x13,x14,x15⟩ hi
  have hi : inv_number9_0 B x0 x1 x2 x3 x4 x5 x6 x7 x8 x9 x10 x11 x12 x13o x14o x15o x13 x14 x15 := hi
  refine l_number9_0 x0 x1 x2 x3 x4 x5 x6 x7 x8 x9 x10 x11 x12 x13 x14 x15 _ ?_
  obtain ⟨_,⟨_,_,_,_⟩,_,_,_,_,_,_,_,_,_,_⟩ := hi
  apply bS <;> intro _
  ·apply bS <;> intro _
   ·refine ⟨tD,tG,fun _ _ _ _ _ _ _ _ _ _ _ _ g33=>?_⟩
    have edg296 := nsz_drop g33; first | (have eg33 := Ns.elem tA g33; have eng296 := nsz_get g33; obtain ⟨_,_,_,_⟩ := eg33.nw) | (have eg33 := Nf.elem tA g33; have eng296 := nsz_get g33; obtain ⟨_,_⟩ := eg33.nw)
    refine ⟨tN,ih_number9 (by (try unfold rank_number9); exact tI) tP,fun x34 x35 x36 x37 x38 x39 x40 x41 x42 x43 x44 x45 x46 p47=>?_⟩
    obtain ⟨⟨_,_,_,_⟩,_,_,_⟩ := p47
    refine ⟨tR,?_⟩
    apply bS <;> intro _
    ·try have := tW (x15 + 1)
     exact .inl ⟨rfl,(x46,(x14 ++   [AV.agg       [iv x34,iv x35,iv x36,AV.sl 2 x37,bv x38,iv x39,iv x40,iv x41,sv x42,iv x43,iv x44,        AV.sl 12 x45]]),(w6 (x15 + 1))),rfl,tP,zb3x0⟩
    try have := tW (x15 + 1)
    exact .inl ⟨rfl,(x13,(x14 ++   [AV.agg       [iv x34,iv x35,iv x36,AV.sl 2 x37,bv x38,iv x39,iv x40,iv x41,sv x42,iv x43,iv x44,        AV.sl 12 x45]]),(w6 (x15 + 1))),rfl,tP,zb3x0⟩
   refine ⟨tD,tG,fun _ _ _ _ _ _ _ _ _ _ _ _ g61=>?_⟩
   have edg380 := nsz_drop g61; first | (have eg61 := Ns.elem tA g61; have eng380 := nsz_get g61; obtain ⟨_,_,_,_⟩ := eg61.nw) | (have eg61 := Nf.elem tA g61; have eng380 := nsz_get g61; obtain ⟨_,_⟩ := eg61.nw)
   refine ⟨tN,ih_number9 (by (try unfold rank_number9); exact tI) tP,fun x62 x63 x64 x65 x66 x67 x68 x69 x70 x71 x72 x73 x74 p75=>?_⟩
   obtain ⟨⟨_,_,_,_⟩,_,_,_⟩ := p75
   refine ⟨tR,?_⟩
   apply bS <;> intro _
   ·try have := tW (x15 + 1)
    exact .inl ⟨rfl,(x74,(x14 ++   [AV.agg       [iv x62,iv x63,iv x64,AV.sl 2 x65,bv x66,iv x67,iv x68,iv x69,sv x70,iv x71,iv x72,        AV.sl 12 x73]]),(w6 (x15 + 1))),rfl,tP,zb3x0⟩
   try have := tW (x15 + 1)
   exact .inl ⟨rfl,(x13,(x14 ++   [AV.agg       [iv x62,iv x63,iv x64,AV.sl 2 x65,bv x66,iv x67,iv x68,iv x69,sv x70,iv x71,iv x72,        AV.sl 12 x73]]),(w6 (x15 + 1))),rfl,tP,zb3x0⟩
  exact .inr ⟨by simp,⟨_,_,_,tP,rfl,rfl⟩⟩) (x13o,x14o,x15o) hi
 rcases hq with ⟨_,_,_,ho,rfl,rfl⟩
 exact ⟨_,_,_,ho,hr⟩
abbrev t_number9 (x0 x1 x2 : Int) (x3 : List AV) (x4 : Bool) (x5 x6 x7 : Int) (x8 : ByteArray) (x9 x10 : Int) (x11 : List AV) (x12 : Int) (Q : AV → HH → Prop) : HC := (dd 1 ((x0 == 14)) (j_number9_0 1 (w6 (x12 + 1)) x0 x1 x2 x3 x4 (w6 (x12 + 1)) x6 x7 x8 x9 x10 x11 (w6 (x12 + 1)) [] 0 (fun x13 x14 x15=>(qq 1 Q (.tup [(.agg (nR x0 x1 x2 x3 x4 (w6 (x12 + 1)) x6 x7 x8 x9 x10 x14)),(iv x13)])))) (j_number9_0 0 x12 x0 x1 x2 x3 x4 x5 x6 x7 x8 x9 x10 x11 x12 [] 0 (fun x16 x17 x18=>(qq 1 Q (.tup [(.agg (nR x0 x1 x2 x3 x4 x5 x6 x7 x8 x9 x10 x17)),(iv x16)])))))
theorem w_number9 (x0 x1 x2 x3 x4 x5 x6 x7 x8 x9 x10 x11 x12) (Q : AV → HH → Prop) (h : (t_number9 x0 x1 x2 x3 x4 x5 x6 x7 x8 x9 x10 x11 x12 Q).p) : ∃ r H',A 30 [(.agg (nR x0 x1 x2 x3 x4 x5 x6 x7 x8 x9 x10 x11)),(iv x12)] [] r H' ∧ Q r H' :=
 Ans.wq rfl (t_number9 x0 x1 x2 x3 x4 x5 x6 x7 x8 x9 x10 x11 x12 Q).h (by kernel_rfl) h
theorem i_number9 {x0 x1 x2 x3 x4 x5 x6 x7 x8 x9 x10 x11 x12} (ih_number9 : IH_number9 (rank_number9 x0 x1 x2 x3 x4 x5 x6 x7 x8 x9 x10 x11 x12)) (hp : pre_number9 x0 x1 x2 x3 x4 x5 x6 x7 x8 x9 x10 x11 x12) : E_number9 x0 x1 x2 x3 x4 x5 x6 x7 x8 x9 x10 x11 x12 := by
 obtain ⟨_,_,ha,_,_,_,_,_,_,_,_,_,_,_,_,_,hq,rfl,rfl⟩ := w_number9 x0 x1 x2 x3 x4 x5 x6 x7 x8 x9 x10 x11 x12 (fun r H'=>∃ x13 x14 x15 x16 x17 x18 x19 x20 x21 x22 x23 x24 x25,post_number9 x0 x1 x2 x3 x4 x5 x6 x7 x8 x9 x10 x11 x12 x13 x14 x15 x16 x17 x18 x19 x20 x21 x22 x23 x24 x25 ∧ r = (.tup [(.agg [(iv x13),(iv x14),(iv x15),(.sl 2 x16),(bv x17),(iv x18),(iv x19),(iv x20),(sv x21),(iv x22),(iv x23),(.sl 12 x24)]),(iv x25)]) ∧ H' = []) (by
  obtain ⟨⟨_,_,_,_⟩,_,_,_⟩ := hp
  apply bS <;> intro _
  ·try have := tW (x12 + 1)
   refine ⟨k_number9_0 ih_number9 tP,fun _ _ _ e30=>?_⟩
   obtain ⟨e30_0,e30_1,e30_2,e30_3,e30_4⟩ := e30
   try replace e30_0 := nz e30_0
   try replace e30_1 := nz e30_1
   try replace e30_2 := nz e30_2
   try replace e30_3 := nz e30_3
   try replace e30_4 := nz e30_4
   exact ⟨_,_,_,_,_,_,_,_,_,_,_,_,_,tP,rfl,rfl⟩
  refine ⟨k_number9_0 ih_number9 tP,fun _ _ _ e34=>?_⟩
  obtain ⟨e34_0,e34_1,e34_2,e34_3,e34_4⟩ := e34
  try replace e34_0 := nz e34_0
  try replace e34_1 := nz e34_1
  try replace e34_2 := nz e34_2
  try replace e34_3 := nz e34_3
  try replace e34_4 := nz e34_4
  exact ⟨_,_,_,_,_,_,_,_,_,_,_,_,_,tP,rfl,rfl⟩)
 exact ⟨_,_,_,_,_,_,_,_,_,_,_,_,_,hq,ha⟩
theorem r_number9 : ∀ b,IH_number9 b
 | 0=>fun hr _=>absurd hr (Nat.not_lt_zero _)
 | b + 1=>fun hr hp=>i_number9 (fun hr' hp'=>r_number9 b (by omega) hp') hp
theorem c_number9 {x0 x1 x2 x3 x4 x5 x6 x7 x8 x9 x10 x11 x12} (hp : pre_number9 x0 x1 x2 x3 x4 x5 x6 x7 x8 x9 x10 x11 x12) : E_number9 x0 x1 x2 x3 x4 x5 x6 x7 x8 x9 x10 x11 x12 := r_number9 (rank_number9 x0 x1 x2 x3 x4 x5 x6 x7 x8 x9 x10 x11 x12 + 1) (Nat.lt_succ_self _) hp
abbrev E_Number (x0 x1 x2 : Int) (x3 : List AV) (x4 : Bool) (x5 x6 x7 : Int) (x8 : ByteArray) (x9 x10 : Int) (x11 : List AV) : Prop := ∃ x12 x13 x14 x15 x16 x17 x18 x19 x20 x21 x22 x23 x24 x25 x26 x27,post_Number x0 x1 x2 x3 x4 x5 x6 x7 x8 x9 x10 x11 x12 x13 x14 x15 x16 x17 x18 x19 x20 x21 x22 x23 x24 x25 x26 x27 ∧ A 16 [(.agg (nR x0 x1 x2 x3 x4 x5 x6 x7 x8 x9 x10 x11))] [] (.tup [(.agg (nR x12 x13 x14 x15 x16 x17 x18 x19 x20 x21 x22 x23)),(iv x24),(.sl 2 x25),(iv x26),(iv x27)]) []
abbrev j_Number (nn : Nat) (x0 x1 x2 : Int) (x3 : List AV) (x4 : Bool) (x5 x6 x7 : Int) (x8 : ByteArray) (x9 x10 : Int) (x11 : List AV) (kK : Int → Int → Int → List AV → Bool → Int → Int → Int → ByteArray → Int → Int → List AV → Int → List AV → Int → Int → HC) : HC := ⟨.ev nn (.ask (eN fun x12 x13 x14 x15 x16 x17 x18 x19 x20 x21 x22 x23=>eI fun x24=>eL fun x25=>eI fun x26=>eI fun x27=>.done (.res (.tup [(.agg (nR x12 x13 x14 x15 x16 x17 x18 x19 x20 x21 x22 x23)),(iv x24),(.sl 2 x25),(iv x26),(iv x27)]) [] (post_Number x0 x1 x2 x3 x4 x5 x6 x7 x8 x9 x10 x11 x12 x13 x14 x15 x16 x17 x18 x19 x20 x21 x22 x23 x24 x25 x26 x27)) ((kK x12 x13 x14 x15 x16 x17 x18 x19 x20 x21 x22 x23 x24 x25 x26 x27).h))),E_Number x0 x1 x2 x3 x4 x5 x6 x7 x8 x9 x10 x11 ∧ (∀ x12 x13 x14 x15 x16 x17 x18 x19 x20 x21 x22 x23 x24 x25 x26 x27,post_Number x0 x1 x2 x3 x4 x5 x6 x7 x8 x9 x10 x11 x12 x13 x14 x15 x16 x17 x18 x19 x20 x21 x22 x23 x24 x25 x26 x27 → (kK x12 x13 x14 x15 x16 x17 x18 x19 x20 x21 x22 x23 x24 x25 x26 x27).p)⟩
def s_Number_1 (x0 x1 x2 : Int) (x3 : List AV) (x4 : Bool) (x5 x6 x7 : Int) (x8 : ByteArray) (x9 x10 : Int) (x11 : List AV) (x12 : Int) (x13 x14 : List AV) (x15 : Int) (x16 : Bool) (x17 : Int) : St := ⟨[],[(2,(.box [(iv 0),(iv 0),(iv 0),(.sl 2 []),(bv false),(iv 0),(iv 0),(iv 0),(sv (bs [])),(iv 0),(iv 0),(.sl 12 [])])),(7,(.box [(iv x0),(iv x1),(iv x2),(.sl 2 x3),(bv x4),(iv x5),(iv x6),(iv x7),(sv x8),(iv x9),(iv x10),(.sl 12 x11)])),(8,(iv x12)),(9,(.sl 12 x13)),(10,(.cap false 80 x14)),(11,(iv x15)),(12,(bv x16)),(13,(iv x17))],[],0⟩
def x_Number_1_0 (x0 x1 x2 : Int) (x3 : List AV) (x4 : Bool) (x5 x6 x7 : Int) (x8 : ByteArray) (x9 x10 : Int) (x11 : List AV) (x12 : Int) (x13 x14 : List AV) (x15 y16 : Int) : St := ⟨[],[(2,(.box [(iv 0),(iv 0),(iv 0),(.sl 2 []),(bv false),(iv 0),(iv 0),(iv 0),(sv (bs [])),(iv 0),(iv 0),(.sl 12 [])])),(3,(iv 0)),(4,(.sl 2 [])),(5,(iv 33)),(6,(iv y16))],[],0⟩
def x_Number_1_1 (x0 x1 x2 : Int) (x3 : List AV) (x4 : Bool) (x5 x6 x7 : Int) (x8 : ByteArray) (x9 x10 : Int) (x11 : List AV) (x12 : Int) (x13 x14 : List AV) (x15 : Int) (y16 : Bool) (y17 : Int) : St := ⟨[],[(2,(.box [(iv 0),(iv 0),(iv 0),(.sl 2 []),(bv false),(iv 0),(iv 0),(iv 0),(sv (bs [])),(iv 0),(iv 0),(.sl 12 [])])),(7,(.box [(iv x0),(iv x1),(iv x2),(.sl 2 x3),(bv x4),(iv x5),(iv x6),(iv x7),(sv x8),(iv x9),(iv x10),(.sl 12 x11)])),(8,(iv x12)),(9,(.sl 12 x13)),(10,(.cap false 80 x14)),(11,(iv x15)),(12,(bv y16)),(13,(iv y17)),(48,(bv false))],[],0⟩
abbrev E_Number_1 (x0 x1 x2 : Int) (x3 : List AV) (x4 : Bool) (x5 x6 x7 : Int) (x8 : ByteArray) (x9 x10 : Int) (x11 : List AV) (x12 : Int) (x13 x14 : List AV) (x15 : Int) (x16o : Bool) (x17o : Int) : Prop := ((∃ y18,out_Number_1_0 x0 x1 x2 x3 x4 x5 x6 x7 x8 x9 x10 x11 x12 x13 x14 x15 x16o x17o y18 ∧ R 16 1 (s_Number_1 x0 x1 x2 x3 x4 x5 x6 x7 x8 x9 x10 x11 x12 x13 x14 x15 x16o x17o) (Ex.ret,x_Number_1_0 x0 x1 x2 x3 x4 x5 x6 x7 x8 x9 x10 x11 x12 x13 x14 x15 y18)) ∨ (∃ y18 y19,out_Number_1_1 x0 x1 x2 x3 x4 x5 x6 x7 x8 x9 x10 x11 x12 x13 x14 x15 x16o x17o y18 y19 ∧ R 16 1 (s_Number_1 x0 x1 x2 x3 x4 x5 x6 x7 x8 x9 x10 x11 x12 x13 x14 x15 x16o x17o) ((Ex.exit 2),x_Number_1_1 x0 x1 x2 x3 x4 x5 x6 x7 x8 x9 x10 x11 x12 x13 x14 x15 y18 y19)))
abbrev j_Number_1 (nn : Nat) (x0 x1 x2 : Int) (x3 : List AV) (x4 : Bool) (x5 x6 x7 : Int) (x8 : ByteArray) (x9 x10 : Int) (x11 : List AV) (x12 : Int) (x13 x14 : List AV) (x15 : Int) (x16o : Bool) (x17o : Int) (f0 : Int → HC) (f1 : Bool → Int → HC) : HC := ⟨.ev nn (.ask (.or (eI fun y18=>.done (.exit Ex.ret (x_Number_1_0 x0 x1 x2 x3 x4 x5 x6 x7 x8 x9 x10 x11 x12 x13 x14 x15 y18) (out_Number_1_0 x0 x1 x2 x3 x4 x5 x6 x7 x8 x9 x10 x11 x12 x13 x14 x15 x16o x17o y18)) (f0 y18).h) (eB fun y18=>eI fun y19=>.done (.exit (Ex.exit 2) (x_Number_1_1 x0 x1 x2 x3 x4 x5 x6 x7 x8 x9 x10 x11 x12 x13 x14 x15 y18 y19) (out_Number_1_1 x0 x1 x2 x3 x4 x5 x6 x7 x8 x9 x10 x11 x12 x13 x14 x15 x16o x17o y18 y19)) (f1 y18 y19).h))),E_Number_1 x0 x1 x2 x3 x4 x5 x6 x7 x8 x9 x10 x11 x12 x13 x14 x15 x16o x17o ∧ ((∀ y18,out_Number_1_0 x0 x1 x2 x3 x4 x5 x6 x7 x8 x9 x10 x11 x12 x13 x14 x15 x16o x17o y18 → (f0 y18).p) ∧ (∀ y18 y19,out_Number_1_1 x0 x1 x2 x3 x4 x5 x6 x7 x8 x9 x10 x11 x12 x13 x14 x15 x16o x17o y18 y19 → (f1 y18 y19).p))⟩
abbrev t_Number_1 (x0 x1 x2 : Int) (x3 : List AV) (x4 : Bool) (x5 x6 x7 : Int) (x8 : ByteArray) (x9 x10 : Int) (x11 : List AV) (x12 : Int) (x13 x14 : List AV) (x15 : Int) (x16 : Bool) (x17 : Int) (Q : Ex → St → Prop) : HC := (dd 1 ((decide (x17 < (↑x14.length : Int)))) (oo 0 ((decide (0 ≤ x17))) (oo 1 ((x17.toNat.blt x14.length)) (pV2 0 ((x14[x17.toNat]?)) (fun (x18 : ByteArray) (x19 : Int)=>(.agg [(sv x18),(iv x19)])) fun x18 x19=>(oo 0 ((decide (0 ≤ x15))) (pN 1 ((x13[x15.toNat]?)) fun x20 x21 x22 x23 x24 x25 x26 x27 x28 x29 x30 x31=>(dd 1 ((x18.toList == x28.toList)) (oo 2 ((decide (0 ≤ x17))) (oo 1 ((x17.toNat.blt x14.length)) (pV2 2 ((x14[x17.toNat]?)) (fun (x32 : ByteArray) (x33 : Int)=>(.agg [(sv x32),(iv x33)])) fun x32 x33=>(oo 3 ((decide (0 ≤ x15))) (pN 1 ((x13[x15.toNat]?)) fun x34 x35 x36 x37 x38 x39 x40 x41 x42 x43 x44 x45=>(dd 5 ((!x33 == x39)) (oo 0 ((decide (0 ≤ x15))) (pN 1 ((x13[x15.toNat]?)) fun x46 x47 x48 x49 x50 x51 x52 x53 x54 x55 x56 x57=>(zz 0 (Q Ex.ret (x_Number_1_0 x0 x1 x2 x3 x4 x5 x6 x7 x8 x9 x10 x11 x12 x13 x14 x15 x47))))) (dd 0 x16 (zz 12 (Q .norm (s_Number_1 x0 x1 x2 x3 x4 x5 x6 x7 x8 x9 x10 x11 x12 x13 x14 x15 true (w6 (x17 + 1))))) (oo 2 ((decide (0 ≤ x17))) (oo 1 ((x17.toNat.blt x14.length)) (pV2 2 ((x14[x17.toNat]?)) (fun (x58 : ByteArray) (x59 : Int)=>(.agg [(sv x58),(iv x59)])) fun x58 x59=>(oo 3 ((decide (0 ≤ x15))) (pN 1 ((x13[x15.toNat]?)) fun x60 x61 x62 x63 x64 x65 x66 x67 x68 x69 x70 x71=>(zz 6 (Q .norm (s_Number_1 x0 x1 x2 x3 x4 x5 x6 x7 x8 x9 x10 x11 x12 x13 x14 x15 (x58.toList == x68.toList) (w6 (x17 + 1))))))))))))))))) (dd 12 x16 (zz 12 (Q .norm (s_Number_1 x0 x1 x2 x3 x4 x5 x6 x7 x8 x9 x10 x11 x12 x13 x14 x15 true (w6 (x17 + 1))))) (oo 2 ((decide (0 ≤ x17))) (oo 1 ((x17.toNat.blt x14.length)) (pV2 2 ((x14[x17.toNat]?)) (fun (x72 : ByteArray) (x73 : Int)=>(.agg [(sv x72),(iv x73)])) fun x72 x73=>(oo 3 ((decide (0 ≤ x15))) (pN 1 ((x13[x15.toNat]?)) fun x74 x75 x76 x77 x78 x79 x80 x81 x82 x83 x84 x85=>(zz 6 (Q .norm (s_Number_1 x0 x1 x2 x3 x4 x5 x6 x7 x8 x9 x10 x11 x12 x13 x14 x15 (x72.toList == x82.toList) (w6 (x17 + 1))))))))))))))))) (zz 0 (Q (Ex.exit 2) (x_Number_1_1 x0 x1 x2 x3 x4 x5 x6 x7 x8 x9 x10 x11 x12 x13 x14 x15 x16 x17))))
theorem l_Number_1 (x0 x1 x2 x3 x4 x5 x6 x7 x8 x9 x10 x11 x12 x13 x14 x15 x16 x17) (Q : Ex → St → Prop) (h : (t_Number_1 x0 x1 x2 x3 x4 x5 x6 x7 x8 x9 x10 x11 x12 x13 x14 x15 x16 x17 Q).p) : ∃ e s',L 16 1 (s_Number_1 x0 x1 x2 x3 x4 x5 x6 x7 x8 x9 x10 x11 x12 x13 x14 x15 x16 x17) (e,s') ∧ Q e s' :=
 Leads.wq (t_Number_1 x0 x1 x2 x3 x4 x5 x6 x7 x8 x9 x10 x11 x12 x13 x14 x15 x16 x17 Q).h (by kernel_rfl) h
theorem k_Number_1 {x0 x1 x2 x3 x4 x5 x6 x7 x8 x9 x10 x11 x12 x13 x14 x15 x16o x17o} (hi : inv_Number_1 x0 x1 x2 x3 x4 x5 x6 x7 x8 x9 x10 x11 x12 x13 x14 x15 x16o x17o x16o x17o) : E_Number_1 x0 x1 x2 x3 x4 x5 x6 x7 x8 x9 x10 x11 x12 x13 x14 x15 x16o x17o := by
 obtain ⟨e,s',hr,hq⟩ := Rounds.byInv (st := fun (w : Bool × Int)=>s_Number_1 x0 x1 x2 x3 x4 x5 x6 x7 x8 x9 x10 x11 x12 x13 x14 x15 w.1 w.2) (Inv := fun w=>inv_Number_1 x0 x1 x2 x3 x4 x5 x6 x7 x8 x9 x10 x11 x12 x13 x14 x15 x16o x17o w.1 w.2) (μ := fun w=>mu_Number_1 x0 x1 x2 x3 x4 x5 x6 x7 x8 x9 x10 x11 x12 x13 x14 x15 w.1 w.2) (Q := fun e s'=>((∃ y18,out_Number_1_0 x0 x1 x2 x3 x4 x5 x6 x7 x8 x9 x10 x11 x12 x13 x14 x15 x16o x17o y18 ∧ e = Ex.ret ∧ s' = x_Number_1_0 x0 x1 x2 x3 x4 x5 x6 x7 x8 x9 x10 x11 x12 x13 x14 x15 y18) ∨ (∃ y18 y19,out_Number_1_1 x0 x1 x2 x3 x4 x5 x6 x7 x8 x9 x10 x11 x12 x13 x14 x15 x16o x17o y18 y19 ∧ e = (Ex.exit 2) ∧ s' = x_Number_1_1 x0 x1 x2 x3 x4 x5 x6 x7 x8 x9 x10 x11 x12 x13 x14 x15 y18 y19))) (by
  rintro ⟨x16,x17⟩ hi
  have hi : inv_Number_1 x0 x1 x2 x3 x4 x5 x6 x7 x8 x9 x10 x11 x12 x13 x14 x15 x16o x17o x16 x17 := hi
  refine l_Number_1 x0 x1 x2 x3 x4 x5 x6 x7 x8 x9 x10 x11 x12 x13 x14 x15 x16 x17 _ ?_
  obtain ⟨_,_,_,_,_,_,_⟩ := hi
  apply bS <;> intro _
  ·refine ⟨tD,tD,tG,fun _ _ _=>?_⟩
   refine ⟨tD,tG,fun _ _ _ _ _ _ _ _ _ _ _ _ g36=>?_⟩
   have edg1009 := nsz_drop g36; first | (have eg36 := Ns.elem tA g36; have eng1009 := nsz_get g36; obtain ⟨_,_,_,_⟩ := eg36.nw) | (have eg36 := Nf.elem tA g36; have eng1009 := nsz_get g36; obtain ⟨_,_⟩ := eg36.nw)
   apply bS <;> intro _
   ·refine ⟨tD,tD,tG,fun _ _ _=>?_⟩
    refine ⟨tD,tG,fun _ _ _ _ _ _ _ _ _ _ _ _ g53=>?_⟩
    have edg1026 := nsz_drop g53; first | (have eg53 := Ns.elem tA g53; have eng1026 := nsz_get g53; obtain ⟨_,_,_,_⟩ := eg53.nw) | (have eg53 := Nf.elem tA g53; have eng1026 := nsz_get g53; obtain ⟨_,_⟩ := eg53.nw)
    apply bS <;> intro _
    ·refine ⟨tD,tG,fun _ _ _ _ _ _ _ _ _ _ _ _ g67=>?_⟩
     have edg1040 := nsz_drop g67; first | (have eg67 := Ns.elem tA g67; have eng1040 := nsz_get g67; obtain ⟨_,_,_,_⟩ := eg67.nw) | (have eg67 := Nf.elem tA g67; have eng1040 := nsz_get g67; obtain ⟨_,_⟩ := eg67.nw)
     exact .inr ⟨by simp,.inl ⟨_,tP,rfl,rfl⟩⟩
    apply bS <;> intro _
    ·try have := tW (x17 + 1)
     exact .inl ⟨rfl,(true,(w6 (x17 + 1))),rfl,tP,zb3x1⟩
    refine ⟨tD,tD,tG,fun x69 _ _=>?_⟩
    refine ⟨tD,tG,fun _ _ _ _ _ _ _ _ x80 _ _ _ g84=>?_⟩
    have edg1103 := nsz_drop g84; first | (have eg84 := Ns.elem tA g84; have eng1103 := nsz_get g84; obtain ⟨_,_,_,_⟩ := eg84.nw) | (have eg84 := Nf.elem tA g84; have eng1103 := nsz_get g84; obtain ⟨_,_⟩ := eg84.nw)
    try have := tW (x17 + 1)
    exact .inl ⟨rfl,((x69.toList == x80.toList),(w6 (x17 + 1))),rfl,tP,zb3x1⟩
   apply bS <;> intro _
   ·try have := tW (x17 + 1)
    exact .inl ⟨rfl,(true,(w6 (x17 + 1))),rfl,tP,zb3x1⟩
   refine ⟨tD,tD,tG,fun x86 _ _=>?_⟩
   refine ⟨tD,tG,fun _ _ _ _ _ _ _ _ x97 _ _ _ g101=>?_⟩
   have edg1180 := nsz_drop g101; first | (have eg101 := Ns.elem tA g101; have eng1180 := nsz_get g101; obtain ⟨_,_,_,_⟩ := eg101.nw) | (have eg101 := Nf.elem tA g101; have eng1180 := nsz_get g101; obtain ⟨_,_⟩ := eg101.nw)
   try have := tW (x17 + 1)
   exact .inl ⟨rfl,((x86.toList == x97.toList),(w6 (x17 + 1))),rfl,tP,zb3x1⟩
  exact .inr ⟨by simp,.inr (⟨_,_,tP,rfl,rfl⟩)⟩) (x16o,x17o) hi
 rcases hq with ⟨_,ho,rfl,rfl⟩ | ⟨_,_,ho,rfl,rfl⟩
 
 ·exact .inl ⟨_,ho,hr⟩
 ·exact .inr (⟨_,_,ho,hr⟩)
def s_Number_0 (x0 x1 x2 : Int) (x3 : List AV) (x4 : Bool) (x5 x6 x7 : Int) (x8 : ByteArray) (x9 x10 : Int) (x11 : List AV) (x12 : Int) (x13 x14 : List AV) (x15 : Int) : St := ⟨[],[(2,(.box [(iv 0),(iv 0),(iv 0),(.sl 2 []),(bv false),(iv 0),(iv 0),(iv 0),(sv (bs [])),(iv 0),(iv 0),(.sl 12 [])])),(7,(.box [(iv x0),(iv x1),(iv x2),(.sl 2 x3),(bv x4),(iv x5),(iv x6),(iv x7),(sv x8),(iv x9),(iv x10),(.sl 12 x11)])),(8,(iv x12)),(9,(.sl 12 x13)),(10,(.cap false 80 x14)),(11,(iv x15))],[],0⟩
def x_Number_0_0 (x0 x1 x2 : Int) (x3 : List AV) (x4 : Bool) (x5 x6 x7 : Int) (x8 : ByteArray) (x9 x10 : Int) (x11 : List AV) (x12 : Int) (x13 : List AV) (y14 y15 : Int) : St := ⟨[],[(2,(.box [(iv 0),(iv 0),(iv 0),(.sl 2 []),(bv false),(iv 0),(iv 0),(iv 0),(sv (bs [])),(iv 0),(iv 0),(.sl 12 [])])),(3,(iv 0)),(4,(.sl 2 [])),(5,(iv y14)),(6,(iv y15))],[],0⟩
def x_Number_0_1 (x0 x1 x2 : Int) (x3 : List AV) (x4 : Bool) (x5 x6 x7 : Int) (x8 : ByteArray) (x9 x10 : Int) (x11 : List AV) (x12 : Int) (x13 y14 : List AV) (y15 : Int) : St := ⟨[],[(2,(.box [(iv 0),(iv 0),(iv 0),(.sl 2 []),(bv false),(iv 0),(iv 0),(iv 0),(sv (bs [])),(iv 0),(iv 0),(.sl 12 [])])),(7,(.box [(iv x0),(iv x1),(iv x2),(.sl 2 x3),(bv x4),(iv x5),(iv x6),(iv x7),(sv x8),(iv x9),(iv x10),(.sl 12 x11)])),(8,(iv x12)),(9,(.sl 12 x13)),(10,(.cap false 80 y14)),(11,(iv y15)),(24,(bv false))],[],0⟩
abbrev E_Number_0 (x0 x1 x2 : Int) (x3 : List AV) (x4 : Bool) (x5 x6 x7 : Int) (x8 : ByteArray) (x9 x10 : Int) (x11 : List AV) (x12 : Int) (x13 x14o : List AV) (x15o : Int) : Prop := ((∃ y16 y17,out_Number_0_0 x0 x1 x2 x3 x4 x5 x6 x7 x8 x9 x10 x11 x12 x13 x14o x15o y16 y17 ∧ R 16 0 (s_Number_0 x0 x1 x2 x3 x4 x5 x6 x7 x8 x9 x10 x11 x12 x13 x14o x15o) (Ex.ret,x_Number_0_0 x0 x1 x2 x3 x4 x5 x6 x7 x8 x9 x10 x11 x12 x13 y16 y17)) ∨ (∃ y16 y17,out_Number_0_1 x0 x1 x2 x3 x4 x5 x6 x7 x8 x9 x10 x11 x12 x13 x14o x15o y16 y17 ∧ R 16 0 (s_Number_0 x0 x1 x2 x3 x4 x5 x6 x7 x8 x9 x10 x11 x12 x13 x14o x15o) ((.exit 0),x_Number_0_1 x0 x1 x2 x3 x4 x5 x6 x7 x8 x9 x10 x11 x12 x13 y16 y17)))
abbrev j_Number_0 (nn : Nat) (x0 x1 x2 : Int) (x3 : List AV) (x4 : Bool) (x5 x6 x7 : Int) (x8 : ByteArray) (x9 x10 : Int) (x11 : List AV) (x12 : Int) (x13 x14o : List AV) (x15o : Int) (f0 : Int → Int → HC) (f1 : List AV → Int → HC) : HC := ⟨.ev nn (.ask (.or (eI fun y16=>eI fun y17=>.done (.exit Ex.ret (x_Number_0_0 x0 x1 x2 x3 x4 x5 x6 x7 x8 x9 x10 x11 x12 x13 y16 y17) (out_Number_0_0 x0 x1 x2 x3 x4 x5 x6 x7 x8 x9 x10 x11 x12 x13 x14o x15o y16 y17)) (f0 y16 y17).h) (eL fun y16=>eI fun y17=>.done (.exit (.exit 0) (x_Number_0_1 x0 x1 x2 x3 x4 x5 x6 x7 x8 x9 x10 x11 x12 x13 y16 y17) (out_Number_0_1 x0 x1 x2 x3 x4 x5 x6 x7 x8 x9 x10 x11 x12 x13 x14o x15o y16 y17)) (f1 y16 y17).h))),E_Number_0 x0 x1 x2 x3 x4 x5 x6 x7 x8 x9 x10 x11 x12 x13 x14o x15o ∧ ((∀ y16 y17,out_Number_0_0 x0 x1 x2 x3 x4 x5 x6 x7 x8 x9 x10 x11 x12 x13 x14o x15o y16 y17 → (f0 y16 y17).p) ∧ (∀ y16 y17,out_Number_0_1 x0 x1 x2 x3 x4 x5 x6 x7 x8 x9 x10 x11 x12 x13 x14o x15o y16 y17 → (f1 y16 y17).p))⟩
abbrev t_Number_0 (x0 x1 x2 : Int) (x3 : List AV) (x4 : Bool) (x5 x6 x7 : Int) (x8 : ByteArray) (x9 x10 : Int) (x11 : List AV) (x12 : Int) (x13 x14 : List AV) (x15 : Int) (Q : Ex → St → Prop) : HC := (dd 1 ((decide (x15 < (↑x13.length : Int)))) (oo 0 ((decide (0 ≤ x15))) (pN 1 ((x13[x15.toNat]?)) fun x16 x17 x18 x19 x20 x21 x22 x23 x24 x25 x26 x27=>(dd 1 ((decide (x21 > 60))) (oo 0 ((decide (0 ≤ x15))) (pN 1 ((x13[x15.toNat]?)) fun x28 x29 x30 x31 x32 x33 x34 x35 x36 x37 x38 x39=>(zz 0 (Q Ex.ret (x_Number_0_0 x0 x1 x2 x3 x4 x5 x6 x7 x8 x9 x10 x11 x12 x13 12 x29))))) (oo 0 ((decide (0 ≤ x15))) (pN 1 ((x13[x15.toNat]?)) fun x40 x41 x42 x43 x44 x45 x46 x47 x48 x49 x50 x51=>(dd 1 ((x48.toList == (bs []).toList)) (zz 1 (Q .norm (s_Number_0 x0 x1 x2 x3 x4 x5 x6 x7 x8 x9 x10 x11 x12 x13 x14 (w6 (x15 + 1))))) (j_Number_1 0 x0 x1 x2 x3 x4 x5 x6 x7 x8 x9 x10 x11 x12 x13 x14 x15 false 0 (fun x52=>(zz 0 (Q Ex.ret (x_Number_0_0 x0 x1 x2 x3 x4 x5 x6 x7 x8 x9 x10 x11 x12 x13 33 x52)))) (fun x53 x54=>(dd 1 ((!x53)) (oo 0 ((decide (0 ≤ x15))) (pN 1 ((x13[x15.toNat]?)) fun x55 x56 x57 x58 x59 x60 x61 x62 x63 x64 x65 x66=>(oo 0 ((decide (0 ≤ x15))) (pN 1 ((x13[x15.toNat]?)) fun x67 x68 x69 x70 x71 x72 x73 x74 x75 x76 x77 x78=>(oo 0 ((roomD pr 80 x14.length 1)) (zz 1 (Q .norm (s_Number_0 x0 x1 x2 x3 x4 x5 x6 x7 x8 x9 x10 x11 x12 x13 (x14 ++ [AV.agg [sv x63,iv x72]]) (w6 (x15 + 1)))))))))) (zz 1 (Q .norm (s_Number_0 x0 x1 x2 x3 x4 x5 x6 x7 x8 x9 x10 x11 x12 x13 x14 (w6 (x15 + 1)))))))))))))) (zz 0 (Q (.exit 0) (x_Number_0_1 x0 x1 x2 x3 x4 x5 x6 x7 x8 x9 x10 x11 x12 x13 x14 x15))))
theorem l_Number_0 (x0 x1 x2 x3 x4 x5 x6 x7 x8 x9 x10 x11 x12 x13 x14 x15) (Q : Ex → St → Prop) (h : (t_Number_0 x0 x1 x2 x3 x4 x5 x6 x7 x8 x9 x10 x11 x12 x13 x14 x15 Q).p) : ∃ e s',L 16 0 (s_Number_0 x0 x1 x2 x3 x4 x5 x6 x7 x8 x9 x10 x11 x12 x13 x14 x15) (e,s') ∧ Q e s' :=
 Leads.wq (t_Number_0 x0 x1 x2 x3 x4 x5 x6 x7 x8 x9 x10 x11 x12 x13 x14 x15 Q).h (by kernel_rfl) h
theorem k_Number_0 {x0 x1 x2 x3 x4 x5 x6 x7 x8 x9 x10 x11 x12 x13 x14o x15o} (hi : inv_Number_0 x0 x1 x2 x3 x4 x5 x6 x7 x8 x9 x10 x11 x12 x13 x14o x15o x14o x15o) : E_Number_0 x0 x1 x2 x3 x4 x5 x6 x7 x8 x9 x10 x11 x12 x13 x14o x15o := by
 obtain ⟨e,s',hr,hq⟩ := Rounds.byInv (st := fun (w : (List AV) × Int)=>s_Number_0 x0 x1 x2 x3 x4 x5 x6 x7 x8 x9 x10 x11 x12 x13 w.1 w.2) (Inv := fun w=>inv_Number_0 x0 x1 x2 x3 x4 x5 x6 x7 x8 x9 x10 x11 x12 x13 x14o x15o w.1 w.2) (μ := fun w=>mu_Number_0 x0 x1 x2 x3 x4 x5 x6 x7 x8 x9 x10 x11 x12 x13 w.1 w.2) (Q := fun e s'=>((∃ y16 y17,out_Number_0_0 x0 x1 x2 x3 x4 x5 x6 x7 x8 x9 x10 x11 x12 x13 x14o x15o y16 y17 ∧ e = Ex.ret ∧ s' = x_Number_0_0 x0 x1 x2 x3 x4 x5 x6 x7 x8 x9 x10 x11 x12 x13 y16 y17) ∨ (∃ y16 y17,out_Number_0_1 x0 x1 x2 x3 x4 x5 x6 x7 x8 x9 x10 x11 x12 x13 x14o x15o y16 y17 ∧ e = (.exit 0) ∧ s' = x_Number_0_1 x0 x1 x2 x3 x4 x5 x6 x7 x8 x9 x10 x11 x12 x13 y16 y17))) (by
  rintro ⟨x14,x15⟩ hi
  have hi : inv_Number_0 x0 x1 x2 x3 x4 x5 x6 x7 x8 x9 x10 x11 x12 x13 x14o x15o x14 x15 := hi
  refine l_Number_0 x0 x1 x2 x3 x4 x5 x6 x7 x8 x9 x10 x11 x12 x13 x14 x15 _ ?_
  obtain ⟨⟨_,_,_,_⟩,_,_,_,_,_,_,_⟩ := hi
  apply bS <;> intro _
  ·refine ⟨tD,tG,fun _ _ _ _ _ _ _ _ _ _ _ _ g31=>?_⟩
   have edg611 := nsz_drop g31; first | (have eg31 := Ns.elem tA g31; have eng611 := nsz_get g31; obtain ⟨_,_,_,_⟩ := eg31.nw) | (have eg31 := Nf.elem tA g31; have eng611 := nsz_get g31; obtain ⟨_,_⟩ := eg31.nw)
   apply bS <;> intro _
   ·refine ⟨tD,tG,fun _ _ _ _ _ _ _ _ _ _ _ _ g45=>?_⟩
    have edg625 := nsz_drop g45; first | (have eg45 := Ns.elem tA g45; have eng625 := nsz_get g45; obtain ⟨_,_,_,_⟩ := eg45.nw) | (have eg45 := Nf.elem tA g45; have eng625 := nsz_get g45; obtain ⟨_,_⟩ := eg45.nw)
    exact .inr ⟨by simp,.inl ⟨_,_,tP,rfl,rfl⟩⟩
   refine ⟨tD,tG,fun _ _ _ _ _ _ _ _ _ _ _ _ g58=>?_⟩
   have edg654 := nsz_drop g58; first | (have eg58 := Ns.elem tA g58; have eng654 := nsz_get g58; obtain ⟨_,_,_,_⟩ := eg58.nw) | (have eg58 := Nf.elem tA g58; have eng654 := nsz_get g58; obtain ⟨_,_⟩ := eg58.nw)
   apply bS <;> intro h59
   ·try replace h59 := nz h59
    try have := tW (x15 + 1)
    exact .inl ⟨rfl,(x14,(w6 (x15 + 1))),rfl,tP,by unfold mu_Number_0; exact tI⟩
   try replace h59 := nz h59
   refine ⟨k_Number_1 tP,fun _ _=>?_,fun _ _ _=>?_⟩
   ·exact .inr ⟨by simp,.inl ⟨_,_,tP,rfl,rfl⟩⟩
   apply bS <;> intro _
   ·refine ⟨tD,tG,fun _ _ _ _ _ _ _ _ x74 _ _ _ g78=>?_⟩
    have edg1276 := nsz_drop g78; first | (have eg78 := Ns.elem tA g78; have eng1276 := nsz_get g78; obtain ⟨_,_,_,_⟩ := eg78.nw) | (have eg78 := Nf.elem tA g78; have eng1276 := nsz_get g78; obtain ⟨_,_⟩ := eg78.nw)
    refine ⟨tD,tG,fun _ _ _ _ _ x84 _ _ _ _ _ _ g91=>?_⟩
    have edg1289 := nsz_drop g91; first | (have eg91 := Ns.elem tA g91; have eng1289 := nsz_get g91; obtain ⟨_,_,_,_⟩ := eg91.nw) | (have eg91 := Nf.elem tA g91; have eng1289 := nsz_get g91; obtain ⟨_,_⟩ := eg91.nw)
    refine ⟨tR,?_⟩
    try have := tW (x15 + 1)
    exact .inl ⟨rfl,((x14 ++ [AV.agg [sv x74,iv x84]]),(w6 (x15 + 1))),rfl,tP,by unfold mu_Number_0; exact tI⟩
   try have := tW (x15 + 1)
   exact .inl ⟨rfl,(x14,(w6 (x15 + 1))),rfl,tP,by unfold mu_Number_0; exact tI⟩
  exact .inr ⟨by simp,.inr (⟨_,_,tP,rfl,rfl⟩)⟩) (x14o,x15o) hi
 rcases hq with ⟨_,_,ho,rfl,rfl⟩ | ⟨_,_,ho,rfl,rfl⟩
 
 ·exact .inl ⟨_,_,ho,hr⟩
 ·exact .inr (⟨_,_,ho,hr⟩)
abbrev t_Number (x0 x1 x2 : Int) (x3 : List AV) (x4 : Bool) (x5 x6 x7 : Int) (x8 : ByteArray) (x9 x10 : Int) (x11 : List AV) (Q : AV → HH → Prop) : HC := (oo 0 ((npL [(.agg (nR x0 x1 x2 x3 x4 x5 x6 x7 x8 x9 x10 x11)),(iv 0)])) (j_number9 0 x0 x1 x2 x3 x4 x5 x6 x7 x8 x9 x10 x11 0 fun x12 x13 x14 x15 x16 x17 x18 x19 x20 x21 x22 x23 x24=>(oo 0 ((npL [(.agg (nR x12 x13 x14 x15 x16 x17 x18 x19 x20 x21 x22 x23))])) (j_caps 0 x12 x13 x14 x15 x16 x17 x18 x19 x20 x21 x22 x23 fun x25=>(j_Number_0 0 x12 x13 x14 x15 x16 x17 x18 x19 x20 x21 x22 x23 x24 x25 [] 0 (fun x26 x27=>(qq 1 Q (.tup [(.agg (nR 0 0 0 [] false 0 0 0 (bs []) 0 0 [])),(iv 0),(.sl 2 []),(iv x26),(iv x27)]))) (fun x28 x29=>(qq 1 Q (.tup [(.agg (nR x12 x13 x14 x15 x16 x17 x18 x19 x20 x21 x22 x23)),(iv x24),(.sl 2 x28),(iv 0),(iv 0)]))))))))
theorem w_Number (x0 x1 x2 x3 x4 x5 x6 x7 x8 x9 x10 x11) (Q : AV → HH → Prop) (h : (t_Number x0 x1 x2 x3 x4 x5 x6 x7 x8 x9 x10 x11 Q).p) : ∃ r H',A 16 [(.agg (nR x0 x1 x2 x3 x4 x5 x6 x7 x8 x9 x10 x11))] [] r H' ∧ Q r H' :=
 Ans.wq rfl (t_Number x0 x1 x2 x3 x4 x5 x6 x7 x8 x9 x10 x11 Q).h (by kernel_rfl) h
theorem c_Number {x0 x1 x2 x3 x4 x5 x6 x7 x8 x9 x10 x11} (hp : pre_Number x0 x1 x2 x3 x4 x5 x6 x7 x8 x9 x10 x11) : E_Number x0 x1 x2 x3 x4 x5 x6 x7 x8 x9 x10 x11 := by
 obtain ⟨_,_,ha,_,_,_,_,_,_,_,_,_,_,_,_,_,_,_,_,hq,rfl,rfl⟩ := w_Number x0 x1 x2 x3 x4 x5 x6 x7 x8 x9 x10 x11 (fun r H'=>∃ x12 x13 x14 x15 x16 x17 x18 x19 x20 x21 x22 x23 x24 x25 x26 x27,post_Number x0 x1 x2 x3 x4 x5 x6 x7 x8 x9 x10 x11 x12 x13 x14 x15 x16 x17 x18 x19 x20 x21 x22 x23 x24 x25 x26 x27 ∧ r = (.tup [(.agg [(iv x12),(iv x13),(iv x14),(.sl 2 x15),(bv x16),(iv x17),(iv x18),(iv x19),(sv x20),(iv x21),(iv x22),(.sl 12 x23)]),(iv x24),(.sl 2 x25),(iv x26),(iv x27)]) ∧ H' = []) (by
  obtain ⟨⟨_,_,_,_⟩,_⟩ := hp
  refine ⟨tN,c_number9 tP,fun _ _ _ _ _ _ _ _ _ _ _ _ _ p41=>?_⟩
  obtain ⟨⟨_,_,_,_⟩,_,_,_⟩ := p41
  refine ⟨tN,c_caps tP,fun _ p43=>?_⟩
  obtain ⟨_,_⟩ := p43
  refine ⟨k_Number_0 tP,fun _ _ e46=>?_,fun _ _ e49=>?_⟩
  ·have e46_0 := e46
   unfold out_Number_0_0 at e46_0
   try replace e46_0 := nz e46_0
   exact ⟨0,0,0,_,_,0,0,0,_,0,0,_,0,_,_,_,tP,rfl,rfl⟩
  obtain ⟨e49_0,e49_1⟩ := e49
  try replace e49_0 := nz e49_0
  try replace e49_1 := nz e49_1
  exact ⟨_,_,_,_,_,_,_,_,_,_,_,_,_,_,0,0,tP,rfl,rfl⟩)
 exact ⟨_,_,_,_,_,_,_,_,_,_,_,_,_,_,_,_,hq,ha⟩
abbrev E_alternatives (L : List AV) (I O E At : Int) : Prop := ∃ x0 x1 x2 x3 x4,post_alternatives L I O E At x0 x1 x2 x3 x4 ∧ A 27 [(.ptr 0 0)] [[(.sl 12 L),(iv I),(iv O),(iv E),(iv At)]] (.sl 12 x0) [[(.sl 12 L),(iv x1),(iv x2),(iv x3),(iv x4)]]
abbrev j_alternatives (nn : Nat) (L : List AV) (I O E At : Int) (kK : List AV → Int → Int → Int → Int → HC) : HC := ⟨.ev nn (.ask (eL fun x0=>eI fun x1=>eI fun x2=>eI fun x3=>eI fun x4=>.done (.res (.sl 12 x0) [[(.sl 12 L),(iv x1),(iv x2),(iv x3),(iv x4)]] (post_alternatives L I O E At x0 x1 x2 x3 x4)) ((kK x0 x1 x2 x3 x4).h))),E_alternatives L I O E At ∧ (∀ x0 x1 x2 x3 x4,post_alternatives L I O E At x0 x1 x2 x3 x4 → (kK x0 x1 x2 x3 x4).p)⟩
def IH_alternatives (b : Nat) : Prop := ∀ {L : List AV} {I : Int} {O : Int} {E : Int} {At : Int},rank_alternatives (L) (I) (O) (E) (At) < b → pre_alternatives (L) (I) (O) (E) (At) → E_alternatives (L) (I) (O) (E) (At)
theorem IH_alternatives_le (b c : Nat) (h : b ≤ c) (k : IH_alternatives c) : IH_alternatives b := fun hr hp=>k (Nat.lt_of_lt_of_le hr h) hp
abbrev E_fail (e at' : Int) (L : List AV) (I O E At : Int) : Prop := ∃ x0 x1,post_fail e at' L I O E At x0 x1 ∧ A 28 [(.ptr 0 0),(iv e),(iv at')] [[(.sl 12 L),(iv I),(iv O),(iv E),(iv At)]] (.tup []) [[(.sl 12 L),(iv I),(iv O),(iv x0),(iv x1)]]
abbrev j_fail (nn : Nat) (e at' : Int) (L : List AV) (I O E At : Int) (kK : Int → Int → HC) : HC := ⟨.ev nn (.ask (eI fun x0=>eI fun x1=>.done (.res (.tup []) [[(.sl 12 L),(iv I),(iv O),(iv x0),(iv x1)]] (post_fail e at' L I O E At x0 x1)) ((kK x0 x1).h))),E_fail e at' L I O E At ∧ (∀ x0 x1,post_fail e at' L I O E At x0 x1 → (kK x0 x1).p)⟩
abbrev t_fail (e at' : Int) (L : List AV) (I O E At : Int) (Q : AV → HH → Prop) : HC := (dd 1 ((E == 0)) (zz 1 (Q (.tup []) [[(.sl 12 L),(iv I),(iv O),(iv e),(iv at')]])) (zz 1 (Q (.tup []) [[(.sl 12 L),(iv I),(iv O),(iv E),(iv At)]])))
theorem w_fail (e at' L I O E At) (Q : AV → HH → Prop) (h : (t_fail e at' L I O E At Q).p) : ∃ r H',A 28 [(.ptr 0 0),(iv e),(iv at')] [[(.sl 12 L),(iv I),(iv O),(iv E),(iv At)]] r H' ∧ Q r H' :=
 Ans.wq rfl (t_fail e at' L I O E At Q).h (by kernel_rfl) h
theorem c_fail {e at' L I O E At} (hp : pre_fail e at' L I O E At) : E_fail e at' L I O E At := by
 obtain ⟨_,_,ha,_,_,hq,rfl,rfl⟩ := w_fail e at' L I O E At (fun r H'=>∃ x0 x1,post_fail (e) (at') (L) (I) (O) (E) (At) x0 x1 ∧ r = (.tup []) ∧ H' = [[(.sl 12 (L)),(iv (I)),(iv (O)),(iv x0),(iv x1)]]) (by
  have hp_0 := hp
  unfold pre_fail at hp_0
  refine bS (fun _=>⟨_,_,tP,rfl,rfl⟩) fun _=>?_
  exact ⟨_,_,tP,rfl,rfl⟩)
 exact ⟨_,_,hq,ha⟩
abbrev E_one7 (x0 : Int) (x1 : List AV) : Prop := ∃ x2 x3 x4 x5 x6 x7 x8 x9 x10 x11 x12 x13,post_one7 x0 x1 x2 x3 x4 x5 x6 x7 x8 x9 x10 x11 x12 x13 ∧ A 29 [(iv x0),(.sl 12 x1)] [] (.agg (nR x2 x3 x4 x5 x6 x7 x8 x9 x10 x11 x12 x13)) []
abbrev j_one7 (nn : Nat) (x0 : Int) (x1 : List AV) (kK : Int → Int → Int → List AV → Bool → Int → Int → Int → ByteArray → Int → Int → List AV → HC) : HC := ⟨.ev nn (.ask (eN fun x2 x3 x4 x5 x6 x7 x8 x9 x10 x11 x12 x13=>.done (.res (.agg (nR x2 x3 x4 x5 x6 x7 x8 x9 x10 x11 x12 x13)) [] (post_one7 x0 x1 x2 x3 x4 x5 x6 x7 x8 x9 x10 x11 x12 x13)) ((kK x2 x3 x4 x5 x6 x7 x8 x9 x10 x11 x12 x13).h))),E_one7 x0 x1 ∧ (∀ x2 x3 x4 x5 x6 x7 x8 x9 x10 x11 x12 x13,post_one7 x0 x1 x2 x3 x4 x5 x6 x7 x8 x9 x10 x11 x12 x13 → (kK x2 x3 x4 x5 x6 x7 x8 x9 x10 x11 x12 x13).p)⟩
abbrev t_one7 (x0 : Int) (x1 : List AV) (Q : AV → HH → Prop) : HC := (dd 1 (((↑x1.length : Int) == 1)) (pN 2 ((x1[0]?)) fun x2 x3 x4 x5 x6 x7 x8 x9 x10 x11 x12 x13=>(qq 1 Q (.agg (nR x2 x3 x4 x5 x6 x7 x8 x9 x10 x11 x12 x13)))) (qq 1 Q (.agg (nR x0 0 0 [] false 0 0 0 (bs []) 0 0 x1))))
theorem w_one7 (x0 x1) (Q : AV → HH → Prop) (h : (t_one7 x0 x1 Q).p) : ∃ r H',A 29 [(iv x0),(.sl 12 x1)] [] r H' ∧ Q r H' :=
 Ans.wq rfl (t_one7 x0 x1 Q).h (by kernel_rfl) h
theorem c_one7 {x0 x1} (hp : pre_one7 x0 x1) : E_one7 x0 x1 := by
 obtain ⟨_,_,ha,_,_,_,_,_,_,_,_,_,_,_,_,hq,rfl,rfl⟩ := w_one7 x0 x1 (fun r H'=>∃ x2 x3 x4 x5 x6 x7 x8 x9 x10 x11 x12 x13,post_one7 x0 x1 x2 x3 x4 x5 x6 x7 x8 x9 x10 x11 x12 x13 ∧ r = (.agg [(iv x2),(iv x3),(iv x4),(.sl 2 x5),(bv x6),(iv x7),(iv x8),(iv x9),(sv x10),(iv x11),(iv x12),(.sl 12 x13)]) ∧ H' = []) (by
  obtain ⟨_,_,_⟩ := hp
  apply bS <;> intro _
  ·refine ⟨tG,fun _ _ _ _ _ _ _ _ _ _ _ _ g27=>?_⟩
   first | (have q := elN tA g27; obtain ⟨_,_,_,_,_,_,_⟩ := q) | (have q := elF tA g27; obtain ⟨_,_,_,_,_⟩ := q)
   exact ⟨_,_,_,_,_,_,_,_,_,_,_,_,by refine ⟨?_,?_,?_,fun h=>?_⟩ <;> first | omega | (with_reducible assumption) | exact Rs.nil | exact (Ns.elem h zb3x2).nw | exact ⟨SetR.nil,h,h.len,by rw [shapeN_eq]; refine ⟨fun _ _=>?_,fun _=>?_,fun _=>?_,fun _=>?_,fun _=>?_,fun _=>?_⟩ <;> omega⟩,rfl,rfl⟩
  exact ⟨_,0,0,_,_,0,0,0,_,0,0,_,by refine ⟨?_,?_,?_,fun h=>?_⟩ <;> first | omega | (with_reducible assumption) | exact Rs.nil | exact (Ns.elem h zb3x2).nw | exact ⟨SetR.nil,h,h.len,by rw [shapeN_eq]; refine ⟨fun _ _=>?_,fun _=>?_,fun _=>?_,fun _=>?_,fun _=>?_,fun _=>?_⟩ <;> omega⟩,rfl,rfl⟩)
 exact ⟨_,_,_,_,_,_,_,_,_,_,_,_,hq,ha⟩
abbrev E_kind (L : List AV) (I O E At : Int) : Prop := ∃ x0,post_kind L I O E At x0 ∧ A 54 [(.ptr 0 0)] [[(.sl 12 L),(iv I),(iv O),(iv E),(iv At)]] (iv x0) [[(.sl 12 L),(iv I),(iv O),(iv E),(iv At)]]
abbrev j_kind (nn : Nat) (L : List AV) (I O E At : Int) (kK : Int → HC) : HC := ⟨.ev nn (.ask (eI fun x0=>.done (.res (iv x0) [[(.sl 12 L),(iv I),(iv O),(iv E),(iv At)]] (post_kind L I O E At x0)) ((kK x0).h))),E_kind L I O E At ∧ (∀ x0,post_kind L I O E At x0 → (kK x0).p)⟩
abbrev t_kind (L : List AV) (I O E At : Int) (Q : AV → HH → Prop) : HC := (dd 1 ((decide (I ≥ (↑L.length : Int)))) (zz 7 (Q (iv 0) [[(.sl 12 L),(iv I),(iv O),(iv E),(iv At)]])) (dd 6 ((!E == 0)) (zz 1 (Q (iv 0) [[(.sl 12 L),(iv I),(iv O),(iv E),(iv At)]])) (oo 0 ((decide (0 ≤ I))) (pT 1 ((L[I.toNat]?)) fun x0 x1 x2 x3 x4 x5 x6 x7 x8 x9 x10 x11=>(zz 1 (Q (iv x0) [[(.sl 12 L),(iv I),(iv O),(iv E),(iv At)]]))))))
theorem w_kind (L I O E At) (Q : AV → HH → Prop) (h : (t_kind L I O E At Q).p) : ∃ r H',A 54 [(.ptr 0 0)] [[(.sl 12 L),(iv I),(iv O),(iv E),(iv At)]] r H' ∧ Q r H' :=
 Ans.wq rfl (t_kind L I O E At Q).h (by kernel_rfl) h
theorem c_kind {L I O E At} (hp : pre_kind L I O E At) : E_kind L I O E At := by
 obtain ⟨_,_,ha,_,hq,rfl,rfl⟩ := w_kind L I O E At (fun r H'=>∃ x0,post_kind (L) (I) (O) (E) (At) x0 ∧ r = (iv x0) ∧ H' = [[(.sl 12 (L)),(iv (I)),(iv (O)),(iv (E)),(iv (At))]]) (by
  obtain ⟨_,_⟩ := hp
  apply bS <;> intro _
  ·exact ⟨0,by grind [kindOf,kind_of],rfl,rfl⟩
  apply bS <;> intro _
  ·exact ⟨0,by grind [kindOf,kind_of],rfl,rfl⟩
  refine ⟨tD,tG,fun _ _ _ _ _ _ _ _ _ _ _ _ g15=>?_⟩
  have eg15 := Ts.elem tA g15; obtain ⟨_,_⟩ := id eg15; try have ekg20 := kind_at tA g15 (by omega)
  exact ⟨_,by grind [kindOf,kind_of],rfl,rfl⟩)
 exact ⟨_,hq,ha⟩
abbrev E_sequence (L : List AV) (I O E At : Int) : Prop := ∃ x0 x1 x2 x3 x4 x5 x6 x7 x8 x9 x10 x11 x12 x13 x14 x15,post_sequence L I O E At x0 x1 x2 x3 x4 x5 x6 x7 x8 x9 x10 x11 x12 x13 x14 x15 ∧ A 53 [(.ptr 0 0)] [[(.sl 12 L),(iv I),(iv O),(iv E),(iv At)]] (.agg (nR x0 x1 x2 x3 x4 x5 x6 x7 x8 x9 x10 x11)) [[(.sl 12 L),(iv x12),(iv x13),(iv x14),(iv x15)]]
abbrev j_sequence (nn : Nat) (L : List AV) (I O E At : Int) (kK : Int → Int → Int → List AV → Bool → Int → Int → Int → ByteArray → Int → Int → List AV → Int → Int → Int → Int → HC) : HC := ⟨.ev nn (.ask (eN fun x0 x1 x2 x3 x4 x5 x6 x7 x8 x9 x10 x11=>eI fun x12=>eI fun x13=>eI fun x14=>eI fun x15=>.done (.res (.agg (nR x0 x1 x2 x3 x4 x5 x6 x7 x8 x9 x10 x11)) [[(.sl 12 L),(iv x12),(iv x13),(iv x14),(iv x15)]] (post_sequence L I O E At x0 x1 x2 x3 x4 x5 x6 x7 x8 x9 x10 x11 x12 x13 x14 x15)) ((kK x0 x1 x2 x3 x4 x5 x6 x7 x8 x9 x10 x11 x12 x13 x14 x15).h))),E_sequence L I O E At ∧ (∀ x0 x1 x2 x3 x4 x5 x6 x7 x8 x9 x10 x11 x12 x13 x14 x15,post_sequence L I O E At x0 x1 x2 x3 x4 x5 x6 x7 x8 x9 x10 x11 x12 x13 x14 x15 → (kK x0 x1 x2 x3 x4 x5 x6 x7 x8 x9 x10 x11 x12 x13 x14 x15).p)⟩
def IH_sequence (b : Nat) : Prop := ∀ {L : List AV} {I : Int} {O : Int} {E : Int} {At : Int},rank_sequence (L) (I) (O) (E) (At) < b → pre_sequence (L) (I) (O) (E) (At) → E_sequence (L) (I) (O) (E) (At)
theorem IH_sequence_le (b c : Nat) (h : b ≤ c) (k : IH_sequence c) : IH_sequence b := fun hr hp=>k (Nat.lt_of_lt_of_le hr h) hp
def s_alternatives_0 (x0 x1 : List AV) (x2 x3 x4 x5 : Int) : St := ⟨[],[(0,(.ptr 0 0)),(3,(.cap false 27 x1))],[[(.sl 12 x0),(iv x2),(iv x3),(iv x4),(iv x5)]],0⟩
def x_alternatives_0_0 (x0 y1 : List AV) (y2 y3 y4 y5 : Int) : St := ⟨[],[(0,(.ptr 0 0)),(3,(.cap false 27 y1)),(9,(bv false))],[[(.sl 12 x0),(iv y2),(iv y3),(iv y4),(iv y5)]],0⟩
abbrev E_alternatives_0 (x0 x1o : List AV) (x2o x3o x4o x5o : Int) : Prop := (∃ y6 y7 y8 y9 y10,out_alternatives_0_0 x0 x1o x2o x3o x4o x5o y6 y7 y8 y9 y10 ∧ R 27 0 (s_alternatives_0 x0 x1o x2o x3o x4o x5o) ((.exit 0),x_alternatives_0_0 x0 y6 y7 y8 y9 y10))
abbrev j_alternatives_0 (nn : Nat) (x0 x1o : List AV) (x2o x3o x4o x5o : Int) (f0 : List AV → Int → Int → Int → Int → HC) : HC := ⟨.ev nn (.ask (eL fun y6=>eI fun y7=>eI fun y8=>eI fun y9=>eI fun y10=>.done (.exit (.exit 0) (x_alternatives_0_0 x0 y6 y7 y8 y9 y10) (out_alternatives_0_0 x0 x1o x2o x3o x4o x5o y6 y7 y8 y9 y10)) (f0 y6 y7 y8 y9 y10).h)),E_alternatives_0 x0 x1o x2o x3o x4o x5o ∧ (∀ y6 y7 y8 y9 y10,out_alternatives_0_0 x0 x1o x2o x3o x4o x5o y6 y7 y8 y9 y10 → (f0 y6 y7 y8 y9 y10).p)⟩
abbrev t_alternatives_0 (x0 x1 : List AV) (x2 x3 x4 x5 : Int) (Q : Ex → St → Prop) : HC := (j_kind 1 x0 x2 x3 x4 x5 fun x6=>(dd 1 ((x6 == 7)) (j_sequence 2 x0 (w6 (x2 + 1)) x3 x4 x5 fun x7 x8 x9 x10 x11 x12 x13 x14 x15 x16 x17 x18 x19 x20 x21 x22=>(oo 0 ((roomD pr 27 x1.length 1)) (zz 0 (Q .norm (s_alternatives_0 x0 (x1 ++   [AV.agg (nR x7 x8 x9 x10 x11 x12 x13 x14 x15 x16 x17 x18)]) x19 x20 x21 x22))))) (zz 0 (Q (.exit 0) (x_alternatives_0_0 x0 x1 x2 x3 x4 x5)))))
theorem l_alternatives_0 (x0 x1 x2 x3 x4 x5) (Q : Ex → St → Prop) (h : (t_alternatives_0 x0 x1 x2 x3 x4 x5 Q).p) : ∃ e s',L 27 0 (s_alternatives_0 x0 x1 x2 x3 x4 x5) (e,s') ∧ Q e s' :=
 Leads.wq (t_alternatives_0 x0 x1 x2 x3 x4 x5 Q).h (by kernel_rfl) h
theorem k_alternatives_0 {B : Nat} (ih_sequence : IH_sequence B) {x0 x1o x2o x3o x4o x5o} (hi : inv_alternatives_0 B x0 x1o x2o x3o x4o x5o x1o x2o x3o x4o x5o) : E_alternatives_0 x0 x1o x2o x3o x4o x5o := by
 obtain ⟨e,s',hr,hq⟩ := Rounds.byInv (st := fun (w : (List AV) × Int × Int × Int × Int)=>s_alternatives_0 x0 w.1 w.2.1 w.2.2.1 w.2.2.2.1 w.2.2.2.2) (Inv := fun w=>inv_alternatives_0 B x0 x1o x2o x3o x4o x5o w.1 w.2.1 w.2.2.1 w.2.2.2.1 w.2.2.2.2) (μ := fun w=>mu_alternatives_0 x0 w.1 w.2.1 w.2.2.1 w.2.2.2.1 w.2.2.2.2) (Q := fun e s'=>(∃ y6 y7 y8 y9 y10,out_alternatives_0_0 x0 x1o x2o x3o x4o x5o y6 y7 y8 y9 y10 ∧ e = (.exit 0) ∧ s' = x_alternatives_0_0 x0 y6 y7 y8 y9 y10)) (by
  rintro ⟨x1,x2,x3,x4,x5⟩ hi
  have hi : inv_alternatives_0 B x0 x1o x2o x3o x4o x5o x1 x2 x3 x4 x5 := hi
  refine l_alternatives_0 x0 x1 x2 x3 x4 x5 _ ?_
  obtain ⟨hi_0,hi_1,hi_2,hi_3,hi_4,hi_5,hi_6,hi_7,hi_8,hi_9,hi_10,hi_11,hi_12,hi_13,hi_14,hi_15⟩ := hi
  try simp only [lN] at hi_0 hi_1 hi_2 hi_3 hi_4 hi_5 hi_6 hi_7 hi_8 hi_9 hi_10 hi_11 hi_12 hi_13 hi_14 hi_15
  refine ⟨c_kind tP,fun _ p12=>?_⟩
  try simp only [lN] at p12
  obtain ⟨_,_,_⟩ := p12
  apply bS <;> intro _
  ·try have := tW (x2 + 1)
   refine ⟨ih_sequence (by (try unfold rank_sequence); (try unfold rank_alternatives); exact tI) tP,fun x14 x15 x16 x17 x18 x19 x20 x21 x22 x23 x24 x25 x26 x27 x28 x29 p30=>?_⟩
   try simp only [lN] at p30
   obtain ⟨_,_,_,_,_,_,_,_,_,_⟩ := p30
   refine ⟨tR,?_⟩
   exact .inl ⟨rfl,((x1 ++   [AV.agg [iv x14,iv x15,iv x16,AV.sl 2 x17,bv x18,iv x19,iv x20,iv x21,sv x22,iv x23,iv x24,AV.sl 12 x25]]),x26,x27,x28,x29),rfl,tP,by unfold mu_alternatives_0; exact tI⟩
  exact .inr ⟨by simp,⟨_,_,_,_,_,tP,rfl,rfl⟩⟩) (x1o,x2o,x3o,x4o,x5o) hi
 rcases hq with ⟨_,_,_,_,_,ho,rfl,rfl⟩
 exact ⟨_,_,_,_,_,ho,hr⟩
abbrev t_alternatives (L : List AV) (I O E At : Int) (Q : AV → HH → Prop) : HC := (j_sequence 1 L I O E At fun x0 x1 x2 x3 x4 x5 x6 x7 x8 x9 x10 x11 x12 x13 x14 x15=>(j_alternatives_0 0 L [(.agg (nR x0 x1 x2 x3 x4 x5 x6 x7 x8 x9 x10 x11))] x12 x13 x14 x15 (fun x16 x17 x18 x19 x20=>(zz 1 (Q (.sl 12 x16) [[(.sl 12 L),(iv x17),(iv x18),(iv x19),(iv x20)]])))))
theorem w_alternatives (L I O E At) (Q : AV → HH → Prop) (h : (t_alternatives L I O E At Q).p) : ∃ r H',A 27 [(.ptr 0 0)] [[(.sl 12 L),(iv I),(iv O),(iv E),(iv At)]] r H' ∧ Q r H' :=
 Ans.wq rfl (t_alternatives L I O E At Q).h (by kernel_rfl) h
theorem i_alternatives {L I O E At} (ih_sequence : IH_sequence (rank_alternatives L I O E At)) (hp : pre_alternatives L I O E At) : E_alternatives L I O E At := by
 obtain ⟨_,_,ha,_,_,_,_,_,hq,rfl,rfl⟩ := w_alternatives L I O E At (fun r H'=>∃ x0 x1 x2 x3 x4,post_alternatives (L) (I) (O) (E) (At) x0 x1 x2 x3 x4 ∧ r = (.sl 12 x0) ∧ H' = [[(.sl 12 (L)),(iv x1),(iv x2),(iv x3),(iv x4)]]) (by
  obtain ⟨hp_0,hp_1,hp_2,hp_3,hp_4,hp_5,hp_6⟩ := hp
  try simp only [lN] at hp_0 hp_1 hp_2 hp_3 hp_4 hp_5 hp_6
  refine ⟨ih_sequence (by (try unfold rank_sequence); (try unfold rank_alternatives); exact tI) tP,fun _ _ _ _ _ _ _ _ _ _ _ _ _ _ _ _ p21=>?_⟩
  try simp only [lN] at p21
  obtain ⟨_,_,_,_,_,_,_,_,_,_⟩ := p21
  refine ⟨k_alternatives_0 ih_sequence tP,fun _ _ _ _ _ e27=>?_⟩
  obtain ⟨e27_0,e27_1,e27_2,e27_3,e27_4,e27_5,e27_6,e27_7,e27_8,e27_9,e27_10⟩ := e27
  try replace e27_0 := nz e27_0
  try replace e27_1 := nz e27_1
  try replace e27_2 := nz e27_2
  try replace e27_3 := nz e27_3
  try replace e27_4 := nz e27_4
  try replace e27_5 := nz e27_5
  try replace e27_6 := nz e27_6
  try replace e27_7 := nz e27_7
  try replace e27_8 := nz e27_8
  try replace e27_9 := nz e27_9
  try replace e27_10 := nz e27_10
  exact ⟨_,_,_,_,_,tP,rfl,rfl⟩)
 exact ⟨_,_,_,_,_,hq,ha⟩
abbrev E_repeatable (x0 x1 x2 : Int) (x3 : List AV) (x4 : Bool) (x5 x6 x7 : Int) (x8 : ByteArray) (x9 x10 : Int) (x11 : List AV) : Prop := ∃ x12,post_repeatable x0 x1 x2 x3 x4 x5 x6 x7 x8 x9 x10 x11 x12 ∧ A 86 [(.agg (nR x0 x1 x2 x3 x4 x5 x6 x7 x8 x9 x10 x11))] [] (bv x12) []
abbrev j_repeatable (nn : Nat) (x0 x1 x2 : Int) (x3 : List AV) (x4 : Bool) (x5 x6 x7 : Int) (x8 : ByteArray) (x9 x10 : Int) (x11 : List AV) (kK : Bool → HC) : HC := ⟨.ev nn (.ask (eB fun x12=>.done (.res (bv x12) [] (post_repeatable x0 x1 x2 x3 x4 x5 x6 x7 x8 x9 x10 x11 x12)) ((kK x12).h))),E_repeatable x0 x1 x2 x3 x4 x5 x6 x7 x8 x9 x10 x11 ∧ (∀ x12,post_repeatable x0 x1 x2 x3 x4 x5 x6 x7 x8 x9 x10 x11 x12 → (kK x12).p)⟩
abbrev t_repeatable (x0 x1 x2 : Int) (x3 : List AV) (x4 : Bool) (x5 x6 x7 : Int) (x8 : ByteArray) (x9 x10 : Int) (x11 : List AV) (Q : AV → HH → Prop) : HC := (dd 1 ((!x0 == 4)) (dd 4 ((!x0 == 5)) (dd 4 ((!x0 == 9)) (dd 4 ((!x0 == 10)) (qq 5 Q (bv (!x0 == 11))) (qq 4 Q (bv false))) (qq 8 Q (bv false))) (qq 12 Q (bv false))) (qq 16 Q (bv false)))
theorem w_repeatable (x0 x1 x2 x3 x4 x5 x6 x7 x8 x9 x10 x11) (Q : AV → HH → Prop) (h : (t_repeatable x0 x1 x2 x3 x4 x5 x6 x7 x8 x9 x10 x11 Q).p) : ∃ r H',A 86 [(.agg (nR x0 x1 x2 x3 x4 x5 x6 x7 x8 x9 x10 x11))] [] r H' ∧ Q r H' :=
 Ans.wq rfl (t_repeatable x0 x1 x2 x3 x4 x5 x6 x7 x8 x9 x10 x11 Q).h (by kernel_rfl) h
theorem c_repeatable {x0 x1 x2 x3 x4 x5 x6 x7 x8 x9 x10 x11} (hp : pre_repeatable x0 x1 x2 x3 x4 x5 x6 x7 x8 x9 x10 x11) : E_repeatable x0 x1 x2 x3 x4 x5 x6 x7 x8 x9 x10 x11 := by
 obtain ⟨_,_,ha,_,hq,rfl,rfl⟩ := w_repeatable x0 x1 x2 x3 x4 x5 x6 x7 x8 x9 x10 x11 (fun r H'=>∃ x12,post_repeatable x0 x1 x2 x3 x4 x5 x6 x7 x8 x9 x10 x11 x12 ∧ r = (bv x12) ∧ H' = []) (by
  apply bS <;> intro _
  ·apply bS <;> intro _
   ·apply bS <;> intro _
    ·refine bS (fun _=>⟨_,tP,rfl,rfl⟩) fun _=>?_
     exact ⟨_,tP,rfl,rfl⟩
    exact ⟨_,tP,rfl,rfl⟩
   exact ⟨_,tP,rfl,rfl⟩
  exact ⟨_,tP,rfl,rfl⟩)
 exact ⟨_,hq,ha⟩
abbrev E_thing (L : List AV) (I O E At : Int) : Prop := ∃ x0 x1 x2 x3 x4 x5 x6 x7 x8 x9 x10 x11 x12 x13 x14 x15,post_thing L I O E At x0 x1 x2 x3 x4 x5 x6 x7 x8 x9 x10 x11 x12 x13 x14 x15 ∧ A 85 [(.ptr 0 0)] [[(.sl 12 L),(iv I),(iv O),(iv E),(iv At)]] (.agg (nR x0 x1 x2 x3 x4 x5 x6 x7 x8 x9 x10 x11)) [[(.sl 12 L),(iv x12),(iv x13),(iv x14),(iv x15)]]
abbrev j_thing (nn : Nat) (L : List AV) (I O E At : Int) (kK : Int → Int → Int → List AV → Bool → Int → Int → Int → ByteArray → Int → Int → List AV → Int → Int → Int → Int → HC) : HC := ⟨.ev nn (.ask (eN fun x0 x1 x2 x3 x4 x5 x6 x7 x8 x9 x10 x11=>eI fun x12=>eI fun x13=>eI fun x14=>eI fun x15=>.done (.res (.agg (nR x0 x1 x2 x3 x4 x5 x6 x7 x8 x9 x10 x11)) [[(.sl 12 L),(iv x12),(iv x13),(iv x14),(iv x15)]] (post_thing L I O E At x0 x1 x2 x3 x4 x5 x6 x7 x8 x9 x10 x11 x12 x13 x14 x15)) ((kK x0 x1 x2 x3 x4 x5 x6 x7 x8 x9 x10 x11 x12 x13 x14 x15).h))),E_thing L I O E At ∧ (∀ x0 x1 x2 x3 x4 x5 x6 x7 x8 x9 x10 x11 x12 x13 x14 x15,post_thing L I O E At x0 x1 x2 x3 x4 x5 x6 x7 x8 x9 x10 x11 x12 x13 x14 x15 → (kK x0 x1 x2 x3 x4 x5 x6 x7 x8 x9 x10 x11 x12 x13 x14 x15).p)⟩
def IH_thing (b : Nat) : Prop := ∀ {L : List AV} {I : Int} {O : Int} {E : Int} {At : Int},rank_thing (L) (I) (O) (E) (At) < b → pre_thing (L) (I) (O) (E) (At) → E_thing (L) (I) (O) (E) (At)
theorem IH_thing_le (b c : Nat) (h : b ≤ c) (k : IH_thing c) : IH_thing b := fun hr hp=>k (Nat.lt_of_lt_of_le hr h) hp
def s_sequence_0 (x0 x1 : List AV) (x2 x3 x4 x5 : Int) : St := ⟨[],[(0,(.ptr 0 0)),(2,(.box [(iv 0),(iv 0),(iv 0),(.sl 2 []),(bv false),(iv 0),(iv 0),(iv 0),(sv (bs [])),(iv 0),(iv 0),(.sl 12 [])])),(3,(.cap false 27 x1))],[[(.sl 12 x0),(iv x2),(iv x3),(iv x4),(iv x5)]],0⟩
def x_sequence_0_0 (x0 : List AV) (y1 y2 y3 : Int) (y4 : List AV) (y5 : Bool) (y6 y7 y8 : Int) (y9 : ByteArray) (y10 y11 : Int) (y12 : List AV) (y13 y14 y15 y16 : Int) : St := ⟨[],[(2,(.box [(iv y1),(iv y2),(iv y3),(.sl 2 y4),(bv y5),(iv y6),(iv y7),(iv y8),(sv y9),(iv y10),(iv y11),(.sl 12 y12)]))],[[(.sl 12 x0),(iv y13),(iv y14),(iv y15),(iv y16)]],0⟩
abbrev E_sequence_0 (x0 x1o : List AV) (x2o x3o x4o x5o : Int) : Prop := (∃ y6 y7 y8 y9 y10 y11 y12 y13 y14 y15 y16 y17 y18 y19 y20 y21,out_sequence_0_0 x0 x1o x2o x3o x4o x5o y6 y7 y8 y9 y10 y11 y12 y13 y14 y15 y16 y17 y18 y19 y20 y21 ∧ R 53 0 (s_sequence_0 x0 x1o x2o x3o x4o x5o) (Ex.ret,x_sequence_0_0 x0 y6 y7 y8 y9 y10 y11 y12 y13 y14 y15 y16 y17 y18 y19 y20 y21))
abbrev j_sequence_0 (nn : Nat) (x0 x1o : List AV) (x2o x3o x4o x5o : Int) (f0 : Int → Int → Int → List AV → Bool → Int → Int → Int → ByteArray → Int → Int → List AV → Int → Int → Int → Int → HC) : HC := ⟨.ev nn (.ask (eN fun y6 y7 y8 y9 y10 y11 y12 y13 y14 y15 y16 y17=>eI fun y18=>eI fun y19=>eI fun y20=>eI fun y21=>.done (.exit Ex.ret (x_sequence_0_0 x0 y6 y7 y8 y9 y10 y11 y12 y13 y14 y15 y16 y17 y18 y19 y20 y21) (out_sequence_0_0 x0 x1o x2o x3o x4o x5o y6 y7 y8 y9 y10 y11 y12 y13 y14 y15 y16 y17 y18 y19 y20 y21)) (f0 y6 y7 y8 y9 y10 y11 y12 y13 y14 y15 y16 y17 y18 y19 y20 y21).h)),E_sequence_0 x0 x1o x2o x3o x4o x5o ∧ (∀ y6 y7 y8 y9 y10 y11 y12 y13 y14 y15 y16 y17 y18 y19 y20 y21,out_sequence_0_0 x0 x1o x2o x3o x4o x5o y6 y7 y8 y9 y10 y11 y12 y13 y14 y15 y16 y17 y18 y19 y20 y21 → (f0 y6 y7 y8 y9 y10 y11 y12 y13 y14 y15 y16 y17 y18 y19 y20 y21).p)⟩
abbrev t_sequence_0 (x0 x1 : List AV) (x2 x3 x4 x5 : Int) (Q : Ex → St → Prop) : HC := (j_kind 1 x0 x2 x3 x4 x5 fun x6=>(dd 1 ((x6 == 0)) (oo 6 ((npL [(iv 12),(.sl 12 x1)])) (j_one7 0 12 x1 fun x7 x8 x9 x10 x11 x12 x13 x14 x15 x16 x17 x18=>(zz 0 (Q Ex.ret (x_sequence_0_0 x0 x7 x8 x9 x10 x11 x12 x13 x14 x15 x16 x17 x18 x2 x3 x4 x5))))) (dd 3 ((x6 == 7)) (oo 3 ((npL [(iv 12),(.sl 12 x1)])) (j_one7 0 12 x1 fun x19 x20 x21 x22 x23 x24 x25 x26 x27 x28 x29 x30=>(zz 0 (Q Ex.ret (x_sequence_0_0 x0 x19 x20 x21 x22 x23 x24 x25 x26 x27 x28 x29 x30 x2 x3 x4 x5))))) (dd 3 ((x6 == 8)) (oo 0 ((npL [(iv 12),(.sl 12 x1)])) (j_one7 0 12 x1 fun x31 x32 x33 x34 x35 x36 x37 x38 x39 x40 x41 x42=>(zz 0 (Q Ex.ret (x_sequence_0_0 x0 x31 x32 x33 x34 x35 x36 x37 x38 x39 x40 x41 x42 x2 x3 x4 x5))))) (dd 1 ((x6 == 9)) (oo 0 ((decide (0 ≤ x2))) (pT 1 ((x0[x2.toNat]?)) fun x43 x44 x45 x46 x47 x48 x49 x50 x51 x52 x53 x54=>(j_fail 1 30 x44 x0 x2 x3 x4 x5 fun x55 x56=>(zz 0 (Q Ex.ret (x_sequence_0_0 x0 0 0 0 [] false 0 0 0 (bs []) 0 0 [] x2 x3 x55 x56)))))) (j_thing 1 x0 x2 x3 x4 x5 fun x57 x58 x59 x60 x61 x62 x63 x64 x65 x66 x67 x68 x69 x70 x71 x72=>(j_kind 1 x0 x69 x70 x71 x72 fun x73=>(dd 1 ((x73 == 9)) (oo 1 ((npL [(.agg (nR x57 x58 x59 x60 x61 x62 x63 x64 x65 x66 x67 x68))])) (j_repeatable 0 x57 x58 x59 x60 x61 x62 x63 x64 x65 x66 x67 x68 fun x74=>(dd 1 x74 (oo 0 ((decide (0 ≤ x69))) (pT 1 ((x0[x69.toNat]?)) fun x75 x76 x77 x78 x79 x80 x81 x82 x83 x84 x85 x86=>(oo 1 ((roomD pr 27 x1.length 1)) (zz 0 (Q .norm (s_sequence_0 x0 (x1 ++   [AV.agg       [iv 20,iv x76,iv 0,AV.sl 2 [],bv false,iv x81,iv x82,iv x83,sv (bs []),iv 0,iv 0,        AV.sl 12           [AV.agg               (nR x57 x58 x59 x60 x61 x62 x63 x64 x65 x66 x67 x68)]]]) (w6 (x69 + 1)) x70 x71 x72)))))) (oo 0 ((roomD pr 27 x1.length 1)) (zz 0 (Q .norm (s_sequence_0 x0 (x1 ++   [AV.agg       (nR x57 x58 x59 x60 x61 x62 x63 x64 x65 x66 x67 x68)]) x69 x70 x71 x72))))))) (oo 3 ((roomD pr 27 x1.length 1)) (zz 0 (Q .norm (s_sequence_0 x0 (x1 ++   [AV.agg       (nR x57 x58 x59 x60 x61 x62 x63 x64 x65 x66 x67 x68)]) x69 x70 x71 x72))))))))))))
theorem l_sequence_0 (x0 x1 x2 x3 x4 x5) (Q : Ex → St → Prop) (h : (t_sequence_0 x0 x1 x2 x3 x4 x5 Q).p) : ∃ e s',L 53 0 (s_sequence_0 x0 x1 x2 x3 x4 x5) (e,s') ∧ Q e s' :=
 Leads.wq (t_sequence_0 x0 x1 x2 x3 x4 x5 Q).h (by kernel_rfl) h
theorem k_sequence_0 {B : Nat} (ih_thing : IH_thing B) {x0 x1o x2o x3o x4o x5o} (hi : inv_sequence_0 B x0 x1o x2o x3o x4o x5o x1o x2o x3o x4o x5o) : E_sequence_0 x0 x1o x2o x3o x4o x5o := by
 obtain ⟨e,s',hr,hq⟩ := Rounds.byInv (st := fun (w : (List AV) × Int × Int × Int × Int)=>s_sequence_0 x0 w.1 w.2.1 w.2.2.1 w.2.2.2.1 w.2.2.2.2) (Inv := fun w=>inv_sequence_0 B x0 x1o x2o x3o x4o x5o w.1 w.2.1 w.2.2.1 w.2.2.2.1 w.2.2.2.2) (μ := fun w=>mu_sequence_0 x0 w.1 w.2.1 w.2.2.1 w.2.2.2.1 w.2.2.2.2) (Q := fun e s'=>(∃ y6 y7 y8 y9 y10 y11 y12 y13 y14 y15 y16 y17 y18 y19 y20 y21,out_sequence_0_0 x0 x1o x2o x3o x4o x5o y6 y7 y8 y9 y10 y11 y12 y13 y14 y15 y16 y17 y18 y19 y20 y21 ∧ e = Ex.ret ∧ s' = x_sequence_0_0 x0 y6 y7 y8 y9 y10 y11 y12 y13 y14 y15 y16 y17 y18 y19 y20 y21)) (by
  rintro ⟨x1,x2,x3,x4,x5⟩ hi
  have hi : inv_sequence_0 B x0 x1o x2o x3o x4o x5o x1 x2 x3 x4 x5 := hi
  refine l_sequence_0 x0 x1 x2 x3 x4 x5 _ ?_
  obtain ⟨hi_0,hi_1,hi_2,hi_3,hi_4,hi_5,hi_6,hi_7,hi_8,hi_9,hi_10,hi_11,hi_12,hi_13,hi_14,hi_15⟩ := hi
  try simp only [lN] at hi_0 hi_1 hi_2 hi_3 hi_4 hi_5 hi_6 hi_7 hi_8 hi_9 hi_10 hi_11 hi_12 hi_13 hi_14 hi_15
  refine ⟨c_kind tP,fun _ p23=>?_⟩
  try simp only [lN] at p23
  obtain ⟨_,p23_1,p23_2⟩ := p23
  apply bS <;> intro h24
  ·refine ⟨tN,c_one7 tP,fun _ _ _ _ _ _ _ _ _ _ _ _ p37=>?_⟩
   try simp only [lN] at p37
   obtain ⟨_,_,_,_⟩ := p37
   exact .inr ⟨by simp,⟨_,_,_,_,_,_,_,_,_,_,_,_,_,_,_,_,tP,rfl,rfl⟩⟩
  have p23_1c := p23_1 h24
  have p23_2c := p23_2 h24
  apply bS <;> intro _
  ·refine ⟨tN,c_one7 tP,fun _ _ _ _ _ _ _ _ _ _ _ _ p51=>?_⟩
   try simp only [lN] at p51
   obtain ⟨_,_,_,_⟩ := p51
   exact .inr ⟨by simp,⟨_,_,_,_,_,_,_,_,_,_,_,_,_,_,_,_,tP,rfl,rfl⟩⟩
  apply bS <;> intro _
  ·refine ⟨tN,c_one7 tP,fun _ _ _ _ _ _ _ _ _ _ _ _ p65=>?_⟩
   try simp only [lN] at p65
   obtain ⟨_,_,_,_⟩ := p65
   exact .inr ⟨by simp,⟨_,_,_,_,_,_,_,_,_,_,_,_,_,_,_,_,tP,rfl,rfl⟩⟩
  apply bS <;> intro _
  ·refine ⟨tD,tG,fun _ _ _ _ _ _ _ _ _ _ _ _ g79=>?_⟩
   have eg79 := Ts.elem tA g79; obtain ⟨_,_⟩ := id eg79; try have ekg399 := kind_at tA g79 (by omega)
   refine ⟨c_fail tP,fun _ _ p82=>?_⟩
   unfold post_fail at p82
   try simp only [lN] at p82
   exact .inr ⟨by simp,⟨0,0,0,_,_,0,0,0,_,0,0,_,_,_,_,_,tP,rfl,rfl⟩⟩
  refine ⟨ih_thing (by (try unfold rank_thing); (try unfold rank_sequence); exact tI) tP,fun x83 x84 x85 x86 x87 x88 x89 x90 x91 x92 x93 x94 x95 x96 x97 x98 p99=>?_⟩
  try simp only [lN] at p99
  obtain ⟨_,_,_,_,_,_,_,_,_,_,_⟩ := p99
  refine ⟨c_kind tP,fun _ p101=>?_⟩
  try simp only [lN] at p101
  obtain ⟨_,_,_⟩ := p101
  apply bS <;> intro _
  ·refine ⟨tN,c_repeatable tP,fun _ _=>?_⟩
   apply bS <;> intro _
   ·refine ⟨tD,tG,fun _ x107 _ _ _ _ x112 x113 x114 _ _ _ g118=>?_⟩
    have eg118 := Ts.elem tA g118; obtain ⟨_,_⟩ := id eg118; try have ekg464 := kind_at tA g118 (by omega)
    refine ⟨tR,?_⟩
    try have := tW (x95 + 1)
    exact .inl ⟨rfl,((x1 ++   [AV.agg       [iv 20,iv x107,iv 0,AV.sl 2 [],bv false,iv x112,iv x113,iv x114,sv (bs []),iv 0,iv 0,        AV.sl 12           [AV.agg               [iv x83,iv x84,iv x85,AV.sl 2 x86,bv x87,iv x88,iv x89,iv x90,sv x91,iv x92,iv x93,                AV.sl 12 x94]]]]),(w6 (x95 + 1)),x96,x97,x98),rfl,tP,zb3x3⟩
   refine ⟨tR,?_⟩
   exact .inl ⟨rfl,((x1 ++   [AV.agg       [iv x83,iv x84,iv x85,AV.sl 2 x86,bv x87,iv x88,iv x89,iv x90,sv x91,iv x92,iv x93,        AV.sl 12 x94]]),x95,x96,x97,x98),rfl,tP,zb3x3⟩
  refine ⟨tR,?_⟩
  exact .inl ⟨rfl,((x1 ++   [AV.agg       [iv x83,iv x84,iv x85,AV.sl 2 x86,bv x87,iv x88,iv x89,iv x90,sv x91,iv x92,iv x93,        AV.sl 12 x94]]),x95,x96,x97,x98),rfl,tP,zb3x3⟩) (x1o,x2o,x3o,x4o,x5o) hi
 rcases hq with ⟨_,_,_,_,_,_,_,_,_,_,_,_,_,_,_,_,ho,rfl,rfl⟩
 exact ⟨_,_,_,_,_,_,_,_,_,_,_,_,_,_,_,_,ho,hr⟩
abbrev t_sequence (L : List AV) (I O E At : Int) (Q : AV → HH → Prop) : HC := (j_sequence_0 0 L [] I O E At (fun x0 x1 x2 x3 x4 x5 x6 x7 x8 x9 x10 x11 x12 x13 x14 x15=>(zz 1 (Q (.agg (nR x0 x1 x2 x3 x4 x5 x6 x7 x8 x9 x10 x11)) [[(.sl 12 L),(iv x12),(iv x13),(iv x14),(iv x15)]]))))
theorem w_sequence (L I O E At) (Q : AV → HH → Prop) (h : (t_sequence L I O E At Q).p) : ∃ r H',A 53 [(.ptr 0 0)] [[(.sl 12 L),(iv I),(iv O),(iv E),(iv At)]] r H' ∧ Q r H' :=
 Ans.wq rfl (t_sequence L I O E At Q).h (by kernel_rfl) h
theorem i_sequence {L I O E At} (ih_thing : IH_thing (rank_sequence L I O E At)) (hp : pre_sequence L I O E At) : E_sequence L I O E At := by
 obtain ⟨_,_,ha,_,_,_,_,_,_,_,_,_,_,_,_,_,_,_,_,hq,rfl,rfl⟩ := w_sequence L I O E At (fun r H'=>∃ x0 x1 x2 x3 x4 x5 x6 x7 x8 x9 x10 x11 x12 x13 x14 x15,post_sequence (L) (I) (O) (E) (At) x0 x1 x2 x3 x4 x5 x6 x7 x8 x9 x10 x11 x12 x13 x14 x15 ∧ r = (.agg [(iv x0),(iv x1),(iv x2),(.sl 2 x3),(bv x4),(iv x5),(iv x6),(iv x7),(sv x8),(iv x9),(iv x10),(.sl 12 x11)]) ∧ H' = [[(.sl 12 (L)),(iv x12),(iv x13),(iv x14),(iv x15)]]) (by
  obtain ⟨hp_0,hp_1,hp_2,hp_3,hp_4,hp_5,hp_6⟩ := hp
  try simp only [lN] at hp_0 hp_1 hp_2 hp_3 hp_4 hp_5 hp_6
  refine ⟨k_sequence_0 ih_thing tP,fun _ _ _ _ _ _ _ _ _ _ _ _ _ _ _ _ e32=>?_⟩
  obtain ⟨e32_0,e32_1,e32_2,e32_3,e32_4,e32_5,e32_6,e32_7,e32_8,e32_9⟩ := e32
  try replace e32_0 := nz e32_0
  try replace e32_1 := nz e32_1
  try replace e32_2 := nz e32_2
  try replace e32_3 := nz e32_3
  try replace e32_4 := nz e32_4
  try replace e32_5 := nz e32_5
  try replace e32_6 := nz e32_6
  try replace e32_7 := nz e32_7
  try replace e32_8 := nz e32_8
  try replace e32_9 := nz e32_9
  exact ⟨_,_,_,_,_,_,_,_,_,_,_,_,_,_,_,_,tP,rfl,rfl⟩)
 exact ⟨_,_,_,_,_,_,_,_,_,_,_,_,_,_,_,_,hq,ha⟩
abbrev t_thing (L : List AV) (I O E At : Int) (Q : AV → HH → Prop) : HC := (oo 0 ((decide (0 ≤ I))) (pT 1 ((L[I.toNat]?)) fun x0 x1 x2 x3 x4 x5 x6 x7 x8 x9 x10 x11=>(dd 1 ((!x0 == 10)) (dd 2 ((x0 == 1)) (zz 1 (Q (.agg (nR 1 x1 x3 x4 x5 x6 x7 0 x9 x10 x11 [])) [[(.sl 12 L),(iv (w6 (I + 1))),(iv O),(iv E),(iv At)]])) (dd 1 ((x0 == 2)) (zz 1 (Q (.agg (nR 2 x1 x3 x4 x5 x6 x7 0 x9 x10 x11 [])) [[(.sl 12 L),(iv (w6 (I + 1))),(iv O),(iv E),(iv At)]])) (dd 1 ((x0 == 3)) (zz 1 (Q (.agg (nR 3 x1 x3 x4 x5 x6 x7 0 x9 x10 x11 [])) [[(.sl 12 L),(iv (w6 (I + 1))),(iv O),(iv E),(iv At)]])) (dd 1 ((x0 == 4)) (zz 1 (Q (.agg (nR 4 x1 x3 x4 x5 x6 x7 0 x9 x10 x11 [])) [[(.sl 12 L),(iv (w6 (I + 1))),(iv O),(iv E),(iv At)]])) (dd 1 ((x0 == 5)) (zz 1 (Q (.agg (nR 5 x1 x3 x4 x5 x6 x7 0 x9 x10 x11 [])) [[(.sl 12 L),(iv (w6 (I + 1))),(iv O),(iv E),(iv At)]])) (dd 1 ((x0 == 6)) (zz 1 (Q (.agg (nR 6 x1 x3 x4 x5 x6 x7 0 x9 x10 x11 [])) [[(.sl 12 L),(iv (w6 (I + 1))),(iv O),(iv E),(iv At)]])) (dd 1 ((x0 == 11)) (zz 1 (Q (.agg (nR 7 x1 x3 x4 x5 x6 x7 0 x9 x10 x11 [])) [[(.sl 12 L),(iv (w6 (I + 1))),(iv O),(iv E),(iv At)]])) (dd 1 ((x0 == 12)) (zz 1 (Q (.agg (nR 8 x1 x3 x4 x5 x6 x7 0 x9 x10 x11 [])) [[(.sl 12 L),(iv (w6 (I + 1))),(iv O),(iv E),(iv At)]])) (dd 1 ((x0 == 13)) (zz 1 (Q (.agg (nR 9 x1 x3 x4 x5 x6 x7 0 x9 x10 x11 [])) [[(.sl 12 L),(iv (w6 (I + 1))),(iv O),(iv E),(iv At)]])) (dd 1 ((x0 == 14)) (zz 1 (Q (.agg (nR 10 x1 x3 x4 x5 x6 x7 0 x9 x10 x11 [])) [[(.sl 12 L),(iv (w6 (I + 1))),(iv O),(iv E),(iv At)]])) (zz 1 (Q (.agg (nR 11 x1 x3 x4 x5 x6 x7 0 x9 x10 x11 [])) [[(.sl 12 L),(iv (w6 (I + 1))),(iv O),(iv E),(iv At)]])))))))))))) (dd 1 ((O == 40)) (j_fail 1 11 x1 L I O E At fun x12 x13=>(zz 1 (Q (.agg (nR 0 0 0 [] false 0 0 0 (bs []) 0 0 [])) [[(.sl 12 L),(iv I),(iv O),(iv x12),(iv x13)]]))) (dd 3 ((x6 == 13)) (j_kind 2 L (w6 (I + 1)) (w6 (O + 1)) E At fun x14=>(dd 3 ((x14 == 10)) (j_thing 1 L (w6 (I + 1)) (w6 (O + 1)) E At fun x15 x16 x17 x18 x19 x20 x21 x22 x23 x24 x25 x26 x27 x28 x29 x30=>(j_alternatives 2 L x27 x28 x29 x30 fun x31 x32 x33 x34 x35=>(j_kind 1 L x32 x33 x34 x35 fun x36=>(dd 1 ((!x36 == 8)) (j_fail 1 20 (-1) L x32 x33 x34 x35 fun x37 x38=>(zz 1 (Q (.agg (nR 0 0 0 [] false 0 0 0 (bs []) 0 0 [])) [[(.sl 12 L),(iv x32),(iv x33),(iv x37),(iv x38)]]))) (dd 3 ((x6 == 1)) (oo 0 ((npL [(iv 13),(.sl 12 x31)])) (j_one7 0 13 x31 fun x39 x40 x41 x42 x43 x44 x45 x46 x47 x48 x49 x50=>(zz 1 (Q (.agg (nR 14 x1 0 [] false 0 0 0 x9 0 0 [(.agg (nR x39 x40 x41 x42 x43 x44 x45 x46 x47 x48 x49 x50))])) [[(.sl 12 L),(iv (w6 (x32 + 1))),(iv (w6 (x33 - 1))),(iv x34),(iv x35)]])))) (dd 1 ((x6 == 2)) (oo 0 ((npL [(iv 13),(.sl 12 x31)])) (j_one7 0 13 x31 fun x51 x52 x53 x54 x55 x56 x57 x58 x59 x60 x61 x62=>(zz 1 (Q (.agg (nR 15 x1 0 [] false 0 0 0 (bs []) x10 x11 [(.agg (nR x51 x52 x53 x54 x55 x56 x57 x58 x59 x60 x61 x62))])) [[(.sl 12 L),(iv (w6 (x32 + 1))),(iv (w6 (x33 - 1))),(iv x34),(iv x35)]])))) (dd 1 ((x6 == 4)) (oo 0 ((npL [(iv 13),(.sl 12 x31)])) (j_one7 0 13 x31 fun x63 x64 x65 x66 x67 x68 x69 x70 x71 x72 x73 x74=>(zz 1 (Q (.agg (nR 17 x1 0 [] false 0 0 0 (bs []) 0 0 [(.agg (nR x63 x64 x65 x66 x67 x68 x69 x70 x71 x72 x73 x74))])) [[(.sl 12 L),(iv (w6 (x32 + 1))),(iv (w6 (x33 - 1))),(iv x34),(iv x35)]])))) (dd 1 ((x6 == 5)) (oo 1 ((npL [(iv 13),(.sl 12 x31)])) (j_one7 0 13 x31 fun x75 x76 x77 x78 x79 x80 x81 x82 x83 x84 x85 x86=>(zz 1 (Q (.agg (nR 18 x1 0 [] false x6 0 0 (bs []) 0 0 [(.agg (nR x75 x76 x77 x78 x79 x80 x81 x82 x83 x84 x85 x86))])) [[(.sl 12 L),(iv (w6 (x32 + 1))),(iv (w6 (x33 - 1))),(iv x34),(iv x35)]])))) (dd 1 ((x6 == 6)) (oo 1 ((npL [(iv 13),(.sl 12 x31)])) (j_one7 0 13 x31 fun x87 x88 x89 x90 x91 x92 x93 x94 x95 x96 x97 x98=>(zz 1 (Q (.agg (nR 18 x1 0 [] false x6 0 0 (bs []) 0 0 [(.agg (nR x87 x88 x89 x90 x91 x92 x93 x94 x95 x96 x97 x98))])) [[(.sl 12 L),(iv (w6 (x32 + 1))),(iv (w6 (x33 - 1))),(iv x34),(iv x35)]])))) (dd 1 ((x6 == 7)) (oo 1 ((npL [(iv 13),(.sl 12 x31)])) (j_one7 0 13 x31 fun x99 x100 x101 x102 x103 x104 x105 x106 x107 x108 x109 x110=>(zz 1 (Q (.agg (nR 18 x1 0 [] false x6 0 0 (bs []) 0 0 [(.agg (nR x99 x100 x101 x102 x103 x104 x105 x106 x107 x108 x109 x110))])) [[(.sl 12 L),(iv (w6 (x32 + 1))),(iv (w6 (x33 - 1))),(iv x34),(iv x35)]])))) (dd 1 ((x6 == 8)) (oo 0 ((npL [(iv 13),(.sl 12 x31)])) (j_one7 0 13 x31 fun x111 x112 x113 x114 x115 x116 x117 x118 x119 x120 x121 x122=>(zz 1 (Q (.agg (nR 18 x1 0 [] false x6 0 0 (bs []) 0 0 [(.agg (nR x111 x112 x113 x114 x115 x116 x117 x118 x119 x120 x121 x122))])) [[(.sl 12 L),(iv (w6 (x32 + 1))),(iv (w6 (x33 - 1))),(iv x34),(iv x35)]])))) (dd 1 ((x6 == 3)) (zz 1 (Q (.agg (nR 16 x1 0 [] false 0 0 0 (bs []) 0 0 x31)) [[(.sl 12 L),(iv (w6 (x32 + 1))),(iv (w6 (x33 - 1))),(iv x34),(iv x35)]])) (oo 0 ((roomD pr 27 1 x31.length)) (dd 1 ((decide ((↑x31.length : Int) > 2))) (j_fail 7 32 x1 L (w6 (x32 + 1)) (w6 (x33 - 1)) x34 x35 fun x123 x124=>(zz 1 (Q (.agg (nR 19 x1 0 [] false x6 x7 x8 x9 0 0 ((.agg (nR x15 x16 x17 x18 x19 x20 x21 x22 x23 x24 x25 x26)) :: x31))) [[(.sl 12 L),(iv (w6 (x32 + 1))),(iv (w6 (x33 - 1))),(iv x123),(iv x124)]]))) (dd 4 ((decide ((↑x31.length : Int) > 1))) (dd 6 ((x6 == 12)) (j_fail 1 32 x1 L (w6 (x32 + 1)) (w6 (x33 - 1)) x34 x35 fun x125 x126=>(zz 1 (Q (.agg (nR 19 x1 0 [] false x6 x7 x8 x9 0 0 ((.agg (nR x15 x16 x17 x18 x19 x20 x21 x22 x23 x24 x25 x26)) :: x31))) [[(.sl 12 L),(iv (w6 (x32 + 1))),(iv (w6 (x33 - 1))),(iv x125),(iv x126)]]))) (zz 1 (Q (.agg (nR 19 x1 0 [] false x6 x7 x8 x9 0 0 ((.agg (nR x15 x16 x17 x18 x19 x20 x21 x22 x23 x24 x25 x26)) :: x31))) [[(.sl 12 L),(iv (w6 (x32 + 1))),(iv (w6 (x33 - 1))),(iv x34),(iv x35)]]))) (zz 7 (Q (.agg (nR 19 x1 0 [] false x6 x7 x8 x9 0 0 ((.agg (nR x15 x16 x17 x18 x19 x20 x21 x22 x23 x24 x25 x26)) :: x31))) [[(.sl 12 L),(iv (w6 (x32 + 1))),(iv (w6 (x33 - 1))),(iv x34),(iv x35)]]))))))))))))))))) (j_alternatives 1 L (w6 (I + 1)) (w6 (O + 1)) E At fun x127 x128 x129 x130 x131=>(j_kind 1 L x128 x129 x130 x131 fun x132=>(dd 1 ((!x132 == 8)) (j_fail 1 20 (-1) L x128 x129 x130 x131 fun x133 x134=>(zz 1 (Q (.agg (nR 0 0 0 [] false 0 0 0 (bs []) 0 0 [])) [[(.sl 12 L),(iv x128),(iv x129),(iv x133),(iv x134)]]))) (dd 3 ((x6 == 1)) (oo 0 ((npL [(iv 13),(.sl 12 x127)])) (j_one7 0 13 x127 fun x135 x136 x137 x138 x139 x140 x141 x142 x143 x144 x145 x146=>(zz 1 (Q (.agg (nR 14 x1 0 [] false 0 0 0 x9 0 0 [(.agg (nR x135 x136 x137 x138 x139 x140 x141 x142 x143 x144 x145 x146))])) [[(.sl 12 L),(iv (w6 (x128 + 1))),(iv (w6 (x129 - 1))),(iv x130),(iv x131)]])))) (dd 1 ((x6 == 2)) (oo 0 ((npL [(iv 13),(.sl 12 x127)])) (j_one7 0 13 x127 fun x147 x148 x149 x150 x151 x152 x153 x154 x155 x156 x157 x158=>(zz 1 (Q (.agg (nR 15 x1 0 [] false 0 0 0 (bs []) x10 x11 [(.agg (nR x147 x148 x149 x150 x151 x152 x153 x154 x155 x156 x157 x158))])) [[(.sl 12 L),(iv (w6 (x128 + 1))),(iv (w6 (x129 - 1))),(iv x130),(iv x131)]])))) (dd 1 ((x6 == 4)) (oo 0 ((npL [(iv 13),(.sl 12 x127)])) (j_one7 0 13 x127 fun x159 x160 x161 x162 x163 x164 x165 x166 x167 x168 x169 x170=>(zz 1 (Q (.agg (nR 17 x1 0 [] false 0 0 0 (bs []) 0 0 [(.agg (nR x159 x160 x161 x162 x163 x164 x165 x166 x167 x168 x169 x170))])) [[(.sl 12 L),(iv (w6 (x128 + 1))),(iv (w6 (x129 - 1))),(iv x130),(iv x131)]])))) (dd 1 ((x6 == 5)) (oo 1 ((npL [(iv 13),(.sl 12 x127)])) (j_one7 0 13 x127 fun x171 x172 x173 x174 x175 x176 x177 x178 x179 x180 x181 x182=>(zz 1 (Q (.agg (nR 18 x1 0 [] false x6 0 0 (bs []) 0 0 [(.agg (nR x171 x172 x173 x174 x175 x176 x177 x178 x179 x180 x181 x182))])) [[(.sl 12 L),(iv (w6 (x128 + 1))),(iv (w6 (x129 - 1))),(iv x130),(iv x131)]])))) (dd 1 ((x6 == 6)) (oo 1 ((npL [(iv 13),(.sl 12 x127)])) (j_one7 0 13 x127 fun x183 x184 x185 x186 x187 x188 x189 x190 x191 x192 x193 x194=>(zz 1 (Q (.agg (nR 18 x1 0 [] false x6 0 0 (bs []) 0 0 [(.agg (nR x183 x184 x185 x186 x187 x188 x189 x190 x191 x192 x193 x194))])) [[(.sl 12 L),(iv (w6 (x128 + 1))),(iv (w6 (x129 - 1))),(iv x130),(iv x131)]])))) (dd 1 ((x6 == 7)) (oo 1 ((npL [(iv 13),(.sl 12 x127)])) (j_one7 0 13 x127 fun x195 x196 x197 x198 x199 x200 x201 x202 x203 x204 x205 x206=>(zz 1 (Q (.agg (nR 18 x1 0 [] false x6 0 0 (bs []) 0 0 [(.agg (nR x195 x196 x197 x198 x199 x200 x201 x202 x203 x204 x205 x206))])) [[(.sl 12 L),(iv (w6 (x128 + 1))),(iv (w6 (x129 - 1))),(iv x130),(iv x131)]])))) (dd 1 ((x6 == 8)) (oo 0 ((npL [(iv 13),(.sl 12 x127)])) (j_one7 0 13 x127 fun x207 x208 x209 x210 x211 x212 x213 x214 x215 x216 x217 x218=>(zz 1 (Q (.agg (nR 18 x1 0 [] false x6 0 0 (bs []) 0 0 [(.agg (nR x207 x208 x209 x210 x211 x212 x213 x214 x215 x216 x217 x218))])) [[(.sl 12 L),(iv (w6 (x128 + 1))),(iv (w6 (x129 - 1))),(iv x130),(iv x131)]])))) (dd 1 ((x6 == 3)) (zz 1 (Q (.agg (nR 16 x1 0 [] false 0 0 0 (bs []) 0 0 x127)) [[(.sl 12 L),(iv (w6 (x128 + 1))),(iv (w6 (x129 - 1))),(iv x130),(iv x131)]])) (oo 0 ((roomD pr 27 0 x127.length)) (dd 1 ((decide ((↑x127.length : Int) > 2))) (j_fail 7 32 x1 L (w6 (x128 + 1)) (w6 (x129 - 1)) x130 x131 fun x219 x220=>(zz 1 (Q (.agg (nR 19 x1 0 [] false x6 x7 x8 x9 0 0 x127)) [[(.sl 12 L),(iv (w6 (x128 + 1))),(iv (w6 (x129 - 1))),(iv x219),(iv x220)]]))) (dd 4 ((decide ((↑x127.length : Int) > 1))) (dd 6 ((x6 == 12)) (j_fail 1 32 x1 L (w6 (x128 + 1)) (w6 (x129 - 1)) x130 x131 fun x221 x222=>(zz 1 (Q (.agg (nR 19 x1 0 [] false x6 x7 x8 x9 0 0 x127)) [[(.sl 12 L),(iv (w6 (x128 + 1))),(iv (w6 (x129 - 1))),(iv x221),(iv x222)]]))) (zz 1 (Q (.agg (nR 19 x1 0 [] false x6 x7 x8 x9 0 0 x127)) [[(.sl 12 L),(iv (w6 (x128 + 1))),(iv (w6 (x129 - 1))),(iv x130),(iv x131)]]))) (zz 7 (Q (.agg (nR 19 x1 0 [] false x6 x7 x8 x9 0 0 x127)) [[(.sl 12 L),(iv (w6 (x128 + 1))),(iv (w6 (x129 - 1))),(iv x130),(iv x131)]])))))))))))))))))) (j_alternatives 5 L (w6 (I + 1)) (w6 (O + 1)) E At fun x223 x224 x225 x226 x227=>(j_kind 1 L x224 x225 x226 x227 fun x228=>(dd 1 ((!x228 == 8)) (j_fail 1 20 (-1) L x224 x225 x226 x227 fun x229 x230=>(zz 1 (Q (.agg (nR 0 0 0 [] false 0 0 0 (bs []) 0 0 [])) [[(.sl 12 L),(iv x224),(iv x225),(iv x229),(iv x230)]]))) (dd 3 ((x6 == 1)) (oo 0 ((npL [(iv 13),(.sl 12 x223)])) (j_one7 0 13 x223 fun x231 x232 x233 x234 x235 x236 x237 x238 x239 x240 x241 x242=>(zz 1 (Q (.agg (nR 14 x1 0 [] false 0 0 0 x9 0 0 [(.agg (nR x231 x232 x233 x234 x235 x236 x237 x238 x239 x240 x241 x242))])) [[(.sl 12 L),(iv (w6 (x224 + 1))),(iv (w6 (x225 - 1))),(iv x226),(iv x227)]])))) (dd 1 ((x6 == 2)) (oo 0 ((npL [(iv 13),(.sl 12 x223)])) (j_one7 0 13 x223 fun x243 x244 x245 x246 x247 x248 x249 x250 x251 x252 x253 x254=>(zz 1 (Q (.agg (nR 15 x1 0 [] false 0 0 0 (bs []) x10 x11 [(.agg (nR x243 x244 x245 x246 x247 x248 x249 x250 x251 x252 x253 x254))])) [[(.sl 12 L),(iv (w6 (x224 + 1))),(iv (w6 (x225 - 1))),(iv x226),(iv x227)]])))) (dd 1 ((x6 == 4)) (oo 0 ((npL [(iv 13),(.sl 12 x223)])) (j_one7 0 13 x223 fun x255 x256 x257 x258 x259 x260 x261 x262 x263 x264 x265 x266=>(zz 1 (Q (.agg (nR 17 x1 0 [] false 0 0 0 (bs []) 0 0 [(.agg (nR x255 x256 x257 x258 x259 x260 x261 x262 x263 x264 x265 x266))])) [[(.sl 12 L),(iv (w6 (x224 + 1))),(iv (w6 (x225 - 1))),(iv x226),(iv x227)]])))) (dd 1 ((x6 == 5)) (oo 1 ((npL [(iv 13),(.sl 12 x223)])) (j_one7 0 13 x223 fun x267 x268 x269 x270 x271 x272 x273 x274 x275 x276 x277 x278=>(zz 1 (Q (.agg (nR 18 x1 0 [] false x6 0 0 (bs []) 0 0 [(.agg (nR x267 x268 x269 x270 x271 x272 x273 x274 x275 x276 x277 x278))])) [[(.sl 12 L),(iv (w6 (x224 + 1))),(iv (w6 (x225 - 1))),(iv x226),(iv x227)]])))) (dd 1 ((x6 == 6)) (oo 1 ((npL [(iv 13),(.sl 12 x223)])) (j_one7 0 13 x223 fun x279 x280 x281 x282 x283 x284 x285 x286 x287 x288 x289 x290=>(zz 1 (Q (.agg (nR 18 x1 0 [] false x6 0 0 (bs []) 0 0 [(.agg (nR x279 x280 x281 x282 x283 x284 x285 x286 x287 x288 x289 x290))])) [[(.sl 12 L),(iv (w6 (x224 + 1))),(iv (w6 (x225 - 1))),(iv x226),(iv x227)]])))) (dd 1 ((x6 == 7)) (oo 1 ((npL [(iv 13),(.sl 12 x223)])) (j_one7 0 13 x223 fun x291 x292 x293 x294 x295 x296 x297 x298 x299 x300 x301 x302=>(zz 1 (Q (.agg (nR 18 x1 0 [] false x6 0 0 (bs []) 0 0 [(.agg (nR x291 x292 x293 x294 x295 x296 x297 x298 x299 x300 x301 x302))])) [[(.sl 12 L),(iv (w6 (x224 + 1))),(iv (w6 (x225 - 1))),(iv x226),(iv x227)]])))) (dd 1 ((x6 == 8)) (oo 0 ((npL [(iv 13),(.sl 12 x223)])) (j_one7 0 13 x223 fun x303 x304 x305 x306 x307 x308 x309 x310 x311 x312 x313 x314=>(zz 1 (Q (.agg (nR 18 x1 0 [] false x6 0 0 (bs []) 0 0 [(.agg (nR x303 x304 x305 x306 x307 x308 x309 x310 x311 x312 x313 x314))])) [[(.sl 12 L),(iv (w6 (x224 + 1))),(iv (w6 (x225 - 1))),(iv x226),(iv x227)]])))) (dd 1 ((x6 == 3)) (zz 1 (Q (.agg (nR 16 x1 0 [] false 0 0 0 (bs []) 0 0 x223)) [[(.sl 12 L),(iv (w6 (x224 + 1))),(iv (w6 (x225 - 1))),(iv x226),(iv x227)]])) (oo 0 ((roomD pr 27 0 x223.length)) (dd 1 ((decide ((↑x223.length : Int) > 2))) (j_fail 7 32 x1 L (w6 (x224 + 1)) (w6 (x225 - 1)) x226 x227 fun x315 x316=>(zz 1 (Q (.agg (nR 19 x1 0 [] false x6 x7 x8 x9 0 0 x223)) [[(.sl 12 L),(iv (w6 (x224 + 1))),(iv (w6 (x225 - 1))),(iv x315),(iv x316)]]))) (dd 4 ((decide ((↑x223.length : Int) > 1))) (dd 6 ((x6 == 12)) (j_fail 1 32 x1 L (w6 (x224 + 1)) (w6 (x225 - 1)) x226 x227 fun x317 x318=>(zz 1 (Q (.agg (nR 19 x1 0 [] false x6 x7 x8 x9 0 0 x223)) [[(.sl 12 L),(iv (w6 (x224 + 1))),(iv (w6 (x225 - 1))),(iv x317),(iv x318)]]))) (zz 1 (Q (.agg (nR 19 x1 0 [] false x6 x7 x8 x9 0 0 x223)) [[(.sl 12 L),(iv (w6 (x224 + 1))),(iv (w6 (x225 - 1))),(iv x226),(iv x227)]]))) (zz 7 (Q (.agg (nR 19 x1 0 [] false x6 x7 x8 x9 0 0 x223)) [[(.sl 12 L),(iv (w6 (x224 + 1))),(iv (w6 (x225 - 1))),(iv x226),(iv x227)]])))))))))))))))))))))
theorem w_thing (L I O E At) (Q : AV → HH → Prop) (h : (t_thing L I O E At Q).p) : ∃ r H',A 85 [(.ptr 0 0)] [[(.sl 12 L),(iv I),(iv O),(iv E),(iv At)]] r H' ∧ Q r H' :=
 Ans.wq rfl (t_thing L I O E At Q).h (by kernel_rfl) h
theorem i_thing {L I O E At} (ih_thing : IH_thing (rank_thing L I O E At)) (ih_alternatives : IH_alternatives (rank_thing L I O E At)) (hp : pre_thing L I O E At) : E_thing L I O E At := by
 obtain ⟨_,_,ha,_,_,_,_,_,_,_,_,_,_,_,_,_,_,_,_,hq,rfl,rfl⟩ := w_thing L I O E At (fun r H'=>∃ x0 x1 x2 x3 x4 x5 x6 x7 x8 x9 x10 x11 x12 x13 x14 x15,post_thing (L) (I) (O) (E) (At) x0 x1 x2 x3 x4 x5 x6 x7 x8 x9 x10 x11 x12 x13 x14 x15 ∧ r = (.agg [(iv x0),(iv x1),(iv x2),(.sl 2 x3),(bv x4),(iv x5),(iv x6),(iv x7),(sv x8),(iv x9),(iv x10),(.sl 12 x11)]) ∧ H' = [[(.sl 12 (L)),(iv x12),(iv x13),(iv x14),(iv x15)]]) (by
  obtain ⟨hp_0,hp_1,hp_2,hp_3,hp_4,hp_5,hp_6,hp_7,hp_8⟩ := hp
  try simp only [lN] at hp_0 hp_1 hp_2 hp_3 hp_4 hp_5 hp_6 hp_7 hp_8
  refine ⟨tD,tG,fun _ _ _ _ _ _ _ _ _ _ _ _ g28=>?_⟩
  have eg28 := Ts.elem tA g28; obtain ⟨_,_⟩ := id eg28; try have ekg29 := kind_at tA g28 (by omega)
  apply bS <;> intro _
  ·apply bS <;> intro _
   ·try have := tW (I + 1)
    exact ⟨1,_,_,_,_,_,_,0,_,_,_,_,_,_,_,_,zb3x4,rfl,rfl⟩
   apply bS <;> intro _
   ·try have := tW (I + 1)
    exact ⟨2,_,_,_,_,_,_,0,_,_,_,_,_,_,_,_,zb3x4,rfl,rfl⟩
   apply bS <;> intro _
   ·try have := tW (I + 1)
    exact ⟨3,_,_,_,_,_,_,0,_,_,_,_,_,_,_,_,zb3x4,rfl,rfl⟩
   apply bS <;> intro _
   ·try have := tW (I + 1)
    exact ⟨4,_,_,_,_,_,_,0,_,_,_,_,_,_,_,_,zb3x4,rfl,rfl⟩
   apply bS <;> intro _
   ·try have := tW (I + 1)
    exact ⟨5,_,_,_,_,_,_,0,_,_,_,_,_,_,_,_,zb3x4,rfl,rfl⟩
   apply bS <;> intro _
   ·try have := tW (I + 1)
    exact ⟨6,_,_,_,_,_,_,0,_,_,_,_,_,_,_,_,zb3x4,rfl,rfl⟩
   apply bS <;> intro _
   ·try have := tW (I + 1)
    exact ⟨7,_,_,_,_,_,_,0,_,_,_,_,_,_,_,_,zb3x4,rfl,rfl⟩
   apply bS <;> intro _
   ·try have := tW (I + 1)
    exact ⟨8,_,_,_,_,_,_,0,_,_,_,_,_,_,_,_,zb3x4,rfl,rfl⟩
   apply bS <;> intro _
   ·try have := tW (I + 1)
    exact ⟨9,_,_,_,_,_,_,0,_,_,_,_,_,_,_,_,zb3x4,rfl,rfl⟩
   apply bS <;> intro _
   ·try have := tW (I + 1)
    exact ⟨_,_,_,_,_,_,_,0,_,_,_,_,_,_,_,_,zb3x4,rfl,rfl⟩
   try have := tW (I + 1)
   exact ⟨_,_,_,_,_,_,_,0,_,_,_,_,_,_,_,_,zb3x4,rfl,rfl⟩
  apply bS <;> intro _
  ·refine ⟨c_fail tP,fun _ _ p43=>?_⟩
   unfold post_fail at p43
   try simp only [lN] at p43
   exact ⟨0,0,0,_,_,0,0,0,_,0,0,_,_,_,_,_,zb3x4,rfl,rfl⟩
  apply bS <;> intro _
  ·try have := tW (O + 1)
   try have := tW (I + 1)
   refine ⟨c_kind tP,fun _ p46=>?_⟩
   try simp only [lN] at p46
   obtain ⟨_,_,_⟩ := p46
   apply bS <;> intro _
   ·refine ⟨ih_thing (by (try unfold rank_thing); (try unfold rank_thing); exact tI) tP,fun _ _ _ _ _ _ _ _ _ _ _ _ _ _ _ _ p64=>?_⟩
    try simp only [lN] at p64
    obtain ⟨_,_,_,_,_,_,_,_,_,_,_⟩ := p64
    refine ⟨ih_alternatives zb3x5 tP,fun _ x66 x67 _ _ p70=>?_⟩
    try simp only [lN] at p70
    obtain ⟨_,_,_,_,_,_,_,_,_,_,_⟩ := p70
    refine ⟨c_kind tP,fun _ p72=>?_⟩
    try simp only [lN] at p72
    obtain ⟨_,_,_⟩ := p72
    apply bS <;> intro _
    ·refine ⟨c_fail tP,fun _ _ p76=>?_⟩
     unfold post_fail at p76
     try simp only [lN] at p76
     exact ⟨0,0,0,_,_,0,0,0,_,0,0,_,_,_,_,_,zb3x4,rfl,rfl⟩
    apply bS <;> intro _
    ·refine ⟨tN,c_one7 tP,fun _ _ _ _ _ _ _ _ _ _ _ _ p90=>?_⟩
     try simp only [lN] at p90
     obtain ⟨_,_,_,_⟩ := p90
     try have := tW (x67 - 1)
     try have := tW (x66 + 1)
     exact ⟨_,_,0,_,_,0,0,0,_,0,0,_,_,_,_,_,zb3x4,rfl,rfl⟩
    apply bS <;> intro _
    ·refine ⟨tN,c_one7 tP,fun _ _ _ _ _ _ _ _ _ _ _ _ p104=>?_⟩
     try simp only [lN] at p104
     obtain ⟨_,_,_,_⟩ := p104
     try have := tW (x67 - 1)
     try have := tW (x66 + 1)
     exact ⟨_,_,0,_,_,0,0,0,_,_,_,_,_,_,_,_,zb3x4,rfl,rfl⟩
    apply bS <;> intro _
    ·refine ⟨tN,c_one7 tP,fun _ _ _ _ _ _ _ _ _ _ _ _ p118=>?_⟩
     try simp only [lN] at p118
     obtain ⟨_,_,_,_⟩ := p118
     try have := tW (x67 - 1)
     try have := tW (x66 + 1)
     exact ⟨_,_,0,_,_,0,0,0,_,0,0,_,_,_,_,_,zb3x4,rfl,rfl⟩
    apply bS <;> intro _
    ·refine ⟨tN,c_one7 tP,fun _ _ _ _ _ _ _ _ _ _ _ _ p132=>?_⟩
     try simp only [lN] at p132
     obtain ⟨_,_,_,_⟩ := p132
     try have := tW (x67 - 1)
     try have := tW (x66 + 1)
     exact ⟨_,_,0,_,_,_,0,0,_,0,0,_,_,_,_,_,zb3x4,rfl,rfl⟩
    apply bS <;> intro _
    ·refine ⟨tN,c_one7 tP,fun _ _ _ _ _ _ _ _ _ _ _ _ p146=>?_⟩
     try simp only [lN] at p146
     obtain ⟨_,_,_,_⟩ := p146
     try have := tW (x67 - 1)
     try have := tW (x66 + 1)
     exact ⟨_,_,0,_,_,_,0,0,_,0,0,_,_,_,_,_,zb3x4,rfl,rfl⟩
    apply bS <;> intro _
    ·refine ⟨tN,c_one7 tP,fun _ _ _ _ _ _ _ _ _ _ _ _ p160=>?_⟩
     try simp only [lN] at p160
     obtain ⟨_,_,_,_⟩ := p160
     try have := tW (x67 - 1)
     try have := tW (x66 + 1)
     exact ⟨_,_,0,_,_,_,0,0,_,0,0,_,_,_,_,_,zb3x4,rfl,rfl⟩
    apply bS <;> intro _
    ·refine ⟨tN,c_one7 tP,fun _ _ _ _ _ _ _ _ _ _ _ _ p174=>?_⟩
     try simp only [lN] at p174
     obtain ⟨_,_,_,_⟩ := p174
     try have := tW (x67 - 1)
     try have := tW (x66 + 1)
     exact ⟨_,_,0,_,_,_,0,0,_,0,0,_,_,_,_,_,zb3x4,rfl,rfl⟩
    apply bS <;> intro _
    ·try have := tW (x67 - 1)
     try have := tW (x66 + 1)
     exact ⟨_,_,0,_,_,0,0,0,_,0,0,_,_,_,_,_,zb3x4,rfl,rfl⟩
    refine ⟨tR,?_⟩
    apply bS <;> intro _
    ·try have := tW (x67 - 1)
     try have := tW (x66 + 1)
     refine ⟨c_fail tP,fun _ _ p179=>?_⟩
     unfold post_fail at p179
     try simp only [lN] at p179
     exact ⟨_,_,0,_,_,_,_,_,_,0,0,_,_,_,_,_,zb3x4,rfl,rfl⟩
    apply bS <;> intro _
    ·apply bS <;> intro _
     ·try have := tW (x67 - 1)
      try have := tW (x66 + 1)
      refine ⟨c_fail tP,fun _ _ p184=>?_⟩
      unfold post_fail at p184
      try simp only [lN] at p184
      exact ⟨_,_,0,_,_,_,_,_,_,0,0,_,_,_,_,_,zb3x4,rfl,rfl⟩
     try have := tW (x67 - 1)
     try have := tW (x66 + 1)
     exact ⟨_,_,0,_,_,_,_,_,_,0,0,_,_,_,_,_,zb3x4,rfl,rfl⟩
    try have := tW (x67 - 1)
    try have := tW (x66 + 1)
    exact ⟨_,_,0,_,_,_,_,_,_,0,0,_,_,_,_,_,zb3x4,rfl,rfl⟩
   refine ⟨ih_alternatives zb3x5 tP,fun _ x186 x187 _ _ p190=>?_⟩
   try simp only [lN] at p190
   obtain ⟨_,_,_,_,_,_,_,_,_,_,_⟩ := p190
   refine ⟨c_kind tP,fun _ p192=>?_⟩
   try simp only [lN] at p192
   obtain ⟨_,_,_⟩ := p192
   apply bS <;> intro _
   ·refine ⟨c_fail tP,fun _ _ p196=>?_⟩
    unfold post_fail at p196
    try simp only [lN] at p196
    exact ⟨0,0,0,_,_,0,0,0,_,0,0,_,_,_,_,_,zb3x4,rfl,rfl⟩
   apply bS <;> intro _
   ·refine ⟨tN,c_one7 tP,fun _ _ _ _ _ _ _ _ _ _ _ _ p210=>?_⟩
    try simp only [lN] at p210
    obtain ⟨_,_,_,_⟩ := p210
    try have := tW (x187 - 1)
    try have := tW (x186 + 1)
    exact ⟨_,_,0,_,_,0,0,0,_,0,0,_,_,_,_,_,zb3x4,rfl,rfl⟩
   apply bS <;> intro _
   ·refine ⟨tN,c_one7 tP,fun _ _ _ _ _ _ _ _ _ _ _ _ p224=>?_⟩
    try simp only [lN] at p224
    obtain ⟨_,_,_,_⟩ := p224
    try have := tW (x187 - 1)
    try have := tW (x186 + 1)
    exact ⟨_,_,0,_,_,0,0,0,_,_,_,_,_,_,_,_,zb3x4,rfl,rfl⟩
   apply bS <;> intro _
   ·refine ⟨tN,c_one7 tP,fun _ _ _ _ _ _ _ _ _ _ _ _ p238=>?_⟩
    try simp only [lN] at p238
    obtain ⟨_,_,_,_⟩ := p238
    try have := tW (x187 - 1)
    try have := tW (x186 + 1)
    exact ⟨_,_,0,_,_,0,0,0,_,0,0,_,_,_,_,_,zb3x4,rfl,rfl⟩
   apply bS <;> intro _
   ·refine ⟨tN,c_one7 tP,fun _ _ _ _ _ _ _ _ _ _ _ _ p252=>?_⟩
    try simp only [lN] at p252
    obtain ⟨_,_,_,_⟩ := p252
    try have := tW (x187 - 1)
    try have := tW (x186 + 1)
    exact ⟨_,_,0,_,_,_,0,0,_,0,0,_,_,_,_,_,zb3x4,rfl,rfl⟩
   apply bS <;> intro _
   ·refine ⟨tN,c_one7 tP,fun _ _ _ _ _ _ _ _ _ _ _ _ p266=>?_⟩
    try simp only [lN] at p266
    obtain ⟨_,_,_,_⟩ := p266
    try have := tW (x187 - 1)
    try have := tW (x186 + 1)
    exact ⟨_,_,0,_,_,_,0,0,_,0,0,_,_,_,_,_,zb3x4,rfl,rfl⟩
   apply bS <;> intro _
   ·refine ⟨tN,c_one7 tP,fun _ _ _ _ _ _ _ _ _ _ _ _ p280=>?_⟩
    try simp only [lN] at p280
    obtain ⟨_,_,_,_⟩ := p280
    try have := tW (x187 - 1)
    try have := tW (x186 + 1)
    exact ⟨_,_,0,_,_,_,0,0,_,0,0,_,_,_,_,_,zb3x4,rfl,rfl⟩
   apply bS <;> intro _
   ·refine ⟨tN,c_one7 tP,fun _ _ _ _ _ _ _ _ _ _ _ _ p294=>?_⟩
    try simp only [lN] at p294
    obtain ⟨_,_,_,_⟩ := p294
    try have := tW (x187 - 1)
    try have := tW (x186 + 1)
    exact ⟨_,_,0,_,_,_,0,0,_,0,0,_,_,_,_,_,zb3x4,rfl,rfl⟩
   apply bS <;> intro _
   ·try have := tW (x187 - 1)
    try have := tW (x186 + 1)
    exact ⟨_,_,0,_,_,0,0,0,_,0,0,_,_,_,_,_,zb3x4,rfl,rfl⟩
   refine ⟨tR,?_⟩
   apply bS <;> intro _
   ·try have := tW (x187 - 1)
    try have := tW (x186 + 1)
    refine ⟨c_fail tP,fun _ _ p299=>?_⟩
    unfold post_fail at p299
    try simp only [lN] at p299
    exact ⟨_,_,0,_,_,_,_,_,_,0,0,_,_,_,_,_,zb3x4,rfl,rfl⟩
   apply bS <;> intro _
   ·apply bS <;> intro _
    ·try have := tW (x187 - 1)
     try have := tW (x186 + 1)
     refine ⟨c_fail tP,fun _ _ p304=>?_⟩
     unfold post_fail at p304
     try simp only [lN] at p304
     exact ⟨_,_,0,_,_,_,_,_,_,0,0,_,_,_,_,_,zb3x4,rfl,rfl⟩
    try have := tW (x187 - 1)
    try have := tW (x186 + 1)
    exact ⟨_,_,0,_,_,_,_,_,_,0,0,_,_,_,_,_,zb3x4,rfl,rfl⟩
   try have := tW (x187 - 1)
   try have := tW (x186 + 1)
   exact ⟨_,_,0,_,_,_,_,_,_,0,0,_,_,_,_,_,zb3x4,rfl,rfl⟩
  try have := tW (O + 1)
  try have := tW (I + 1)
  refine ⟨ih_alternatives zb3x5 tP,fun _ x306 x307 _ _ p310=>?_⟩
  try simp only [lN] at p310
  obtain ⟨_,_,_,_,_,_,_,_,_,_,_⟩ := p310
  refine ⟨c_kind tP,fun _ p312=>?_⟩
  try simp only [lN] at p312
  obtain ⟨_,_,_⟩ := p312
  apply bS <;> intro _
  ·refine ⟨c_fail tP,fun _ _ p316=>?_⟩
   unfold post_fail at p316
   try simp only [lN] at p316
   exact ⟨0,0,0,_,_,0,0,0,_,0,0,_,_,_,_,_,zb3x4,rfl,rfl⟩
  apply bS <;> intro _
  ·refine ⟨tN,c_one7 tP,fun _ _ _ _ _ _ _ _ _ _ _ _ p330=>?_⟩
   try simp only [lN] at p330
   obtain ⟨_,_,_,_⟩ := p330
   try have := tW (x307 - 1)
   try have := tW (x306 + 1)
   exact ⟨_,_,0,_,_,0,0,0,_,0,0,_,_,_,_,_,zb3x4,rfl,rfl⟩
  apply bS <;> intro _
  ·refine ⟨tN,c_one7 tP,fun _ _ _ _ _ _ _ _ _ _ _ _ p344=>?_⟩
   try simp only [lN] at p344
   obtain ⟨_,_,_,_⟩ := p344
   try have := tW (x307 - 1)
   try have := tW (x306 + 1)
   exact ⟨_,_,0,_,_,0,0,0,_,_,_,_,_,_,_,_,zb3x4,rfl,rfl⟩
  apply bS <;> intro _
  ·refine ⟨tN,c_one7 tP,fun _ _ _ _ _ _ _ _ _ _ _ _ p358=>?_⟩
   try simp only [lN] at p358
   obtain ⟨_,_,_,_⟩ := p358
   try have := tW (x307 - 1)
   try have := tW (x306 + 1)
   exact ⟨_,_,0,_,_,0,0,0,_,0,0,_,_,_,_,_,zb3x4,rfl,rfl⟩
  apply bS <;> intro _
  ·refine ⟨tN,c_one7 tP,fun _ _ _ _ _ _ _ _ _ _ _ _ p372=>?_⟩
   try simp only [lN] at p372
   obtain ⟨_,_,_,_⟩ := p372
   try have := tW (x307 - 1)
   try have := tW (x306 + 1)
   exact ⟨_,_,0,_,_,_,0,0,_,0,0,_,_,_,_,_,zb3x4,rfl,rfl⟩
  apply bS <;> intro _
  ·refine ⟨tN,c_one7 tP,fun _ _ _ _ _ _ _ _ _ _ _ _ p386=>?_⟩
   try simp only [lN] at p386
   obtain ⟨_,_,_,_⟩ := p386
   try have := tW (x307 - 1)
   try have := tW (x306 + 1)
   exact ⟨_,_,0,_,_,_,0,0,_,0,0,_,_,_,_,_,zb3x4,rfl,rfl⟩
  apply bS <;> intro _
  ·refine ⟨tN,c_one7 tP,fun _ _ _ _ _ _ _ _ _ _ _ _ p400=>?_⟩
   try simp only [lN] at p400
   obtain ⟨_,_,_,_⟩ := p400
   try have := tW (x307 - 1)
   try have := tW (x306 + 1)
   exact ⟨_,_,0,_,_,_,0,0,_,0,0,_,_,_,_,_,zb3x4,rfl,rfl⟩
  apply bS <;> intro _
  ·refine ⟨tN,c_one7 tP,fun _ _ _ _ _ _ _ _ _ _ _ _ p414=>?_⟩
   try simp only [lN] at p414
   obtain ⟨_,_,_,_⟩ := p414
   try have := tW (x307 - 1)
   try have := tW (x306 + 1)
   exact ⟨_,_,0,_,_,_,0,0,_,0,0,_,_,_,_,_,zb3x4,rfl,rfl⟩
  apply bS <;> intro _
  ·try have := tW (x307 - 1)
   try have := tW (x306 + 1)
   exact ⟨_,_,0,_,_,0,0,0,_,0,0,_,_,_,_,_,zb3x4,rfl,rfl⟩
  refine ⟨tR,?_⟩
  apply bS <;> intro _
  ·try have := tW (x307 - 1)
   try have := tW (x306 + 1)
   refine ⟨c_fail tP,fun _ _ p419=>?_⟩
   unfold post_fail at p419
   try simp only [lN] at p419
   exact ⟨_,_,0,_,_,_,_,_,_,0,0,_,_,_,_,_,zb3x4,rfl,rfl⟩
  apply bS <;> intro _
  ·apply bS <;> intro _
   ·try have := tW (x307 - 1)
    try have := tW (x306 + 1)
    refine ⟨c_fail tP,fun _ _ p424=>?_⟩
    unfold post_fail at p424
    try simp only [lN] at p424
    exact ⟨_,_,0,_,_,_,_,_,_,0,0,_,_,_,_,_,zb3x4,rfl,rfl⟩
   try have := tW (x307 - 1)
   try have := tW (x306 + 1)
   exact ⟨_,_,0,_,_,_,_,_,_,0,0,_,_,_,_,_,zb3x4,rfl,rfl⟩
  try have := tW (x307 - 1)
  try have := tW (x306 + 1)
  exact ⟨_,_,0,_,_,_,_,_,_,0,0,_,_,_,_,_,zb3x4,rfl,rfl⟩)
 exact ⟨_,_,_,_,_,_,_,_,_,_,_,_,_,_,_,_,hq,ha⟩
theorem parse_all : ∀ b,IH_thing b ∧ IH_sequence b ∧ IH_alternatives b
 | 0=>⟨fun hr _=>absurd hr (Nat.not_lt_zero _),fun hr _=>absurd hr (Nat.not_lt_zero _),fun hr _=>absurd hr (Nat.not_lt_zero _)⟩
 | b + 1=>by
  obtain ⟨h0,h1,h2⟩ := parse_all b
  exact ⟨fun hr hp=>i_thing (IH_thing_le _ _ (Nat.le_of_lt_succ hr) h0) (IH_alternatives_le _ _ (Nat.le_of_lt_succ hr) h2) hp,fun hr hp=>i_sequence (IH_thing_le _ _ (Nat.le_of_lt_succ hr) h0) hp,fun hr hp=>i_alternatives (IH_sequence_le _ _ (Nat.le_of_lt_succ hr) h1) hp⟩
theorem c_alternatives {L I O E At} (hp : pre_alternatives L I O E At) : E_alternatives L I O E At := (parse_all _).2.2 (Nat.lt_succ_self _) hp
abbrev E_Parse (x0 : List AV) (x1 : Int) : Prop := ∃ x2 x3 x4 x5 x6 x7 x8 x9 x10 x11 x12 x13 x14 x15,post_Parse x0 x1 x2 x3 x4 x5 x6 x7 x8 x9 x10 x11 x12 x13 x14 x15 ∧ A 15 [(.sl 12 x0),(iv x1)] [] (.tup [(.agg (nR x2 x3 x4 x5 x6 x7 x8 x9 x10 x11 x12 x13)),(iv x14),(iv x15)]) []
abbrev j_Parse (nn : Nat) (x0 : List AV) (x1 : Int) (kK : Int → Int → Int → List AV → Bool → Int → Int → Int → ByteArray → Int → Int → List AV → Int → Int → HC) : HC := ⟨.ev nn (.ask (eN fun x2 x3 x4 x5 x6 x7 x8 x9 x10 x11 x12 x13=>eI fun x14=>eI fun x15=>.done (.res (.tup [(.agg (nR x2 x3 x4 x5 x6 x7 x8 x9 x10 x11 x12 x13)),(iv x14),(iv x15)]) [] (post_Parse x0 x1 x2 x3 x4 x5 x6 x7 x8 x9 x10 x11 x12 x13 x14 x15)) ((kK x2 x3 x4 x5 x6 x7 x8 x9 x10 x11 x12 x13 x14 x15).h))),E_Parse x0 x1 ∧ (∀ x2 x3 x4 x5 x6 x7 x8 x9 x10 x11 x12 x13 x14 x15,post_Parse x0 x1 x2 x3 x4 x5 x6 x7 x8 x9 x10 x11 x12 x13 x14 x15 → (kK x2 x3 x4 x5 x6 x7 x8 x9 x10 x11 x12 x13 x14 x15).p)⟩
abbrev t_Parse (x0 : List AV) (x1 : Int) (Q : AV → HH → Prop) : HC := (j_alternatives 1 x0 0 0 0 0 fun x2 x3 x4 x5 x6=>(dd 1 ((x5 == 0)) (dd 8 ((decide (x3 < (↑x0.length : Int)))) (oo 0 ((decide (0 ≤ x3))) (pT 1 ((x0[x3.toNat]?)) fun x7 x8 x9 x10 x11 x12 x13 x14 x15 x16 x17 x18=>(j_fail 1 31 x8 x0 x3 x4 x5 x6 fun x19 x20=>(dd 1 ((x19 == 20)) (qq 2 Q (.tup [(.agg (nR 0 0 0 [] false 0 0 0 (bs []) 0 0 [])),(iv x19),(iv x1)])) (dd 1 ((!x19 == 0)) (qq 2 Q (.tup [(.agg (nR 0 0 0 [] false 0 0 0 (bs []) 0 0 [])),(iv x19),(iv x20)])) (oo 0 ((npL [(iv 13),(.sl 12 x2)])) (j_one7 0 13 x2 fun x21 x22 x23 x24 x25 x26 x27 x28 x29 x30 x31 x32=>(oo 1 ((((np (.tup [(.agg (nR x21 x22 x23 x24 x25 x26 x27 x28 x29 x30 x31 x32)),(iv 0),(iv 0)])) && true) && true)) (qq 0 Q (.tup [(.agg (nR x21 x22 x23 x24 x25 x26 x27 x28 x29 x30 x31 x32)),(iv 0),(iv 0)])))))))))) (dd 1 ((x5 == 20)) (qq 2 Q (.tup [(.agg (nR 0 0 0 [] false 0 0 0 (bs []) 0 0 [])),(iv x5),(iv x1)])) (dd 1 ((!x5 == 0)) (qq 2 Q (.tup [(.agg (nR 0 0 0 [] false 0 0 0 (bs []) 0 0 [])),(iv x5),(iv x6)])) (oo 0 ((npL [(iv 13),(.sl 12 x2)])) (j_one7 0 13 x2 fun x33 x34 x35 x36 x37 x38 x39 x40 x41 x42 x43 x44=>(oo 1 ((((np (.tup [(.agg (nR x33 x34 x35 x36 x37 x38 x39 x40 x41 x42 x43 x44)),(iv 0),(iv 0)])) && true) && true)) (qq 0 Q (.tup [(.agg (nR x33 x34 x35 x36 x37 x38 x39 x40 x41 x42 x43 x44)),(iv 0),(iv 0)])))))))) (dd 9 ((x5 == 20)) (qq 2 Q (.tup [(.agg (nR 0 0 0 [] false 0 0 0 (bs []) 0 0 [])),(iv x5),(iv x1)])) (dd 1 ((!x5 == 0)) (qq 2 Q (.tup [(.agg (nR 0 0 0 [] false 0 0 0 (bs []) 0 0 [])),(iv x5),(iv x6)])) (oo 0 ((npL [(iv 13),(.sl 12 x2)])) (j_one7 0 13 x2 fun x45 x46 x47 x48 x49 x50 x51 x52 x53 x54 x55 x56=>(oo 1 ((((np (.tup [(.agg (nR x45 x46 x47 x48 x49 x50 x51 x52 x53 x54 x55 x56)),(iv 0),(iv 0)])) && true) && true)) (qq 0 Q (.tup [(.agg (nR x45 x46 x47 x48 x49 x50 x51 x52 x53 x54 x55 x56)),(iv 0),(iv 0)])))))))))
theorem w_Parse (x0 x1) (Q : AV → HH → Prop) (h : (t_Parse x0 x1 Q).p) : ∃ r H',A 15 [(.sl 12 x0),(iv x1)] [] r H' ∧ Q r H' :=
 Ans.wq rfl (t_Parse x0 x1 Q).h (by kernel_rfl) h
theorem c_Parse {x0 x1} (hp : pre_Parse x0 x1) : E_Parse x0 x1 := by
 obtain ⟨_,_,ha,_,_,_,_,_,_,_,_,_,_,_,_,_,_,hq,rfl,rfl⟩ := w_Parse x0 x1 (fun r H'=>∃ x2 x3 x4 x5 x6 x7 x8 x9 x10 x11 x12 x13 x14 x15,post_Parse x0 x1 x2 x3 x4 x5 x6 x7 x8 x9 x10 x11 x12 x13 x14 x15 ∧ r = (.tup [(.agg [(iv x2),(iv x3),(iv x4),(.sl 2 x5),(bv x6),(iv x7),(iv x8),(iv x9),(sv x10),(iv x11),(iv x12),(.sl 12 x13)]),(iv x14),(iv x15)]) ∧ H' = []) (by
  obtain ⟨hp_0,hp_1,hp_2⟩ := hp
  try simp only [lN] at hp_0 hp_1 hp_2
  refine ⟨c_alternatives tP,fun _ _ _ _ _ p21=>?_⟩
  try simp only [lN] at p21
  obtain ⟨_,_,_,_,p21_4,p21_5,_,_,p21_8,_,p21_10⟩ := p21
  apply bS <;> intro h22
  ·have p21_4c := p21_4 h22
   have p21_5c := p21_5 h22
   have p21_8c := p21_8 h22
   have p21_10c := p21_10 h22
   apply bS <;> intro _
   ·refine ⟨tD,tG,fun _ _ _ _ _ _ _ _ _ _ _ _ g36=>?_⟩
    have eg36 := Ts.elem tA g36; obtain ⟨_,_⟩ := id eg36; try have ekg37 := kind_at tA g36 (by omega)
    refine ⟨c_fail tP,fun _ _ p39=>?_⟩
    unfold post_fail at p39
    try simp only [lN] at p39
    refine bS (fun _=>⟨0,0,0,_,_,0,0,0,_,0,0,_,_,_,tP,rfl,rfl⟩) fun _=>?_
    refine bS (fun _=>⟨0,0,0,_,_,0,0,0,_,0,0,_,_,_,tP,rfl,rfl⟩) fun _=>?_
    refine ⟨tN,c_one7 tP,fun _ _ _ _ _ _ _ _ _ _ _ _ p54=>?_⟩
    try simp only [lN] at p54
    obtain ⟨_,_,_,_⟩ := p54
    refine ⟨tN,?_⟩
    exact ⟨_,_,_,_,_,_,_,_,_,_,_,_,0,0,tP,rfl,rfl⟩
   refine bS (fun _=>⟨0,0,0,_,_,0,0,0,_,0,0,_,_,_,tP,rfl,rfl⟩) fun _=>?_
   refine bS (fun h56=>⟨0,0,0,_,_,0,0,0,_,0,0,_,_,_,tP,rfl,rfl⟩) fun h56=>?_
   have p21_4c := p21_4 h56
   have p21_5c := p21_5 h56
   have p21_8c := p21_8 h56
   have p21_10c := p21_10 h56
   refine ⟨tN,c_one7 tP,fun _ _ _ _ _ _ _ _ _ _ _ _ p69=>?_⟩
   try simp only [lN] at p69
   obtain ⟨_,_,_,_⟩ := p69
   refine ⟨tN,?_⟩
   exact ⟨_,_,_,_,_,_,_,_,_,_,_,_,0,0,tP,rfl,rfl⟩
  refine bS (fun _=>⟨0,0,0,_,_,0,0,0,_,0,0,_,_,_,tP,rfl,rfl⟩) fun _=>?_
  refine bS (fun h71=>⟨0,0,0,_,_,0,0,0,_,0,0,_,_,_,tP,rfl,rfl⟩) fun h71=>?_
  have p21_4c := p21_4 h71
  have p21_5c := p21_5 h71
  have p21_8c := p21_8 h71
  have p21_10c := p21_10 h71
  refine ⟨tN,c_one7 tP,fun _ _ _ _ _ _ _ _ _ _ _ _ p84=>?_⟩
  try simp only [lN] at p84
  obtain ⟨_,_,_,_⟩ := p84
  refine ⟨tN,?_⟩
  exact ⟨_,_,_,_,_,_,_,_,_,_,_,_,0,0,tP,rfl,rfl⟩)
 exact ⟨_,_,_,_,_,_,_,_,_,_,_,_,_,_,hq,ha⟩
abbrev E_meant (m k : Int) (nm : ByteArray) (last cnt : Int) (N : List AV) (E At : Int) : Prop := ∃ x0,post_meant m k nm last cnt N E At x0 ∧ A 62 [(.ptr 0 0),(iv m),(iv k),(sv nm),(iv last)] [[(iv cnt),(.sl 2 N),(iv E),(iv At)]] (iv x0) [[(iv cnt),(.sl 2 N),(iv E),(iv At)]]
abbrev j_meant (nn : Nat) (m k : Int) (nm : ByteArray) (last cnt : Int) (N : List AV) (E At : Int) (kK : Int → HC) : HC := ⟨.ev nn (.ask (eI fun x0=>.done (.res (iv x0) [[(iv cnt),(.sl 2 N),(iv E),(iv At)]] (post_meant m k nm last cnt N E At x0)) ((kK x0).h))),E_meant m k nm last cnt N E At ∧ (∀ x0,post_meant m k nm last cnt N E At x0 → (kK x0).p)⟩
def s_meant_0 (x0 : ByteArray) (x1 : Int) (x2 : List AV) (x3 x4 x5 : Int) : St := ⟨[],[(0,(.ptr 0 0)),(3,(sv x0)),(11,(iv x5))],[[(iv x1),(.sl 2 x2),(iv x3),(iv x4)]],0⟩
def x_meant_0_0 (x0 : ByteArray) (x1 : Int) (x2 : List AV) (x3 x4 y5 : Int) : St := ⟨[],[(10,(iv y5))],[[(iv x1),(.sl 2 x2),(iv x3),(iv x4)]],0⟩
def x_meant_0_1 (x0 : ByteArray) (x1 : Int) (x2 : List AV) (x3 x4 y5 : Int) : St := ⟨[],[(0,(.ptr 0 0)),(3,(sv x0)),(11,(iv y5)),(20,(bv false))],[[(iv x1),(.sl 2 x2),(iv x3),(iv x4)]],0⟩
abbrev E_meant_0 (x0 : ByteArray) (x1 : Int) (x2 : List AV) (x3 x4 x5o : Int) : Prop := ((∃ y6,out_meant_0_0 x0 x1 x2 x3 x4 x5o y6 ∧ R 62 0 (s_meant_0 x0 x1 x2 x3 x4 x5o) (Ex.ret,x_meant_0_0 x0 x1 x2 x3 x4 y6)) ∨ (∃ y6,out_meant_0_1 x0 x1 x2 x3 x4 x5o y6 ∧ R 62 0 (s_meant_0 x0 x1 x2 x3 x4 x5o) ((.exit 0),x_meant_0_1 x0 x1 x2 x3 x4 y6)))
abbrev j_meant_0 (nn : Nat) (x0 : ByteArray) (x1 : Int) (x2 : List AV) (x3 x4 x5o : Int) (f0 : Int → HC) (f1 : Int → HC) : HC := ⟨.ev nn (.ask (.or (eI fun y6=>.done (.exit Ex.ret (x_meant_0_0 x0 x1 x2 x3 x4 y6) (out_meant_0_0 x0 x1 x2 x3 x4 x5o y6)) (f0 y6).h) (eI fun y6=>.done (.exit (.exit 0) (x_meant_0_1 x0 x1 x2 x3 x4 y6) (out_meant_0_1 x0 x1 x2 x3 x4 x5o y6)) (f1 y6).h))),E_meant_0 x0 x1 x2 x3 x4 x5o ∧ ((∀ y6,out_meant_0_0 x0 x1 x2 x3 x4 x5o y6 → (f0 y6).p) ∧ (∀ y6,out_meant_0_1 x0 x1 x2 x3 x4 x5o y6 → (f1 y6).p))⟩
abbrev t_meant_0 (x0 : ByteArray) (x1 : Int) (x2 : List AV) (x3 x4 x5 : Int) (Q : Ex → St → Prop) : HC := (dd 1 ((decide (x5 < (↑x2.length : Int)))) (oo 0 ((decide (0 ≤ x5))) (pV2 1 ((x2[x5.toNat]?)) (fun (x6 : ByteArray) (x7 : Int)=>(.agg [(sv x6),(iv x7)])) fun x6 x7=>(dd 1 ((x6.toList == x0.toList)) (oo 0 ((decide (0 ≤ x5))) (pV2 1 ((x2[x5.toNat]?)) (fun (x8 : ByteArray) (x9 : Int)=>(.agg [(sv x8),(iv x9)])) fun x8 x9=>(zz 0 (Q Ex.ret (x_meant_0_0 x0 x1 x2 x3 x4 x9))))) (zz 1 (Q .norm (s_meant_0 x0 x1 x2 x3 x4 (w6 (x5 + 1)))))))) (zz 0 (Q (.exit 0) (x_meant_0_1 x0 x1 x2 x3 x4 x5))))
theorem l_meant_0 (x0 x1 x2 x3 x4 x5) (Q : Ex → St → Prop) (h : (t_meant_0 x0 x1 x2 x3 x4 x5 Q).p) : ∃ e s',L 62 0 (s_meant_0 x0 x1 x2 x3 x4 x5) (e,s') ∧ Q e s' :=
 Leads.wq (t_meant_0 x0 x1 x2 x3 x4 x5 Q).h (by kernel_rfl) h
theorem k_meant_0 {x0 x1 x2 x3 x4 x5o} (hi : inv_meant_0 x0 x1 x2 x3 x4 x5o x5o) : E_meant_0 x0 x1 x2 x3 x4 x5o := by
 obtain ⟨e,s',hr,hq⟩ := Rounds.byInv (st := fun (w : Int)=>s_meant_0 x0 x1 x2 x3 x4 w) (Inv := fun w=>inv_meant_0 x0 x1 x2 x3 x4 x5o w) (μ := fun w=>mu_meant_0 x0 x1 x2 x3 x4 w) (Q := fun e s'=>((∃ y6,out_meant_0_0 x0 x1 x2 x3 x4 x5o y6 ∧ e = Ex.ret ∧ s' = x_meant_0_0 x0 x1 x2 x3 x4 y6) ∨ (∃ y6,out_meant_0_1 x0 x1 x2 x3 x4 x5o y6 ∧ e = (.exit 0) ∧ s' = x_meant_0_1 x0 x1 x2 x3 x4 y6))) (by
  intro x5 hi
  have hi : inv_meant_0 x0 x1 x2 x3 x4 x5o x5 := hi
  refine l_meant_0 x0 x1 x2 x3 x4 x5 _ ?_
  obtain ⟨_,_,_,_⟩ := hi
  apply bS <;> intro _
  ·refine ⟨tD,tG,fun _ _ _=>?_⟩
   apply bS <;> intro _
   ·refine ⟨tD,tG,fun _ _ _=>?_⟩
    exact .inr ⟨by simp,.inl ⟨_,tP,rfl,rfl⟩⟩
   try have := tW (x5 + 1)
   exact .inl ⟨rfl,(w6 (x5 + 1)),rfl,tP,by unfold mu_meant_0; exact tI⟩
  exact .inr ⟨by simp,.inr (⟨_,tP,rfl,rfl⟩)⟩) x5o hi
 rcases hq with ⟨_,ho,rfl,rfl⟩ | ⟨_,ho,rfl,rfl⟩
 
 ·exact .inl ⟨_,ho,hr⟩
 ·exact .inr (⟨_,ho,hr⟩)
abbrev t_meant (m k : Int) (nm : ByteArray) (last cnt : Int) (N : List AV) (E At : Int) (Q : AV → HH → Prop) : HC := (dd 1 ((m == 3)) (j_meant_0 0 nm cnt N E At 0 (fun x0=>(zz 1 (Q (iv x0) [[(iv cnt),(.sl 2 N),(iv E),(iv At)]]))) (fun x1=>(zz 1 (Q (iv (-1)) [[(iv cnt),(.sl 2 N),(iv E),(iv At)]])))) (dd 1 ((m == 1)) (dd 3 ((m == 2)) (dd 2 ((decide (w6 (last + w6 (w6 (last - k) + 1)) < 0))) (zz 8 (Q (iv (-1)) [[(iv cnt),(.sl 2 N),(iv E),(iv At)]])) (dd 7 ((decide (w6 (last + w6 (w6 (last - k) + 1)) > cnt))) (zz 1 (Q (iv (-1)) [[(iv cnt),(.sl 2 N),(iv E),(iv At)]])) (zz 1 (Q (iv (w6 (last + w6 (w6 (last - k) + 1)))) [[(iv cnt),(.sl 2 N),(iv E),(iv At)]])))) (dd 1 ((decide (w6 (w6 (last - k) + 1) < 0))) (zz 8 (Q (iv (-1)) [[(iv cnt),(.sl 2 N),(iv E),(iv At)]])) (dd 7 ((decide (w6 (w6 (last - k) + 1) > cnt))) (zz 1 (Q (iv (-1)) [[(iv cnt),(.sl 2 N),(iv E),(iv At)]])) (zz 1 (Q (iv (w6 (w6 (last - k) + 1))) [[(iv cnt),(.sl 2 N),(iv E),(iv At)]]))))) (dd 1 ((m == 2)) (dd 2 ((decide (w6 (last + k) < 0))) (zz 8 (Q (iv (-1)) [[(iv cnt),(.sl 2 N),(iv E),(iv At)]])) (dd 7 ((decide (w6 (last + k) > cnt))) (zz 1 (Q (iv (-1)) [[(iv cnt),(.sl 2 N),(iv E),(iv At)]])) (zz 1 (Q (iv (w6 (last + k))) [[(iv cnt),(.sl 2 N),(iv E),(iv At)]])))) (dd 1 ((decide (k < 0))) (zz 8 (Q (iv (-1)) [[(iv cnt),(.sl 2 N),(iv E),(iv At)]])) (dd 7 ((decide (k > cnt))) (zz 1 (Q (iv (-1)) [[(iv cnt),(.sl 2 N),(iv E),(iv At)]])) (zz 1 (Q (iv k) [[(iv cnt),(.sl 2 N),(iv E),(iv At)]])))))))
theorem w_meant (m k nm last cnt N E At) (Q : AV → HH → Prop) (h : (t_meant m k nm last cnt N E At Q).p) : ∃ r H',A 62 [(.ptr 0 0),(iv m),(iv k),(sv nm),(iv last)] [[(iv cnt),(.sl 2 N),(iv E),(iv At)]] r H' ∧ Q r H' :=
 Ans.wq rfl (t_meant m k nm last cnt N E At Q).h (by kernel_rfl) h
theorem c_meant {m k nm last cnt N E At} (hp : pre_meant m k nm last cnt N E At) : E_meant m k nm last cnt N E At := by
 obtain ⟨_,_,ha,_,hq,rfl,rfl⟩ := w_meant m k nm last cnt N E At (fun r H'=>∃ x0,post_meant (m) (k) (nm) (last) (cnt) (N) (E) (At) x0 ∧ r = (iv x0) ∧ H' = [[(iv (cnt)),(.sl 2 (N)),(iv (E)),(iv (At))]]) (by
  obtain ⟨_,_⟩ := hp
  apply bS <;> intro _
  ·refine ⟨k_meant_0 tP,fun _ _=>?_,fun _ _=>?_⟩
   ·exact ⟨_,tP,rfl,rfl⟩
   exact ⟨_,tP,rfl,rfl⟩
  apply bS <;> intro _
  ·apply bS <;> intro _
   ·try have := tW (last - k)
    try have := tW (w6 (last - k) + 1)
    try have := tW (last + w6 (w6 (last - k) + 1))
    refine bS (fun _=>⟨_,tP,rfl,rfl⟩) fun _=>?_
    refine bS (fun _=>⟨_,tP,rfl,rfl⟩) fun _=>?_
    exact ⟨_,tP,rfl,rfl⟩
   try have := tW (last - k)
   try have := tW (w6 (last - k) + 1)
   refine bS (fun _=>⟨_,tP,rfl,rfl⟩) fun _=>?_
   refine bS (fun _=>⟨_,tP,rfl,rfl⟩) fun _=>?_
   exact ⟨_,tP,rfl,rfl⟩
  apply bS <;> intro _
  ·try have := tW (last + k)
   refine bS (fun _=>⟨_,tP,rfl,rfl⟩) fun _=>?_
   refine bS (fun _=>⟨_,tP,rfl,rfl⟩) fun _=>?_
   exact ⟨_,tP,rfl,rfl⟩
  refine bS (fun _=>⟨_,tP,rfl,rfl⟩) fun _=>?_
  refine bS (fun _=>⟨_,tP,rfl,rfl⟩) fun _=>?_
  exact ⟨_,tP,rfl,rfl⟩)
 exact ⟨_,hq,ha⟩
abbrev E_need (k least at' cnt : Int) (N : List AV) (E At : Int) : Prop := ∃ x0 x1,post_need k least at' cnt N E At x0 x1 ∧ A 63 [(.ptr 0 0),(iv k),(iv least),(iv at')] [[(iv cnt),(.sl 2 N),(iv E),(iv At)]] (.tup []) [[(iv cnt),(.sl 2 N),(iv x0),(iv x1)]]
abbrev j_need (nn : Nat) (k least at' cnt : Int) (N : List AV) (E At : Int) (kK : Int → Int → HC) : HC := ⟨.ev nn (.ask (eI fun x0=>eI fun x1=>.done (.res (.tup []) [[(iv cnt),(.sl 2 N),(iv x0),(iv x1)]] (post_need k least at' cnt N E At x0 x1)) ((kK x0 x1).h))),E_need k least at' cnt N E At ∧ (∀ x0 x1,post_need k least at' cnt N E At x0 x1 → (kK x0 x1).p)⟩
abbrev t_need (k least at' cnt : Int) (N : List AV) (E At : Int) (Q : AV → HH → Prop) : HC := (dd 1 ((decide (k < least))) (dd 6 ((E == 0)) (zz 1 (Q (.tup []) [[(iv cnt),(.sl 2 N),(iv 34),(iv at')]])) (zz 1 (Q (.tup []) [[(iv cnt),(.sl 2 N),(iv E),(iv At)]]))) (zz 7 (Q (.tup []) [[(iv cnt),(.sl 2 N),(iv E),(iv At)]])))
theorem w_need (k least at' cnt N E At) (Q : AV → HH → Prop) (h : (t_need k least at' cnt N E At Q).p) : ∃ r H',A 63 [(.ptr 0 0),(iv k),(iv least),(iv at')] [[(iv cnt),(.sl 2 N),(iv E),(iv At)]] r H' ∧ Q r H' :=
 Ans.wq rfl (t_need k least at' cnt N E At Q).h (by kernel_rfl) h
theorem c_need {k least at' cnt N E At} (hp : pre_need k least at' cnt N E At) : E_need k least at' cnt N E At := by
 obtain ⟨_,_,ha,_,_,hq,rfl,rfl⟩ := w_need k least at' cnt N E At (fun r H'=>∃ x0 x1,post_need (k) (least) (at') (cnt) (N) (E) (At) x0 x1 ∧ r = (.tup []) ∧ H' = [[(iv (cnt)),(.sl 2 (N)),(iv x0),(iv x1)]]) (by
  apply bS <;> intro _
  ·refine bS (fun _=>⟨_,_,tP,rfl,rfl⟩) fun _=>?_
   exact ⟨_,_,tP,rfl,rfl⟩
  exact ⟨_,_,tP,rfl,rfl⟩)
 exact ⟨_,_,hq,ha⟩
abbrev E_node10 (k a c : Int) (s : List AV) (g : Bool) (n m mode : Int) (nm : ByteArray) (on off : Int) (K : List AV) (last cnt : Int) (N : List AV) (E At : Int) : Prop := ∃ x0 x1 x2 x3 x4 x5 x6 x7 x8 x9 x10 x11 x12 x13 x14,post_node10 k a c s g n m mode nm on off K last cnt N E At x0 x1 x2 x3 x4 x5 x6 x7 x8 x9 x10 x11 x12 x13 x14 ∧ A 33 [(.ptr 0 0),(.agg (nR k a c s g n m mode nm on off K)),(iv last)] [[(iv cnt),(.sl 2 N),(iv E),(iv At)]] (.tup [(.agg (nR x0 x1 x2 x3 x4 x5 x6 x7 x8 x9 x10 x11)),(iv x12)]) [[(iv cnt),(.sl 2 N),(iv x13),(iv x14)]]
abbrev j_node10 (nn : Nat) (k a c : Int) (s : List AV) (g : Bool) (n m mode : Int) (nm : ByteArray) (on off : Int) (K : List AV) (last cnt : Int) (N : List AV) (E At : Int) (kK : Int → Int → Int → List AV → Bool → Int → Int → Int → ByteArray → Int → Int → List AV → Int → Int → Int → HC) : HC := ⟨.ev nn (.ask (eN fun x0 x1 x2 x3 x4 x5 x6 x7 x8 x9 x10 x11=>eI fun x12=>eI fun x13=>eI fun x14=>.done (.res (.tup [(.agg (nR x0 x1 x2 x3 x4 x5 x6 x7 x8 x9 x10 x11)),(iv x12)]) [[(iv cnt),(.sl 2 N),(iv x13),(iv x14)]] (post_node10 k a c s g n m mode nm on off K last cnt N E At x0 x1 x2 x3 x4 x5 x6 x7 x8 x9 x10 x11 x12 x13 x14)) ((kK x0 x1 x2 x3 x4 x5 x6 x7 x8 x9 x10 x11 x12 x13 x14).h))),E_node10 k a c s g n m mode nm on off K last cnt N E At ∧ (∀ x0 x1 x2 x3 x4 x5 x6 x7 x8 x9 x10 x11 x12 x13 x14,post_node10 k a c s g n m mode nm on off K last cnt N E At x0 x1 x2 x3 x4 x5 x6 x7 x8 x9 x10 x11 x12 x13 x14 → (kK x0 x1 x2 x3 x4 x5 x6 x7 x8 x9 x10 x11 x12 x13 x14).p)⟩
def IH_node10 (b : Nat) : Prop := ∀ {k : Int} {a : Int} {c : Int} {s : List AV} {g : Bool} {n : Int} {m : Int} {mode : Int} {nm : ByteArray} {on : Int} {off : Int} {K : List AV} {last : Int} {cnt : Int} {N : List AV} {E : Int} {At : Int},rank_node10 (k) (a) (c) (s) (g) (n) (m) (mode) (nm) (on) (off) (K) (last) (cnt) (N) (E) (At) < b → pre_node10 (k) (a) (c) (s) (g) (n) (m) (mode) (nm) (on) (off) (K) (last) (cnt) (N) (E) (At) → E_node10 (k) (a) (c) (s) (g) (n) (m) (mode) (nm) (on) (off) (K) (last) (cnt) (N) (E) (At)
def s_node10_0 (x0 x1 x2 x3 : Int) (x4 : List AV) (x5 : Bool) (x6 x7 x8 : Int) (x9 : ByteArray) (x10 x11 : Int) (x12 : List AV) (x13 : Int) (x14 : List AV) (x15 : Int) (x16 : List AV) (x17 x18 x19 : Int) : St := ⟨[],[(0,(.ptr 0 0)),(2,(iv x0)),(4,(.box [(iv x1),(iv x2),(iv x3),(.sl 2 x4),(bv x5),(iv x6),(iv x7),(iv x8),(sv x9),(iv x10),(iv x11),(.sl 12 x12)])),(6,(.box [(iv 0),(iv 0),(iv 0),(.sl 2 []),(bv false),(iv 0),(iv 0),(iv 0),(sv (bs [])),(iv 0),(iv 0),(.sl 12 [])])),(11,(iv x15)),(12,(.cap false 27 x16)),(13,(iv x17))],[[(iv x13),(.sl 2 x14),(iv x18),(iv x19)]],0⟩
def x_node10_0_0 (x0 x1 x2 x3 : Int) (x4 : List AV) (x5 : Bool) (x6 x7 x8 : Int) (x9 : ByteArray) (x10 x11 : Int) (x12 : List AV) (x13 : Int) (x14 : List AV) (y15 : Int) (y16 : List AV) (y17 y18 y19 : Int) : St := ⟨[],[(0,(.ptr 0 0)),(2,(iv x0)),(4,(.box [(iv x1),(iv x2),(iv x3),(.sl 2 x4),(bv x5),(iv x6),(iv x7),(iv x8),(sv x9),(iv x10),(iv x11),(.sl 12 x12)])),(6,(.box [(iv 0),(iv 0),(iv 0),(.sl 2 []),(bv false),(iv 0),(iv 0),(iv 0),(sv (bs [])),(iv 0),(iv 0),(.sl 12 [])])),(11,(iv y15)),(12,(.cap false 27 y16)),(13,(iv y17)),(123,(bv false))],[[(iv x13),(.sl 2 x14),(iv y18),(iv y19)]],0⟩
abbrev E_node10_0 (x0 x1 x2 x3 : Int) (x4 : List AV) (x5 : Bool) (x6 x7 x8 : Int) (x9 : ByteArray) (x10 x11 : Int) (x12 : List AV) (x13 : Int) (x14 : List AV) (x15o : Int) (x16o : List AV) (x17o x18o x19o : Int) : Prop := (∃ y20 y21 y22 y23 y24,out_node10_0_0 x0 x1 x2 x3 x4 x5 x6 x7 x8 x9 x10 x11 x12 x13 x14 x15o x16o x17o x18o x19o y20 y21 y22 y23 y24 ∧ R 33 0 (s_node10_0 x0 x1 x2 x3 x4 x5 x6 x7 x8 x9 x10 x11 x12 x13 x14 x15o x16o x17o x18o x19o) ((.exit 0),x_node10_0_0 x0 x1 x2 x3 x4 x5 x6 x7 x8 x9 x10 x11 x12 x13 x14 y20 y21 y22 y23 y24))
abbrev j_node10_0 (nn : Nat) (x0 x1 x2 x3 : Int) (x4 : List AV) (x5 : Bool) (x6 x7 x8 : Int) (x9 : ByteArray) (x10 x11 : Int) (x12 : List AV) (x13 : Int) (x14 : List AV) (x15o : Int) (x16o : List AV) (x17o x18o x19o : Int) (f0 : Int → List AV → Int → Int → Int → HC) : HC := ⟨.ev nn (.ask (eI fun y20=>eL fun y21=>eI fun y22=>eI fun y23=>eI fun y24=>.done (.exit (.exit 0) (x_node10_0_0 x0 x1 x2 x3 x4 x5 x6 x7 x8 x9 x10 x11 x12 x13 x14 y20 y21 y22 y23 y24) (out_node10_0_0 x0 x1 x2 x3 x4 x5 x6 x7 x8 x9 x10 x11 x12 x13 x14 x15o x16o x17o x18o x19o y20 y21 y22 y23 y24)) (f0 y20 y21 y22 y23 y24).h)),E_node10_0 x0 x1 x2 x3 x4 x5 x6 x7 x8 x9 x10 x11 x12 x13 x14 x15o x16o x17o x18o x19o ∧ (∀ y20 y21 y22 y23 y24,out_node10_0_0 x0 x1 x2 x3 x4 x5 x6 x7 x8 x9 x10 x11 x12 x13 x14 x15o x16o x17o x18o x19o y20 y21 y22 y23 y24 → (f0 y20 y21 y22 y23 y24).p)⟩
abbrev t_node10_0 (x0 x1 x2 x3 : Int) (x4 : List AV) (x5 : Bool) (x6 x7 x8 : Int) (x9 : ByteArray) (x10 x11 : Int) (x12 : List AV) (x13 : Int) (x14 : List AV) (x15 : Int) (x16 : List AV) (x17 x18 x19 : Int) (Q : Ex → St → Prop) : HC := (dd 1 ((decide (x17 < (↑x12.length : Int)))) (dd 1 ((x1 == 16)) (oo 0 ((decide (0 ≤ x17))) (pN 1 ((x12[x17.toNat]?)) fun x20 x21 x22 x23 x24 x25 x26 x27 x28 x29 x30 x31=>(j_node10 1 x20 x21 x22 x23 x24 x25 x26 x27 x28 x29 x30 x31 x0 x13 x14 x18 x19 fun x32 x33 x34 x35 x36 x37 x38 x39 x40 x41 x42 x43 x44 x45 x46=>(oo 0 ((roomD pr 27 x16.length 1)) (dd 1 ((decide (x44 > x15))) (zz 1 (Q .norm (s_node10_0 x0 x1 x2 x3 x4 x5 x6 x7 x8 x9 x10 x11 x12 x13 x14 x44 (x16 ++   [AV.agg       (nR x32 x33 x34 x35 x36 x37 x38 x39 x40 x41 x42 x43)]) (w6 (x17 + 1)) x45 x46))) (zz 1 (Q .norm (s_node10_0 x0 x1 x2 x3 x4 x5 x6 x7 x8 x9 x10 x11 x12 x13 x14 x15 (x16 ++   [AV.agg       (nR x32 x33 x34 x35 x36 x37 x38 x39 x40 x41 x42 x43)]) (w6 (x17 + 1)) x45 x46)))))))) (oo 0 ((decide (0 ≤ x17))) (pN 1 ((x12[x17.toNat]?)) fun x47 x48 x49 x50 x51 x52 x53 x54 x55 x56 x57 x58=>(j_node10 1 x47 x48 x49 x50 x51 x52 x53 x54 x55 x56 x57 x58 x15 x13 x14 x18 x19 fun x59 x60 x61 x62 x63 x64 x65 x66 x67 x68 x69 x70 x71 x72 x73=>(oo 0 ((roomD pr 27 x16.length 1)) (dd 1 ((decide (x71 > x15))) (zz 1 (Q .norm (s_node10_0 x0 x1 x2 x3 x4 x5 x6 x7 x8 x9 x10 x11 x12 x13 x14 x71 (x16 ++   [AV.agg       (nR x59 x60 x61 x62 x63 x64 x65 x66 x67 x68 x69 x70)]) (w6 (x17 + 1)) x72 x73))) (zz 1 (Q .norm (s_node10_0 x0 x1 x2 x3 x4 x5 x6 x7 x8 x9 x10 x11 x12 x13 x14 x15 (x16 ++   [AV.agg       (nR x59 x60 x61 x62 x63 x64 x65 x66 x67 x68 x69 x70)]) (w6 (x17 + 1)) x72 x73))))))))) (zz 0 (Q (.exit 0) (x_node10_0_0 x0 x1 x2 x3 x4 x5 x6 x7 x8 x9 x10 x11 x12 x13 x14 x15 x16 x17 x18 x19))))
theorem l_node10_0 (x0 x1 x2 x3 x4 x5 x6 x7 x8 x9 x10 x11 x12 x13 x14 x15 x16 x17 x18 x19) (Q : Ex → St → Prop) (h : (t_node10_0 x0 x1 x2 x3 x4 x5 x6 x7 x8 x9 x10 x11 x12 x13 x14 x15 x16 x17 x18 x19 Q).p) : ∃ e s',L 33 0 (s_node10_0 x0 x1 x2 x3 x4 x5 x6 x7 x8 x9 x10 x11 x12 x13 x14 x15 x16 x17 x18 x19) (e,s') ∧ Q e s' :=
 Leads.wq (t_node10_0 x0 x1 x2 x3 x4 x5 x6 x7 x8 x9 x10 x11 x12 x13 x14 x15 x16 x17 x18 x19 Q).h (by kernel_rfl) h
theorem k_node10_0 {B : Nat} (ih_node10 : IH_node10 B) {x0 x1 x2 x3 x4 x5 x6 x7 x8 x9 x10 x11 x12 x13 x14 x15o x16o x17o x18o x19o} (hi : inv_node10_0 B x0 x1 x2 x3 x4 x5 x6 x7 x8 x9 x10 x11 x12 x13 x14 x15o x16o x17o x18o x19o x15o x16o x17o x18o x19o) : E_node10_0 x0 x1 x2 x3 x4 x5 x6 x7 x8 x9 x10 x11 x12 x13 x14 x15o x16o x17o x18o x19o := by
 obtain ⟨e,s',hr,hq⟩ := Rounds.byInv (st := fun (w : Int × (List AV) × Int × Int × Int)=>s_node10_0 x0 x1 x2 x3 x4 x5 x6 x7 x8 x9 x10 x11 x12 x13 x14 w.1 w.2.1 w.2.2.1 w.2.2.2.1 w.2.2.2.2) (Inv := fun w=>inv_node10_0 B x0 x1 x2 x3 x4 x5 x6 x7 x8 x9 x10 x11 x12 x13 x14 x15o x16o x17o x18o x19o w.1 w.2.1 w.2.2.1 w.2.2.2.1 w.2.2.2.2) (μ := fun w=>mu_node10_0 x0 x1 x2 x3 x4 x5 x6 x7 x8 x9 x10 x11 x12 x13 x14 w.1 w.2.1 w.2.2.1 w.2.2.2.1 w.2.2.2.2) (Q := fun e s'=>(∃ y20 y21 y22 y23 y24,out_node10_0_0 x0 x1 x2 x3 x4 x5 x6 x7 x8 x9 x10 x11 x12 x13 x14 x15o x16o x17o x18o x19o y20 y21 y22 y23 y24 ∧ e = (.exit 0) ∧ s' = x_node10_0_0 x0 x1 x2 x3 x4 x5 x6 x7 x8 x9 x10 x11 x12 x13 x14 y20 y21 y22 y23 y24)) (by
  rintro ⟨x15,x16,x17,x18,x19⟩ hi
  have hi : inv_node10_0 B x0 x1 x2 x3 x4 x5 x6 x7 x8 x9 x10 x11 x12 x13 x14 x15o x16o x17o x18o x19o x15 x16 x17 x18 x19 := hi
  refine l_node10_0 x0 x1 x2 x3 x4 x5 x6 x7 x8 x9 x10 x11 x12 x13 x14 x15 x16 x17 x18 x19 _ ?_
  obtain ⟨_,⟨_,_,_,_⟩,_,_,_,_,_,_,_,_⟩ := hi
  apply bS <;> intro _
  ·apply bS <;> intro _
   ·refine ⟨tD,tG,fun _ _ _ _ _ _ _ _ _ _ _ _ g39=>?_⟩
    have edg373 := nsz_drop g39; first | (have eg39 := Ns.elem tA g39; have eng373 := nsz_get g39; obtain ⟨_,_,_,_⟩ := eg39.nw) | (have eg39 := Nf.elem tA g39; have eng373 := nsz_get g39; obtain ⟨_,_⟩ := eg39.nw)
    refine ⟨ih_node10 (by (try unfold rank_node10); exact tI) tP,fun x40 x41 x42 x43 x44 x45 x46 x47 x48 x49 x50 x51 x52 x53 x54 p55=>?_⟩
    obtain ⟨⟨_,_,_,_⟩,_⟩ := p55
    refine ⟨tR,?_⟩
    apply bS <;> intro _
    ·try have := tW (x17 + 1)
     exact .inl ⟨rfl,(x52,(x16 ++   [AV.agg       [iv x40,iv x41,iv x42,AV.sl 2 x43,bv x44,iv x45,iv x46,iv x47,sv x48,iv x49,iv x50,        AV.sl 12 x51]]),(w6 (x17 + 1)),x53,x54),rfl,tP,zb3x6⟩
    try have := tW (x17 + 1)
    exact .inl ⟨rfl,(x15,(x16 ++   [AV.agg       [iv x40,iv x41,iv x42,AV.sl 2 x43,bv x44,iv x45,iv x46,iv x47,sv x48,iv x49,iv x50,        AV.sl 12 x51]]),(w6 (x17 + 1)),x53,x54),rfl,tP,zb3x6⟩
   refine ⟨tD,tG,fun _ _ _ _ _ _ _ _ _ _ _ _ g69=>?_⟩
   have edg469 := nsz_drop g69; first | (have eg69 := Ns.elem tA g69; have eng469 := nsz_get g69; obtain ⟨_,_,_,_⟩ := eg69.nw) | (have eg69 := Nf.elem tA g69; have eng469 := nsz_get g69; obtain ⟨_,_⟩ := eg69.nw)
   refine ⟨ih_node10 (by (try unfold rank_node10); exact tI) tP,fun x70 x71 x72 x73 x74 x75 x76 x77 x78 x79 x80 x81 x82 x83 x84 p85=>?_⟩
   obtain ⟨⟨_,_,_,_⟩,_⟩ := p85
   refine ⟨tR,?_⟩
   apply bS <;> intro _
   ·try have := tW (x17 + 1)
    exact .inl ⟨rfl,(x82,(x16 ++   [AV.agg       [iv x70,iv x71,iv x72,AV.sl 2 x73,bv x74,iv x75,iv x76,iv x77,sv x78,iv x79,iv x80,        AV.sl 12 x81]]),(w6 (x17 + 1)),x83,x84),rfl,tP,zb3x6⟩
   try have := tW (x17 + 1)
   exact .inl ⟨rfl,(x15,(x16 ++   [AV.agg       [iv x70,iv x71,iv x72,AV.sl 2 x73,bv x74,iv x75,iv x76,iv x77,sv x78,iv x79,iv x80,        AV.sl 12 x81]]),(w6 (x17 + 1)),x83,x84),rfl,tP,zb3x6⟩
  exact .inr ⟨by simp,⟨_,_,_,_,_,tP,rfl,rfl⟩⟩) (x15o,x16o,x17o,x18o,x19o) hi
 rcases hq with ⟨_,_,_,_,_,ho,rfl,rfl⟩
 exact ⟨_,_,_,_,_,ho,hr⟩
abbrev t_node10 (k a c : Int) (s : List AV) (g : Bool) (n m mode : Int) (nm : ByteArray) (on off : Int) (K : List AV) (last cnt : Int) (N : List AV) (E At : Int) (Q : AV → HH → Prop) : HC := (dd 1 ((k == 7)) (dd 5 ((k == 8)) (j_meant 1 m n nm last cnt N E At fun x0=>(j_need 1 x0 0 a cnt N E At fun x1 x2=>(zz 1 (Q (.tup [(.agg (nR k a c s g x0 0 mode (bs []) on off K)),(iv last)]) [[(iv cnt),(.sl 2 N),(iv x1),(iv x2)]])))) (j_meant 1 m n nm last cnt N E At fun x3=>(j_need 1 x3 1 a cnt N E At fun x4 x5=>(zz 1 (Q (.tup [(.agg (nR k a c s g x3 0 mode (bs []) on off K)),(iv last)]) [[(iv cnt),(.sl 2 N),(iv x4),(iv x5)]]))))) (dd 4 ((k == 8)) (oo 1 ((k == 8)) (j_meant 1 m n nm last cnt N E At fun x6=>(j_need 1 x6 0 a cnt N E At fun x7 x8=>(zz 1 (Q (.tup [(.agg (nR k a c s g x6 0 mode (bs []) on off K)),(iv last)]) [[(iv cnt),(.sl 2 N),(iv x7),(iv x8)]]))))) (dd 1 ((k == 19)) (dd 1 ((n == 9)) (dd 5 ((n == 10)) (j_meant 1 3 mode nm last cnt N E At fun x9=>(j_need 1 x9 1 a cnt N E At fun x10 x11=>(dd 1 ((k == 14)) (j_node10_0 0 9 k a c s g 9 0 x9 (bs []) on off K cnt N 9 [] 0 x10 x11 (fun x12 x13 x14 x15 x16=>(zz 1 (Q (.tup [(.agg (nR k a c s g 9 0 x9 (bs []) on off x13)),(iv x12)]) [[(iv cnt),(.sl 2 N),(iv x15),(iv x16)]])))) (j_node10_0 0 last k a c s g 9 0 x9 (bs []) on off K cnt N last [] 0 x10 x11 (fun x17 x18 x19 x20 x21=>(zz 1 (Q (.tup [(.agg (nR k a c s g 9 0 x9 (bs []) on off x18)),(iv x17)]) [[(iv cnt),(.sl 2 N),(iv x20),(iv x21)]]))))))) (j_meant 1 m mode nm last cnt N E At fun x22=>(j_need 1 x22 1 a cnt N E At fun x23 x24=>(dd 1 ((k == 14)) (j_node10_0 0 9 k a c s g 9 0 x22 (bs []) on off K cnt N 9 [] 0 x23 x24 (fun x25 x26 x27 x28 x29=>(zz 1 (Q (.tup [(.agg (nR k a c s g 9 0 x22 (bs []) on off x26)),(iv x25)]) [[(iv cnt),(.sl 2 N),(iv x28),(iv x29)]])))) (j_node10_0 0 last k a c s g 9 0 x22 (bs []) on off K cnt N last [] 0 x23 x24 (fun x30 x31 x32 x33 x34=>(zz 1 (Q (.tup [(.agg (nR k a c s g 9 0 x22 (bs []) on off x31)),(iv x30)]) [[(iv cnt),(.sl 2 N),(iv x33),(iv x34)]])))))))) (dd 4 ((n == 10)) (oo 1 ((n == 10)) (j_meant 1 3 mode nm last cnt N E At fun x35=>(j_need 1 x35 1 a cnt N E At fun x36 x37=>(dd 1 ((k == 14)) (j_node10_0 0 9 k a c s g 9 0 x35 (bs []) on off K cnt N 9 [] 0 x36 x37 (fun x38 x39 x40 x41 x42=>(zz 1 (Q (.tup [(.agg (nR k a c s g 9 0 x35 (bs []) on off x39)),(iv x38)]) [[(iv cnt),(.sl 2 N),(iv x41),(iv x42)]])))) (j_node10_0 0 last k a c s g 9 0 x35 (bs []) on off K cnt N last [] 0 x36 x37 (fun x43 x44 x45 x46 x47=>(zz 1 (Q (.tup [(.agg (nR k a c s g 9 0 x35 (bs []) on off x44)),(iv x43)]) [[(iv cnt),(.sl 2 N),(iv x46),(iv x47)]])))))))) (dd 1 ((n == 11)) (dd 4 ((!mode == -1)) (dd 1 ((m == 3)) (j_meant 1 m mode nm last cnt N E At fun x48=>(j_need 1 x48 1 a cnt N E At fun x49 x50=>(dd 1 ((k == 14)) (j_node10_0 0 n k a c s g n 0 x48 (bs []) on off K cnt N n [] 0 x49 x50 (fun x51 x52 x53 x54 x55=>(zz 1 (Q (.tup [(.agg (nR k a c s g n 0 x48 (bs []) on off x52)),(iv x51)]) [[(iv cnt),(.sl 2 N),(iv x54),(iv x55)]])))) (j_node10_0 0 last k a c s g n 0 x48 (bs []) on off K cnt N last [] 0 x49 x50 (fun x56 x57 x58 x59 x60=>(zz 1 (Q (.tup [(.agg (nR k a c s g n 0 x48 (bs []) on off x57)),(iv x56)]) [[(iv cnt),(.sl 2 N),(iv x59),(iv x60)]]))))))) (j_meant 1 m mode nm last cnt N E At fun x61=>(j_need 1 x61 0 a cnt N E At fun x62 x63=>(dd 1 ((k == 14)) (j_node10_0 0 n k a c s g n 0 x61 (bs []) on off K cnt N n [] 0 x62 x63 (fun x64 x65 x66 x67 x68=>(zz 1 (Q (.tup [(.agg (nR k a c s g n 0 x61 (bs []) on off x65)),(iv x64)]) [[(iv cnt),(.sl 2 N),(iv x67),(iv x68)]])))) (j_node10_0 0 last k a c s g n 0 x61 (bs []) on off K cnt N last [] 0 x62 x63 (fun x69 x70 x71 x72 x73=>(zz 1 (Q (.tup [(.agg (nR k a c s g n 0 x61 (bs []) on off x70)),(iv x69)]) [[(iv cnt),(.sl 2 N),(iv x72),(iv x73)]])))))))) (dd 1 ((k == 14)) (j_node10_0 0 n k a c s g n m mode nm on off K cnt N n [] 0 E At (fun x74 x75 x76 x77 x78=>(zz 1 (Q (.tup [(.agg (nR k a c s g n m mode nm on off x75)),(iv x74)]) [[(iv cnt),(.sl 2 N),(iv x77),(iv x78)]])))) (j_node10_0 0 last k a c s g n m mode nm on off K cnt N last [] 0 E At (fun x79 x80 x81 x82 x83=>(zz 1 (Q (.tup [(.agg (nR k a c s g n m mode nm on off x80)),(iv x79)]) [[(iv cnt),(.sl 2 N),(iv x82),(iv x83)]])))))) (dd 5 ((k == 14)) (j_node10_0 0 n k a c s g n m mode nm on off K cnt N n [] 0 E At (fun x84 x85 x86 x87 x88=>(zz 1 (Q (.tup [(.agg (nR k a c s g n m mode nm on off x85)),(iv x84)]) [[(iv cnt),(.sl 2 N),(iv x87),(iv x88)]])))) (j_node10_0 0 last k a c s g n m mode nm on off K cnt N last [] 0 E At (fun x89 x90 x91 x92 x93=>(zz 1 (Q (.tup [(.agg (nR k a c s g n m mode nm on off x90)),(iv x89)]) [[(iv cnt),(.sl 2 N),(iv x92),(iv x93)]])))))))) (dd 1 ((k == 14)) (j_node10_0 0 n k a c s g n m mode nm on off K cnt N n [] 0 E At (fun x94 x95 x96 x97 x98=>(zz 1 (Q (.tup [(.agg (nR k a c s g n m mode nm on off x95)),(iv x94)]) [[(iv cnt),(.sl 2 N),(iv x97),(iv x98)]])))) (j_node10_0 0 last k a c s g n m mode nm on off K cnt N last [] 0 E At (fun x99 x100 x101 x102 x103=>(zz 1 (Q (.tup [(.agg (nR k a c s g n m mode nm on off x100)),(iv x99)]) [[(iv cnt),(.sl 2 N),(iv x102),(iv x103)]]))))))))
theorem w_node10 (k a c s g n m mode nm on off K last cnt N E At) (Q : AV → HH → Prop) (h : (t_node10 k a c s g n m mode nm on off K last cnt N E At Q).p) : ∃ r H',A 33 [(.ptr 0 0),(.agg (nR k a c s g n m mode nm on off K)),(iv last)] [[(iv cnt),(.sl 2 N),(iv E),(iv At)]] r H' ∧ Q r H' :=
 Ans.wq rfl (t_node10 k a c s g n m mode nm on off K last cnt N E At Q).h (by kernel_rfl) h
theorem i_node10 {k a c s g n m mode nm on off K last cnt N E At} (ih_node10 : IH_node10 (rank_node10 k a c s g n m mode nm on off K last cnt N E At)) (hp : pre_node10 k a c s g n m mode nm on off K last cnt N E At) : E_node10 k a c s g n m mode nm on off K last cnt N E At := by
 obtain ⟨_,_,ha,_,_,_,_,_,_,_,_,_,_,_,_,_,_,_,hq,rfl,rfl⟩ := w_node10 k a c s g n m mode nm on off K last cnt N E At (fun r H'=>∃ x0 x1 x2 x3 x4 x5 x6 x7 x8 x9 x10 x11 x12 x13 x14,post_node10 (k) (a) (c) (s) (g) (n) (m) (mode) (nm) (on) (off) (K) (last) (cnt) (N) (E) (At) x0 x1 x2 x3 x4 x5 x6 x7 x8 x9 x10 x11 x12 x13 x14 ∧ r = (.tup [(.agg [(iv x0),(iv x1),(iv x2),(.sl 2 x3),(bv x4),(iv x5),(iv x6),(iv x7),(sv x8),(iv x9),(iv x10),(.sl 12 x11)]),(iv x12)]) ∧ H' = [[(iv (cnt)),(.sl 2 (N)),(iv x13),(iv x14)]]) (by
  obtain ⟨⟨_,_,_,_⟩,_,_,_⟩ := hp
  apply bS <;> intro _
  ·apply bS <;> intro _
   ·refine ⟨c_meant tP,fun _ _=>?_⟩
    refine ⟨c_need tP,fun _ _ _=>?_⟩
    exact ⟨_,_,_,_,_,_,0,_,_,_,_,_,_,_,_,tP,rfl,rfl⟩
   refine ⟨c_meant tP,fun _ _=>?_⟩
   refine ⟨c_need tP,fun _ _ _=>?_⟩
   exact ⟨_,_,_,_,_,_,0,_,_,_,_,_,_,_,_,tP,rfl,rfl⟩
  apply bS <;> intro _
  ·refine ⟨tD,c_meant tP,fun _ _=>?_⟩
   refine ⟨c_need tP,fun _ _ _=>?_⟩
   exact ⟨_,_,_,_,_,_,0,_,_,_,_,_,_,_,_,tP,rfl,rfl⟩
  apply bS <;> intro _
  ·apply bS <;> intro _
   ·apply bS <;> intro _
    ·refine ⟨c_meant tP,fun _ _=>?_⟩
     refine ⟨c_need tP,fun _ _ _=>?_⟩
     apply bS <;> intro _
     ·refine ⟨k_node10_0 ih_node10 tP,fun _ _ _ _ _ e47=>?_⟩
      obtain ⟨e47_0,e47_1,e47_2⟩ := e47
      try replace e47_0 := nz e47_0
      try replace e47_1 := nz e47_1
      try replace e47_2 := nz e47_2
      exact ⟨_,_,_,_,_,9,0,_,_,_,_,_,_,_,_,tP,rfl,rfl⟩
     refine ⟨k_node10_0 ih_node10 tP,fun _ _ _ _ _ e53=>?_⟩
     obtain ⟨e53_0,e53_1,e53_2⟩ := e53
     try replace e53_0 := nz e53_0
     try replace e53_1 := nz e53_1
     try replace e53_2 := nz e53_2
     exact ⟨_,_,_,_,_,9,0,_,_,_,_,_,_,_,_,tP,rfl,rfl⟩
    refine ⟨c_meant tP,fun _ _=>?_⟩
    refine ⟨c_need tP,fun _ _ _=>?_⟩
    apply bS <;> intro _
    ·refine ⟨k_node10_0 ih_node10 tP,fun _ _ _ _ _ e65=>?_⟩
     obtain ⟨e65_0,e65_1,e65_2⟩ := e65
     try replace e65_0 := nz e65_0
     try replace e65_1 := nz e65_1
     try replace e65_2 := nz e65_2
     exact ⟨_,_,_,_,_,9,0,_,_,_,_,_,_,_,_,tP,rfl,rfl⟩
    refine ⟨k_node10_0 ih_node10 tP,fun _ _ _ _ _ e71=>?_⟩
    obtain ⟨e71_0,e71_1,e71_2⟩ := e71
    try replace e71_0 := nz e71_0
    try replace e71_1 := nz e71_1
    try replace e71_2 := nz e71_2
    exact ⟨_,_,_,_,_,9,0,_,_,_,_,_,_,_,_,tP,rfl,rfl⟩
   apply bS <;> intro _
   ·refine ⟨tD,c_meant tP,fun _ _=>?_⟩
    refine ⟨c_need tP,fun _ _ _=>?_⟩
    apply bS <;> intro _
    ·refine ⟨k_node10_0 ih_node10 tP,fun _ _ _ _ _ e84=>?_⟩
     obtain ⟨e84_0,e84_1,e84_2⟩ := e84
     try replace e84_0 := nz e84_0
     try replace e84_1 := nz e84_1
     try replace e84_2 := nz e84_2
     exact ⟨_,_,_,_,_,9,0,_,_,_,_,_,_,_,_,tP,rfl,rfl⟩
    refine ⟨k_node10_0 ih_node10 tP,fun _ _ _ _ _ e90=>?_⟩
    obtain ⟨e90_0,e90_1,e90_2⟩ := e90
    try replace e90_0 := nz e90_0
    try replace e90_1 := nz e90_1
    try replace e90_2 := nz e90_2
    exact ⟨_,_,_,_,_,9,0,_,_,_,_,_,_,_,_,tP,rfl,rfl⟩
   apply bS <;> intro _
   ·apply bS <;> intro _
    ·apply bS <;> intro _
     ·refine ⟨c_meant tP,fun _ _=>?_⟩
      refine ⟨c_need tP,fun _ _ _=>?_⟩
      apply bS <;> intro _
      ·refine ⟨k_node10_0 ih_node10 tP,fun _ _ _ _ _ e105=>?_⟩
       obtain ⟨e105_0,e105_1,e105_2⟩ := e105
       try replace e105_0 := nz e105_0
       try replace e105_1 := nz e105_1
       try replace e105_2 := nz e105_2
       exact ⟨_,_,_,_,_,_,0,_,_,_,_,_,_,_,_,tP,rfl,rfl⟩
      refine ⟨k_node10_0 ih_node10 tP,fun _ _ _ _ _ e111=>?_⟩
      obtain ⟨e111_0,e111_1,e111_2⟩ := e111
      try replace e111_0 := nz e111_0
      try replace e111_1 := nz e111_1
      try replace e111_2 := nz e111_2
      exact ⟨_,_,_,_,_,_,0,_,_,_,_,_,_,_,_,tP,rfl,rfl⟩
     refine ⟨c_meant tP,fun _ _=>?_⟩
     refine ⟨c_need tP,fun _ _ _=>?_⟩
     apply bS <;> intro _
     ·refine ⟨k_node10_0 ih_node10 tP,fun _ _ _ _ _ e123=>?_⟩
      obtain ⟨e123_0,e123_1,e123_2⟩ := e123
      try replace e123_0 := nz e123_0
      try replace e123_1 := nz e123_1
      try replace e123_2 := nz e123_2
      exact ⟨_,_,_,_,_,_,0,_,_,_,_,_,_,_,_,tP,rfl,rfl⟩
     refine ⟨k_node10_0 ih_node10 tP,fun _ _ _ _ _ e129=>?_⟩
     obtain ⟨e129_0,e129_1,e129_2⟩ := e129
     try replace e129_0 := nz e129_0
     try replace e129_1 := nz e129_1
     try replace e129_2 := nz e129_2
     exact ⟨_,_,_,_,_,_,0,_,_,_,_,_,_,_,_,tP,rfl,rfl⟩
    apply bS <;> intro _
    ·refine ⟨k_node10_0 ih_node10 tP,fun _ _ _ _ _ e136=>?_⟩
     obtain ⟨e136_0,e136_1,e136_2⟩ := e136
     try replace e136_0 := nz e136_0
     try replace e136_1 := nz e136_1
     try replace e136_2 := nz e136_2
     exact ⟨_,_,_,_,_,_,_,_,_,_,_,_,_,_,_,tP,rfl,rfl⟩
    refine ⟨k_node10_0 ih_node10 tP,fun _ _ _ _ _ e142=>?_⟩
    obtain ⟨e142_0,e142_1,e142_2⟩ := e142
    try replace e142_0 := nz e142_0
    try replace e142_1 := nz e142_1
    try replace e142_2 := nz e142_2
    exact ⟨_,_,_,_,_,_,_,_,_,_,_,_,_,_,_,tP,rfl,rfl⟩
   apply bS <;> intro _
   ·refine ⟨k_node10_0 ih_node10 tP,fun _ _ _ _ _ e149=>?_⟩
    obtain ⟨e149_0,e149_1,e149_2⟩ := e149
    try replace e149_0 := nz e149_0
    try replace e149_1 := nz e149_1
    try replace e149_2 := nz e149_2
    exact ⟨_,_,_,_,_,_,_,_,_,_,_,_,_,_,_,tP,rfl,rfl⟩
   refine ⟨k_node10_0 ih_node10 tP,fun _ _ _ _ _ e155=>?_⟩
   obtain ⟨e155_0,e155_1,e155_2⟩ := e155
   try replace e155_0 := nz e155_0
   try replace e155_1 := nz e155_1
   try replace e155_2 := nz e155_2
   exact ⟨_,_,_,_,_,_,_,_,_,_,_,_,_,_,_,tP,rfl,rfl⟩
  apply bS <;> intro _
  ·refine ⟨k_node10_0 ih_node10 tP,fun _ _ _ _ _ e162=>?_⟩
   obtain ⟨e162_0,e162_1,e162_2⟩ := e162
   try replace e162_0 := nz e162_0
   try replace e162_1 := nz e162_1
   try replace e162_2 := nz e162_2
   exact ⟨_,_,_,_,_,_,_,_,_,_,_,_,_,_,_,tP,rfl,rfl⟩
  refine ⟨k_node10_0 ih_node10 tP,fun _ _ _ _ _ e168=>?_⟩
  obtain ⟨e168_0,e168_1,e168_2⟩ := e168
  try replace e168_0 := nz e168_0
  try replace e168_1 := nz e168_1
  try replace e168_2 := nz e168_2
  exact ⟨_,_,_,_,_,_,_,_,_,_,_,_,_,_,_,tP,rfl,rfl⟩)
 exact ⟨_,_,_,_,_,_,_,_,_,_,_,_,_,_,_,hq,ha⟩
theorem r_node10 : ∀ b,IH_node10 b
 | 0=>fun hr _=>absurd hr (Nat.not_lt_zero _)
 | b + 1=>fun hr hp=>i_node10 (fun hr' hp'=>r_node10 b (by omega) hp') hp
theorem c_node10 {k a c s g n m mode nm on off K last cnt N E At} (hp : pre_node10 k a c s g n m mode nm on off K last cnt N E At) : E_node10 k a c s g n m mode nm on off K last cnt N E At := r_node10 (rank_node10 k a c s g n m mode nm on off K last cnt N E At + 1) (Nat.lt_succ_self _) hp
abbrev E_Resolve10 (x0 x1 x2 : Int) (x3 : List AV) (x4 : Bool) (x5 x6 x7 : Int) (x8 : ByteArray) (x9 x10 : Int) (x11 : List AV) (x12 : Int) (x13 : List AV) : Prop := ∃ x14 x15 x16 x17 x18 x19 x20 x21 x22 x23 x24 x25 x26 x27,post_Resolve10 x0 x1 x2 x3 x4 x5 x6 x7 x8 x9 x10 x11 x12 x13 x14 x15 x16 x17 x18 x19 x20 x21 x22 x23 x24 x25 x26 x27 ∧ A 18 [(.agg (nR x0 x1 x2 x3 x4 x5 x6 x7 x8 x9 x10 x11)),(iv x12),(.sl 2 x13)] [] (.tup [(.agg (nR x14 x15 x16 x17 x18 x19 x20 x21 x22 x23 x24 x25)),(iv x26),(iv x27)]) []
abbrev j_Resolve10 (nn : Nat) (x0 x1 x2 : Int) (x3 : List AV) (x4 : Bool) (x5 x6 x7 : Int) (x8 : ByteArray) (x9 x10 : Int) (x11 : List AV) (x12 : Int) (x13 : List AV) (kK : Int → Int → Int → List AV → Bool → Int → Int → Int → ByteArray → Int → Int → List AV → Int → Int → HC) : HC := ⟨.ev nn (.ask (eN fun x14 x15 x16 x17 x18 x19 x20 x21 x22 x23 x24 x25=>eI fun x26=>eI fun x27=>.done (.res (.tup [(.agg (nR x14 x15 x16 x17 x18 x19 x20 x21 x22 x23 x24 x25)),(iv x26),(iv x27)]) [] (post_Resolve10 x0 x1 x2 x3 x4 x5 x6 x7 x8 x9 x10 x11 x12 x13 x14 x15 x16 x17 x18 x19 x20 x21 x22 x23 x24 x25 x26 x27)) ((kK x14 x15 x16 x17 x18 x19 x20 x21 x22 x23 x24 x25 x26 x27).h))),E_Resolve10 x0 x1 x2 x3 x4 x5 x6 x7 x8 x9 x10 x11 x12 x13 ∧ (∀ x14 x15 x16 x17 x18 x19 x20 x21 x22 x23 x24 x25 x26 x27,post_Resolve10 x0 x1 x2 x3 x4 x5 x6 x7 x8 x9 x10 x11 x12 x13 x14 x15 x16 x17 x18 x19 x20 x21 x22 x23 x24 x25 x26 x27 → (kK x14 x15 x16 x17 x18 x19 x20 x21 x22 x23 x24 x25 x26 x27).p)⟩
abbrev t_Resolve10 (x0 x1 x2 : Int) (x3 : List AV) (x4 : Bool) (x5 x6 x7 : Int) (x8 : ByteArray) (x9 x10 : Int) (x11 : List AV) (x12 : Int) (x13 : List AV) (Q : AV → HH → Prop) : HC := (j_node10 1 x0 x1 x2 x3 x4 x5 x6 x7 x8 x9 x10 x11 0 x12 x13 0 0 fun x14 x15 x16 x17 x18 x19 x20 x21 x22 x23 x24 x25 x26 x27 x28=>(dd 1 ((!x27 == 0)) (qq 2 Q (.tup [(.agg (nR 0 0 0 [] false 0 0 0 (bs []) 0 0 [])),(iv x27),(iv x28)])) (oo 1 ((((np (.tup [(.agg (nR x14 x15 x16 x17 x18 x19 x20 x21 x22 x23 x24 x25)),(iv 0),(iv 0)])) && true) && true)) (qq 0 Q (.tup [(.agg (nR x14 x15 x16 x17 x18 x19 x20 x21 x22 x23 x24 x25)),(iv 0),(iv 0)])))))
theorem w_Resolve10 (x0 x1 x2 x3 x4 x5 x6 x7 x8 x9 x10 x11 x12 x13) (Q : AV → HH → Prop) (h : (t_Resolve10 x0 x1 x2 x3 x4 x5 x6 x7 x8 x9 x10 x11 x12 x13 Q).p) : ∃ r H',A 18 [(.agg (nR x0 x1 x2 x3 x4 x5 x6 x7 x8 x9 x10 x11)),(iv x12),(.sl 2 x13)] [] r H' ∧ Q r H' :=
 Ans.wq rfl (t_Resolve10 x0 x1 x2 x3 x4 x5 x6 x7 x8 x9 x10 x11 x12 x13 Q).h (by kernel_rfl) h
theorem c_Resolve10 {x0 x1 x2 x3 x4 x5 x6 x7 x8 x9 x10 x11 x12 x13} (hp : pre_Resolve10 x0 x1 x2 x3 x4 x5 x6 x7 x8 x9 x10 x11 x12 x13) : E_Resolve10 x0 x1 x2 x3 x4 x5 x6 x7 x8 x9 x10 x11 x12 x13 := by
 obtain ⟨_,_,ha,_,_,_,_,_,_,_,_,_,_,_,_,_,_,hq,rfl,rfl⟩ := w_Resolve10 x0 x1 x2 x3 x4 x5 x6 x7 x8 x9 x10 x11 x12 x13 (fun r H'=>∃ x14 x15 x16 x17 x18 x19 x20 x21 x22 x23 x24 x25 x26 x27,post_Resolve10 x0 x1 x2 x3 x4 x5 x6 x7 x8 x9 x10 x11 x12 x13 x14 x15 x16 x17 x18 x19 x20 x21 x22 x23 x24 x25 x26 x27 ∧ r = (.tup [(.agg [(iv x14),(iv x15),(iv x16),(.sl 2 x17),(bv x18),(iv x19),(iv x20),(iv x21),(sv x22),(iv x23),(iv x24),(.sl 12 x25)]),(iv x26),(iv x27)]) ∧ H' = []) (by
  obtain ⟨⟨_,_,_,_⟩,_,_,_⟩ := hp
  refine ⟨c_node10 tP,fun _ _ _ _ _ _ _ _ _ _ _ _ _ _ _ p43=>?_⟩
  obtain ⟨⟨_,_,_,_⟩,_⟩ := p43
  refine bS (fun _=>⟨0,0,0,_,_,0,0,0,_,0,0,_,_,_,tP,rfl,rfl⟩) fun _=>?_
  refine ⟨tN,?_⟩
  exact ⟨_,_,_,_,_,_,_,_,_,_,_,_,0,0,tP,rfl,rfl⟩)
 exact ⟨_,_,_,_,_,_,_,_,_,_,_,_,_,_,hq,ha⟩
end
end Go.Proofs.Ytcjcdammcmjbnaa.U
