/- Blocks: walks of the program's functions, each told by what is asked and what comes back; they hold as they stand. -/
import Derived.Test.YtcjcdammcmjbnaaFeC
import Derived.Test.YtcjcdammcmjbnaaFeB1
import Derived.Test.YtcjcdammcmjbnaaFeB2
import Derived.Test.YtcjcdammcmjbnaaFeB3
namespace Go.Proofs.Ytcjcdammcmjbnaa.U
open Go Go.Vai
set_option linter.unusedVariables false
set_option linter.unusedSimpArgs false
set_option maxRecDepth 100000
set_option maxHeartbeats 8000000
attribute [local irreducible] IntKind.wrap Rs Is Bs Ws Ts Ns Nf kindOf shapeN nszL
noncomputable section
theorem zb4x0 {p : Prop} (h : p := by (try unfold rank_row8); (try unfold rank_Node8); exact tI) : p := h
abbrev E_Node8 (utf : Bool) (most k a c : Int) (s : List AV) (g : Bool) (n m mode : Int) (nm : ByteArray) (on off : Int) (K : List AV) (f : Int) : Prop := ∃ x0 x1 x2 x3 x4 x5 x6 x7 x8 x9 x10 x11 x12,post_Node8 utf most k a c s g n m mode nm on off K f x0 x1 x2 x3 x4 x5 x6 x7 x8 x9 x10 x11 x12 ∧ A 32 [(.agg [(bv utf),(iv most)]),(.agg (nR k a c s g n m mode nm on off K)),(iv f)] [] (.tup [(.agg (nR x0 x1 x2 x3 x4 x5 x6 x7 x8 x9 x10 x11)),(iv x12)]) []
abbrev j_Node8 (nn : Nat) (utf : Bool) (most k a c : Int) (s : List AV) (g : Bool) (n m mode : Int) (nm : ByteArray) (on off : Int) (K : List AV) (f : Int) (kK : Int → Int → Int → List AV → Bool → Int → Int → Int → ByteArray → Int → Int → List AV → Int → HC) : HC := ⟨.ev nn (.ask (eN fun x0 x1 x2 x3 x4 x5 x6 x7 x8 x9 x10 x11=>eI fun x12=>.done (.res (.tup [(.agg (nR x0 x1 x2 x3 x4 x5 x6 x7 x8 x9 x10 x11)),(iv x12)]) [] (post_Node8 utf most k a c s g n m mode nm on off K f x0 x1 x2 x3 x4 x5 x6 x7 x8 x9 x10 x11 x12)) ((kK x0 x1 x2 x3 x4 x5 x6 x7 x8 x9 x10 x11 x12).h))),E_Node8 utf most k a c s g n m mode nm on off K f ∧ (∀ x0 x1 x2 x3 x4 x5 x6 x7 x8 x9 x10 x11 x12,post_Node8 utf most k a c s g n m mode nm on off K f x0 x1 x2 x3 x4 x5 x6 x7 x8 x9 x10 x11 x12 → (kK x0 x1 x2 x3 x4 x5 x6 x7 x8 x9 x10 x11 x12).p)⟩
def IH_Node8 (b : Nat) : Prop := ∀ {utf : Bool} {most : Int} {k : Int} {a : Int} {c : Int} {s : List AV} {g : Bool} {n : Int} {m : Int} {mode : Int} {nm : ByteArray} {on : Int} {off : Int} {K : List AV} {f : Int},rank_Node8 (utf) (most) (k) (a) (c) (s) (g) (n) (m) (mode) (nm) (on) (off) (K) (f) < b → pre_Node8 (utf) (most) (k) (a) (c) (s) (g) (n) (m) (mode) (nm) (on) (off) (K) (f) → E_Node8 (utf) (most) (k) (a) (c) (s) (g) (n) (m) (mode) (nm) (on) (off) (K) (f)
theorem IH_Node8_le (b c : Nat) (h : b ≤ c) (k : IH_Node8 c) : IH_Node8 b := fun hr hp=>k (Nat.lt_of_lt_of_le hr h) hp
abbrev E_Turn (x0 x1 x2 : Int) : Prop := ∃ x3,post_Turn x0 x1 x2 x3 ∧ A 59 [(iv x0),(iv x1),(iv x2)] [] (iv x3) []
abbrev j_Turn (nn : Nat) (x0 x1 x2 : Int) (kK : Int → HC) : HC := ⟨.ev nn (.ask (eI fun x3=>.done (.res (iv x3) [] (post_Turn x0 x1 x2 x3)) ((kK x3).h))),E_Turn x0 x1 x2 ∧ (∀ x3,post_Turn x0 x1 x2 x3 → (kK x3).p)⟩
abbrev t_Turn (x0 x1 x2 : Int) (Q : AV → HH → Prop) : HC := (qq 3 Q (iv (w6   (↑((w6 (↑((x0 % 18446744073709551616).toNat ||| (x1 % 18446744073709551616).toNat) : Int) %             18446744073709551616).toNat &&&         (18446744073709551615 ^^^ (x2 % 18446744073709551616).toNat)) :     Int))))
theorem w_Turn (x0 x1 x2) (Q : AV → HH → Prop) (h : (t_Turn x0 x1 x2 Q).p) : ∃ r H',A 59 [(iv x0),(iv x1),(iv x2)] [] r H' ∧ Q r H' :=
 Ans.wq rfl (t_Turn x0 x1 x2 Q).h (by kernel_rfl) h
theorem c_Turn {x0 x1 x2} (hp : pre_Turn x0 x1 x2) : E_Turn x0 x1 x2 := by
 obtain ⟨_,_,ha,_,hq,rfl,rfl⟩ := w_Turn x0 x1 x2 (fun r H'=>∃ x3,post_Turn x0 x1 x2 x3 ∧ r = (iv x3) ∧ H' = []) (by
  try have := tW (↑((x0 % 18446744073709551616).toNat ||| (x1 % 18446744073709551616).toNat) : Int)
  exact ⟨_,tP,rfl,rfl⟩)
 exact ⟨_,hq,ha⟩
abbrev E_list (x0 x1 x2 : Int) (x3 : List AV) (x4 : Bool) (x5 x6 x7 : Int) (x8 : ByteArray) (x9 x10 : Int) (x11 : List AV) : Prop := ∃ x12,post_list x0 x1 x2 x3 x4 x5 x6 x7 x8 x9 x10 x11 x12 ∧ A 60 [(.agg (nR x0 x1 x2 x3 x4 x5 x6 x7 x8 x9 x10 x11))] [] (.sl 12 x12) []
abbrev j_list (nn : Nat) (x0 x1 x2 : Int) (x3 : List AV) (x4 : Bool) (x5 x6 x7 : Int) (x8 : ByteArray) (x9 x10 : Int) (x11 : List AV) (kK : List AV → HC) : HC := ⟨.ev nn (.ask (eL fun x12=>.done (.res (.sl 12 x12) [] (post_list x0 x1 x2 x3 x4 x5 x6 x7 x8 x9 x10 x11 x12)) ((kK x12).h))),E_list x0 x1 x2 x3 x4 x5 x6 x7 x8 x9 x10 x11 ∧ (∀ x12,post_list x0 x1 x2 x3 x4 x5 x6 x7 x8 x9 x10 x11 x12 → (kK x12).p)⟩
abbrev t_list (x0 x1 x2 : Int) (x3 : List AV) (x4 : Bool) (x5 x6 x7 : Int) (x8 : ByteArray) (x9 x10 : Int) (x11 : List AV) (Q : AV → HH → Prop) : HC := (dd 1 ((x0 == 12)) (qq 1 Q (.sl 12 x11)) (qq 1 Q (.sl 12 [(.agg (nR x0 x1 x2 x3 x4 x5 x6 x7 x8 x9 x10 x11))])))
theorem w_list (x0 x1 x2 x3 x4 x5 x6 x7 x8 x9 x10 x11) (Q : AV → HH → Prop) (h : (t_list x0 x1 x2 x3 x4 x5 x6 x7 x8 x9 x10 x11 Q).p) : ∃ r H',A 60 [(.agg (nR x0 x1 x2 x3 x4 x5 x6 x7 x8 x9 x10 x11))] [] r H' ∧ Q r H' :=
 Ans.wq rfl (t_list x0 x1 x2 x3 x4 x5 x6 x7 x8 x9 x10 x11 Q).h (by kernel_rfl) h
theorem c_list {x0 x1 x2 x3 x4 x5 x6 x7 x8 x9 x10 x11} (hp : pre_list x0 x1 x2 x3 x4 x5 x6 x7 x8 x9 x10 x11) : E_list x0 x1 x2 x3 x4 x5 x6 x7 x8 x9 x10 x11 := by
 obtain ⟨_,_,ha,_,hq,rfl,rfl⟩ := w_list x0 x1 x2 x3 x4 x5 x6 x7 x8 x9 x10 x11 (fun r H'=>∃ x12,post_list x0 x1 x2 x3 x4 x5 x6 x7 x8 x9 x10 x11 x12 ∧ r = (.sl 12 x12) ∧ H' = []) (by
  obtain ⟨_,_,_,_⟩ := hp
  refine bS (fun _=>⟨_,tP,rfl,rfl⟩) fun _=>?_
  exact ⟨_,tP,rfl,rfl⟩)
 exact ⟨_,hq,ha⟩
abbrev E_one8 (x0 : Int) : Prop := ∃ x1,post_one8 x0 x1 ∧ A 56 [(iv x0)] [] (.sl 2 x1) []
abbrev j_one8 (nn : Nat) (x0 : Int) (kK : List AV → HC) : HC := ⟨.ev nn (.ask (eL fun x1=>.done (.res (.sl 2 x1) [] (post_one8 x0 x1)) ((kK x1).h))),E_one8 x0 ∧ (∀ x1,post_one8 x0 x1 → (kK x1).p)⟩
abbrev t_one8 (x0 : Int) (Q : AV → HH → Prop) : HC := (qq 1 Q (.sl 2 [(.agg [(iv x0),(iv x0)])]))
theorem w_one8 (x0) (Q : AV → HH → Prop) (h : (t_one8 x0 Q).p) : ∃ r H',A 56 [(iv x0)] [] r H' ∧ Q r H' :=
 Ans.wq rfl (t_one8 x0 Q).h (by kernel_rfl) h
theorem c_one8 {x0} (hp : pre_one8 x0) : E_one8 x0 := by
 obtain ⟨_,_,ha,_,hq,rfl,rfl⟩ := w_one8 x0 (fun r H'=>∃ x1,post_one8 x0 x1 ∧ r = (.sl 2 x1) ∧ H' = []) (by
  exact ⟨_,tP,rfl,rfl⟩)
 exact ⟨_,hq,ha⟩
abbrev E_row8 (utf : Bool) (most : Int) (l : List AV) (f : Int) : Prop := ∃ x0 x1,post_row8 utf most l f x0 x1 ∧ A 61 [(.agg [(bv utf),(iv most)]),(.sl 12 l),(iv f)] [] (.tup [(.sl 12 x0),(iv x1)]) []
abbrev j_row8 (nn : Nat) (utf : Bool) (most : Int) (l : List AV) (f : Int) (kK : List AV → Int → HC) : HC := ⟨.ev nn (.ask (eL fun x0=>eI fun x1=>.done (.res (.tup [(.sl 12 x0),(iv x1)]) [] (post_row8 utf most l f x0 x1)) ((kK x0 x1).h))),E_row8 utf most l f ∧ (∀ x0 x1,post_row8 utf most l f x0 x1 → (kK x0 x1).p)⟩
def IH_row8 (b : Nat) : Prop := ∀ {utf : Bool} {most : Int} {l : List AV} {f : Int},rank_row8 (utf) (most) (l) (f) < b → pre_row8 (utf) (most) (l) (f) → E_row8 (utf) (most) (l) (f)
theorem IH_row8_le (b c : Nat) (h : b ≤ c) (k : IH_row8 c) : IH_row8 b := fun hr hp=>k (Nat.lt_of_lt_of_le hr h) hp
abbrev E_seq (x0 : List AV) : Prop := ∃ x1 x2 x3 x4 x5 x6 x7 x8 x9 x10 x11 x12,post_seq x0 x1 x2 x3 x4 x5 x6 x7 x8 x9 x10 x11 x12 ∧ A 58 [(.sl 12 x0)] [] (.agg (nR x1 x2 x3 x4 x5 x6 x7 x8 x9 x10 x11 x12)) []
abbrev j_seq (nn : Nat) (x0 : List AV) (kK : Int → Int → Int → List AV → Bool → Int → Int → Int → ByteArray → Int → Int → List AV → HC) : HC := ⟨.ev nn (.ask (eN fun x1 x2 x3 x4 x5 x6 x7 x8 x9 x10 x11 x12=>.done (.res (.agg (nR x1 x2 x3 x4 x5 x6 x7 x8 x9 x10 x11 x12)) [] (post_seq x0 x1 x2 x3 x4 x5 x6 x7 x8 x9 x10 x11 x12)) ((kK x1 x2 x3 x4 x5 x6 x7 x8 x9 x10 x11 x12).h))),E_seq x0 ∧ (∀ x1 x2 x3 x4 x5 x6 x7 x8 x9 x10 x11 x12,post_seq x0 x1 x2 x3 x4 x5 x6 x7 x8 x9 x10 x11 x12 → (kK x1 x2 x3 x4 x5 x6 x7 x8 x9 x10 x11 x12).p)⟩
abbrev t_seq (x0 : List AV) (Q : AV → HH → Prop) : HC := (dd 1 (((↑x0.length : Int) == 1)) (pN 2 ((x0[0]?)) fun x1 x2 x3 x4 x5 x6 x7 x8 x9 x10 x11 x12=>(qq 1 Q (.agg (nR x1 x2 x3 x4 x5 x6 x7 x8 x9 x10 x11 x12)))) (qq 1 Q (.agg (nR 12 0 0 [] false 0 0 0 (bs []) 0 0 x0))))
theorem w_seq (x0) (Q : AV → HH → Prop) (h : (t_seq x0 Q).p) : ∃ r H',A 58 [(.sl 12 x0)] [] r H' ∧ Q r H' :=
 Ans.wq rfl (t_seq x0 Q).h (by kernel_rfl) h
theorem c_seq {x0} (hp : pre_seq x0) : E_seq x0 := by
 obtain ⟨_,_,ha,_,_,_,_,_,_,_,_,_,_,_,_,hq,rfl,rfl⟩ := w_seq x0 (fun r H'=>∃ x1 x2 x3 x4 x5 x6 x7 x8 x9 x10 x11 x12,post_seq x0 x1 x2 x3 x4 x5 x6 x7 x8 x9 x10 x11 x12 ∧ r = (.agg [(iv x1),(iv x2),(iv x3),(.sl 2 x4),(bv x5),(iv x6),(iv x7),(iv x8),(sv x9),(iv x10),(iv x11),(.sl 12 x12)]) ∧ H' = []) (by
  obtain ⟨_,_⟩ := hp
  apply bS <;> intro _
  ·refine ⟨tG,fun _ _ _ _ _ _ _ _ _ _ _ _ g26=>?_⟩
   first | (have q := elN tA g26; obtain ⟨_,_,_,_,_,_,_⟩ := q) | (have q := elF tA g26; obtain ⟨_,_,_,_,_⟩ := q)
   exact ⟨_,_,_,_,_,_,_,_,_,_,_,_,tP,rfl,rfl⟩
  exact ⟨_,0,0,_,_,0,0,0,_,0,0,_,tP,rfl,rfl⟩)
 exact ⟨_,_,_,_,_,_,_,_,_,_,_,_,hq,ha⟩
abbrev E_Of2 (x0 : Int) : Prop := ∃ x1 x2 x3 x4 x5,post_Of2 x0 x1 x2 x3 x4 x5 ∧ A 103 [(iv x0)] [] (.agg [(iv x1),(iv x2),(sv x3),(sv x4),(iv x5)]) []
abbrev j_Of2 (nn : Nat) (x0 : Int) (kK : Int → Int → ByteArray → ByteArray → Int → HC) : HC := ⟨.ev nn (.ask (eI fun x1=>eI fun x2=>eS fun x3=>eS fun x4=>eI fun x5=>.done (.res (.agg [(iv x1),(iv x2),(sv x3),(sv x4),(iv x5)]) [] (post_Of2 x0 x1 x2 x3 x4 x5)) ((kK x1 x2 x3 x4 x5).h))),E_Of2 x0 ∧ (∀ x1 x2 x3 x4 x5,post_Of2 x0 x1 x2 x3 x4 x5 → (kK x1 x2 x3 x4 x5).p)⟩
def s_Of2_0 (x0 x1 x2 : Int) (x3 x4 : ByteArray) (x5 : Int) (x6 : List AV) (x7 : Int) : St := ⟨[],[(0,(iv x0)),(2,(.box [(iv x1),(iv x2),(sv x3),(sv x4),(iv x5)])),(3,(.sl 5 x6)),(4,(iv x7))],[],0⟩
def x_Of2_0_0 (x0 x1 x2 : Int) (x3 x4 : ByteArray) (x5 : Int) (x6 : List AV) (y7 y8 : Int) (y9 y10 : ByteArray) (y11 : Int) : St := ⟨[],[(2,(.box [(iv y7),(iv y8),(sv y9),(sv y10),(iv y11)]))],[],0⟩
def x_Of2_0_1 (x0 x1 x2 : Int) (x3 x4 : ByteArray) (x5 : Int) (x6 : List AV) (y7 : Int) : St := ⟨[],[(0,(iv x0)),(2,(.box [(iv x1),(iv x2),(sv x3),(sv x4),(iv x5)])),(3,(.sl 5 x6)),(4,(iv y7)),(16,(bv false))],[],0⟩
abbrev E_Of2_0 (x0 x1 x2 : Int) (x3 x4 : ByteArray) (x5 : Int) (x6 : List AV) (x7o : Int) : Prop := ((∃ y8 y9 y10 y11 y12,out_Of2_0_0 x0 x1 x2 x3 x4 x5 x6 x7o y8 y9 y10 y11 y12 ∧ R 103 0 (s_Of2_0 x0 x1 x2 x3 x4 x5 x6 x7o) (Ex.ret,x_Of2_0_0 x0 x1 x2 x3 x4 x5 x6 y8 y9 y10 y11 y12)) ∨ (∃ y8,out_Of2_0_1 x0 x1 x2 x3 x4 x5 x6 x7o y8 ∧ R 103 0 (s_Of2_0 x0 x1 x2 x3 x4 x5 x6 x7o) ((.exit 0),x_Of2_0_1 x0 x1 x2 x3 x4 x5 x6 y8)))
abbrev j_Of2_0 (nn : Nat) (x0 x1 x2 : Int) (x3 x4 : ByteArray) (x5 : Int) (x6 : List AV) (x7o : Int) (f0 : Int → Int → ByteArray → ByteArray → Int → HC) (f1 : Int → HC) : HC := ⟨.ev nn (.ask (.or (eI fun y8=>eI fun y9=>eS fun y10=>eS fun y11=>eI fun y12=>.done (.exit Ex.ret (x_Of2_0_0 x0 x1 x2 x3 x4 x5 x6 y8 y9 y10 y11 y12) (out_Of2_0_0 x0 x1 x2 x3 x4 x5 x6 x7o y8 y9 y10 y11 y12)) (f0 y8 y9 y10 y11 y12).h) (eI fun y8=>.done (.exit (.exit 0) (x_Of2_0_1 x0 x1 x2 x3 x4 x5 x6 y8) (out_Of2_0_1 x0 x1 x2 x3 x4 x5 x6 x7o y8)) (f1 y8).h))),E_Of2_0 x0 x1 x2 x3 x4 x5 x6 x7o ∧ ((∀ y8 y9 y10 y11 y12,out_Of2_0_0 x0 x1 x2 x3 x4 x5 x6 x7o y8 y9 y10 y11 y12 → (f0 y8 y9 y10 y11 y12).p) ∧ (∀ y8,out_Of2_0_1 x0 x1 x2 x3 x4 x5 x6 x7o y8 → (f1 y8).p))⟩
abbrev t_Of2_0 (x0 x1 x2 : Int) (x3 x4 : ByteArray) (x5 : Int) (x6 : List AV) (x7 : Int) (Q : Ex → St → Prop) : HC := (dd 1 ((decide (x7 < (↑x6.length : Int)))) (oo 0 ((decide (0 ≤ x7))) (pV5 1 ((x6[x7.toNat]?)) (fun (x8 x9 : Int) (x10 x11 : ByteArray) (x12 : Int)=>(.agg [(iv x8),(iv x9),(sv x10),(sv x11),(iv x12)])) fun x8 x9 x10 x11 x12=>(dd 1 ((decide (x8 ≤ x0))) (oo 3 ((decide (0 ≤ x7))) (pV5 1 ((x6[x7.toNat]?)) (fun (x13 x14 : Int) (x15 x16 : ByteArray) (x17 : Int)=>(.agg [(iv x13),(iv x14),(sv x15),(sv x16),(iv x17)])) fun x13 x14 x15 x16 x17=>(dd 5 ((decide (x0 ≤ x14))) (oo 0 ((decide (0 ≤ x7))) (pV5 1 ((x6[x7.toNat]?)) (fun (x18 x19 : Int) (x20 x21 : ByteArray) (x22 : Int)=>(.agg [(iv x18),(iv x19),(sv x20),(sv x21),(iv x22)])) fun x18 x19 x20 x21 x22=>(zz 0 (Q Ex.ret (x_Of2_0_0 x0 x1 x2 x3 x4 x5 x6 x18 x19 x20 x21 x22))))) (zz 1 (Q .norm (s_Of2_0 x0 x1 x2 x3 x4 x5 x6 (w6 (x7 + 1)))))))) (zz 9 (Q .norm (s_Of2_0 x0 x1 x2 x3 x4 x5 x6 (w6 (x7 + 1)))))))) (zz 0 (Q (.exit 0) (x_Of2_0_1 x0 x1 x2 x3 x4 x5 x6 x7))))
theorem l_Of2_0 (x0 x1 x2 x3 x4 x5 x6 x7) (Q : Ex → St → Prop) (h : (t_Of2_0 x0 x1 x2 x3 x4 x5 x6 x7 Q).p) : ∃ e s',L 103 0 (s_Of2_0 x0 x1 x2 x3 x4 x5 x6 x7) (e,s') ∧ Q e s' :=
 Leads.wq (t_Of2_0 x0 x1 x2 x3 x4 x5 x6 x7 Q).h (by kernel_rfl) h
theorem k_Of2_0 {x0 x1 x2 x3 x4 x5 x6 x7o} (hi : inv_Of2_0 x0 x1 x2 x3 x4 x5 x6 x7o x7o) : E_Of2_0 x0 x1 x2 x3 x4 x5 x6 x7o := by
 obtain ⟨e,s',hr,hq⟩ := Rounds.byInv (st := fun (w : Int)=>s_Of2_0 x0 x1 x2 x3 x4 x5 x6 w) (Inv := fun w=>inv_Of2_0 x0 x1 x2 x3 x4 x5 x6 x7o w) (μ := fun w=>mu_Of2_0 x0 x1 x2 x3 x4 x5 x6 w) (Q := fun e s'=>((∃ y8 y9 y10 y11 y12,out_Of2_0_0 x0 x1 x2 x3 x4 x5 x6 x7o y8 y9 y10 y11 y12 ∧ e = Ex.ret ∧ s' = x_Of2_0_0 x0 x1 x2 x3 x4 x5 x6 y8 y9 y10 y11 y12) ∨ (∃ y8,out_Of2_0_1 x0 x1 x2 x3 x4 x5 x6 x7o y8 ∧ e = (.exit 0) ∧ s' = x_Of2_0_1 x0 x1 x2 x3 x4 x5 x6 y8))) (by
  intro x7 hi
  have hi : inv_Of2_0 x0 x1 x2 x3 x4 x5 x6 x7o x7 := hi
  refine l_Of2_0 x0 x1 x2 x3 x4 x5 x6 x7 _ ?_
  obtain ⟨_,_,_,_⟩ := hi
  apply bS <;> intro _
  ·refine ⟨tD,tG,fun _ _ _ _ _ g19=>?_⟩
   try have eg19 := Ws.elem tA g19
   apply bS <;> intro _
   ·refine ⟨tD,tG,fun _ _ _ _ _ g26=>?_⟩
    try have eg26 := Ws.elem tA g26
    apply bS <;> intro _
    ·refine ⟨tD,tG,fun _ _ _ _ _ g33=>?_⟩
     try have eg33 := Ws.elem tA g33
     exact .inr ⟨by simp,.inl ⟨_,_,_,_,_,tP,rfl,rfl⟩⟩
    try have := tW (x7 + 1)
    exact .inl ⟨rfl,(w6 (x7 + 1)),rfl,tP,by unfold mu_Of2_0; exact tI⟩
   try have := tW (x7 + 1)
   exact .inl ⟨rfl,(w6 (x7 + 1)),rfl,tP,by unfold mu_Of2_0; exact tI⟩
  exact .inr ⟨by simp,.inr (⟨_,tP,rfl,rfl⟩)⟩) x7o hi
 rcases hq with ⟨_,_,_,_,_,ho,rfl,rfl⟩ | ⟨_,ho,rfl,rfl⟩
 
 ·exact .inl ⟨_,_,_,_,_,ho,hr⟩
 ·exact .inr (⟨_,ho,hr⟩)
abbrev t_Of2 (x0 : Int) (Q : AV → HH → Prop) : HC := (dd 1 ((decide (x0 < 0))) (qq 4 Q (.agg [(iv 0),(iv 0),(sv (bs [])),(sv (bs [])),(iv 0)])) (dd 3 ((decide (x0 > 1114111))) (qq 1 Q (.agg [(iv 0),(iv 0),(sv (bs [])),(sv (bs [])),(iv 0)])) (j_Table 1 fun x1=>(j_Of2_0 0 x0 0 0 (bs []) (bs []) 0 x1 0 (fun x2 x3 x4 x5 x6=>(qq 1 Q (.agg [(iv x2),(iv x3),(sv x4),(sv x5),(iv x6)]))) (fun x7=>(qq 1 Q (.agg [(iv x0),(iv x0),(sv (bs [67,110])),(sv (bs [85,110,107,110,111,119,110])),(iv 0)])))))))
theorem w_Of2 (x0) (Q : AV → HH → Prop) (h : (t_Of2 x0 Q).p) : ∃ r H',A 103 [(iv x0)] [] r H' ∧ Q r H' :=
 Ans.wq rfl (t_Of2 x0 Q).h (by kernel_rfl) h
theorem c_Of2 {x0} (hp : pre_Of2 x0) : E_Of2 x0 := by
 obtain ⟨_,_,ha,_,_,_,_,_,hq,rfl,rfl⟩ := w_Of2 x0 (fun r H'=>∃ x1 x2 x3 x4 x5,post_Of2 x0 x1 x2 x3 x4 x5 ∧ r = (.agg [(iv x1),(iv x2),(sv x3),(sv x4),(iv x5)]) ∧ H' = []) (by
  refine bS (fun _=>⟨0,0,_,_,0,tP,rfl,rfl⟩) fun _=>?_
  refine bS (fun _=>⟨0,0,_,_,0,tP,rfl,rfl⟩) fun _=>?_
  refine ⟨c_Table tP,fun _ p9=>?_⟩
  obtain ⟨_,_⟩ := p9
  refine ⟨k_Of2_0 tP,fun _ _ _ _ _ _=>?_,fun _ _=>?_⟩
  ·exact ⟨_,_,_,_,_,tP,rfl,rfl⟩
  exact ⟨_,_,_,_,0,tP,rfl,rfl⟩)
 exact ⟨_,_,_,_,_,hq,ha⟩
abbrev E_Others (x0 : Int) (x1 : Bool) : Prop := ∃ x2,post_Others x0 x1 x2 ∧ A 99 [(iv x0),(bv x1)] [] (.sl 1 x2) []
abbrev j_Others (nn : Nat) (x0 : Int) (x1 : Bool) (kK : List AV → HC) : HC := ⟨.ev nn (.ask (eL fun x2=>.done (.res (.sl 1 x2) [] (post_Others x0 x1 x2)) ((kK x2).h))),E_Others x0 x1 ∧ (∀ x2,post_Others x0 x1 x2 → (kK x2).p)⟩
abbrev t_Others (x0 : Int) (x1 : Bool) (Q : AV → HH → Prop) : HC := (dd 1 ((!x1)) (dd 1 ((decide (x0 ≥ 65))) (dd 3 ((decide (x0 ≤ 90))) (qq 2 Q (.sl 1 [(iv (w6 (x0 + 32)))])) (dd 1 ((decide (x0 ≥ 97))) (dd 3 ((decide (x0 ≤ 122))) (qq 2 Q (.sl 1 [(iv (w6 (x0 - 32)))])) (qq 1 Q (.sl 1 []))) (qq 4 Q (.sl 1 [])))) (dd 4 ((decide (x0 ≥ 97))) (dd 3 ((decide (x0 ≤ 122))) (qq 2 Q (.sl 1 [(iv (w6 (x0 - 32)))])) (qq 1 Q (.sl 1 []))) (qq 4 Q (.sl 1 [])))) (dd 1 ((x0 == 75)) (qq 1 Q (.sl 1 [(iv 107),(iv 8490)])) (dd 1 ((x0 == 107)) (qq 1 Q (.sl 1 [(iv 75),(iv 8490)])) (dd 1 ((x0 == 8490)) (qq 1 Q (.sl 1 [(iv 75),(iv 107)])) (dd 1 ((x0 == 83)) (qq 1 Q (.sl 1 [(iv 115),(iv 383)])) (dd 1 ((x0 == 115)) (qq 1 Q (.sl 1 [(iv 83),(iv 383)])) (dd 1 ((x0 == 383)) (qq 1 Q (.sl 1 [(iv 83),(iv 115)])) (dd 1 ((x0 == 181)) (qq 1 Q (.sl 1 [(iv 924),(iv 956)])) (dd 1 ((x0 == 924)) (qq 1 Q (.sl 1 [(iv 181),(iv 956)])) (dd 1 ((x0 == 956)) (qq 1 Q (.sl 1 [(iv 181),(iv 924)])) (dd 1 ((x0 == 931)) (qq 1 Q (.sl 1 [(iv 962),(iv 963)])) (dd 1 ((x0 == 962)) (qq 1 Q (.sl 1 [(iv 931),(iv 963)])) (dd 1 ((x0 == 963)) (qq 1 Q (.sl 1 [(iv 931),(iv 962)])) (j_Of2 1 x0 fun x2 x3 x4 x5 x6=>(dd 1 ((!x6 == 0)) (qq 2 Q (.sl 1 [(iv (w6 (x0 + x6)))])) (qq 1 Q (.sl 1 [])))))))))))))))))
theorem w_Others (x0 x1) (Q : AV → HH → Prop) (h : (t_Others x0 x1 Q).p) : ∃ r H',A 99 [(iv x0),(bv x1)] [] r H' ∧ Q r H' :=
 Ans.wq rfl (t_Others x0 x1 Q).h (by kernel_rfl) h
theorem c_Others {x0 x1} (hp : pre_Others x0 x1) : E_Others x0 x1 := by
 obtain ⟨_,_,ha,_,hq,rfl,rfl⟩ := w_Others x0 x1 (fun r H'=>∃ x2,post_Others x0 x1 x2 ∧ r = (.sl 1 x2) ∧ H' = []) (by
  apply bS <;> intro _
  ·apply bS <;> intro _
   ·apply bS <;> intro _
    ·try have := tW (x0 + 32)
     exact ⟨_,tP,rfl,rfl⟩
    apply bS <;> intro _
    ·apply bS <;> intro _
     ·try have := tW (x0 - 32)
      exact ⟨_,tP,rfl,rfl⟩
     exact ⟨_,tP,rfl,rfl⟩
    exact ⟨_,tP,rfl,rfl⟩
   apply bS <;> intro _
   ·apply bS <;> intro _
    ·try have := tW (x0 - 32)
     exact ⟨_,tP,rfl,rfl⟩
    exact ⟨_,tP,rfl,rfl⟩
   exact ⟨_,tP,rfl,rfl⟩
  refine bS (fun _=>⟨_,tP,rfl,rfl⟩) fun _=>?_
  refine bS (fun _=>⟨_,tP,rfl,rfl⟩) fun _=>?_
  refine bS (fun _=>⟨_,tP,rfl,rfl⟩) fun _=>?_
  refine bS (fun _=>⟨_,tP,rfl,rfl⟩) fun _=>?_
  refine bS (fun _=>⟨_,tP,rfl,rfl⟩) fun _=>?_
  refine bS (fun _=>⟨_,tP,rfl,rfl⟩) fun _=>?_
  refine bS (fun _=>⟨_,tP,rfl,rfl⟩) fun _=>?_
  refine bS (fun _=>⟨_,tP,rfl,rfl⟩) fun _=>?_
  refine bS (fun _=>⟨_,tP,rfl,rfl⟩) fun _=>?_
  refine bS (fun _=>⟨_,tP,rfl,rfl⟩) fun _=>?_
  refine bS (fun _=>⟨_,tP,rfl,rfl⟩) fun _=>?_
  refine bS (fun _=>⟨_,tP,rfl,rfl⟩) fun _=>?_
  refine ⟨c_Of2 tP,fun _ _ _ _ x26 _=>?_⟩
  apply bS <;> intro _
  ·try have := tW (x0 + x26)
   exact ⟨_,tP,rfl,rfl⟩
  exact ⟨_,tP,rfl,rfl⟩)
 exact ⟨_,hq,ha⟩
abbrev E_addQ (x0 x1 : List AV) : Prop := ∃ x2,post_addQ x0 x1 x2 ∧ A 98 [(.cap true 108 x0),(.sl 1 x1)] [] (.cap true 108 x2) []
abbrev j_addQ (nn : Nat) (x0 x1 : List AV) (kK : List AV → HC) : HC := ⟨.ev nn (.ask (eL fun x2=>.done (.res (.cap true 108 x2) [] (post_addQ x0 x1 x2)) ((kK x2).h))),E_addQ x0 x1 ∧ (∀ x2,post_addQ x0 x1 x2 → (kK x2).p)⟩
def s_addQ_0 (x0 x1 : List AV) (x2 : Int) : St := ⟨[],[(0,(.cap true 108 x1)),(1,(.sl 1 x0)),(5,(iv x2))],[],0⟩
def x_addQ_0_0 (x0 y1 : List AV) (y2 : Int) : St := ⟨[],[(0,(.cap true 108 y1)),(1,(.sl 1 x0)),(5,(iv y2)),(9,(bv false))],[],0⟩
abbrev E_addQ_0 (x0 x1o : List AV) (x2o : Int) : Prop := (∃ y3 y4,out_addQ_0_0 x0 x1o x2o y3 y4 ∧ R 98 0 (s_addQ_0 x0 x1o x2o) ((.exit 0),x_addQ_0_0 x0 y3 y4))
abbrev j_addQ_0 (nn : Nat) (x0 x1o : List AV) (x2o : Int) (f0 : List AV → Int → HC) : HC := ⟨.ev nn (.ask (eL fun y3=>eI fun y4=>.done (.exit (.exit 0) (x_addQ_0_0 x0 y3 y4) (out_addQ_0_0 x0 x1o x2o y3 y4)) (f0 y3 y4).h)),E_addQ_0 x0 x1o x2o ∧ (∀ y3 y4,out_addQ_0_0 x0 x1o x2o y3 y4 → (f0 y3 y4).p)⟩
abbrev t_addQ_0 (x0 x1 : List AV) (x2 : Int) (Q : Ex → St → Prop) : HC := (dd 1 ((decide (x2 < (↑x0.length : Int)))) (oo 0 ((decide (0 ≤ x2))) (pA 1 ((x0[x2.toNat]?)) fun x3=>(oo 0 ((decide (0 ≤ x2))) (pA 1 ((x0[x2.toNat]?)) fun x4=>(oo 0 ((roomD pr 108 x1.length 1)) (zz 1 (Q .norm (s_addQ_0 x0 (x1 ++ [AV.agg [iv x3,iv x4]]) (w6 (x2 + 1)))))))))) (zz 0 (Q (.exit 0) (x_addQ_0_0 x0 x1 x2))))
theorem l_addQ_0 (x0 x1 x2) (Q : Ex → St → Prop) (h : (t_addQ_0 x0 x1 x2 Q).p) : ∃ e s',L 98 0 (s_addQ_0 x0 x1 x2) (e,s') ∧ Q e s' :=
 Leads.wq (t_addQ_0 x0 x1 x2 Q).h (by kernel_rfl) h
theorem k_addQ_0 {x0 x1o x2o} (hi : inv_addQ_0 x0 x1o x2o x1o x2o) : E_addQ_0 x0 x1o x2o := by
 obtain ⟨e,s',hr,hq⟩ := Rounds.byInv (st := fun (w : (List AV) × Int)=>s_addQ_0 x0 w.1 w.2) (Inv := fun w=>inv_addQ_0 x0 x1o x2o w.1 w.2) (μ := fun w=>mu_addQ_0 x0 w.1 w.2) (Q := fun e s'=>(∃ y3 y4,out_addQ_0_0 x0 x1o x2o y3 y4 ∧ e = (.exit 0) ∧ s' = x_addQ_0_0 x0 y3 y4)) (by
  rintro ⟨x1,x2⟩ hi
  have hi : inv_addQ_0 x0 x1o x2o x1 x2 := hi
  refine l_addQ_0 x0 x1 x2 _ ?_
  obtain ⟨_,_,_,_,_,_,_,_⟩ := hi
  apply bS <;> intro _
  ·refine ⟨tD,tG,fun x6 g7=>?_⟩
   try have eg7 := Bs.elem tA g7
   refine ⟨tD,tG,fun x8 g9=>?_⟩
   try have eg9 := Bs.elem tA g9
   refine ⟨tR,?_⟩
   try have := tW (x2 + 1)
   exact .inl ⟨rfl,((x1 ++ [AV.agg [iv x6,iv x8]]),(w6 (x2 + 1))),rfl,tP,by unfold mu_addQ_0; exact tI⟩
  exact .inr ⟨by simp,⟨_,_,tP,rfl,rfl⟩⟩) (x1o,x2o) hi
 rcases hq with ⟨_,_,ho,rfl,rfl⟩
 exact ⟨_,_,ho,hr⟩
abbrev t_addQ (x0 x1 : List AV) (Q : AV → HH → Prop) : HC := (j_addQ_0 0 x1 x0 0 (fun x2 x3=>(qq 1 Q (.cap true 108 x2))))
theorem w_addQ (x0 x1) (Q : AV → HH → Prop) (h : (t_addQ x0 x1 Q).p) : ∃ r H',A 98 [(.cap true 108 x0),(.sl 1 x1)] [] r H' ∧ Q r H' :=
 Ans.wq rfl (t_addQ x0 x1 Q).h (by kernel_rfl) h
theorem c_addQ {x0 x1} (hp : pre_addQ x0 x1) : E_addQ x0 x1 := by
 obtain ⟨_,_,ha,_,hq,rfl,rfl⟩ := w_addQ x0 x1 (fun r H'=>∃ x2,post_addQ x0 x1 x2 ∧ r = (.cap true 108 x2) ∧ H' = []) (by
  obtain ⟨_,_,_,_⟩ := hp
  refine ⟨k_addQ_0 tP,fun _ _ e5=>?_⟩
  obtain ⟨_,_⟩ := e5
  exact ⟨_,tP,rfl,rfl⟩)
 exact ⟨_,hq,ha⟩
abbrev E_CaselessQ (x0 : List AV) (x1 : Bool) : Prop := ∃ x2,post_CaselessQ x0 x1 x2 ∧ A 87 [(.sl 2 x0),(bv x1)] [] (.sl 2 x2) []
abbrev j_CaselessQ (nn : Nat) (x0 : List AV) (x1 : Bool) (kK : List AV → HC) : HC := ⟨.ev nn (.ask (eL fun x2=>.done (.res (.sl 2 x2) [] (post_CaselessQ x0 x1 x2)) ((kK x2).h))),E_CaselessQ x0 x1 ∧ (∀ x2,post_CaselessQ x0 x1 x2 → (kK x2).p)⟩
def s_CaselessQ_0 (x0 : List AV) (x1 : Bool) (x2 : List AV) (x3 : Int) : St := ⟨[],[(0,(.sl 2 x0)),(1,(bv x1)),(5,(.cap true 108 x2)),(6,(iv x3))],[],0⟩
def x_CaselessQ_0_0 (x0 : List AV) (x1 : Bool) (y2 : List AV) (y0 : Int) : St := ⟨[],[(0,(.sl 2 x0)),(1,(bv x1)),(5,(.cap true 108 y2)),(6,(iv y0)),(13,(bv false))],[],0⟩
abbrev E_CaselessQ_0 (x0 : List AV) (x1 : Bool) (x2o : List AV) (x3o : Int) : Prop := (∃ y4 y5,out_CaselessQ_0_0 x0 x1 x2o x3o y4 y5 ∧ R 87 0 (s_CaselessQ_0 x0 x1 x2o x3o) ((.exit 0),x_CaselessQ_0_0 x0 x1 y4 y5))
abbrev j_CaselessQ_0 (nn : Nat) (x0 : List AV) (x1 : Bool) (x2o : List AV) (x3o : Int) (f0 : List AV → Int → HC) : HC := ⟨.ev nn (.ask (eL fun y4=>eI fun y5=>.done (.exit (.exit 0) (x_CaselessQ_0_0 x0 x1 y4 y5) (out_CaselessQ_0_0 x0 x1 x2o x3o y4 y5)) (f0 y4 y5).h)),E_CaselessQ_0 x0 x1 x2o x3o ∧ (∀ y4 y5,out_CaselessQ_0_0 x0 x1 x2o x3o y4 y5 → (f0 y4 y5).p)⟩
abbrev t_CaselessQ_0 (x0 : List AV) (x1 : Bool) (x2 : List AV) (x3 : Int) (Q : Ex → St → Prop) : HC := (dd 1 ((decide (x3 ≤ 1200))) (oo 0 ((npL [(.sl 2 x0),(iv x3)])) (j_In 0 x0 x3 fun x4=>(dd 0 x4 (j_Others 1 x3 x1 fun x5=>(oo 0 ((npL [(.cap true 108 x2),(.sl 1 x5)])) (j_addQ 0 x2 x5 fun x6=>(zz 1 (Q .norm (s_CaselessQ_0 x0 x1 x6 (w6 (x3 + 1)))))))) (zz 1 (Q .norm (s_CaselessQ_0 x0 x1 x2 (w6 (x3 + 1)))))))) (zz 0 (Q (.exit 0) (x_CaselessQ_0_0 x0 x1 x2 x3))))
theorem l_CaselessQ_0 (x0 x1 x2 x3) (Q : Ex → St → Prop) (h : (t_CaselessQ_0 x0 x1 x2 x3 Q).p) : ∃ e s',L 87 0 (s_CaselessQ_0 x0 x1 x2 x3) (e,s') ∧ Q e s' :=
 Leads.wq (t_CaselessQ_0 x0 x1 x2 x3 Q).h (by kernel_rfl) h
theorem k_CaselessQ_0 {x0 x1 x2o x3o} (hi : inv_CaselessQ_0 x0 x1 x2o x3o x2o x3o) : E_CaselessQ_0 x0 x1 x2o x3o := by
 obtain ⟨e,s',hr,hq⟩ := Rounds.byInv (st := fun (w : (List AV) × Int)=>s_CaselessQ_0 x0 x1 w.1 w.2) (Inv := fun w=>inv_CaselessQ_0 x0 x1 x2o x3o w.1 w.2) (μ := fun w=>mu_CaselessQ_0 x0 x1 w.1 w.2) (Q := fun e s'=>(∃ y4 y5,out_CaselessQ_0_0 x0 x1 x2o x3o y4 y5 ∧ e = (.exit 0) ∧ s' = x_CaselessQ_0_0 x0 x1 y4 y5)) (by
  rintro ⟨x2,x3⟩ hi
  have hi : inv_CaselessQ_0 x0 x1 x2o x3o x2 x3 := hi
  refine l_CaselessQ_0 x0 x1 x2 x3 _ ?_
  obtain ⟨_,_,_,_,_,_⟩ := hi
  apply bS <;> intro _
  ·refine ⟨tN,c_In _ _ tP,fun _ p8=>?_⟩
   unfold post_In at p8
   apply bS <;> intro _
   ·refine ⟨c_Others tP,fun _ p11=>?_⟩
    obtain ⟨_,_⟩ := p11
    refine ⟨tN,c_addQ tP,fun x12 p13=>?_⟩
    obtain ⟨_,_⟩ := p13
    try have := tW (x3 + 1)
    exact .inl ⟨rfl,(x12,(w6 (x3 + 1))),rfl,tP,by unfold mu_CaselessQ_0; exact tI⟩
   try have := tW (x3 + 1)
   exact .inl ⟨rfl,(x2,(w6 (x3 + 1))),rfl,tP,by unfold mu_CaselessQ_0; exact tI⟩
  exact .inr ⟨by simp,⟨_,_,tP,rfl,rfl⟩⟩) (x2o,x3o) hi
 rcases hq with ⟨_,_,ho,rfl,rfl⟩
 exact ⟨_,_,ho,hr⟩
abbrev t_CaselessQ (x0 : List AV) (x1 : Bool) (Q : AV → HH → Prop) : HC := (oo 0 ((roomD pr 108 0 x0.length)) (j_CaselessQ_0 0 x0 x1 x0 0 (fun x2 x3=>(oo 0 ((npL [(.sl 2 x0),(iv 8490)])) (j_In 0 x0 8490 fun x4=>(dd 0 x4 (j_Others 1 8490 x1 fun x5=>(oo 0 ((npL [(.cap true 108 x2),(.sl 1 x5)])) (j_addQ 0 x2 x5 fun x6=>(oo 0 ((npL [(.sl 2 x6),(iv 1114111)])) (j_NewQ 0 x6 1114111 fun x7=>(qq 1 Q (.sl 2 x7))))))) (oo 0 ((npL [(.sl 2 x2),(iv 1114111)])) (j_NewQ 0 x2 1114111 fun x8=>(qq 1 Q (.sl 2 x8))))))))))
theorem w_CaselessQ (x0 x1) (Q : AV → HH → Prop) (h : (t_CaselessQ x0 x1 Q).p) : ∃ r H',A 87 [(.sl 2 x0),(bv x1)] [] r H' ∧ Q r H' :=
 Ans.wq rfl (t_CaselessQ x0 x1 Q).h (by kernel_rfl) h
theorem c_CaselessQ {x0 x1} (hp : pre_CaselessQ x0 x1) : E_CaselessQ x0 x1 := by
 obtain ⟨_,_,ha,_,hq,rfl,rfl⟩ := w_CaselessQ x0 x1 (fun r H'=>∃ x2,post_CaselessQ x0 x1 x2 ∧ r = (.sl 2 x2) ∧ H' = []) (by
  obtain ⟨_,_⟩ := hp
  refine ⟨tR,k_CaselessQ_0 tP,fun _ _ e5=>?_⟩
  obtain ⟨_,_⟩ := e5
  refine ⟨tN,c_In _ _ tP,fun _ p7=>?_⟩
  unfold post_In at p7
  apply bS <;> intro _
  ·refine ⟨c_Others tP,fun _ p10=>?_⟩
   obtain ⟨_,_⟩ := p10
   refine ⟨tN,c_addQ tP,fun _ p12=>?_⟩
   obtain ⟨_,_⟩ := p12
   refine ⟨tN,c_NewQ tP,fun _ p14=>?_⟩
   obtain ⟨_,_,_⟩ := p14
   exact ⟨_,tP,rfl,rfl⟩
  refine ⟨tN,c_NewQ tP,fun _ p16=>?_⟩
  obtain ⟨_,_,_⟩ := p16
  exact ⟨_,tP,rfl,rfl⟩)
 exact ⟨_,hq,ha⟩
abbrev E_set8 (x0 : Bool) (x1 : Int) (x2 : List AV) (x3 x4 : Bool) : Prop := ∃ x5,post_set8 x0 x1 x2 x3 x4 x5 ∧ A 55 [(.agg [(bv x0),(iv x1)]),(.sl 2 x2),(bv x3),(bv x4)] [] (.sl 2 x5) []
abbrev j_set8 (nn : Nat) (x0 : Bool) (x1 : Int) (x2 : List AV) (x3 x4 : Bool) (kK : List AV → HC) : HC := ⟨.ev nn (.ask (eL fun x5=>.done (.res (.sl 2 x5) [] (post_set8 x0 x1 x2 x3 x4 x5)) ((kK x5).h))),E_set8 x0 x1 x2 x3 x4 ∧ (∀ x5,post_set8 x0 x1 x2 x3 x4 x5 → (kK x5).p)⟩
abbrev t_set8 (x0 : Bool) (x1 : Int) (x2 : List AV) (x3 x4 : Bool) (Q : AV → HH → Prop) : HC := (oo 0 ((npL [(.sl 2 x2),(iv x1)])) (j_NewQ 0 x2 x1 fun x5=>(dd 0 x3 (oo 0 ((npL [(.sl 2 x5),(bv x0)])) (j_CaselessQ 0 x5 x0 fun x6=>(oo 0 ((npL [(.sl 2 x6),(iv x1)])) (j_NewQ 0 x6 x1 fun x7=>(dd 0 x4 (oo 0 ((npL [(iv 2),(.sl 2 x7),(.sl 2 []),(iv x1)])) (j_JoinQ 0 2 x7 [] x1 fun x8=>(qq 1 Q (.sl 2 x8)))) (qq 1 Q (.sl 2 x7))))))) (dd 0 x4 (oo 0 ((npL [(iv 2),(.sl 2 x5),(.sl 2 []),(iv x1)])) (j_JoinQ 0 2 x5 [] x1 fun x9=>(qq 1 Q (.sl 2 x9)))) (qq 1 Q (.sl 2 x5))))))
theorem w_set8 (x0 x1 x2 x3 x4) (Q : AV → HH → Prop) (h : (t_set8 x0 x1 x2 x3 x4 Q).p) : ∃ r H',A 55 [(.agg [(bv x0),(iv x1)]),(.sl 2 x2),(bv x3),(bv x4)] [] r H' ∧ Q r H' :=
 Ans.wq rfl (t_set8 x0 x1 x2 x3 x4 Q).h (by kernel_rfl) h
theorem c_set8 {x0 x1 x2 x3 x4} (hp : pre_set8 x0 x1 x2 x3 x4) : E_set8 x0 x1 x2 x3 x4 := by
 obtain ⟨_,_,ha,_,hq,rfl,rfl⟩ := w_set8 x0 x1 x2 x3 x4 (fun r H'=>∃ x5,post_set8 x0 x1 x2 x3 x4 x5 ∧ r = (.sl 2 x5) ∧ H' = []) (by
  obtain ⟨_,_⟩ := hp
  refine ⟨tN,c_NewQ tP,fun _ p7=>?_⟩
  obtain ⟨_,_,_⟩ := p7
  apply bS <;> intro _
  ·refine ⟨tN,c_CaselessQ tP,fun _ p10=>?_⟩
   obtain ⟨_,_,_⟩ := p10
   refine ⟨tN,c_NewQ tP,fun _ p12=>?_⟩
   obtain ⟨_,_,_⟩ := p12
   apply bS <;> intro _
   ·refine ⟨tN,c_JoinQ tP,fun _ p15=>?_⟩
    obtain ⟨p15_0,p15_1,p15_2⟩ := p15
    try replace p15_0 := nz p15_0
    try replace p15_1 := nz p15_1
    try replace p15_2 := nz p15_2
    exact ⟨_,tP,rfl,rfl⟩
   exact ⟨_,tP,rfl,rfl⟩
  apply bS <;> intro _
  ·refine ⟨tN,c_JoinQ tP,fun _ p18=>?_⟩
   obtain ⟨p18_0,p18_1,p18_2⟩ := p18
   try replace p18_0 := nz p18_0
   try replace p18_1 := nz p18_1
   try replace p18_2 := nz p18_2
   exact ⟨_,tP,rfl,rfl⟩
  exact ⟨_,tP,rfl,rfl⟩)
 exact ⟨_,hq,ha⟩
def s_Node8_0 (x0 : Bool) (x1 x2 x3 x4 : Int) (x5 : List AV) (x6 : Bool) (x7 x8 x9 : Int) (x10 : ByteArray) (x11 x12 : Int) (x13 : List AV) (x14 : Int) (x15 : List AV) (x16 : Int) : St := ⟨[],[(2,(iv x14)),(3,(.ea [(bv x0),(iv x1)])),(4,(.box [(iv x2),(iv x3),(iv x4),(.sl 2 x5),(bv x6),(iv x7),(iv x8),(iv x9),(sv x10),(iv x11),(iv x12),(.sl 12 x13)])),(6,(.box [(iv 0),(iv 0),(iv 0),(.sl 2 []),(bv false),(iv 0),(iv 0),(iv 0),(sv (bs [])),(iv 0),(iv 0),(.sl 12 [])])),(14,(.cap false 27 x15)),(15,(iv x16))],[],0⟩
def x_Node8_0_0 (x0 : Bool) (x1 x2 x3 x4 : Int) (x5 : List AV) (x6 : Bool) (x7 x8 x9 : Int) (x10 : ByteArray) (x11 x12 : Int) (x13 : List AV) (y14 : Int) (y15 : List AV) (y16 : Int) : St := ⟨[],[(2,(iv y14)),(3,(.ea [(bv x0),(iv x1)])),(4,(.box [(iv x2),(iv x3),(iv x4),(.sl 2 x5),(bv x6),(iv x7),(iv x8),(iv x9),(sv x10),(iv x11),(iv x12),(.sl 12 x13)])),(6,(.box [(iv 0),(iv 0),(iv 0),(.sl 2 []),(bv false),(iv 0),(iv 0),(iv 0),(sv (bs [])),(iv 0),(iv 0),(.sl 12 [])])),(14,(.cap false 27 y15)),(15,(iv y16)),(142,(bv false))],[],0⟩
abbrev E_Node8_0 (x0 : Bool) (x1 x2 x3 x4 : Int) (x5 : List AV) (x6 : Bool) (x7 x8 x9 : Int) (x10 : ByteArray) (x11 x12 : Int) (x13 : List AV) (x14o : Int) (x15o : List AV) (x16o : Int) : Prop := (∃ y17 y18 y19,out_Node8_0_0 x0 x1 x2 x3 x4 x5 x6 x7 x8 x9 x10 x11 x12 x13 x14o x15o x16o y17 y18 y19 ∧ R 32 0 (s_Node8_0 x0 x1 x2 x3 x4 x5 x6 x7 x8 x9 x10 x11 x12 x13 x14o x15o x16o) ((Ex.exit 1),x_Node8_0_0 x0 x1 x2 x3 x4 x5 x6 x7 x8 x9 x10 x11 x12 x13 y17 y18 y19))
abbrev j_Node8_0 (nn : Nat) (x0 : Bool) (x1 x2 x3 x4 : Int) (x5 : List AV) (x6 : Bool) (x7 x8 x9 : Int) (x10 : ByteArray) (x11 x12 : Int) (x13 : List AV) (x14o : Int) (x15o : List AV) (x16o : Int) (f0 : Int → List AV → Int → HC) : HC := ⟨.ev nn (.ask (eI fun y17=>eL fun y18=>eI fun y19=>.done (.exit (Ex.exit 1) (x_Node8_0_0 x0 x1 x2 x3 x4 x5 x6 x7 x8 x9 x10 x11 x12 x13 y17 y18 y19) (out_Node8_0_0 x0 x1 x2 x3 x4 x5 x6 x7 x8 x9 x10 x11 x12 x13 x14o x15o x16o y17 y18 y19)) (f0 y17 y18 y19).h)),E_Node8_0 x0 x1 x2 x3 x4 x5 x6 x7 x8 x9 x10 x11 x12 x13 x14o x15o x16o ∧ (∀ y17 y18 y19,out_Node8_0_0 x0 x1 x2 x3 x4 x5 x6 x7 x8 x9 x10 x11 x12 x13 x14o x15o x16o y17 y18 y19 → (f0 y17 y18 y19).p)⟩
abbrev t_Node8_0 (x0 : Bool) (x1 x2 x3 x4 : Int) (x5 : List AV) (x6 : Bool) (x7 x8 x9 : Int) (x10 : ByteArray) (x11 x12 : Int) (x13 : List AV) (x14 : Int) (x15 : List AV) (x16 : Int) (Q : Ex → St → Prop) : HC := (dd 1 ((decide (x16 < (↑x13.length : Int)))) (oo 0 ((decide (0 ≤ x16))) (pN 1 ((x13[x16.toNat]?)) fun x17 x18 x19 x20 x21 x22 x23 x24 x25 x26 x27 x28=>(oo 0 ((npL [(.agg [(bv x0),(iv x1)]),(.agg (nR x17 x18 x19 x20 x21 x22 x23 x24 x25 x26 x27 x28)),(iv x14)])) (j_Node8 0 x0 x1 x17 x18 x19 x20 x21 x22 x23 x24 x25 x26 x27 x28 x14 fun x29 x30 x31 x32 x33 x34 x35 x36 x37 x38 x39 x40 x41=>(oo 0 ((npL [(.agg (nR x29 x30 x31 x32 x33 x34 x35 x36 x37 x38 x39 x40))])) (j_list 0 x29 x30 x31 x32 x33 x34 x35 x36 x37 x38 x39 x40 fun x42=>(oo 0 ((roomD pr 27 x15.length x42.length)) (zz 1 (Q .norm (s_Node8_0 x0 x1 x2 x3 x4 x5 x6 x7 x8 x9 x10 x11 x12 x13 x41 (x15 ++ x42) (w6 (x16 + 1)))))))))))) (zz 0 (Q (Ex.exit 1) (x_Node8_0_0 x0 x1 x2 x3 x4 x5 x6 x7 x8 x9 x10 x11 x12 x13 x14 x15 x16))))
theorem l_Node8_0 (x0 x1 x2 x3 x4 x5 x6 x7 x8 x9 x10 x11 x12 x13 x14 x15 x16) (Q : Ex → St → Prop) (h : (t_Node8_0 x0 x1 x2 x3 x4 x5 x6 x7 x8 x9 x10 x11 x12 x13 x14 x15 x16 Q).p) : ∃ e s',L 32 0 (s_Node8_0 x0 x1 x2 x3 x4 x5 x6 x7 x8 x9 x10 x11 x12 x13 x14 x15 x16) (e,s') ∧ Q e s' :=
 Leads.wq (t_Node8_0 x0 x1 x2 x3 x4 x5 x6 x7 x8 x9 x10 x11 x12 x13 x14 x15 x16 Q).h (by kernel_rfl) h
theorem k_Node8_0 {B : Nat} (ih_Node8 : IH_Node8 B) (ih_row8 : IH_row8 B) {x0 x1 x2 x3 x4 x5 x6 x7 x8 x9 x10 x11 x12 x13 x14o x15o x16o} (hi : inv_Node8_0 B x0 x1 x2 x3 x4 x5 x6 x7 x8 x9 x10 x11 x12 x13 x14o x15o x16o x14o x15o x16o) : E_Node8_0 x0 x1 x2 x3 x4 x5 x6 x7 x8 x9 x10 x11 x12 x13 x14o x15o x16o := by
 obtain ⟨e,s',hr,hq⟩ := Rounds.byInv (st := fun (w : Int × (List AV) × Int)=>s_Node8_0 x0 x1 x2 x3 x4 x5 x6 x7 x8 x9 x10 x11 x12 x13 w.1 w.2.1 w.2.2) (Inv := fun w=>inv_Node8_0 B x0 x1 x2 x3 x4 x5 x6 x7 x8 x9 x10 x11 x12 x13 x14o x15o x16o w.1 w.2.1 w.2.2) (μ := fun w=>mu_Node8_0 x0 x1 x2 x3 x4 x5 x6 x7 x8 x9 x10 x11 x12 x13 w.1 w.2.1 w.2.2) (Q := fun e s'=>(∃ y17 y18 y19,out_Node8_0_0 x0 x1 x2 x3 x4 x5 x6 x7 x8 x9 x10 x11 x12 x13 x14o x15o x16o y17 y18 y19 ∧ e = (Ex.exit 1) ∧ s' = x_Node8_0_0 x0 x1 x2 x3 x4 x5 x6 x7 x8 x9 x10 x11 x12 x13 y17 y18 y19)) (by
  rintro ⟨x14,x15,x16⟩ hi
  have hi : inv_Node8_0 B x0 x1 x2 x3 x4 x5 x6 x7 x8 x9 x10 x11 x12 x13 x14o x15o x16o x14 x15 x16 := hi
  refine l_Node8_0 x0 x1 x2 x3 x4 x5 x6 x7 x8 x9 x10 x11 x12 x13 x14 x15 x16 _ ?_
  obtain ⟨_,⟨_,_,_,_⟩,_,_,_,_,_,_⟩ := hi
  apply bS <;> intro _
  ·refine ⟨tD,tG,fun _ _ _ _ _ _ _ _ _ _ _ _ g33=>?_⟩
   have edg233 := nsz_drop g33; first | (have eg33 := Ns.elem tA g33; have eng233 := nsz_get g33; obtain ⟨_,_,_,_⟩ := eg33.nw) | (have eg33 := Nf.elem tA g33; have eng233 := nsz_get g33; obtain ⟨_,_⟩ := eg33.nw)
   refine ⟨tN,ih_Node8 (by (try unfold rank_Node8); (try unfold rank_Node8); exact tI) tP,fun _ _ _ _ _ _ _ _ _ _ _ _ x46 p47=>?_⟩
   obtain ⟨⟨_,_,_,_⟩,_⟩ := p47
   refine ⟨tN,c_list tP,fun x48 p49=>?_⟩
   obtain ⟨_,_,_⟩ := p49
   refine ⟨tR,?_⟩
   try have := tW (x16 + 1)
   exact .inl ⟨rfl,(x46,(x15 ++ x48),(w6 (x16 + 1))),rfl,tP,by unfold mu_Node8_0; exact tI⟩
  exact .inr ⟨by simp,⟨_,_,_,tP,rfl,rfl⟩⟩) (x14o,x15o,x16o) hi
 rcases hq with ⟨_,_,_,ho,rfl,rfl⟩
 exact ⟨_,_,_,ho,hr⟩
abbrev t_Node8 (x0 : Bool) (x1 x2 x3 x4 : Int) (x5 : List AV) (x6 : Bool) (x7 x8 x9 : Int) (x10 : ByteArray) (x11 x12 : Int) (x13 : List AV) (x14 : Int) (Q : AV → HH → Prop) : HC := (dd 3 ((x2 == 1)) (j_one8 1 x4 fun x15=>(oo 0 ((npL [(.agg [(bv x0),(iv x1)]),(.sl 2 x15),(bv (!w6 (↑((x14 % 18446744073709551616).toNat &&& 1) : Int) == 0)),(bv false)])) (j_set8 0 x0 x1 x15 (!w6 (↑((x14 % 18446744073709551616).toNat &&& 1) : Int) == 0) false fun x16=>(qq 1 Q (.tup [(.agg (nR 2 x3 0 x16 false 0 0 0 (bs []) 0 0 [])),(iv x14)]))))) (dd 1 ((x2 == 2)) (oo 0 ((npL [(.agg [(bv x0),(iv x1)]),(.sl 2 x5),(bv (!w6 (↑((x14 % 18446744073709551616).toNat &&& 1) : Int) == 0)),(bv x6)])) (j_set8 0 x0 x1 x5 (!w6 (↑((x14 % 18446744073709551616).toNat &&& 1) : Int) == 0) x6 fun x17=>(qq 1 Q (.tup [(.agg (nR 2 x3 0 x17 false 0 0 0 (bs []) 0 0 [])),(iv x14)])))) (dd 1 ((x2 == 3)) (dd 2 ((w6 (↑((x14 % 18446744073709551616).toNat &&& 4) : Int) == 0)) (j_one8 1 10 fun x18=>(oo 0 ((npL [(.agg [(bv x0),(iv x1)]),(.sl 2 x18),(bv false),(bv true)])) (j_set8 0 x0 x1 x18 false true fun x19=>(qq 1 Q (.tup [(.agg (nR 2 x3 0 x19 false 0 0 0 (bs []) 0 0 [])),(iv x14)]))))) (j_set8 1 x0 x1 [] false true fun x20=>(qq 1 Q (.tup [(.agg (nR 2 x3 0 x20 false 0 0 0 (bs []) 0 0 [])),(iv x14)])))) (dd 1 ((x2 == 4)) (dd 2 ((!w6 (↑((x14 % 18446744073709551616).toNat &&& 2) : Int) == 0)) (dd 4 ((x7 == 1)) (qq 1 Q (.tup [(.agg (nR x2 x3 x4 x5 x6 9 x8 x9 x10 x11 x12 x13)),(iv x14)])) (oo 2 ((!w6 (↑((x14 % 18446744073709551616).toNat &&& 2) : Int) == 0)) (dd 4 ((x7 == 2)) (qq 1 Q (.tup [(.agg (nR x2 x3 x4 x5 x6 10 x8 x9 x10 x11 x12 x13)),(iv x14)])) (qq 1 Q (.tup [(.agg (nR x2 x3 x4 x5 x6 x7 x8 x9 x10 x11 x12 x13)),(iv x14)]))))) (nn 6 ((!w6 (↑((x14 % 18446744073709551616).toNat &&& 2) : Int) == 0)) (qq 5 Q (.tup [(.agg (nR x2 x3 x4 x5 x6 x7 x8 x9 x10 x11 x12 x13)),(iv x14)])))) (dd 1 ((x2 == 6)) (j_one8 1 13 fun x21=>(j_one8 1 10 fun x22=>(j_NewQ 1 [(.agg [(iv 10),(iv 13)]),(.agg [(iv 133),(iv 133)]),(.agg [(iv 8232),(iv 8233)])] x1 fun x23=>(oo 0 ((npL [(.sl 12 [(.agg (nR 2 x3 0 x21 false 0 0 0 (bs []) 0 0 [])),(.agg (nR 2 x3 0 x22 false 0 0 0 (bs []) 0 0 []))])])) (j_seq 0 [(.agg (nR 2 x3 0 x21 false 0 0 0 (bs []) 0 0 [])),(.agg (nR 2 x3 0 x22 false 0 0 0 (bs []) 0 0 []))] fun x24 x25 x26 x27 x28 x29 x30 x31 x32 x33 x34 x35=>(qq 1 Q (.tup [(.agg (nR 17 x3 0 [] false 0 0 0 (bs []) 0 0 [(.agg (nR 13 x3 0 [] false 0 0 0 (bs []) 0 0 [(.agg (nR x24 x25 x26 x27 x28 x29 x30 x31 x32 x33 x34 x35)),(.agg (nR 2 x3 0 x23 false 0 0 0 (bs []) 0 0 []))]))])),(iv x14)]))))))) (dd 1 ((x2 == 7)) (qq 2 Q (.tup [(.agg (nR x2 x3 x4 x5 x6 x7 x8 x9 x10 (w6 (↑((x14 % 18446744073709551616).toNat &&& 1) : Int)) x12 x13)),(iv x14)])) (dd 1 ((x2 == 11)) (j_Turn 1 x14 x11 x12 fun x36=>(qq 1 Q (.tup [(.agg (nR 12 0 0 [] false 0 0 0 (bs []) 0 0 [])),(iv x36)]))) (dd 1 ((x2 == 12)) (j_Node8_0 0 x0 x1 x2 x3 x4 x5 x6 x7 x8 x9 x10 x11 x12 x13 x14 [] 0 (fun x37 x38 x39=>(oo 0 ((npL [(.sl 12 x38)])) (j_seq 0 x38 fun x40 x41 x42 x43 x44 x45 x46 x47 x48 x49 x50 x51=>(qq 1 Q (.tup [(.agg (nR x40 x41 x42 x43 x44 x45 x46 x47 x48 x49 x50 x51)),(iv x37)])))))) (dd 1 ((x2 == 13)) (oo 0 ((npL [(.agg [(bv x0),(iv x1)]),(.sl 12 x13),(iv x14)])) (j_row8 0 x0 x1 x13 x14 fun x52 x53=>(qq 1 Q (.tup [(.agg (nR x2 x3 x4 x5 x6 x7 x8 x9 x10 x11 x12 x52)),(iv x53)])))) (dd 1 ((x2 == 15)) (pN 2 ((x13[0]?)) fun x54 x55 x56 x57 x58 x59 x60 x61 x62 x63 x64 x65=>(j_Turn 1 x14 x11 x12 fun x66=>(oo 0 ((npL [(.agg [(bv x0),(iv x1)]),(.agg (nR x54 x55 x56 x57 x58 x59 x60 x61 x62 x63 x64 x65)),(iv x66)])) (j_Node8 0 x0 x1 x54 x55 x56 x57 x58 x59 x60 x61 x62 x63 x64 x65 x66 fun x67 x68 x69 x70 x71 x72 x73 x74 x75 x76 x77 x78 x79=>(qq 1 Q (.tup [(.agg (nR x67 x68 x69 x70 x71 x72 x73 x74 x75 x76 x77 x78)),(iv x14)])))))) (dd 1 ((x2 == 20)) (dd 2 ((!w6 (↑((x14 % 18446744073709551616).toNat &&& 16) : Int) == 0)) (dd 4 ((x9 == 0)) (oo 0 ((npL [(.agg [(bv x0),(iv x1)]),(.sl 12 x13),(iv x14)])) (j_row8 0 x0 x1 x13 x14 fun x80 x81=>(qq 1 Q (.tup [(.agg (nR x2 x3 x4 x5 x6 x7 x8 1 x10 x11 x12 x80)),(iv x14)])))) (oo 2 ((!w6 (↑((x14 % 18446744073709551616).toNat &&& 16) : Int) == 0)) (dd 4 ((x9 == 1)) (oo 0 ((npL [(.agg [(bv x0),(iv x1)]),(.sl 12 x13),(iv x14)])) (j_row8 0 x0 x1 x13 x14 fun x82 x83=>(qq 1 Q (.tup [(.agg (nR x2 x3 x4 x5 x6 x7 x8 0 x10 x11 x12 x82)),(iv x14)])))) (oo 0 ((npL [(.agg [(bv x0),(iv x1)]),(.sl 12 x13),(iv x14)])) (j_row8 0 x0 x1 x13 x14 fun x84 x85=>(qq 1 Q (.tup [(.agg (nR x2 x3 x4 x5 x6 x7 x8 x9 x10 x11 x12 x84)),(iv x14)]))))))) (nn 6 ((!w6 (↑((x14 % 18446744073709551616).toNat &&& 16) : Int) == 0)) (oo 4 ((npL [(.agg [(bv x0),(iv x1)]),(.sl 12 x13),(iv x14)])) (j_row8 0 x0 x1 x13 x14 fun x86 x87=>(qq 1 Q (.tup [(.agg (nR x2 x3 x4 x5 x6 x7 x8 x9 x10 x11 x12 x86)),(iv x14)])))))) (oo 0 ((npL [(.agg [(bv x0),(iv x1)]),(.sl 12 x13),(iv x14)])) (j_row8 0 x0 x1 x13 x14 fun x88 x89=>(qq 1 Q (.tup [(.agg (nR x2 x3 x4 x5 x6 x7 x8 x9 x10 x11 x12 x88)),(iv x14)])))))))))))))))
theorem w_Node8 (x0 x1 x2 x3 x4 x5 x6 x7 x8 x9 x10 x11 x12 x13 x14) (Q : AV → HH → Prop) (h : (t_Node8 x0 x1 x2 x3 x4 x5 x6 x7 x8 x9 x10 x11 x12 x13 x14 Q).p) : ∃ r H',A 32 [(.agg [(bv x0),(iv x1)]),(.agg (nR x2 x3 x4 x5 x6 x7 x8 x9 x10 x11 x12 x13)),(iv x14)] [] r H' ∧ Q r H' :=
 Ans.wq rfl (t_Node8 x0 x1 x2 x3 x4 x5 x6 x7 x8 x9 x10 x11 x12 x13 x14 Q).h (by kernel_rfl) h
theorem i_Node8 {x0 x1 x2 x3 x4 x5 x6 x7 x8 x9 x10 x11 x12 x13 x14} (ih_Node8 : IH_Node8 (rank_Node8 x0 x1 x2 x3 x4 x5 x6 x7 x8 x9 x10 x11 x12 x13 x14)) (ih_row8 : IH_row8 (rank_Node8 x0 x1 x2 x3 x4 x5 x6 x7 x8 x9 x10 x11 x12 x13 x14)) (hp : pre_Node8 x0 x1 x2 x3 x4 x5 x6 x7 x8 x9 x10 x11 x12 x13 x14) : E_Node8 x0 x1 x2 x3 x4 x5 x6 x7 x8 x9 x10 x11 x12 x13 x14 := by
 obtain ⟨_,_,ha,_,_,_,_,_,_,_,_,_,_,_,_,_,hq,rfl,rfl⟩ := w_Node8 x0 x1 x2 x3 x4 x5 x6 x7 x8 x9 x10 x11 x12 x13 x14 (fun r H'=>∃ x15 x16 x17 x18 x19 x20 x21 x22 x23 x24 x25 x26 x27,post_Node8 x0 x1 x2 x3 x4 x5 x6 x7 x8 x9 x10 x11 x12 x13 x14 x15 x16 x17 x18 x19 x20 x21 x22 x23 x24 x25 x26 x27 ∧ r = (.tup [(.agg [(iv x15),(iv x16),(iv x17),(.sl 2 x18),(bv x19),(iv x20),(iv x21),(iv x22),(sv x23),(iv x24),(iv x25),(.sl 12 x26)]),(iv x27)]) ∧ H' = []) (by
  obtain ⟨⟨_,_,_,_⟩,_⟩ := hp
  apply bS <;> intro _
  ·refine ⟨c_one8 tP,fun _ p30=>?_⟩
   obtain ⟨_,_,_⟩ := p30
   try have := tW (↑((x14 % 18446744073709551616).toNat &&& 1) : Int)
   refine ⟨tN,c_set8 tP,fun _ p32=>?_⟩
   obtain ⟨_,_⟩ := p32
   exact ⟨2,_,0,_,_,0,0,0,_,0,0,_,_,tP,rfl,rfl⟩
  apply bS <;> intro _
  ·try have := tW (↑((x14 % 18446744073709551616).toNat &&& 1) : Int)
   refine ⟨tN,c_set8 tP,fun _ p35=>?_⟩
   obtain ⟨_,_⟩ := p35
   exact ⟨2,_,0,_,_,0,0,0,_,0,0,_,_,tP,rfl,rfl⟩
  apply bS <;> intro _
  ·try have := tW (↑((x14 % 18446744073709551616).toNat &&& 4) : Int)
   apply bS <;> intro _
   ·refine ⟨c_one8 tP,fun _ p39=>?_⟩
    obtain ⟨_,_,_⟩ := p39
    refine ⟨tN,c_set8 tP,fun _ p41=>?_⟩
    obtain ⟨_,_⟩ := p41
    exact ⟨2,_,0,_,_,0,0,0,_,0,0,_,_,tP,rfl,rfl⟩
   refine ⟨c_set8 tP,fun _ p43=>?_⟩
   obtain ⟨p43_0,p43_1⟩ := p43
   try replace p43_0 := nz p43_0
   try replace p43_1 := nz p43_1
   exact ⟨2,_,0,_,_,0,0,0,_,0,0,_,_,tP,rfl,rfl⟩
  apply bS <;> intro _
  ·try have := tW (↑((x14 % 18446744073709551616).toNat &&& 2) : Int)
   apply bS <;> intro _
   ·refine bS (fun _=>⟨_,_,_,_,_,9,_,_,_,_,_,_,_,tP,rfl,rfl⟩) fun _=>?_
    refine ⟨tD,?_⟩
    refine bS (fun _=>⟨_,_,_,_,_,_,_,_,_,_,_,_,_,tP,rfl,rfl⟩) fun _=>?_
    exact ⟨_,_,_,_,_,_,_,_,_,_,_,_,_,tP,rfl,rfl⟩
   refine ⟨tD,?_⟩
   exact ⟨_,_,_,_,_,_,_,_,_,_,_,_,_,tP,rfl,rfl⟩
  apply bS <;> intro _
  ·refine ⟨c_one8 tP,fun _ p50=>?_⟩
   obtain ⟨_,_,_⟩ := p50
   refine ⟨c_one8 tP,fun _ p52=>?_⟩
   obtain ⟨_,_,_⟩ := p52
   refine ⟨c_NewQ tP,fun _ p54=>?_⟩
   obtain ⟨p54_0,p54_1,p54_2⟩ := p54
   try replace p54_0 := nz p54_0
   try replace p54_1 := nz p54_1
   try replace p54_2 := nz p54_2
   refine ⟨tN,c_seq tP,fun _ _ _ _ _ _ _ _ _ _ _ _ p67=>?_⟩
   obtain ⟨p67_0,p67_1,p67_2,p67_3,p67_4⟩ := p67
   try replace p67_0 := nz p67_0
   try replace p67_1 := nz p67_1
   try replace p67_2 := nz p67_2
   try replace p67_3 := nz p67_3
   try replace p67_4 := nz p67_4
   exact ⟨_,_,0,_,_,0,0,0,_,0,0,_,_,tP,rfl,rfl⟩
  apply bS <;> intro _
  ·try have := tW (↑((x14 % 18446744073709551616).toNat &&& 1) : Int)
   exact ⟨_,_,_,_,_,_,_,_,_,_,_,_,_,tP,rfl,rfl⟩
  apply bS <;> intro _
  ·refine ⟨c_Turn tP,fun _ _=>?_⟩
   exact ⟨_,0,0,_,_,0,0,0,_,0,0,_,_,tP,rfl,rfl⟩
  apply bS <;> intro _
  ·refine ⟨k_Node8_0 ih_Node8 ih_row8 tP,fun _ _ _ e76=>?_⟩
   obtain ⟨e76_0,e76_1,e76_2⟩ := e76
   try replace e76_0 := nz e76_0
   try replace e76_1 := nz e76_1
   try replace e76_2 := nz e76_2
   refine ⟨tN,c_seq tP,fun _ _ _ _ _ _ _ _ _ _ _ _ p89=>?_⟩
   obtain ⟨_,_,_,_,_⟩ := p89
   exact ⟨_,_,_,_,_,_,_,_,_,_,_,_,_,tP,rfl,rfl⟩
  apply bS <;> intro _
  ·refine ⟨tN,ih_row8 zb4x0 tP,fun _ _ p93=>?_⟩
   obtain ⟨_,_,_⟩ := p93
   exact ⟨_,_,_,_,_,_,_,_,_,_,_,_,_,tP,rfl,rfl⟩
  apply bS <;> intro _
  ·refine ⟨tG,fun _ _ _ _ _ _ _ _ _ _ _ _ g107=>?_⟩
   have edg343 := nsz_drop g107; first | (have eg107 := Ns.elem tA g107; have eng343 := nsz_get g107; obtain ⟨_,_,_,_⟩ := eg107.nw) | (have eg107 := Nf.elem tA g107; have eng343 := nsz_get g107; obtain ⟨_,_⟩ := eg107.nw)
   refine ⟨c_Turn tP,fun _ _=>?_⟩
   refine ⟨tN,ih_Node8 (by (try unfold rank_Node8); (try unfold rank_Node8); exact tI) tP,fun _ _ _ _ _ _ _ _ _ _ _ _ _ p123=>?_⟩
   obtain ⟨⟨_,_,_,_⟩,_⟩ := p123
   exact ⟨_,_,_,_,_,_,_,_,_,_,_,_,_,tP,rfl,rfl⟩
  apply bS <;> intro _
  ·try have := tW (↑((x14 % 18446744073709551616).toNat &&& 16) : Int)
   apply bS <;> intro _
   ·apply bS <;> intro _
    ·refine ⟨tN,ih_row8 zb4x0 tP,fun _ _ p129=>?_⟩
     obtain ⟨_,_,_⟩ := p129
     exact ⟨_,_,_,_,_,_,_,1,_,_,_,_,_,tP,rfl,rfl⟩
    refine ⟨tD,?_⟩
    apply bS <;> intro _
    ·refine ⟨tN,ih_row8 zb4x0 tP,fun _ _ p133=>?_⟩
     obtain ⟨_,_,_⟩ := p133
     exact ⟨_,_,_,_,_,_,_,0,_,_,_,_,_,tP,rfl,rfl⟩
    refine ⟨tN,ih_row8 zb4x0 tP,fun _ _ p136=>?_⟩
    obtain ⟨_,_,_⟩ := p136
    exact ⟨_,_,_,_,_,_,_,_,_,_,_,_,_,tP,rfl,rfl⟩
   refine ⟨tD,tN,ih_row8 zb4x0 tP,fun _ _ p139=>?_⟩
   obtain ⟨_,_,_⟩ := p139
   exact ⟨_,_,_,_,_,_,_,_,_,_,_,_,_,tP,rfl,rfl⟩
  refine ⟨tN,ih_row8 zb4x0 tP,fun _ _ p142=>?_⟩
  obtain ⟨_,_,_⟩ := p142
  exact ⟨_,_,_,_,_,_,_,_,_,_,_,_,_,tP,rfl,rfl⟩)
 exact ⟨_,_,_,_,_,_,_,_,_,_,_,_,_,hq,ha⟩
def s_row8_0 (x0 : List AV) (x1 : Bool) (x2 x3 : Int) (x4 : List AV) (x5 : Int) : St := ⟨[],[(1,(.sl 12 x0)),(2,(iv x3)),(3,(.ea [(bv x1),(iv x2)])),(8,(.cap false 27 x4)),(9,(iv x5))],[],0⟩
def x_row8_0_0 (x0 : List AV) (x1 : Bool) (x2 y3 : Int) (y4 : List AV) (y5 : Int) : St := ⟨[],[(1,(.sl 12 x0)),(2,(iv y3)),(3,(.ea [(bv x1),(iv x2)])),(8,(.cap false 27 y4)),(9,(iv y5)),(15,(bv false))],[],0⟩
abbrev E_row8_0 (x0 : List AV) (x1 : Bool) (x2 x3o : Int) (x4o : List AV) (x5o : Int) : Prop := (∃ y6 y7 y8,out_row8_0_0 x0 x1 x2 x3o x4o x5o y6 y7 y8 ∧ R 61 0 (s_row8_0 x0 x1 x2 x3o x4o x5o) ((.exit 0),x_row8_0_0 x0 x1 x2 y6 y7 y8))
abbrev j_row8_0 (nn : Nat) (x0 : List AV) (x1 : Bool) (x2 x3o : Int) (x4o : List AV) (x5o : Int) (f0 : Int → List AV → Int → HC) : HC := ⟨.ev nn (.ask (eI fun y6=>eL fun y7=>eI fun y8=>.done (.exit (.exit 0) (x_row8_0_0 x0 x1 x2 y6 y7 y8) (out_row8_0_0 x0 x1 x2 x3o x4o x5o y6 y7 y8)) (f0 y6 y7 y8).h)),E_row8_0 x0 x1 x2 x3o x4o x5o ∧ (∀ y6 y7 y8,out_row8_0_0 x0 x1 x2 x3o x4o x5o y6 y7 y8 → (f0 y6 y7 y8).p)⟩
abbrev t_row8_0 (x0 : List AV) (x1 : Bool) (x2 x3 : Int) (x4 : List AV) (x5 : Int) (Q : Ex → St → Prop) : HC := (dd 1 ((decide (x5 < (↑x0.length : Int)))) (oo 0 ((decide (0 ≤ x5))) (pN 1 ((x0[x5.toNat]?)) fun x6 x7 x8 x9 x10 x11 x12 x13 x14 x15 x16 x17=>(oo 0 ((npL [(.agg [(bv x1),(iv x2)]),(.agg (nR x6 x7 x8 x9 x10 x11 x12 x13 x14 x15 x16 x17)),(iv x3)])) (j_Node8 0 x1 x2 x6 x7 x8 x9 x10 x11 x12 x13 x14 x15 x16 x17 x3 fun x18 x19 x20 x21 x22 x23 x24 x25 x26 x27 x28 x29 x30=>(oo 0 ((roomD pr 27 x4.length 1)) (zz 1 (Q .norm (s_row8_0 x0 x1 x2 x30 (x4 ++   [AV.agg (nR x18 x19 x20 x21 x22 x23 x24 x25 x26 x27 x28 x29)]) (w6 (x5 + 1)))))))))) (zz 0 (Q (.exit 0) (x_row8_0_0 x0 x1 x2 x3 x4 x5))))
theorem l_row8_0 (x0 x1 x2 x3 x4 x5) (Q : Ex → St → Prop) (h : (t_row8_0 x0 x1 x2 x3 x4 x5 Q).p) : ∃ e s',L 61 0 (s_row8_0 x0 x1 x2 x3 x4 x5) (e,s') ∧ Q e s' :=
 Leads.wq (t_row8_0 x0 x1 x2 x3 x4 x5 Q).h (by kernel_rfl) h
theorem k_row8_0 {B : Nat} (ih_Node8 : IH_Node8 B) {x0 x1 x2 x3o x4o x5o} (hi : inv_row8_0 B x0 x1 x2 x3o x4o x5o x3o x4o x5o) : E_row8_0 x0 x1 x2 x3o x4o x5o := by
 obtain ⟨e,s',hr,hq⟩ := Rounds.byInv (st := fun (w : Int × (List AV) × Int)=>s_row8_0 x0 x1 x2 w.1 w.2.1 w.2.2) (Inv := fun w=>inv_row8_0 B x0 x1 x2 x3o x4o x5o w.1 w.2.1 w.2.2) (μ := fun w=>mu_row8_0 x0 x1 x2 w.1 w.2.1 w.2.2) (Q := fun e s'=>(∃ y6 y7 y8,out_row8_0_0 x0 x1 x2 x3o x4o x5o y6 y7 y8 ∧ e = (.exit 0) ∧ s' = x_row8_0_0 x0 x1 x2 y6 y7 y8)) (by
  rintro ⟨x3,x4,x5⟩ hi
  have hi : inv_row8_0 B x0 x1 x2 x3o x4o x5o x3 x4 x5 := hi
  refine l_row8_0 x0 x1 x2 x3 x4 x5 _ ?_
  obtain ⟨_,_,_,_,_,_,_,_,_⟩ := hi
  apply bS <;> intro _
  ·refine ⟨tD,tG,fun _ _ _ _ _ _ _ _ _ _ _ _ g22=>?_⟩
   have edg25 := nsz_drop g22; first | (have eg22 := Ns.elem tA g22; have eng25 := nsz_get g22; obtain ⟨_,_,_,_⟩ := eg22.nw) | (have eg22 := Nf.elem tA g22; have eng25 := nsz_get g22; obtain ⟨_,_⟩ := eg22.nw)
   refine ⟨tN,ih_Node8 (by (try unfold rank_Node8); (try unfold rank_row8); exact tI) tP,fun x23 x24 x25 x26 x27 x28 x29 x30 x31 x32 x33 x34 x35 p36=>?_⟩
   obtain ⟨⟨_,_,_,_⟩,_⟩ := p36
   refine ⟨tR,?_⟩
   try have := tW (x5 + 1)
   exact .inl ⟨rfl,(x35,(x4 ++   [AV.agg [iv x23,iv x24,iv x25,AV.sl 2 x26,bv x27,iv x28,iv x29,iv x30,sv x31,iv x32,iv x33,AV.sl 12 x34]]),(w6 (x5 + 1))),rfl,tP,by unfold mu_row8_0; exact tI⟩
  exact .inr ⟨by simp,⟨_,_,_,tP,rfl,rfl⟩⟩) (x3o,x4o,x5o) hi
 rcases hq with ⟨_,_,_,ho,rfl,rfl⟩
 exact ⟨_,_,_,ho,hr⟩
abbrev t_row8 (x0 : Bool) (x1 : Int) (x2 : List AV) (x3 : Int) (Q : AV → HH → Prop) : HC := (j_row8_0 0 x2 x0 x1 x3 [] 0 (fun x4 x5 x6=>(qq 1 Q (.tup [(.sl 12 x5),(iv x4)]))))
theorem w_row8 (x0 x1 x2 x3) (Q : AV → HH → Prop) (h : (t_row8 x0 x1 x2 x3 Q).p) : ∃ r H',A 61 [(.agg [(bv x0),(iv x1)]),(.sl 12 x2),(iv x3)] [] r H' ∧ Q r H' :=
 Ans.wq rfl (t_row8 x0 x1 x2 x3 Q).h (by kernel_rfl) h
theorem i_row8 {x0 x1 x2 x3} (ih_Node8 : IH_Node8 (rank_row8 x0 x1 x2 x3)) (hp : pre_row8 x0 x1 x2 x3) : E_row8 x0 x1 x2 x3 := by
 obtain ⟨_,_,ha,_,_,hq,rfl,rfl⟩ := w_row8 x0 x1 x2 x3 (fun r H'=>∃ x4 x5,post_row8 x0 x1 x2 x3 x4 x5 ∧ r = (.tup [(.sl 12 x4),(iv x5)]) ∧ H' = []) (by
  obtain ⟨_,_,_⟩ := hp
  refine ⟨k_row8_0 ih_Node8 tP,fun _ _ _ e9=>?_⟩
  obtain ⟨e9_0,e9_1,e9_2⟩ := e9
  try replace e9_0 := nz e9_0
  try replace e9_1 := nz e9_1
  try replace e9_2 := nz e9_2
  exact ⟨_,_,tP,rfl,rfl⟩)
 exact ⟨_,_,hq,ha⟩
theorem node8_all : ∀ b,IH_Node8 b ∧ IH_row8 b
 | 0=>⟨fun hr _=>absurd hr (Nat.not_lt_zero _),fun hr _=>absurd hr (Nat.not_lt_zero _)⟩
 | b + 1=>by
  obtain ⟨h0,h1⟩ := node8_all b
  exact ⟨fun hr hp=>i_Node8 (IH_Node8_le _ _ (Nat.le_of_lt_succ hr) h0) (IH_row8_le _ _ (Nat.le_of_lt_succ hr) h1) hp,fun hr hp=>i_row8 (IH_Node8_le _ _ (Nat.le_of_lt_succ hr) h0) hp⟩
theorem c_Node8 {utf most k a c s g n m mode nm on off K f} (hp : pre_Node8 utf most k a c s g n m mode nm on off K f) : E_Node8 utf most k a c s g n m mode nm on off K f := (node8_all _).1 (Nat.lt_succ_self _) hp
abbrev E_Resolve8 (x0 x1 x2 : Int) (x3 : List AV) (x4 : Bool) (x5 x6 x7 : Int) (x8 : ByteArray) (x9 x10 : Int) (x11 : List AV) (x12 : Int) : Prop := ∃ x13 x14 x15 x16 x17 x18 x19 x20 x21 x22 x23 x24,post_Resolve8 x0 x1 x2 x3 x4 x5 x6 x7 x8 x9 x10 x11 x12 x13 x14 x15 x16 x17 x18 x19 x20 x21 x22 x23 x24 ∧ A 17 [(.agg (nR x0 x1 x2 x3 x4 x5 x6 x7 x8 x9 x10 x11)),(iv x12)] [] (.agg (nR x13 x14 x15 x16 x17 x18 x19 x20 x21 x22 x23 x24)) []
abbrev j_Resolve8 (nn : Nat) (x0 x1 x2 : Int) (x3 : List AV) (x4 : Bool) (x5 x6 x7 : Int) (x8 : ByteArray) (x9 x10 : Int) (x11 : List AV) (x12 : Int) (kK : Int → Int → Int → List AV → Bool → Int → Int → Int → ByteArray → Int → Int → List AV → HC) : HC := ⟨.ev nn (.ask (eN fun x13 x14 x15 x16 x17 x18 x19 x20 x21 x22 x23 x24=>.done (.res (.agg (nR x13 x14 x15 x16 x17 x18 x19 x20 x21 x22 x23 x24)) [] (post_Resolve8 x0 x1 x2 x3 x4 x5 x6 x7 x8 x9 x10 x11 x12 x13 x14 x15 x16 x17 x18 x19 x20 x21 x22 x23 x24)) ((kK x13 x14 x15 x16 x17 x18 x19 x20 x21 x22 x23 x24).h))),E_Resolve8 x0 x1 x2 x3 x4 x5 x6 x7 x8 x9 x10 x11 x12 ∧ (∀ x13 x14 x15 x16 x17 x18 x19 x20 x21 x22 x23 x24,post_Resolve8 x0 x1 x2 x3 x4 x5 x6 x7 x8 x9 x10 x11 x12 x13 x14 x15 x16 x17 x18 x19 x20 x21 x22 x23 x24 → (kK x13 x14 x15 x16 x17 x18 x19 x20 x21 x22 x23 x24).p)⟩
abbrev t_Resolve8 (x0 x1 x2 : Int) (x3 : List AV) (x4 : Bool) (x5 x6 x7 : Int) (x8 : ByteArray) (x9 x10 : Int) (x11 : List AV) (x12 : Int) (Q : AV → HH → Prop) : HC := (dd 2 ((!w6 (↑((x12 % 18446744073709551616).toNat &&& 32) : Int) == 0)) (oo 1 ((npL [(.agg [(bv (!w6 (↑((x12 % 18446744073709551616).toNat &&& 32) : Int) == 0)),(iv 1114111)]),(.agg (nR x0 x1 x2 x3 x4 x5 x6 x7 x8 x9 x10 x11)),(iv (w6 (↑((x12 % 18446744073709551616).toNat &&& 23) : Int)))])) (j_Node8 0 (!w6 (↑((x12 % 18446744073709551616).toNat &&& 32) : Int) == 0) 1114111 x0 x1 x2 x3 x4 x5 x6 x7 x8 x9 x10 x11 (w6 (↑((x12 % 18446744073709551616).toNat &&& 23) : Int)) fun x13 x14 x15 x16 x17 x18 x19 x20 x21 x22 x23 x24 x25=>(qq 1 Q (.agg (nR x13 x14 x15 x16 x17 x18 x19 x20 x21 x22 x23 x24))))) (oo 1 ((npL [(.agg [(bv (!w6 (↑((x12 % 18446744073709551616).toNat &&& 32) : Int) == 0)),(iv 255)]),(.agg (nR x0 x1 x2 x3 x4 x5 x6 x7 x8 x9 x10 x11)),(iv (w6 (↑((x12 % 18446744073709551616).toNat &&& 23) : Int)))])) (j_Node8 0 (!w6 (↑((x12 % 18446744073709551616).toNat &&& 32) : Int) == 0) 255 x0 x1 x2 x3 x4 x5 x6 x7 x8 x9 x10 x11 (w6 (↑((x12 % 18446744073709551616).toNat &&& 23) : Int)) fun x26 x27 x28 x29 x30 x31 x32 x33 x34 x35 x36 x37 x38=>(qq 1 Q (.agg (nR x26 x27 x28 x29 x30 x31 x32 x33 x34 x35 x36 x37))))))
theorem w_Resolve8 (x0 x1 x2 x3 x4 x5 x6 x7 x8 x9 x10 x11 x12) (Q : AV → HH → Prop) (h : (t_Resolve8 x0 x1 x2 x3 x4 x5 x6 x7 x8 x9 x10 x11 x12 Q).p) : ∃ r H',A 17 [(.agg (nR x0 x1 x2 x3 x4 x5 x6 x7 x8 x9 x10 x11)),(iv x12)] [] r H' ∧ Q r H' :=
 Ans.wq rfl (t_Resolve8 x0 x1 x2 x3 x4 x5 x6 x7 x8 x9 x10 x11 x12 Q).h (by kernel_rfl) h
theorem c_Resolve8 {x0 x1 x2 x3 x4 x5 x6 x7 x8 x9 x10 x11 x12} (hp : pre_Resolve8 x0 x1 x2 x3 x4 x5 x6 x7 x8 x9 x10 x11 x12) : E_Resolve8 x0 x1 x2 x3 x4 x5 x6 x7 x8 x9 x10 x11 x12 := by
 obtain ⟨_,_,ha,_,_,_,_,_,_,_,_,_,_,_,_,hq,rfl,rfl⟩ := w_Resolve8 x0 x1 x2 x3 x4 x5 x6 x7 x8 x9 x10 x11 x12 (fun r H'=>∃ x13 x14 x15 x16 x17 x18 x19 x20 x21 x22 x23 x24,post_Resolve8 x0 x1 x2 x3 x4 x5 x6 x7 x8 x9 x10 x11 x12 x13 x14 x15 x16 x17 x18 x19 x20 x21 x22 x23 x24 ∧ r = (.agg [(iv x13),(iv x14),(iv x15),(.sl 2 x16),(bv x17),(iv x18),(iv x19),(iv x20),(sv x21),(iv x22),(iv x23),(.sl 12 x24)]) ∧ H' = []) (by
  obtain ⟨⟨_,_,_,_⟩,_⟩ := hp
  try have := tW (↑((x12 % 18446744073709551616).toNat &&& 32) : Int)
  apply bS <;> intro _
  ·try have := tW (↑((x12 % 18446744073709551616).toNat &&& 23) : Int)
   refine ⟨tN,c_Node8 tP,fun _ _ _ _ _ _ _ _ _ _ _ _ _ p39=>?_⟩
   obtain ⟨⟨_,_,_,_⟩,_⟩ := p39
   exact ⟨_,_,_,_,_,_,_,_,_,_,_,_,tP,rfl,rfl⟩
  try have := tW (↑((x12 % 18446744073709551616).toNat &&& 23) : Int)
  refine ⟨tN,c_Node8 tP,fun _ _ _ _ _ _ _ _ _ _ _ _ _ p53=>?_⟩
  obtain ⟨⟨_,_,_,_⟩,_⟩ := p53
  exact ⟨_,_,_,_,_,_,_,_,_,_,_,_,tP,rfl,rfl⟩)
 exact ⟨_,_,_,_,_,_,_,_,_,_,_,_,hq,ha⟩
abbrev E_resolved (x0 : List AV) (x1 : Int) : Prop := ∃ x2 x3 x4 x5 x6 x7 x8 x9 x10 x11 x12 x13 x14,post_resolved x0 x1 x2 x3 x4 x5 x6 x7 x8 x9 x10 x11 x12 x13 x14 ∧ A 8 [(.sl 1 x0),(iv x1)] [] (.tup [(.agg (nR x2 x3 x4 x5 x6 x7 x8 x9 x10 x11 x12 x13)),(bv x14)]) []
abbrev j_resolved (nn : Nat) (x0 : List AV) (x1 : Int) (kK : Int → Int → Int → List AV → Bool → Int → Int → Int → ByteArray → Int → Int → List AV → Bool → HC) : HC := ⟨.ev nn (.ask (eN fun x2 x3 x4 x5 x6 x7 x8 x9 x10 x11 x12 x13=>eB fun x14=>.done (.res (.tup [(.agg (nR x2 x3 x4 x5 x6 x7 x8 x9 x10 x11 x12 x13)),(bv x14)]) [] (post_resolved x0 x1 x2 x3 x4 x5 x6 x7 x8 x9 x10 x11 x12 x13 x14)) ((kK x2 x3 x4 x5 x6 x7 x8 x9 x10 x11 x12 x13 x14).h))),E_resolved x0 x1 ∧ (∀ x2 x3 x4 x5 x6 x7 x8 x9 x10 x11 x12 x13 x14,post_resolved x0 x1 x2 x3 x4 x5 x6 x7 x8 x9 x10 x11 x12 x13 x14 → (kK x2 x3 x4 x5 x6 x7 x8 x9 x10 x11 x12 x13 x14).p)⟩
abbrev t_resolved (x0 : List AV) (x1 : Int) (Q : AV → HH → Prop) : HC := (oo 0 ((npL [(.sl 1 x0),(iv x1)])) (j_Lex 0 x0 x1 fun x2 x3 x4=>(dd 1 ((!x3 == 0)) (qq 1 Q (.tup [(.agg (nR 0 0 0 [] false 0 0 0 (bs []) 0 0 [])),(bv false)])) (oo 0 ((npL [(.sl 12 x2),(iv ((↑x0.length : Int)))])) (j_Parse 0 x2 ((↑x0.length : Int)) fun x5 x6 x7 x8 x9 x10 x11 x12 x13 x14 x15 x16 x17 x18=>(dd 1 ((!x17 == 0)) (qq 1 Q (.tup [(.agg (nR 0 0 0 [] false 0 0 0 (bs []) 0 0 [])),(bv false)])) (oo 0 ((npL [(.agg (nR x5 x6 x7 x8 x9 x10 x11 x12 x13 x14 x15 x16)),(iv x1)])) (j_Resolve8 0 x5 x6 x7 x8 x9 x10 x11 x12 x13 x14 x15 x16 x1 fun x19 x20 x21 x22 x23 x24 x25 x26 x27 x28 x29 x30=>(oo 0 ((npL [(.agg (nR x19 x20 x21 x22 x23 x24 x25 x26 x27 x28 x29 x30))])) (j_Number 0 x19 x20 x21 x22 x23 x24 x25 x26 x27 x28 x29 x30 fun x31 x32 x33 x34 x35 x36 x37 x38 x39 x40 x41 x42 x43 x44 x45 x46=>(dd 1 ((!x45 == 0)) (qq 1 Q (.tup [(.agg (nR 0 0 0 [] false 0 0 0 (bs []) 0 0 [])),(bv false)])) (oo 0 ((npL [(.agg (nR x31 x32 x33 x34 x35 x36 x37 x38 x39 x40 x41 x42)),(iv x43),(.sl 2 x44)])) (j_Resolve10 0 x31 x32 x33 x34 x35 x36 x37 x38 x39 x40 x41 x42 x43 x44 fun x47 x48 x49 x50 x51 x52 x53 x54 x55 x56 x57 x58 x59 x60=>(qq 2 Q (.tup [(.agg (nR x47 x48 x49 x50 x51 x52 x53 x54 x55 x56 x57 x58)),(bv (x59 == 0))])))))))))))))))
theorem w_resolved (x0 x1) (Q : AV → HH → Prop) (h : (t_resolved x0 x1 Q).p) : ∃ r H',A 8 [(.sl 1 x0),(iv x1)] [] r H' ∧ Q r H' :=
 Ans.wq rfl (t_resolved x0 x1 Q).h (by kernel_rfl) h
theorem c_resolved {x0 x1} (hp : pre_resolved x0 x1) : E_resolved x0 x1 := by
 obtain ⟨_,_,ha,_,_,_,_,_,_,_,_,_,_,_,_,_,hq,rfl,rfl⟩ := w_resolved x0 x1 (fun r H'=>∃ x2 x3 x4 x5 x6 x7 x8 x9 x10 x11 x12 x13 x14,post_resolved x0 x1 x2 x3 x4 x5 x6 x7 x8 x9 x10 x11 x12 x13 x14 ∧ r = (.tup [(.agg [(iv x2),(iv x3),(iv x4),(.sl 2 x5),(bv x6),(iv x7),(iv x8),(iv x9),(sv x10),(iv x11),(iv x12),(.sl 12 x13)]),(bv x14)]) ∧ H' = []) (by
  obtain ⟨_,_⟩ := hp
  refine ⟨tN,c_Lex tP,fun _ _ _ p18=>?_⟩
  obtain ⟨_,_,_⟩ := p18
  refine bS (fun _=>⟨0,0,0,_,_,0,0,0,_,0,0,_,_,tP,rfl,rfl⟩) fun _=>?_
  refine ⟨tN,c_Parse tP,fun _ _ _ _ _ _ _ _ _ _ _ _ _ _ p34=>?_⟩
  obtain ⟨p34_0,p34_1⟩ := p34
  refine bS (fun h35=>⟨0,0,0,_,_,0,0,0,_,0,0,_,_,tP,rfl,rfl⟩) fun h35=>?_
  have p34_0c := p34_0 h35
  obtain ⟨_,_,_,_⟩ := p34_1 h35
  refine ⟨tN,c_Resolve8 tP,fun _ _ _ _ _ _ _ _ _ _ _ _ p48=>?_⟩
  obtain ⟨⟨_,_,_,_⟩,_⟩ := p48
  refine ⟨tN,c_Number tP,fun _ _ _ _ _ _ _ _ _ _ _ _ _ _ _ _ p65=>?_⟩
  obtain ⟨p65_0,_,_⟩ := p65
  refine bS (fun h66=>⟨0,0,0,_,_,0,0,0,_,0,0,_,_,tP,rfl,rfl⟩) fun h66=>?_
  obtain ⟨⟨_,_,_,_⟩,_⟩ := p65_0 h66
  refine ⟨tN,c_Resolve10 tP,fun _ _ _ _ _ _ _ _ _ _ _ _ _ _ p81=>?_⟩
  unfold post_Resolve10 at p81
  exact ⟨_,_,_,_,_,_,_,_,_,_,_,_,_,tP,rfl,rfl⟩)
 exact ⟨_,_,_,_,_,_,_,_,_,_,_,_,_,hq,ha⟩
end
end Go.Proofs.Ytcjcdammcmjbnaa.U
