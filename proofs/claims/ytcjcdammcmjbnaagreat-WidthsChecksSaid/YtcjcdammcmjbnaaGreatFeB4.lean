/- Blocks: walks of the program's functions, each told by what is asked and what comes back; they hold as they stand. -/
import Derived.Test.YtcjcdammcmjbnaaGreatFeZZ
import Derived.Test.YtcjcdammcmjbnaaGreatFeB1
import Derived.Test.YtcjcdammcmjbnaaGreatFeB2
import Derived.Test.YtcjcdammcmjbnaaGreatFeB5
namespace Go.Proofs.YtcjcdammcmjbnaaGreat.U
open Go Go.Vai
set_option linter.unusedVariables false
set_option linter.unusedSimpArgs false
set_option maxRecDepth 100000
set_option maxHeartbeats 8000000
attribute [local irreducible] IntKind.wrap Rs Is Bs Ws Ts Ns Nf kindOf shapeN nszL
noncomputable section
def E_Node8 (utf : Bool) (most k a c : Int) (s : List AV) (g : Bool) (n m mode : Int) (nm : ByteArray) (on off : Int) (K : List AV) (f : Int) : Prop := ∃ x0 x1 x2 x3 x4 x5 x6 x7 x8 x9 x10 x11 x12,post_Node8 (utf) (most) (k) (a) (c) (s) (g) (n) (m) (mode) (nm) (on) (off) (K) (f) x0 x1 x2 x3 x4 x5 x6 x7 x8 x9 x10 x11 x12 ∧ A 28 [(.agg [(bv (utf)),(iv (most))]),(.agg [(iv (k)),(iv (a)),(iv (c)),(.sl 2 (s)),(bv (g)),(iv (n)),(iv (m)),(iv (mode)),(sv (nm)),(iv (on)),(iv (off)),(.sl 12 (K))]),(iv (f))] [] (.tup [(.agg [(iv x0),(iv x1),(iv x2),(.sl 2 x3),(bv x4),(iv x5),(iv x6),(iv x7),(sv x8),(iv x9),(iv x10),(.sl 12 x11)]),(iv x12)]) []
abbrev j_Node8 (nn : Nat) (utf : Bool) (most k a c : Int) (s : List AV) (g : Bool) (n m mode : Int) (nm : ByteArray) (on off : Int) (K : List AV) (f : Int) (kK : Int → Int → Int → List AV → Bool → Int → Int → Int → ByteArray → Int → Int → List AV → Int → HC) : HC := ⟨.ev nn (.ask (eN fun x0 x1 x2 x3 x4 x5 x6 x7 x8 x9 x10 x11=>eI fun x12=>.done (.res (.tup [(.agg (nR x0 x1 x2 x3 x4 x5 x6 x7 x8 x9 x10 x11)),(iv x12)]) [] (post_Node8 utf most k a c s g n m mode nm on off K f x0 x1 x2 x3 x4 x5 x6 x7 x8 x9 x10 x11 x12)) ((kK x0 x1 x2 x3 x4 x5 x6 x7 x8 x9 x10 x11 x12).h))),E_Node8 utf most k a c s g n m mode nm on off K f ∧ (∀ x0 x1 x2 x3 x4 x5 x6 x7 x8 x9 x10 x11 x12,post_Node8 utf most k a c s g n m mode nm on off K f x0 x1 x2 x3 x4 x5 x6 x7 x8 x9 x10 x11 x12 → (kK x0 x1 x2 x3 x4 x5 x6 x7 x8 x9 x10 x11 x12).p)⟩
def IH_Node8 (b : Nat) : Prop := ∀ {utf : Bool} {most : Int} {k : Int} {a : Int} {c : Int} {s : List AV} {g : Bool} {n : Int} {m : Int} {mode : Int} {nm : ByteArray} {on : Int} {off : Int} {K : List AV} {f : Int},rank_Node8 (utf) (most) (k) (a) (c) (s) (g) (n) (m) (mode) (nm) (on) (off) (K) (f) < b → pre_Node8 (utf) (most) (k) (a) (c) (s) (g) (n) (m) (mode) (nm) (on) (off) (K) (f) → E_Node8 (utf) (most) (k) (a) (c) (s) (g) (n) (m) (mode) (nm) (on) (off) (K) (f)
instance s_Node8 {b : Nat} [h : F IH_Node8 b] {utf : Bool} {most : Int} {k : Int} {a : Int} {c : Int} {s : List AV} {g : Bool} {n : Int} {m : Int} {mode : Int} {nm : ByteArray} {on : Int} {off : Int} {K : List AV} {f : Int} : C (E_Node8 (utf) (most) (k) (a) (c) (s) (g) (n) (m) (mode) (nm) (on) (off) (K) (f)) (rank_Node8 (utf) (most) (k) (a) (c) (s) (g) (n) (m) (mode) (nm) (on) (off) (K) (f) < b ∧ pre_Node8 (utf) (most) (k) (a) (c) (s) (g) (n) (m) (mode) (nm) (on) (off) (K) (f)) := ⟨fun k=>h.f k.1 k.2⟩
theorem IH_Node8_le (b c : Nat) (h : b ≤ c) (k : IH_Node8 c) : IH_Node8 b := fun hr hp=>k (Nat.lt_of_lt_of_le hr h) hp
def E_Turn (x0 x1 x2 : Int) : Prop := ∃ x3,post_Turn x0 x1 x2 x3 ∧ A 56 [(iv x0),(iv x1),(iv x2)] [] (iv x3) []
abbrev j_Turn (nn : Nat) (x0 x1 x2 : Int) (kK : Int → HC) : HC := ⟨.ev nn (.ask (eI fun x3=>.done (.res (iv x3) [] (post_Turn x0 x1 x2 x3)) ((kK x3).h))),E_Turn x0 x1 x2 ∧ (∀ x3,post_Turn x0 x1 x2 x3 → (kK x3).p)⟩
abbrev t_Turn (x0 x1 x2 : Int) (Q : AV → HH → Prop) : HC := (ww (↑((x0 % 18446744073709551616).toNat ||| (x1 % 18446744073709551616).toNat) : Int) (cq 3 Q (iv (w6   (↑((w6 (↑((x0 % 18446744073709551616).toNat ||| (x1 % 18446744073709551616).toNat) : Int) %             18446744073709551616).toNat &&&         (18446744073709551615 ^^^ (x2 % 18446744073709551616).toNat)) :     Int)))))
theorem w_Turn (x0 x1 x2) (Q : AV → HH → Prop) (h : (t_Turn x0 x1 x2 Q).p) : ∃ r H',A 56 [(iv x0),(iv x1),(iv x2)] [] r H' ∧ Q r H' :=
 Ans.wq rfl (t_Turn x0 x1 x2 Q).h (by kernel_rfl) h
instance c_Turn {x0 x1 x2} : C (E_Turn x0 x1 x2) (pre_Turn x0 x1 x2) := ⟨fun hp=>by
 unfold E_Turn
 obtain ⟨_,_,ha,x3,hq,rfl,rfl⟩ := w_Turn x0 x1 x2 (fun r H'=>∃ x3,post_Turn x0 x1 x2 x3 ∧ r = (iv x3) ∧ H' = []) (by
  revert hp
  exact tZ)
 exact ⟨x3,hq,ha⟩⟩
def E_list (x0 x1 x2 : Int) (x3 : List AV) (x4 : Bool) (x5 x6 x7 : Int) (x8 : ByteArray) (x9 x10 : Int) (x11 : List AV) : Prop := ∃ x12,post_list x0 x1 x2 x3 x4 x5 x6 x7 x8 x9 x10 x11 x12 ∧ A 57 [(.agg [(iv x0),(iv x1),(iv x2),(.sl 2 x3),(bv x4),(iv x5),(iv x6),(iv x7),(sv x8),(iv x9),(iv x10),(.sl 12 x11)])] [] (.sl 12 x12) []
abbrev j_list (nn : Nat) (x0 x1 x2 : Int) (x3 : List AV) (x4 : Bool) (x5 x6 x7 : Int) (x8 : ByteArray) (x9 x10 : Int) (x11 : List AV) (kK : List AV → HC) : HC := ⟨.ev nn (.ask (eL fun x12=>.done (.res (.sl 12 x12) [] (post_list x0 x1 x2 x3 x4 x5 x6 x7 x8 x9 x10 x11 x12)) ((kK x12).h))),E_list x0 x1 x2 x3 x4 x5 x6 x7 x8 x9 x10 x11 ∧ (∀ x12,post_list x0 x1 x2 x3 x4 x5 x6 x7 x8 x9 x10 x11 x12 → (kK x12).p)⟩
abbrev t_list (x0 x1 x2 : Int) (x3 : List AV) (x4 : Bool) (x5 x6 x7 : Int) (x8 : ByteArray) (x9 x10 : Int) (x11 : List AV) (Q : AV → HH → Prop) : HC := (cd 1 ((x0 == 12)) (cq 1 Q (.sl 12 x11)) (cq 1 Q (.sl 12 [(.agg (nR x0 x1 x2 x3 x4 x5 x6 x7 x8 x9 x10 x11))])))
theorem w_list (x0 x1 x2 x3 x4 x5 x6 x7 x8 x9 x10 x11) (Q : AV → HH → Prop) (h : (t_list x0 x1 x2 x3 x4 x5 x6 x7 x8 x9 x10 x11 Q).p) : ∃ r H',A 57 [(.agg (nR x0 x1 x2 x3 x4 x5 x6 x7 x8 x9 x10 x11))] [] r H' ∧ Q r H' :=
 Ans.wq rfl (t_list x0 x1 x2 x3 x4 x5 x6 x7 x8 x9 x10 x11 Q).h (by kernel_rfl) h
instance c_list {x0 x1 x2 x3 x4 x5 x6 x7 x8 x9 x10 x11} : C (E_list x0 x1 x2 x3 x4 x5 x6 x7 x8 x9 x10 x11) (pre_list x0 x1 x2 x3 x4 x5 x6 x7 x8 x9 x10 x11) := ⟨fun hp=>by
 unfold E_list
 obtain ⟨_,_,ha,x12,hq,rfl,rfl⟩ := w_list x0 x1 x2 x3 x4 x5 x6 x7 x8 x9 x10 x11 (fun r H'=>∃ x12,post_list x0 x1 x2 x3 x4 x5 x6 x7 x8 x9 x10 x11 x12 ∧ r = (.sl 12 x12) ∧ H' = []) (by
  revert hp
  exact tZ)
 exact ⟨x12,hq,ha⟩⟩
def E_one8 (x0 : Int) : Prop := ∃ x1,post_one8 x0 x1 ∧ A 53 [(iv x0)] [] (.sl 2 x1) []
abbrev j_one8 (nn : Nat) (x0 : Int) (kK : List AV → HC) : HC := ⟨.ev nn (.ask (eL fun x1=>.done (.res (.sl 2 x1) [] (post_one8 x0 x1)) ((kK x1).h))),E_one8 x0 ∧ (∀ x1,post_one8 x0 x1 → (kK x1).p)⟩
abbrev t_one8 (x0 : Int) (Q : AV → HH → Prop) : HC := (cq 1 Q (.sl 2 [(.agg [(iv x0),(iv x0)])]))
theorem w_one8 (x0) (Q : AV → HH → Prop) (h : (t_one8 x0 Q).p) : ∃ r H',A 53 [(iv x0)] [] r H' ∧ Q r H' :=
 Ans.wq rfl (t_one8 x0 Q).h (by kernel_rfl) h
instance c_one8 {x0} : C (E_one8 x0) (pre_one8 x0) := ⟨fun hp=>by
 unfold E_one8
 obtain ⟨_,_,ha,x1,hq,rfl,rfl⟩ := w_one8 x0 (fun r H'=>∃ x1,post_one8 x0 x1 ∧ r = (.sl 2 x1) ∧ H' = []) (by
  revert hp
  exact tZ)
 exact ⟨x1,hq,ha⟩⟩
def E_row8 (utf : Bool) (most : Int) (l : List AV) (f : Int) : Prop := ∃ x0 x1,post_row8 (utf) (most) (l) (f) x0 x1 ∧ A 58 [(.agg [(bv (utf)),(iv (most))]),(.sl 12 (l)),(iv (f))] [] (.tup [(.sl 12 x0),(iv x1)]) []
abbrev j_row8 (nn : Nat) (utf : Bool) (most : Int) (l : List AV) (f : Int) (kK : List AV → Int → HC) : HC := ⟨.ev nn (.ask (eL fun x0=>eI fun x1=>.done (.res (.tup [(.sl 12 x0),(iv x1)]) [] (post_row8 utf most l f x0 x1)) ((kK x0 x1).h))),E_row8 utf most l f ∧ (∀ x0 x1,post_row8 utf most l f x0 x1 → (kK x0 x1).p)⟩
def IH_row8 (b : Nat) : Prop := ∀ {utf : Bool} {most : Int} {l : List AV} {f : Int},rank_row8 (utf) (most) (l) (f) < b → pre_row8 (utf) (most) (l) (f) → E_row8 (utf) (most) (l) (f)
instance s_row8 {b : Nat} [h : F IH_row8 b] {utf : Bool} {most : Int} {l : List AV} {f : Int} : C (E_row8 (utf) (most) (l) (f)) (rank_row8 (utf) (most) (l) (f) < b ∧ pre_row8 (utf) (most) (l) (f)) := ⟨fun k=>h.f k.1 k.2⟩
theorem IH_row8_le (b c : Nat) (h : b ≤ c) (k : IH_row8 c) : IH_row8 b := fun hr hp=>k (Nat.lt_of_lt_of_le hr h) hp
def E_seq (x0 : List AV) : Prop := ∃ x1 x2 x3 x4 x5 x6 x7 x8 x9 x10 x11 x12,post_seq x0 x1 x2 x3 x4 x5 x6 x7 x8 x9 x10 x11 x12 ∧ A 55 [(.sl 12 x0)] [] (.agg [(iv x1),(iv x2),(iv x3),(.sl 2 x4),(bv x5),(iv x6),(iv x7),(iv x8),(sv x9),(iv x10),(iv x11),(.sl 12 x12)]) []
abbrev j_seq (nn : Nat) (x0 : List AV) (kK : Int → Int → Int → List AV → Bool → Int → Int → Int → ByteArray → Int → Int → List AV → HC) : HC := ⟨.ev nn (.ask (eN fun x1 x2 x3 x4 x5 x6 x7 x8 x9 x10 x11 x12=>.done (.res (.agg (nR x1 x2 x3 x4 x5 x6 x7 x8 x9 x10 x11 x12)) [] (post_seq x0 x1 x2 x3 x4 x5 x6 x7 x8 x9 x10 x11 x12)) ((kK x1 x2 x3 x4 x5 x6 x7 x8 x9 x10 x11 x12).h))),E_seq x0 ∧ (∀ x1 x2 x3 x4 x5 x6 x7 x8 x9 x10 x11 x12,post_seq x0 x1 x2 x3 x4 x5 x6 x7 x8 x9 x10 x11 x12 → (kK x1 x2 x3 x4 x5 x6 x7 x8 x9 x10 x11 x12).p)⟩
abbrev t_seq (x0 : List AV) (Q : AV → HH → Prop) : HC := (cd 1 (((↑x0.length : Int) == 1)) (cn 2 ((x0[0]?)) fun x1 x2 x3 x4 x5 x6 x7 x8 x9 x10 x11 x12=>(cq 1 Q (.agg (nR x1 x2 x3 x4 x5 x6 x7 x8 x9 x10 x11 x12)))) (cq 1 Q (.agg (nR 12 0 0 [] false 0 0 0 (bs []) 0 0 x0))))
theorem w_seq (x0) (Q : AV → HH → Prop) (h : (t_seq x0 Q).p) : ∃ r H',A 55 [(.sl 12 x0)] [] r H' ∧ Q r H' :=
 Ans.wq rfl (t_seq x0 Q).h (by kernel_rfl) h
instance c_seq {x0} : C (E_seq x0) (pre_seq x0) := ⟨fun hp=>by
 unfold E_seq
 obtain ⟨_,_,ha,x1,x2,x3,x4,x5,x6,x7,x8,x9,x10,x11,x12,hq,rfl,rfl⟩ := w_seq x0 (fun r H'=>∃ x1 x2 x3 x4 x5 x6 x7 x8 x9 x10 x11 x12,post_seq x0 x1 x2 x3 x4 x5 x6 x7 x8 x9 x10 x11 x12 ∧ r = (.agg (nR x1 x2 x3 x4 x5 x6 x7 x8 x9 x10 x11 x12)) ∧ H' = []) (by
  revert hp
  exact tZ)
 exact ⟨x1,x2,x3,x4,x5,x6,x7,x8,x9,x10,x11,x12,hq,ha⟩⟩
def E_Of2 (x0 : Int) : Prop := ∃ x1 x2 x3 x4 x5,post_Of2 x0 x1 x2 x3 x4 x5 ∧ A 100 [(iv x0)] [] (.agg [(iv x1),(iv x2),(sv x3),(sv x4),(iv x5)]) []
abbrev j_Of2 (nn : Nat) (x0 : Int) (kK : Int → Int → ByteArray → ByteArray → Int → HC) : HC := ⟨.ev nn (.ask (eI fun x1=>eI fun x2=>eS fun x3=>eS fun x4=>eI fun x5=>.done (.res (.agg [(iv x1),(iv x2),(sv x3),(sv x4),(iv x5)]) [] (post_Of2 x0 x1 x2 x3 x4 x5)) ((kK x1 x2 x3 x4 x5).h))),E_Of2 x0 ∧ (∀ x1 x2 x3 x4 x5,post_Of2 x0 x1 x2 x3 x4 x5 → (kK x1 x2 x3 x4 x5).p)⟩
def s_Of2_0 (x0 x1 x2 : Int) (x3 x4 : ByteArray) (x5 : Int) (x6 : List AV) (x7 : Int) : St := ⟨[],[(0,(iv x0)),(2,(.box [(iv x1),(iv x2),(sv x3),(sv x4),(iv x5)])),(3,(.sl 5 x6)),(4,(iv x7))],[],0⟩
def x_Of2_0_0 (x0 x1 x2 : Int) (x3 x4 : ByteArray) (x5 : Int) (x6 : List AV) (y7 y8 : Int) (y9 y10 : ByteArray) (y11 : Int) : St := ⟨[],[(2,(.box [(iv y7),(iv y8),(sv y9),(sv y10),(iv y11)]))],[],0⟩
def x_Of2_0_1 (x0 x1 x2 : Int) (x3 x4 : ByteArray) (x5 : Int) (x6 : List AV) (y7 : Int) : St := ⟨[],[(0,(iv x0)),(2,(.box [(iv x1),(iv x2),(sv x3),(sv x4),(iv x5)])),(3,(.sl 5 x6)),(4,(iv y7)),(16,(bv false))],[],0⟩
def E_Of2_0 (x0 x1 x2 : Int) (x3 x4 : ByteArray) (x5 : Int) (x6 : List AV) (x7o : Int) : Prop := ((∃ y8 y9 y10 y11 y12,out_Of2_0_0 x0 x1 x2 x3 x4 x5 x6 x7o y8 y9 y10 y11 y12 ∧ R 100 0 (s_Of2_0 x0 x1 x2 x3 x4 x5 x6 x7o) (Ex.ret,x_Of2_0_0 x0 x1 x2 x3 x4 x5 x6 y8 y9 y10 y11 y12)) ∨ (∃ y8,out_Of2_0_1 x0 x1 x2 x3 x4 x5 x6 x7o y8 ∧ R 100 0 (s_Of2_0 x0 x1 x2 x3 x4 x5 x6 x7o) ((.exit 0),x_Of2_0_1 x0 x1 x2 x3 x4 x5 x6 y8)))
abbrev j_Of2_0 (nn : Nat) (x0 x1 x2 : Int) (x3 x4 : ByteArray) (x5 : Int) (x6 : List AV) (x7o : Int) (f0 : Int → Int → ByteArray → ByteArray → Int → HC) (f1 : Int → HC) : HC := ⟨.ev nn (.ask (.or (eI fun y8=>eI fun y9=>eS fun y10=>eS fun y11=>eI fun y12=>.done (.exit Ex.ret (x_Of2_0_0 x0 x1 x2 x3 x4 x5 x6 y8 y9 y10 y11 y12) (out_Of2_0_0 x0 x1 x2 x3 x4 x5 x6 x7o y8 y9 y10 y11 y12)) (f0 y8 y9 y10 y11 y12).h) (eI fun y8=>.done (.exit (.exit 0) (x_Of2_0_1 x0 x1 x2 x3 x4 x5 x6 y8) (out_Of2_0_1 x0 x1 x2 x3 x4 x5 x6 x7o y8)) (f1 y8).h))),E_Of2_0 x0 x1 x2 x3 x4 x5 x6 x7o ∧ ((∀ y8 y9 y10 y11 y12,out_Of2_0_0 x0 x1 x2 x3 x4 x5 x6 x7o y8 y9 y10 y11 y12 → (f0 y8 y9 y10 y11 y12).p) ∧ (∀ y8,out_Of2_0_1 x0 x1 x2 x3 x4 x5 x6 x7o y8 → (f1 y8).p))⟩
abbrev t_Of2_0 (x0 x1 x2 : Int) (x3 x4 : ByteArray) (x5 : Int) (x6 : List AV) (x7 : Int) (Q : Ex → St → Prop) : HC := (cd 1 ((decide (x7 < (↑x6.length : Int)))) (co 0 ((decide (0 ≤ x7))) (cv5 1 ((x6[x7.toNat]?)) (fun (x8 x9 : Int) (x10 x11 : ByteArray) (x12 : Int)=>(.agg [(iv x8),(iv x9),(sv x10),(sv x11),(iv x12)])) fun x8 x9 x10 x11 x12=>(cd 1 ((decide (x8 ≤ x0))) (co 3 ((decide (0 ≤ x7))) (cv5 1 ((x6[x7.toNat]?)) (fun (x13 x14 : Int) (x15 x16 : ByteArray) (x17 : Int)=>(.agg [(iv x13),(iv x14),(sv x15),(sv x16),(iv x17)])) fun x13 x14 x15 x16 x17=>(cd 5 ((decide (x0 ≤ x14))) (co 0 ((decide (0 ≤ x7))) (cv5 1 ((x6[x7.toNat]?)) (fun (x18 x19 : Int) (x20 x21 : ByteArray) (x22 : Int)=>(.agg [(iv x18),(iv x19),(sv x20),(sv x21),(iv x22)])) fun x18 x19 x20 x21 x22=>(cz 0 (Q Ex.ret (x_Of2_0_0 x0 x1 x2 x3 x4 x5 x6 x18 x19 x20 x21 x22))))) (ww (x7 + 1) (cz 1 (Q .norm (s_Of2_0 x0 x1 x2 x3 x4 x5 x6 (w6 (x7 + 1))))))))) (ww (x7 + 1) (cz 9 (Q .norm (s_Of2_0 x0 x1 x2 x3 x4 x5 x6 (w6 (x7 + 1))))))))) (cz 0 (Q (.exit 0) (x_Of2_0_1 x0 x1 x2 x3 x4 x5 x6 x7))))
theorem l_Of2_0 (x0 x1 x2 x3 x4 x5 x6 x7) (Q : Ex → St → Prop) (h : (t_Of2_0 x0 x1 x2 x3 x4 x5 x6 x7 Q).p) : ∃ e s',L 100 0 (s_Of2_0 x0 x1 x2 x3 x4 x5 x6 x7) (e,s') ∧ Q e s' :=
 Leads.wq (t_Of2_0 x0 x1 x2 x3 x4 x5 x6 x7 Q).h (by kernel_rfl) h
instance k_Of2_0 {x0 x1 x2 x3 x4 x5 x6 x7o} : C (E_Of2_0 x0 x1 x2 x3 x4 x5 x6 x7o) (inv_Of2_0 x0 x1 x2 x3 x4 x5 x6 x7o x7o) := ⟨fun hi=>by
 obtain ⟨e,s',hr,hq⟩ := Rounds.byInv (st := fun (w : Int)=>s_Of2_0 x0 x1 x2 x3 x4 x5 x6 w) (Inv := fun w=>inv_Of2_0 x0 x1 x2 x3 x4 x5 x6 x7o w) (μ := fun w=>mu_Of2_0 x0 x1 x2 x3 x4 x5 x6 w) (Q := fun e s'=>((∃ y8 y9 y10 y11 y12,out_Of2_0_0 x0 x1 x2 x3 x4 x5 x6 x7o y8 y9 y10 y11 y12 ∧ e = Ex.ret ∧ s' = x_Of2_0_0 x0 x1 x2 x3 x4 x5 x6 y8 y9 y10 y11 y12) ∨ (∃ y8,out_Of2_0_1 x0 x1 x2 x3 x4 x5 x6 x7o y8 ∧ e = (.exit 0) ∧ s' = x_Of2_0_1 x0 x1 x2 x3 x4 x5 x6 y8))) (by
  intro x7 hi
  have hi : inv_Of2_0 x0 x1 x2 x3 x4 x5 x6 x7o x7 := hi
  refine l_Of2_0 x0 x1 x2 x3 x4 x5 x6 x7 _ ?_
  have hM {p : Prop} (h : p := by unfold mu_Of2_0; exact tI) : p := h
  revert hi
  exact tZ) x7o hi
 unfold E_Of2_0
 rcases hq with ⟨_,_,_,_,_,ho,rfl,rfl⟩ | ⟨_,ho,rfl,rfl⟩
 
 ·exact .inl ⟨_,_,_,_,_,ho,hr⟩
 ·exact .inr (⟨_,ho,hr⟩)⟩
abbrev t_Of2 (x0 : Int) (Q : AV → HH → Prop) : HC := (cd 1 ((decide (x0 < 0))) (cq 4 Q (.agg [(iv 0),(iv 0),(sv (bs [])),(sv (bs [])),(iv 0)])) (cd 3 ((decide (x0 > 1114111))) (cq 1 Q (.agg [(iv 0),(iv 0),(sv (bs [])),(sv (bs [])),(iv 0)])) (j_Table 1 fun x1=>(j_Of2_0 0 x0 0 0 (bs []) (bs []) 0 x1 0 (fun x2 x3 x4 x5 x6=>(cq 1 Q (.agg [(iv x2),(iv x3),(sv x4),(sv x5),(iv x6)]))) (fun x7=>(cq 1 Q (.agg [(iv x0),(iv x0),(sv (bs [67,110])),(sv (bs [85,110,107,110,111,119,110])),(iv 0)])))))))
theorem w_Of2 (x0) (Q : AV → HH → Prop) (h : (t_Of2 x0 Q).p) : ∃ r H',A 100 [(iv x0)] [] r H' ∧ Q r H' :=
 Ans.wq rfl (t_Of2 x0 Q).h (by kernel_rfl) h
instance c_Of2 {x0} : C (E_Of2 x0) (pre_Of2 x0) := ⟨fun hp=>by
 unfold E_Of2
 obtain ⟨_,_,ha,x1,x2,x3,x4,x5,hq,rfl,rfl⟩ := w_Of2 x0 (fun r H'=>∃ x1 x2 x3 x4 x5,post_Of2 x0 x1 x2 x3 x4 x5 ∧ r = (.agg [(iv x1),(iv x2),(sv x3),(sv x4),(iv x5)]) ∧ H' = []) (by
  revert hp
  exact tZ)
 exact ⟨x1,x2,x3,x4,x5,hq,ha⟩⟩
def E_Others (x0 : Int) (x1 : Bool) : Prop := ∃ x2,post_Others x0 x1 x2 ∧ A 96 [(iv x0),(bv x1)] [] (.sl 1 x2) []
abbrev j_Others (nn : Nat) (x0 : Int) (x1 : Bool) (kK : List AV → HC) : HC := ⟨.ev nn (.ask (eL fun x2=>.done (.res (.sl 1 x2) [] (post_Others x0 x1 x2)) ((kK x2).h))),E_Others x0 x1 ∧ (∀ x2,post_Others x0 x1 x2 → (kK x2).p)⟩
abbrev t_Others (x0 : Int) (x1 : Bool) (Q : AV → HH → Prop) : HC := (cd 1 ((!x1)) (cd 1 ((decide (x0 ≥ 65))) (cd 3 ((decide (x0 ≤ 90))) (ww (x0 + 32) (cq 2 Q (.sl 1 [(iv (w6 (x0 + 32)))]))) (cd 1 ((decide (x0 ≥ 97))) (cd 3 ((decide (x0 ≤ 122))) (ww (x0 - 32) (cq 2 Q (.sl 1 [(iv (w6 (x0 - 32)))]))) (cq 1 Q (.sl 1 []))) (cq 4 Q (.sl 1 [])))) (cd 4 ((decide (x0 ≥ 97))) (cd 3 ((decide (x0 ≤ 122))) (ww (x0 - 32) (cq 2 Q (.sl 1 [(iv (w6 (x0 - 32)))]))) (cq 1 Q (.sl 1 []))) (cq 4 Q (.sl 1 [])))) (cd 1 ((x0 == 75)) (cq 1 Q (.sl 1 [(iv 107),(iv 8490)])) (cd 1 ((x0 == 107)) (cq 1 Q (.sl 1 [(iv 75),(iv 8490)])) (cd 1 ((x0 == 8490)) (cq 1 Q (.sl 1 [(iv 75),(iv 107)])) (cd 1 ((x0 == 83)) (cq 1 Q (.sl 1 [(iv 115),(iv 383)])) (cd 1 ((x0 == 115)) (cq 1 Q (.sl 1 [(iv 83),(iv 383)])) (cd 1 ((x0 == 383)) (cq 1 Q (.sl 1 [(iv 83),(iv 115)])) (cd 1 ((x0 == 181)) (cq 1 Q (.sl 1 [(iv 924),(iv 956)])) (cd 1 ((x0 == 924)) (cq 1 Q (.sl 1 [(iv 181),(iv 956)])) (cd 1 ((x0 == 956)) (cq 1 Q (.sl 1 [(iv 181),(iv 924)])) (cd 1 ((x0 == 931)) (cq 1 Q (.sl 1 [(iv 962),(iv 963)])) (cd 1 ((x0 == 962)) (cq 1 Q (.sl 1 [(iv 931),(iv 963)])) (cd 1 ((x0 == 963)) (cq 1 Q (.sl 1 [(iv 931),(iv 962)])) (j_Of2 1 x0 fun x2 x3 x4 x5 x6=>(cd 1 ((!x6 == 0)) (ww (x0 + x6) (cq 2 Q (.sl 1 [(iv (w6 (x0 + x6)))]))) (cq 1 Q (.sl 1 [])))))))))))))))))
theorem w_Others (x0 x1) (Q : AV → HH → Prop) (h : (t_Others x0 x1 Q).p) : ∃ r H',A 96 [(iv x0),(bv x1)] [] r H' ∧ Q r H' :=
 Ans.wq rfl (t_Others x0 x1 Q).h (by kernel_rfl) h
instance c_Others {x0 x1} : C (E_Others x0 x1) (pre_Others x0 x1) := ⟨fun hp=>by
 unfold E_Others
 obtain ⟨_,_,ha,x2,hq,rfl,rfl⟩ := w_Others x0 x1 (fun r H'=>∃ x2,post_Others x0 x1 x2 ∧ r = (.sl 1 x2) ∧ H' = []) (by
  revert hp
  exact tZ)
 exact ⟨x2,hq,ha⟩⟩
def E_addQ (x0 x1 : List AV) : Prop := ∃ x2,post_addQ x0 x1 x2 ∧ A 95 [(.cap true 105 x0),(.sl 1 x1)] [] (.cap true 105 x2) []
abbrev j_addQ (nn : Nat) (x0 x1 : List AV) (kK : List AV → HC) : HC := ⟨.ev nn (.ask (eL fun x2=>.done (.res (.cap true 105 x2) [] (post_addQ x0 x1 x2)) ((kK x2).h))),E_addQ x0 x1 ∧ (∀ x2,post_addQ x0 x1 x2 → (kK x2).p)⟩
def s_addQ_0 (x0 x1 : List AV) (x2 : Int) : St := ⟨[],[(0,(.cap true 105 x1)),(1,(.sl 1 x0)),(5,(iv x2))],[],0⟩
def x_addQ_0_0 (x0 y1 : List AV) (y2 : Int) : St := ⟨[],[(0,(.cap true 105 y1)),(1,(.sl 1 x0)),(5,(iv y2)),(9,(bv false))],[],0⟩
def E_addQ_0 (x0 x1o : List AV) (x2o : Int) : Prop := (∃ y3 y4,out_addQ_0_0 x0 x1o x2o y3 y4 ∧ R 95 0 (s_addQ_0 x0 x1o x2o) ((.exit 0),x_addQ_0_0 x0 y3 y4))
abbrev j_addQ_0 (nn : Nat) (x0 x1o : List AV) (x2o : Int) (f0 : List AV → Int → HC) : HC := ⟨.ev nn (.ask (eL fun y3=>eI fun y4=>.done (.exit (.exit 0) (x_addQ_0_0 x0 y3 y4) (out_addQ_0_0 x0 x1o x2o y3 y4)) (f0 y3 y4).h)),E_addQ_0 x0 x1o x2o ∧ (∀ y3 y4,out_addQ_0_0 x0 x1o x2o y3 y4 → (f0 y3 y4).p)⟩
abbrev t_addQ_0 (x0 x1 : List AV) (x2 : Int) (Q : Ex → St → Prop) : HC := (cd 1 ((decide (x2 < (↑x0.length : Int)))) (co 0 ((decide (0 ≤ x2))) (ca 1 ((x0[x2.toNat]?)) fun x3=>(co 0 ((decide (0 ≤ x2))) (ca 1 ((x0[x2.toNat]?)) fun x4=>(cr 0 ((roomD pr 105 x1.length 1)) (ww (x2 + 1) (cz 1 (Q .norm (s_addQ_0 x0 (x1 ++ [AV.agg [iv x3,iv x4]]) (w6 (x2 + 1))))))))))) (cz 0 (Q (.exit 0) (x_addQ_0_0 x0 x1 x2))))
theorem l_addQ_0 (x0 x1 x2) (Q : Ex → St → Prop) (h : (t_addQ_0 x0 x1 x2 Q).p) : ∃ e s',L 95 0 (s_addQ_0 x0 x1 x2) (e,s') ∧ Q e s' :=
 Leads.wq (t_addQ_0 x0 x1 x2 Q).h (by kernel_rfl) h
instance k_addQ_0 {x0 x1o x2o} : C (E_addQ_0 x0 x1o x2o) (inv_addQ_0 x0 x1o x2o x1o x2o) := ⟨fun hi=>by
 obtain ⟨e,s',hr,hq⟩ := Rounds.byInv (st := fun (w : (List AV) × Int)=>s_addQ_0 x0 w.1 w.2) (Inv := fun w=>inv_addQ_0 x0 x1o x2o w.1 w.2) (μ := fun w=>mu_addQ_0 x0 w.1 w.2) (Q := fun e s'=>(∃ y3 y4,out_addQ_0_0 x0 x1o x2o y3 y4 ∧ e = (.exit 0) ∧ s' = x_addQ_0_0 x0 y3 y4)) (by
  rintro ⟨x1,x2⟩ hi
  have hi : inv_addQ_0 x0 x1o x2o x1 x2 := hi
  refine l_addQ_0 x0 x1 x2 _ ?_
  have hM {p : Prop} (h : p := by unfold mu_addQ_0; exact tI) : p := h
  revert hi
  exact tZ) (x1o,x2o) hi
 unfold E_addQ_0
 rcases hq with ⟨_,_,ho,rfl,rfl⟩
 exact ⟨_,_,ho,hr⟩⟩
abbrev t_addQ (x0 x1 : List AV) (Q : AV → HH → Prop) : HC := (j_addQ_0 0 x1 x0 0 (fun x2 x3=>(cq 1 Q (.cap true 105 x2))))
theorem w_addQ (x0 x1) (Q : AV → HH → Prop) (h : (t_addQ x0 x1 Q).p) : ∃ r H',A 95 [(.cap true 105 x0),(.sl 1 x1)] [] r H' ∧ Q r H' :=
 Ans.wq rfl (t_addQ x0 x1 Q).h (by kernel_rfl) h
instance c_addQ {x0 x1} : C (E_addQ x0 x1) (pre_addQ x0 x1) := ⟨fun hp=>by
 unfold E_addQ
 obtain ⟨_,_,ha,x2,hq,rfl,rfl⟩ := w_addQ x0 x1 (fun r H'=>∃ x2,post_addQ x0 x1 x2 ∧ r = (.cap true 105 x2) ∧ H' = []) (by
  revert hp
  exact tZ)
 exact ⟨x2,hq,ha⟩⟩
def E_CaselessQ (x0 : List AV) (x1 : Bool) : Prop := ∃ x2,post_CaselessQ x0 x1 x2 ∧ A 84 [(.sl 2 x0),(bv x1)] [] (.sl 2 x2) []
abbrev j_CaselessQ (nn : Nat) (x0 : List AV) (x1 : Bool) (kK : List AV → HC) : HC := ⟨.ev nn (.ask (eL fun x2=>.done (.res (.sl 2 x2) [] (post_CaselessQ x0 x1 x2)) ((kK x2).h))),E_CaselessQ x0 x1 ∧ (∀ x2,post_CaselessQ x0 x1 x2 → (kK x2).p)⟩
def s_CaselessQ_0 (x0 : List AV) (x1 : Bool) (x2 : List AV) (x3 : Int) : St := ⟨[],[(0,(.sl 2 x0)),(1,(bv x1)),(5,(.cap true 105 x2)),(6,(iv x3))],[],0⟩
def x_CaselessQ_0_0 (x0 : List AV) (x1 : Bool) (y2 : List AV) (y0 : Int) : St := ⟨[],[(0,(.sl 2 x0)),(1,(bv x1)),(5,(.cap true 105 y2)),(6,(iv y0)),(13,(bv false))],[],0⟩
def E_CaselessQ_0 (x0 : List AV) (x1 : Bool) (x2o : List AV) (x3o : Int) : Prop := (∃ y4 y5,out_CaselessQ_0_0 x0 x1 x2o x3o y4 y5 ∧ R 84 0 (s_CaselessQ_0 x0 x1 x2o x3o) ((.exit 0),x_CaselessQ_0_0 x0 x1 y4 y5))
abbrev j_CaselessQ_0 (nn : Nat) (x0 : List AV) (x1 : Bool) (x2o : List AV) (x3o : Int) (f0 : List AV → Int → HC) : HC := ⟨.ev nn (.ask (eL fun y4=>eI fun y5=>.done (.exit (.exit 0) (x_CaselessQ_0_0 x0 x1 y4 y5) (out_CaselessQ_0_0 x0 x1 x2o x3o y4 y5)) (f0 y4 y5).h)),E_CaselessQ_0 x0 x1 x2o x3o ∧ (∀ y4 y5,out_CaselessQ_0_0 x0 x1 x2o x3o y4 y5 → (f0 y4 y5).p)⟩
abbrev t_CaselessQ_0 (x0 : List AV) (x1 : Bool) (x2 : List AV) (x3 : Int) (Q : Ex → St → Prop) : HC := (cd 1 ((decide (x3 ≤ 1200))) (cp 0 ((npL [(.sl 2 x0),(iv x3)])) (j_In 0 x0 x3 fun x4=>(cd 0 x4 (j_Others 1 x3 x1 fun x5=>(cp 0 ((npL [(.cap true 105 x2),(.sl 1 x5)])) (j_addQ 0 x2 x5 fun x6=>(ww (x3 + 1) (cz 1 (Q .norm (s_CaselessQ_0 x0 x1 x6 (w6 (x3 + 1))))))))) (ww (x3 + 1) (cz 1 (Q .norm (s_CaselessQ_0 x0 x1 x2 (w6 (x3 + 1))))))))) (cz 0 (Q (.exit 0) (x_CaselessQ_0_0 x0 x1 x2 x3))))
theorem l_CaselessQ_0 (x0 x1 x2 x3) (Q : Ex → St → Prop) (h : (t_CaselessQ_0 x0 x1 x2 x3 Q).p) : ∃ e s',L 84 0 (s_CaselessQ_0 x0 x1 x2 x3) (e,s') ∧ Q e s' :=
 Leads.wq (t_CaselessQ_0 x0 x1 x2 x3 Q).h (by kernel_rfl) h
instance k_CaselessQ_0 {x0 x1 x2o x3o} : C (E_CaselessQ_0 x0 x1 x2o x3o) (inv_CaselessQ_0 x0 x1 x2o x3o x2o x3o) := ⟨fun hi=>by
 obtain ⟨e,s',hr,hq⟩ := Rounds.byInv (st := fun (w : (List AV) × Int)=>s_CaselessQ_0 x0 x1 w.1 w.2) (Inv := fun w=>inv_CaselessQ_0 x0 x1 x2o x3o w.1 w.2) (μ := fun w=>mu_CaselessQ_0 x0 x1 w.1 w.2) (Q := fun e s'=>(∃ y4 y5,out_CaselessQ_0_0 x0 x1 x2o x3o y4 y5 ∧ e = (.exit 0) ∧ s' = x_CaselessQ_0_0 x0 x1 y4 y5)) (by
  rintro ⟨x2,x3⟩ hi
  have hi : inv_CaselessQ_0 x0 x1 x2o x3o x2 x3 := hi
  refine l_CaselessQ_0 x0 x1 x2 x3 _ ?_
  have hM {p : Prop} (h : p := by unfold mu_CaselessQ_0; exact tI) : p := h
  revert hi
  exact tZ) (x2o,x3o) hi
 unfold E_CaselessQ_0
 rcases hq with ⟨_,_,ho,rfl,rfl⟩
 exact ⟨_,_,ho,hr⟩⟩
abbrev t_CaselessQ (x0 : List AV) (x1 : Bool) (Q : AV → HH → Prop) : HC := (cr 0 ((roomD pr 105 0 x0.length)) (j_CaselessQ_0 0 x0 x1 x0 0 (fun x2 x3=>(cp 0 ((npL [(.sl 2 x0),(iv 8490)])) (j_In 0 x0 8490 fun x4=>(cd 0 x4 (j_Others 1 8490 x1 fun x5=>(cp 0 ((npL [(.cap true 105 x2),(.sl 1 x5)])) (j_addQ 0 x2 x5 fun x6=>(cp 0 ((npL [(.sl 2 x6),(iv 1114111)])) (j_NewQ 0 x6 1114111 fun x7=>(cq 1 Q (.sl 2 x7))))))) (cp 0 ((npL [(.sl 2 x2),(iv 1114111)])) (j_NewQ 0 x2 1114111 fun x8=>(cq 1 Q (.sl 2 x8))))))))))
theorem w_CaselessQ (x0 x1) (Q : AV → HH → Prop) (h : (t_CaselessQ x0 x1 Q).p) : ∃ r H',A 84 [(.sl 2 x0),(bv x1)] [] r H' ∧ Q r H' :=
 Ans.wq rfl (t_CaselessQ x0 x1 Q).h (by kernel_rfl) h
instance c_CaselessQ {x0 x1} : C (E_CaselessQ x0 x1) (pre_CaselessQ x0 x1) := ⟨fun hp=>by
 unfold E_CaselessQ
 obtain ⟨_,_,ha,x2,hq,rfl,rfl⟩ := w_CaselessQ x0 x1 (fun r H'=>∃ x2,post_CaselessQ x0 x1 x2 ∧ r = (.sl 2 x2) ∧ H' = []) (by
  revert hp
  exact tZ)
 exact ⟨x2,hq,ha⟩⟩
def E_set8 (x0 : Bool) (x1 : Int) (x2 : List AV) (x3 x4 : Bool) : Prop := ∃ x5,post_set8 x0 x1 x2 x3 x4 x5 ∧ A 52 [(.agg [(bv x0),(iv x1)]),(.sl 2 x2),(bv x3),(bv x4)] [] (.sl 2 x5) []
abbrev j_set8 (nn : Nat) (x0 : Bool) (x1 : Int) (x2 : List AV) (x3 x4 : Bool) (kK : List AV → HC) : HC := ⟨.ev nn (.ask (eL fun x5=>.done (.res (.sl 2 x5) [] (post_set8 x0 x1 x2 x3 x4 x5)) ((kK x5).h))),E_set8 x0 x1 x2 x3 x4 ∧ (∀ x5,post_set8 x0 x1 x2 x3 x4 x5 → (kK x5).p)⟩
abbrev t_set8 (x0 : Bool) (x1 : Int) (x2 : List AV) (x3 x4 : Bool) (Q : AV → HH → Prop) : HC := (cp 0 ((npL [(.sl 2 x2),(iv x1)])) (j_NewQ 0 x2 x1 fun x5=>(cd 0 x3 (cp 0 ((npL [(.sl 2 x5),(bv x0)])) (j_CaselessQ 0 x5 x0 fun x6=>(cp 0 ((npL [(.sl 2 x6),(iv x1)])) (j_NewQ 0 x6 x1 fun x7=>(cd 0 x4 (cp 0 ((npL [(iv 2),(.sl 2 x7),(.sl 2 []),(iv x1)])) (j_JoinQ 0 2 x7 [] x1 fun x8=>(cq 1 Q (.sl 2 x8)))) (cq 1 Q (.sl 2 x7))))))) (cd 0 x4 (cp 0 ((npL [(iv 2),(.sl 2 x5),(.sl 2 []),(iv x1)])) (j_JoinQ 0 2 x5 [] x1 fun x9=>(cq 1 Q (.sl 2 x9)))) (cq 1 Q (.sl 2 x5))))))
theorem w_set8 (x0 x1 x2 x3 x4) (Q : AV → HH → Prop) (h : (t_set8 x0 x1 x2 x3 x4 Q).p) : ∃ r H',A 52 [(.agg [(bv x0),(iv x1)]),(.sl 2 x2),(bv x3),(bv x4)] [] r H' ∧ Q r H' :=
 Ans.wq rfl (t_set8 x0 x1 x2 x3 x4 Q).h (by kernel_rfl) h
instance c_set8 {x0 x1 x2 x3 x4} : C (E_set8 x0 x1 x2 x3 x4) (pre_set8 x0 x1 x2 x3 x4) := ⟨fun hp=>by
 unfold E_set8
 obtain ⟨_,_,ha,x5,hq,rfl,rfl⟩ := w_set8 x0 x1 x2 x3 x4 (fun r H'=>∃ x5,post_set8 x0 x1 x2 x3 x4 x5 ∧ r = (.sl 2 x5) ∧ H' = []) (by
  revert hp
  exact tZ)
 exact ⟨x5,hq,ha⟩⟩
def s_Node8_0 (x0 : Bool) (x1 x2 x3 x4 : Int) (x5 : List AV) (x6 : Bool) (x7 x8 x9 : Int) (x10 : ByteArray) (x11 x12 : Int) (x13 : List AV) (x14 : Int) (x15 : List AV) (x16 : Int) : St := ⟨[],[(2,(iv x14)),(3,(.ea [(bv x0),(iv x1)])),(4,(.box [(iv x2),(iv x3),(iv x4),(.sl 2 x5),(bv x6),(iv x7),(iv x8),(iv x9),(sv x10),(iv x11),(iv x12),(.sl 12 x13)])),(6,(.box [(iv 0),(iv 0),(iv 0),(.sl 2 []),(bv false),(iv 0),(iv 0),(iv 0),(sv (bs [])),(iv 0),(iv 0),(.sl 12 [])])),(14,(.cap false 27 x15)),(15,(iv x16))],[],0⟩
def x_Node8_0_0 (x0 : Bool) (x1 x2 x3 x4 : Int) (x5 : List AV) (x6 : Bool) (x7 x8 x9 : Int) (x10 : ByteArray) (x11 x12 : Int) (x13 : List AV) (y14 : Int) (y15 : List AV) (y16 : Int) : St := ⟨[],[(2,(iv y14)),(3,(.ea [(bv x0),(iv x1)])),(4,(.box [(iv x2),(iv x3),(iv x4),(.sl 2 x5),(bv x6),(iv x7),(iv x8),(iv x9),(sv x10),(iv x11),(iv x12),(.sl 12 x13)])),(6,(.box [(iv 0),(iv 0),(iv 0),(.sl 2 []),(bv false),(iv 0),(iv 0),(iv 0),(sv (bs [])),(iv 0),(iv 0),(.sl 12 [])])),(14,(.cap false 27 y15)),(15,(iv y16)),(142,(bv false))],[],0⟩
def E_Node8_0 (x0 : Bool) (x1 x2 x3 x4 : Int) (x5 : List AV) (x6 : Bool) (x7 x8 x9 : Int) (x10 : ByteArray) (x11 x12 : Int) (x13 : List AV) (x14o : Int) (x15o : List AV) (x16o : Int) : Prop := (∃ y17 y18 y19,out_Node8_0_0 x0 x1 x2 x3 x4 x5 x6 x7 x8 x9 x10 x11 x12 x13 x14o x15o x16o y17 y18 y19 ∧ R 28 0 (s_Node8_0 x0 x1 x2 x3 x4 x5 x6 x7 x8 x9 x10 x11 x12 x13 x14o x15o x16o) ((Ex.exit 1),x_Node8_0_0 x0 x1 x2 x3 x4 x5 x6 x7 x8 x9 x10 x11 x12 x13 y17 y18 y19))
abbrev j_Node8_0 (nn : Nat) (x0 : Bool) (x1 x2 x3 x4 : Int) (x5 : List AV) (x6 : Bool) (x7 x8 x9 : Int) (x10 : ByteArray) (x11 x12 : Int) (x13 : List AV) (x14o : Int) (x15o : List AV) (x16o : Int) (f0 : Int → List AV → Int → HC) : HC := ⟨.ev nn (.ask (eI fun y17=>eL fun y18=>eI fun y19=>.done (.exit (Ex.exit 1) (x_Node8_0_0 x0 x1 x2 x3 x4 x5 x6 x7 x8 x9 x10 x11 x12 x13 y17 y18 y19) (out_Node8_0_0 x0 x1 x2 x3 x4 x5 x6 x7 x8 x9 x10 x11 x12 x13 x14o x15o x16o y17 y18 y19)) (f0 y17 y18 y19).h)),E_Node8_0 x0 x1 x2 x3 x4 x5 x6 x7 x8 x9 x10 x11 x12 x13 x14o x15o x16o ∧ (∀ y17 y18 y19,out_Node8_0_0 x0 x1 x2 x3 x4 x5 x6 x7 x8 x9 x10 x11 x12 x13 x14o x15o x16o y17 y18 y19 → (f0 y17 y18 y19).p)⟩
abbrev t_Node8_0 (x0 : Bool) (x1 x2 x3 x4 : Int) (x5 : List AV) (x6 : Bool) (x7 x8 x9 : Int) (x10 : ByteArray) (x11 x12 : Int) (x13 : List AV) (x14 : Int) (x15 : List AV) (x16 : Int) (Q : Ex → St → Prop) : HC := (cd 1 ((decide (x16 < (↑x13.length : Int)))) (co 0 ((decide (0 ≤ x16))) (cn 1 ((x13[x16.toNat]?)) fun x17 x18 x19 x20 x21 x22 x23 x24 x25 x26 x27 x28=>(cp 0 ((npL [(.agg [(bv x0),(iv x1)]),(.agg (nR x17 x18 x19 x20 x21 x22 x23 x24 x25 x26 x27 x28)),(iv x14)])) (j_Node8 0 x0 x1 x17 x18 x19 x20 x21 x22 x23 x24 x25 x26 x27 x28 x14 fun x29 x30 x31 x32 x33 x34 x35 x36 x37 x38 x39 x40 x41=>(cp 0 ((npL [(.agg (nR x29 x30 x31 x32 x33 x34 x35 x36 x37 x38 x39 x40))])) (j_list 0 x29 x30 x31 x32 x33 x34 x35 x36 x37 x38 x39 x40 fun x42=>(cr 0 ((roomD pr 27 x15.length x42.length)) (ww (x16 + 1) (cz 1 (Q .norm (s_Node8_0 x0 x1 x2 x3 x4 x5 x6 x7 x8 x9 x10 x11 x12 x13 x41 (x15 ++ x42) (w6 (x16 + 1))))))))))))) (cz 0 (Q (Ex.exit 1) (x_Node8_0_0 x0 x1 x2 x3 x4 x5 x6 x7 x8 x9 x10 x11 x12 x13 x14 x15 x16))))
theorem l_Node8_0 (x0 x1 x2 x3 x4 x5 x6 x7 x8 x9 x10 x11 x12 x13 x14 x15 x16) (Q : Ex → St → Prop) (h : (t_Node8_0 x0 x1 x2 x3 x4 x5 x6 x7 x8 x9 x10 x11 x12 x13 x14 x15 x16 Q).p) : ∃ e s',L 28 0 (s_Node8_0 x0 x1 x2 x3 x4 x5 x6 x7 x8 x9 x10 x11 x12 x13 x14 x15 x16) (e,s') ∧ Q e s' :=
 Leads.wq (t_Node8_0 x0 x1 x2 x3 x4 x5 x6 x7 x8 x9 x10 x11 x12 x13 x14 x15 x16 Q).h (by kernel_rfl) h
instance k_Node8_0 {B : Nat} [F IH_Node8 B] [F IH_row8 B] {x0 x1 x2 x3 x4 x5 x6 x7 x8 x9 x10 x11 x12 x13 x14o x15o x16o} : C (E_Node8_0 x0 x1 x2 x3 x4 x5 x6 x7 x8 x9 x10 x11 x12 x13 x14o x15o x16o) (inv_Node8_0 B x0 x1 x2 x3 x4 x5 x6 x7 x8 x9 x10 x11 x12 x13 x14o x15o x16o x14o x15o x16o) := ⟨fun hi=>by
 obtain ⟨e,s',hr,hq⟩ := Rounds.byInv (st := fun (w : Int × (List AV) × Int)=>s_Node8_0 x0 x1 x2 x3 x4 x5 x6 x7 x8 x9 x10 x11 x12 x13 w.1 w.2.1 w.2.2) (Inv := fun w=>inv_Node8_0 B x0 x1 x2 x3 x4 x5 x6 x7 x8 x9 x10 x11 x12 x13 x14o x15o x16o w.1 w.2.1 w.2.2) (μ := fun w=>mu_Node8_0 x0 x1 x2 x3 x4 x5 x6 x7 x8 x9 x10 x11 x12 x13 w.1 w.2.1 w.2.2) (Q := fun e s'=>(∃ y17 y18 y19,out_Node8_0_0 x0 x1 x2 x3 x4 x5 x6 x7 x8 x9 x10 x11 x12 x13 x14o x15o x16o y17 y18 y19 ∧ e = (Ex.exit 1) ∧ s' = x_Node8_0_0 x0 x1 x2 x3 x4 x5 x6 x7 x8 x9 x10 x11 x12 x13 y17 y18 y19)) (by
  rintro ⟨x14,x15,x16⟩ hi
  have hi : inv_Node8_0 B x0 x1 x2 x3 x4 x5 x6 x7 x8 x9 x10 x11 x12 x13 x14o x15o x16o x14 x15 x16 := hi
  refine l_Node8_0 x0 x1 x2 x3 x4 x5 x6 x7 x8 x9 x10 x11 x12 x13 x14 x15 x16 _ ?_
  have hM {p : Prop} (h : p := by unfold mu_Node8_0; exact tI) : p := h
  have hR {p : Prop} (h : p := by (try unfold rank_Node8); (try unfold rank_row8); exact tI) : p := h
  revert hi
  exact tZ) (x14o,x15o,x16o) hi
 unfold E_Node8_0
 rcases hq with ⟨_,_,_,ho,rfl,rfl⟩
 exact ⟨_,_,_,ho,hr⟩⟩
abbrev t_Node8 (x0 : Bool) (x1 x2 x3 x4 : Int) (x5 : List AV) (x6 : Bool) (x7 x8 x9 : Int) (x10 : ByteArray) (x11 x12 : Int) (x13 : List AV) (x14 : Int) (Q : AV → HH → Prop) : HC := (cd 3 ((x2 == 1)) (j_one8 1 x4 fun x15=>(ww (↑((x14 % 18446744073709551616).toNat &&& 1) : Int) (cp 0 ((npL [(.agg [(bv x0),(iv x1)]),(.sl 2 x15),(bv (!w6 (↑((x14 % 18446744073709551616).toNat &&& 1) : Int) == 0)),(bv false)])) (j_set8 0 x0 x1 x15 (!w6 (↑((x14 % 18446744073709551616).toNat &&& 1) : Int) == 0) false fun x16=>(cq 1 Q (.tup [(.agg (nR 2 x3 0 x16 false 0 0 0 (bs []) 0 0 [])),(iv x14)])))))) (cd 1 ((x2 == 2)) (ww (↑((x14 % 18446744073709551616).toNat &&& 1) : Int) (cp 0 ((npL [(.agg [(bv x0),(iv x1)]),(.sl 2 x5),(bv (!w6 (↑((x14 % 18446744073709551616).toNat &&& 1) : Int) == 0)),(bv x6)])) (j_set8 0 x0 x1 x5 (!w6 (↑((x14 % 18446744073709551616).toNat &&& 1) : Int) == 0) x6 fun x17=>(cq 1 Q (.tup [(.agg (nR 2 x3 0 x17 false 0 0 0 (bs []) 0 0 [])),(iv x14)]))))) (cd 1 ((x2 == 3)) (ww (↑((x14 % 18446744073709551616).toNat &&& 4) : Int) (cd 2 ((w6 (↑((x14 % 18446744073709551616).toNat &&& 4) : Int) == 0)) (j_one8 1 10 fun x18=>(cp 0 ((npL [(.agg [(bv x0),(iv x1)]),(.sl 2 x18),(bv false),(bv true)])) (j_set8 0 x0 x1 x18 false true fun x19=>(cq 1 Q (.tup [(.agg (nR 2 x3 0 x19 false 0 0 0 (bs []) 0 0 [])),(iv x14)]))))) (j_set8 1 x0 x1 [] false true fun x20=>(cq 1 Q (.tup [(.agg (nR 2 x3 0 x20 false 0 0 0 (bs []) 0 0 [])),(iv x14)]))))) (cd 1 ((x2 == 4)) (ww (↑((x14 % 18446744073709551616).toNat &&& 2) : Int) (cd 2 ((!w6 (↑((x14 % 18446744073709551616).toNat &&& 2) : Int) == 0)) (cd 4 ((x7 == 1)) (cq 1 Q (.tup [(.agg (nR x2 x3 x4 x5 x6 9 x8 x9 x10 x11 x12 x13)),(iv x14)])) (co 2 ((!w6 (↑((x14 % 18446744073709551616).toNat &&& 2) : Int) == 0)) (cd 4 ((x7 == 2)) (cq 1 Q (.tup [(.agg (nR x2 x3 x4 x5 x6 10 x8 x9 x10 x11 x12 x13)),(iv x14)])) (cq 1 Q (.tup [(.agg (nR x2 x3 x4 x5 x6 x7 x8 x9 x10 x11 x12 x13)),(iv x14)]))))) (cm 6 ((!w6 (↑((x14 % 18446744073709551616).toNat &&& 2) : Int) == 0)) (cq 5 Q (.tup [(.agg (nR x2 x3 x4 x5 x6 x7 x8 x9 x10 x11 x12 x13)),(iv x14)]))))) (cd 1 ((x2 == 6)) (j_one8 1 13 fun x21=>(j_one8 1 10 fun x22=>(j_NewQ 1 [(.agg [(iv 10),(iv 13)]),(.agg [(iv 133),(iv 133)]),(.agg [(iv 8232),(iv 8233)])] x1 fun x23=>(cp 0 ((npL [(.sl 12 [(.agg (nR 2 x3 0 x21 false 0 0 0 (bs []) 0 0 [])),(.agg (nR 2 x3 0 x22 false 0 0 0 (bs []) 0 0 []))])])) (j_seq 0 [(.agg (nR 2 x3 0 x21 false 0 0 0 (bs []) 0 0 [])),(.agg (nR 2 x3 0 x22 false 0 0 0 (bs []) 0 0 []))] fun x24 x25 x26 x27 x28 x29 x30 x31 x32 x33 x34 x35=>(cq 1 Q (.tup [(.agg (nR 17 x3 0 [] false 0 0 0 (bs []) 0 0 [(.agg (nR 13 x3 0 [] false 0 0 0 (bs []) 0 0 [(.agg (nR x24 x25 x26 x27 x28 x29 x30 x31 x32 x33 x34 x35)),(.agg (nR 2 x3 0 x23 false 0 0 0 (bs []) 0 0 []))]))])),(iv x14)]))))))) (cd 1 ((x2 == 7)) (ww (↑((x14 % 18446744073709551616).toNat &&& 1) : Int) (cq 2 Q (.tup [(.agg (nR x2 x3 x4 x5 x6 x7 x8 x9 x10 (w6 (↑((x14 % 18446744073709551616).toNat &&& 1) : Int)) x12 x13)),(iv x14)]))) (cd 1 ((x2 == 11)) (j_Turn 1 x14 x11 x12 fun x36=>(cq 1 Q (.tup [(.agg (nR 12 0 0 [] false 0 0 0 (bs []) 0 0 [])),(iv x36)]))) (cd 1 ((x2 == 12)) (j_Node8_0 0 x0 x1 x2 x3 x4 x5 x6 x7 x8 x9 x10 x11 x12 x13 x14 [] 0 (fun x37 x38 x39=>(cp 0 ((npL [(.sl 12 x38)])) (j_seq 0 x38 fun x40 x41 x42 x43 x44 x45 x46 x47 x48 x49 x50 x51=>(cq 1 Q (.tup [(.agg (nR x40 x41 x42 x43 x44 x45 x46 x47 x48 x49 x50 x51)),(iv x37)])))))) (cd 1 ((x2 == 13)) (cp 0 ((npL [(.agg [(bv x0),(iv x1)]),(.sl 12 x13),(iv x14)])) (j_row8 0 x0 x1 x13 x14 fun x52 x53=>(cq 1 Q (.tup [(.agg (nR x2 x3 x4 x5 x6 x7 x8 x9 x10 x11 x12 x52)),(iv x53)])))) (cd 1 ((x2 == 15)) (cn 2 ((x13[0]?)) fun x54 x55 x56 x57 x58 x59 x60 x61 x62 x63 x64 x65=>(j_Turn 1 x14 x11 x12 fun x66=>(cp 0 ((npL [(.agg [(bv x0),(iv x1)]),(.agg (nR x54 x55 x56 x57 x58 x59 x60 x61 x62 x63 x64 x65)),(iv x66)])) (j_Node8 0 x0 x1 x54 x55 x56 x57 x58 x59 x60 x61 x62 x63 x64 x65 x66 fun x67 x68 x69 x70 x71 x72 x73 x74 x75 x76 x77 x78 x79=>(cq 1 Q (.tup [(.agg (nR x67 x68 x69 x70 x71 x72 x73 x74 x75 x76 x77 x78)),(iv x14)])))))) (cd 1 ((x2 == 20)) (ww (↑((x14 % 18446744073709551616).toNat &&& 16) : Int) (cd 2 ((!w6 (↑((x14 % 18446744073709551616).toNat &&& 16) : Int) == 0)) (cd 4 ((x9 == 0)) (cp 0 ((npL [(.agg [(bv x0),(iv x1)]),(.sl 12 x13),(iv x14)])) (j_row8 0 x0 x1 x13 x14 fun x80 x81=>(cq 1 Q (.tup [(.agg (nR x2 x3 x4 x5 x6 x7 x8 1 x10 x11 x12 x80)),(iv x14)])))) (co 2 ((!w6 (↑((x14 % 18446744073709551616).toNat &&& 16) : Int) == 0)) (cd 4 ((x9 == 1)) (cp 0 ((npL [(.agg [(bv x0),(iv x1)]),(.sl 12 x13),(iv x14)])) (j_row8 0 x0 x1 x13 x14 fun x82 x83=>(cq 1 Q (.tup [(.agg (nR x2 x3 x4 x5 x6 x7 x8 0 x10 x11 x12 x82)),(iv x14)])))) (cp 0 ((npL [(.agg [(bv x0),(iv x1)]),(.sl 12 x13),(iv x14)])) (j_row8 0 x0 x1 x13 x14 fun x84 x85=>(cq 1 Q (.tup [(.agg (nR x2 x3 x4 x5 x6 x7 x8 x9 x10 x11 x12 x84)),(iv x14)]))))))) (cm 6 ((!w6 (↑((x14 % 18446744073709551616).toNat &&& 16) : Int) == 0)) (cp 4 ((npL [(.agg [(bv x0),(iv x1)]),(.sl 12 x13),(iv x14)])) (j_row8 0 x0 x1 x13 x14 fun x86 x87=>(cq 1 Q (.tup [(.agg (nR x2 x3 x4 x5 x6 x7 x8 x9 x10 x11 x12 x86)),(iv x14)]))))))) (cp 0 ((npL [(.agg [(bv x0),(iv x1)]),(.sl 12 x13),(iv x14)])) (j_row8 0 x0 x1 x13 x14 fun x88 x89=>(cq 1 Q (.tup [(.agg (nR x2 x3 x4 x5 x6 x7 x8 x9 x10 x11 x12 x88)),(iv x14)])))))))))))))))
theorem w_Node8 (x0 x1 x2 x3 x4 x5 x6 x7 x8 x9 x10 x11 x12 x13 x14) (Q : AV → HH → Prop) (h : (t_Node8 x0 x1 x2 x3 x4 x5 x6 x7 x8 x9 x10 x11 x12 x13 x14 Q).p) : ∃ r H',A 28 [(.agg [(bv x0),(iv x1)]),(.agg (nR x2 x3 x4 x5 x6 x7 x8 x9 x10 x11 x12 x13)),(iv x14)] [] r H' ∧ Q r H' :=
 Ans.wq rfl (t_Node8 x0 x1 x2 x3 x4 x5 x6 x7 x8 x9 x10 x11 x12 x13 x14 Q).h (by kernel_rfl) h
theorem i_Node8 {x0 x1 x2 x3 x4 x5 x6 x7 x8 x9 x10 x11 x12 x13 x14} (ih_Node8 : IH_Node8 (rank_Node8 x0 x1 x2 x3 x4 x5 x6 x7 x8 x9 x10 x11 x12 x13 x14)) (ih_row8 : IH_row8 (rank_Node8 x0 x1 x2 x3 x4 x5 x6 x7 x8 x9 x10 x11 x12 x13 x14)) (hp : pre_Node8 x0 x1 x2 x3 x4 x5 x6 x7 x8 x9 x10 x11 x12 x13 x14) : E_Node8 x0 x1 x2 x3 x4 x5 x6 x7 x8 x9 x10 x11 x12 x13 x14 := by
 unfold E_Node8
 obtain ⟨_,_,ha,_,_,_,_,_,_,_,_,_,_,_,_,_,hq,rfl,rfl⟩ := w_Node8 x0 x1 x2 x3 x4 x5 x6 x7 x8 x9 x10 x11 x12 x13 x14 (fun r H'=>∃ x15 x16 x17 x18 x19 x20 x21 x22 x23 x24 x25 x26 x27,post_Node8 x0 x1 x2 x3 x4 x5 x6 x7 x8 x9 x10 x11 x12 x13 x14 x15 x16 x17 x18 x19 x20 x21 x22 x23 x24 x25 x26 x27 ∧ r = (.tup [(.agg [(iv x15),(iv x16),(iv x17),(.sl 2 x18),(bv x19),(iv x20),(iv x21),(iv x22),(sv x23),(iv x24),(iv x25),(.sl 12 x26)]),(iv x27)]) ∧ H' = []) (by
  have _ : F IH_Node8 _ := ⟨ih_Node8⟩
  have _ : F IH_row8 _ := ⟨ih_row8⟩
  have hR {p : Prop} (h : p := by (try unfold rank_Node8); (try unfold rank_row8); exact tI) : p := h
  revert hp
  exact tZ)
 exact ⟨_,_,_,_,_,_,_,_,_,_,_,_,_,hq,ha⟩
def s_row8_0 (x0 : List AV) (x1 : Bool) (x2 x3 : Int) (x4 : List AV) (x5 : Int) : St := ⟨[],[(1,(.sl 12 x0)),(2,(iv x3)),(3,(.ea [(bv x1),(iv x2)])),(8,(.cap false 27 x4)),(9,(iv x5))],[],0⟩
def x_row8_0_0 (x0 : List AV) (x1 : Bool) (x2 y3 : Int) (y4 : List AV) (y5 : Int) : St := ⟨[],[(1,(.sl 12 x0)),(2,(iv y3)),(3,(.ea [(bv x1),(iv x2)])),(8,(.cap false 27 y4)),(9,(iv y5)),(15,(bv false))],[],0⟩
def E_row8_0 (x0 : List AV) (x1 : Bool) (x2 x3o : Int) (x4o : List AV) (x5o : Int) : Prop := (∃ y6 y7 y8,out_row8_0_0 x0 x1 x2 x3o x4o x5o y6 y7 y8 ∧ R 58 0 (s_row8_0 x0 x1 x2 x3o x4o x5o) ((.exit 0),x_row8_0_0 x0 x1 x2 y6 y7 y8))
abbrev j_row8_0 (nn : Nat) (x0 : List AV) (x1 : Bool) (x2 x3o : Int) (x4o : List AV) (x5o : Int) (f0 : Int → List AV → Int → HC) : HC := ⟨.ev nn (.ask (eI fun y6=>eL fun y7=>eI fun y8=>.done (.exit (.exit 0) (x_row8_0_0 x0 x1 x2 y6 y7 y8) (out_row8_0_0 x0 x1 x2 x3o x4o x5o y6 y7 y8)) (f0 y6 y7 y8).h)),E_row8_0 x0 x1 x2 x3o x4o x5o ∧ (∀ y6 y7 y8,out_row8_0_0 x0 x1 x2 x3o x4o x5o y6 y7 y8 → (f0 y6 y7 y8).p)⟩
abbrev t_row8_0 (x0 : List AV) (x1 : Bool) (x2 x3 : Int) (x4 : List AV) (x5 : Int) (Q : Ex → St → Prop) : HC := (cd 1 ((decide (x5 < (↑x0.length : Int)))) (co 0 ((decide (0 ≤ x5))) (cn 1 ((x0[x5.toNat]?)) fun x6 x7 x8 x9 x10 x11 x12 x13 x14 x15 x16 x17=>(cp 0 ((npL [(.agg [(bv x1),(iv x2)]),(.agg (nR x6 x7 x8 x9 x10 x11 x12 x13 x14 x15 x16 x17)),(iv x3)])) (j_Node8 0 x1 x2 x6 x7 x8 x9 x10 x11 x12 x13 x14 x15 x16 x17 x3 fun x18 x19 x20 x21 x22 x23 x24 x25 x26 x27 x28 x29 x30=>(cr 0 ((roomD pr 27 x4.length 1)) (ww (x5 + 1) (cz 1 (Q .norm (s_row8_0 x0 x1 x2 x30 (x4 ++   [AV.agg (nR x18 x19 x20 x21 x22 x23 x24 x25 x26 x27 x28 x29)]) (w6 (x5 + 1))))))))))) (cz 0 (Q (.exit 0) (x_row8_0_0 x0 x1 x2 x3 x4 x5))))
theorem l_row8_0 (x0 x1 x2 x3 x4 x5) (Q : Ex → St → Prop) (h : (t_row8_0 x0 x1 x2 x3 x4 x5 Q).p) : ∃ e s',L 58 0 (s_row8_0 x0 x1 x2 x3 x4 x5) (e,s') ∧ Q e s' :=
 Leads.wq (t_row8_0 x0 x1 x2 x3 x4 x5 Q).h (by kernel_rfl) h
instance k_row8_0 {B : Nat} [F IH_Node8 B] {x0 x1 x2 x3o x4o x5o} : C (E_row8_0 x0 x1 x2 x3o x4o x5o) (inv_row8_0 B x0 x1 x2 x3o x4o x5o x3o x4o x5o) := ⟨fun hi=>by
 obtain ⟨e,s',hr,hq⟩ := Rounds.byInv (st := fun (w : Int × (List AV) × Int)=>s_row8_0 x0 x1 x2 w.1 w.2.1 w.2.2) (Inv := fun w=>inv_row8_0 B x0 x1 x2 x3o x4o x5o w.1 w.2.1 w.2.2) (μ := fun w=>mu_row8_0 x0 x1 x2 w.1 w.2.1 w.2.2) (Q := fun e s'=>(∃ y6 y7 y8,out_row8_0_0 x0 x1 x2 x3o x4o x5o y6 y7 y8 ∧ e = (.exit 0) ∧ s' = x_row8_0_0 x0 x1 x2 y6 y7 y8)) (by
  rintro ⟨x3,x4,x5⟩ hi
  have hi : inv_row8_0 B x0 x1 x2 x3o x4o x5o x3 x4 x5 := hi
  refine l_row8_0 x0 x1 x2 x3 x4 x5 _ ?_
  have hM {p : Prop} (h : p := by unfold mu_row8_0; exact tI) : p := h
  have hR {p : Prop} (h : p := by (try unfold rank_row8); (try unfold rank_Node8); exact tI) : p := h
  revert hi
  exact tZ) (x3o,x4o,x5o) hi
 unfold E_row8_0
 rcases hq with ⟨_,_,_,ho,rfl,rfl⟩
 exact ⟨_,_,_,ho,hr⟩⟩
abbrev t_row8 (x0 : Bool) (x1 : Int) (x2 : List AV) (x3 : Int) (Q : AV → HH → Prop) : HC := (j_row8_0 0 x2 x0 x1 x3 [] 0 (fun x4 x5 x6=>(cq 1 Q (.tup [(.sl 12 x5),(iv x4)]))))
theorem w_row8 (x0 x1 x2 x3) (Q : AV → HH → Prop) (h : (t_row8 x0 x1 x2 x3 Q).p) : ∃ r H',A 58 [(.agg [(bv x0),(iv x1)]),(.sl 12 x2),(iv x3)] [] r H' ∧ Q r H' :=
 Ans.wq rfl (t_row8 x0 x1 x2 x3 Q).h (by kernel_rfl) h
theorem i_row8 {x0 x1 x2 x3} (ih_Node8 : IH_Node8 (rank_row8 x0 x1 x2 x3)) (hp : pre_row8 x0 x1 x2 x3) : E_row8 x0 x1 x2 x3 := by
 unfold E_row8
 obtain ⟨_,_,ha,_,_,hq,rfl,rfl⟩ := w_row8 x0 x1 x2 x3 (fun r H'=>∃ x4 x5,post_row8 x0 x1 x2 x3 x4 x5 ∧ r = (.tup [(.sl 12 x4),(iv x5)]) ∧ H' = []) (by
  have _ : F IH_Node8 _ := ⟨ih_Node8⟩
  have hR {p : Prop} (h : p := by (try unfold rank_row8); (try unfold rank_Node8); exact tI) : p := h
  revert hp
  exact tZ)
 exact ⟨_,_,hq,ha⟩
theorem node8_all : ∀ b,IH_Node8 b ∧ IH_row8 b
 | 0=>⟨fun hr _=>absurd hr (Nat.not_lt_zero _),fun hr _=>absurd hr (Nat.not_lt_zero _)⟩
 | b + 1=>by
  obtain ⟨h0,h1⟩ := node8_all b
  exact ⟨fun hr hp=>i_Node8 (IH_Node8_le _ _ (Nat.le_of_lt_succ hr) h0) (IH_row8_le _ _ (Nat.le_of_lt_succ hr) h1) hp,fun hr hp=>i_row8 (IH_Node8_le _ _ (Nat.le_of_lt_succ hr) h0) hp⟩
instance c_Node8 {utf most k a c s g n m mode nm on off K f} : C (E_Node8 utf most k a c s g n m mode nm on off K f) (pre_Node8 utf most k a c s g n m mode nm on off K f) := ⟨fun hp=>(node8_all _).1 (Nat.lt_succ_self _) hp⟩
def E_Resolve8 (x0 x1 x2 : Int) (x3 : List AV) (x4 : Bool) (x5 x6 x7 : Int) (x8 : ByteArray) (x9 x10 : Int) (x11 : List AV) (x12 : Int) : Prop := ∃ x13 x14 x15 x16 x17 x18 x19 x20 x21 x22 x23 x24,post_Resolve8 x0 x1 x2 x3 x4 x5 x6 x7 x8 x9 x10 x11 x12 x13 x14 x15 x16 x17 x18 x19 x20 x21 x22 x23 x24 ∧ A 12 [(.agg [(iv x0),(iv x1),(iv x2),(.sl 2 x3),(bv x4),(iv x5),(iv x6),(iv x7),(sv x8),(iv x9),(iv x10),(.sl 12 x11)]),(iv x12)] [] (.agg [(iv x13),(iv x14),(iv x15),(.sl 2 x16),(bv x17),(iv x18),(iv x19),(iv x20),(sv x21),(iv x22),(iv x23),(.sl 12 x24)]) []
abbrev j_Resolve8 (nn : Nat) (x0 x1 x2 : Int) (x3 : List AV) (x4 : Bool) (x5 x6 x7 : Int) (x8 : ByteArray) (x9 x10 : Int) (x11 : List AV) (x12 : Int) (kK : Int → Int → Int → List AV → Bool → Int → Int → Int → ByteArray → Int → Int → List AV → HC) : HC := ⟨.ev nn (.ask (eN fun x13 x14 x15 x16 x17 x18 x19 x20 x21 x22 x23 x24=>.done (.res (.agg (nR x13 x14 x15 x16 x17 x18 x19 x20 x21 x22 x23 x24)) [] (post_Resolve8 x0 x1 x2 x3 x4 x5 x6 x7 x8 x9 x10 x11 x12 x13 x14 x15 x16 x17 x18 x19 x20 x21 x22 x23 x24)) ((kK x13 x14 x15 x16 x17 x18 x19 x20 x21 x22 x23 x24).h))),E_Resolve8 x0 x1 x2 x3 x4 x5 x6 x7 x8 x9 x10 x11 x12 ∧ (∀ x13 x14 x15 x16 x17 x18 x19 x20 x21 x22 x23 x24,post_Resolve8 x0 x1 x2 x3 x4 x5 x6 x7 x8 x9 x10 x11 x12 x13 x14 x15 x16 x17 x18 x19 x20 x21 x22 x23 x24 → (kK x13 x14 x15 x16 x17 x18 x19 x20 x21 x22 x23 x24).p)⟩
abbrev t_Resolve8 (x0 x1 x2 : Int) (x3 : List AV) (x4 : Bool) (x5 x6 x7 : Int) (x8 : ByteArray) (x9 x10 : Int) (x11 : List AV) (x12 : Int) (Q : AV → HH → Prop) : HC := (ww (↑((x12 % 18446744073709551616).toNat &&& 32) : Int) (cd 2 ((!w6 (↑((x12 % 18446744073709551616).toNat &&& 32) : Int) == 0)) (ww (↑((x12 % 18446744073709551616).toNat &&& 23) : Int) (cp 1 ((npL [(.agg [(bv (!w6 (↑((x12 % 18446744073709551616).toNat &&& 32) : Int) == 0)),(iv 1114111)]),(.agg (nR x0 x1 x2 x3 x4 x5 x6 x7 x8 x9 x10 x11)),(iv (w6 (↑((x12 % 18446744073709551616).toNat &&& 23) : Int)))])) (j_Node8 0 (!w6 (↑((x12 % 18446744073709551616).toNat &&& 32) : Int) == 0) 1114111 x0 x1 x2 x3 x4 x5 x6 x7 x8 x9 x10 x11 (w6 (↑((x12 % 18446744073709551616).toNat &&& 23) : Int)) fun x13 x14 x15 x16 x17 x18 x19 x20 x21 x22 x23 x24 x25=>(cq 1 Q (.agg (nR x13 x14 x15 x16 x17 x18 x19 x20 x21 x22 x23 x24)))))) (ww (↑((x12 % 18446744073709551616).toNat &&& 23) : Int) (cp 1 ((npL [(.agg [(bv (!w6 (↑((x12 % 18446744073709551616).toNat &&& 32) : Int) == 0)),(iv 255)]),(.agg (nR x0 x1 x2 x3 x4 x5 x6 x7 x8 x9 x10 x11)),(iv (w6 (↑((x12 % 18446744073709551616).toNat &&& 23) : Int)))])) (j_Node8 0 (!w6 (↑((x12 % 18446744073709551616).toNat &&& 32) : Int) == 0) 255 x0 x1 x2 x3 x4 x5 x6 x7 x8 x9 x10 x11 (w6 (↑((x12 % 18446744073709551616).toNat &&& 23) : Int)) fun x26 x27 x28 x29 x30 x31 x32 x33 x34 x35 x36 x37 x38=>(cq 1 Q (.agg (nR x26 x27 x28 x29 x30 x31 x32 x33 x34 x35 x36 x37))))))))
theorem w_Resolve8 (x0 x1 x2 x3 x4 x5 x6 x7 x8 x9 x10 x11 x12) (Q : AV → HH → Prop) (h : (t_Resolve8 x0 x1 x2 x3 x4 x5 x6 x7 x8 x9 x10 x11 x12 Q).p) : ∃ r H',A 12 [(.agg (nR x0 x1 x2 x3 x4 x5 x6 x7 x8 x9 x10 x11)),(iv x12)] [] r H' ∧ Q r H' :=
 Ans.wq rfl (t_Resolve8 x0 x1 x2 x3 x4 x5 x6 x7 x8 x9 x10 x11 x12 Q).h (by kernel_rfl) h
instance c_Resolve8 {x0 x1 x2 x3 x4 x5 x6 x7 x8 x9 x10 x11 x12} : C (E_Resolve8 x0 x1 x2 x3 x4 x5 x6 x7 x8 x9 x10 x11 x12) (pre_Resolve8 x0 x1 x2 x3 x4 x5 x6 x7 x8 x9 x10 x11 x12) := ⟨fun hp=>by
 unfold E_Resolve8
 obtain ⟨_,_,ha,x13,x14,x15,x16,x17,x18,x19,x20,x21,x22,x23,x24,hq,rfl,rfl⟩ := w_Resolve8 x0 x1 x2 x3 x4 x5 x6 x7 x8 x9 x10 x11 x12 (fun r H'=>∃ x13 x14 x15 x16 x17 x18 x19 x20 x21 x22 x23 x24,post_Resolve8 x0 x1 x2 x3 x4 x5 x6 x7 x8 x9 x10 x11 x12 x13 x14 x15 x16 x17 x18 x19 x20 x21 x22 x23 x24 ∧ r = (.agg (nR x13 x14 x15 x16 x17 x18 x19 x20 x21 x22 x23 x24)) ∧ H' = []) (by
  revert hp
  exact tZ)
 exact ⟨x13,x14,x15,x16,x17,x18,x19,x20,x21,x22,x23,x24,hq,ha⟩⟩
def E_resolved (x0 : List AV) (x1 : Int) : Prop := ∃ x2 x3 x4 x5 x6 x7 x8 x9 x10 x11 x12 x13 x14,post_resolved x0 x1 x2 x3 x4 x5 x6 x7 x8 x9 x10 x11 x12 x13 x14 ∧ A 5 [(.sl 1 x0),(iv x1)] [] (.tup [(.agg [(iv x2),(iv x3),(iv x4),(.sl 2 x5),(bv x6),(iv x7),(iv x8),(iv x9),(sv x10),(iv x11),(iv x12),(.sl 12 x13)]),(bv x14)]) []
abbrev j_resolved (nn : Nat) (x0 : List AV) (x1 : Int) (kK : Int → Int → Int → List AV → Bool → Int → Int → Int → ByteArray → Int → Int → List AV → Bool → HC) : HC := ⟨.ev nn (.ask (eN fun x2 x3 x4 x5 x6 x7 x8 x9 x10 x11 x12 x13=>eB fun x14=>.done (.res (.tup [(.agg (nR x2 x3 x4 x5 x6 x7 x8 x9 x10 x11 x12 x13)),(bv x14)]) [] (post_resolved x0 x1 x2 x3 x4 x5 x6 x7 x8 x9 x10 x11 x12 x13 x14)) ((kK x2 x3 x4 x5 x6 x7 x8 x9 x10 x11 x12 x13 x14).h))),E_resolved x0 x1 ∧ (∀ x2 x3 x4 x5 x6 x7 x8 x9 x10 x11 x12 x13 x14,post_resolved x0 x1 x2 x3 x4 x5 x6 x7 x8 x9 x10 x11 x12 x13 x14 → (kK x2 x3 x4 x5 x6 x7 x8 x9 x10 x11 x12 x13 x14).p)⟩
abbrev t_resolved (x0 : List AV) (x1 : Int) (Q : AV → HH → Prop) : HC := (cp 0 ((npL [(.sl 1 x0),(iv x1)])) (j_Lex 0 x0 x1 fun x2 x3 x4=>(cd 1 ((!x3 == 0)) (cq 1 Q (.tup [(.agg (nR 0 0 0 [] false 0 0 0 (bs []) 0 0 [])),(bv false)])) (cp 0 ((npL [(.sl 12 x2),(iv ((↑x0.length : Int)))])) (j_Parse 0 x2 ((↑x0.length : Int)) fun x5 x6 x7 x8 x9 x10 x11 x12 x13 x14 x15 x16 x17 x18=>(cd 1 ((!x17 == 0)) (cq 1 Q (.tup [(.agg (nR 0 0 0 [] false 0 0 0 (bs []) 0 0 [])),(bv false)])) (cp 0 ((npL [(.agg (nR x5 x6 x7 x8 x9 x10 x11 x12 x13 x14 x15 x16)),(iv x1)])) (j_Resolve8 0 x5 x6 x7 x8 x9 x10 x11 x12 x13 x14 x15 x16 x1 fun x19 x20 x21 x22 x23 x24 x25 x26 x27 x28 x29 x30=>(cp 0 ((npL [(.agg (nR x19 x20 x21 x22 x23 x24 x25 x26 x27 x28 x29 x30))])) (j_Number 0 x19 x20 x21 x22 x23 x24 x25 x26 x27 x28 x29 x30 fun x31 x32 x33 x34 x35 x36 x37 x38 x39 x40 x41 x42 x43 x44 x45 x46=>(cd 1 ((!x45 == 0)) (cq 1 Q (.tup [(.agg (nR 0 0 0 [] false 0 0 0 (bs []) 0 0 [])),(bv false)])) (cp 0 ((npL [(.agg (nR x31 x32 x33 x34 x35 x36 x37 x38 x39 x40 x41 x42)),(iv x43),(.sl 2 x44)])) (j_Resolve10 0 x31 x32 x33 x34 x35 x36 x37 x38 x39 x40 x41 x42 x43 x44 fun x47 x48 x49 x50 x51 x52 x53 x54 x55 x56 x57 x58 x59 x60=>(cq 2 Q (.tup [(.agg (nR x47 x48 x49 x50 x51 x52 x53 x54 x55 x56 x57 x58)),(bv (x59 == 0))])))))))))))))))
theorem w_resolved (x0 x1) (Q : AV → HH → Prop) (h : (t_resolved x0 x1 Q).p) : ∃ r H',A 5 [(.sl 1 x0),(iv x1)] [] r H' ∧ Q r H' :=
 Ans.wq rfl (t_resolved x0 x1 Q).h (by kernel_rfl) h
instance c_resolved {x0 x1} : C (E_resolved x0 x1) (pre_resolved x0 x1) := ⟨fun hp=>by
 unfold E_resolved
 obtain ⟨_,_,ha,x2,x3,x4,x5,x6,x7,x8,x9,x10,x11,x12,x13,x14,hq,rfl,rfl⟩ := w_resolved x0 x1 (fun r H'=>∃ x2 x3 x4 x5 x6 x7 x8 x9 x10 x11 x12 x13 x14,post_resolved x0 x1 x2 x3 x4 x5 x6 x7 x8 x9 x10 x11 x12 x13 x14 ∧ r = (.tup [(.agg (nR x2 x3 x4 x5 x6 x7 x8 x9 x10 x11 x12 x13)),(bv x14)]) ∧ H' = []) (by
  revert hp
  exact tZ)
 exact ⟨x2,x3,x4,x5,x6,x7,x8,x9,x10,x11,x12,x13,x14,hq,ha⟩⟩
end
end Go.Proofs.YtcjcdammcmjbnaaGreat.U
