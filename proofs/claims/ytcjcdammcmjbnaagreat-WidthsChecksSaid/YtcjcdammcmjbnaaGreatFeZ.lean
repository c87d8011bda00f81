/- Walks along trees that find their own way. -/
import Derived.Test.YtcjcdammcmjbnaaGreatFeT
namespace Go.Proofs.YtcjcdammcmjbnaaGreat.U
open Go Go.Vai
set_option linter.unusedVariables false
class C (E : Prop) (p : outParam Prop) : Prop where
 c : p → E
instance (E p : Prop) : CoeFun (C E p) (fun _ => p → E) := ⟨fun h => h.c⟩
class F (p : Nat → Prop) (b : outParam Nat) : Prop where
 f : p b
def ww (x : Int) (t : HC) : HC := t
def cz := zz
def cd := dd
def co := oo
def cp := oo
def cr := oo
def cm := nn
def ca := pA
def cb := pB
def cu := pU
def cn := pN
def ct := pT
section
variable {α β γ δ ε : Type}
def cv1 := @pV1 α
def cv2 := @pV2 α β
def cv3 := @pV3 α β γ
def cv4 := @pV4 α β γ δ
def cv5 := @pV5 α β γ δ ε
def cw1 := @pW1 α
def cw2 := @pW2 α β
end
section
variable {n0 : Nat} {b : Bool} {t u : HC} {o : Option AV} {v : Option Value}
theorem sW {x : Int} (e : w6 x = x) (k : w6 x = x → t.p) : (ww x t).p := k e
theorem sW0 {x : Int} (k : t.p) : (ww x t).p := k
theorem sD {y m : Prop} [BP b y m] (h1 : y → t.p) (h2 : m → u.p) : (cd n0 b t u).p := bS h1 h2
theorem sO (h : b = true) (k : t.p) : (co n0 b t).p := ⟨h, k⟩
theorem sN (h : b = true) (k : t.p) : (cp n0 b t).p := ⟨h, k⟩
theorem sQ (h : b = true) (k : t.p) : (cr n0 b t).p := ⟨h, k⟩
theorem sM (h : b = false) (k : t.p) : (cm n0 b t).p := ⟨h, k⟩
theorem sPA {f : Int → HC} (h : ∃ a : Int, o = some (iv a)) (k : ∀ a : Int, o = some (iv a) → (f a).p) : (ca n0 o f).p := ⟨h, k⟩
theorem sPB {f : Int → Int → HC} (h : ∃ a b : Int, o = some (.agg [iv a, iv b])) (k : ∀ a b : Int, o = some (.agg [iv a, iv b]) → (f a b).p) : (cb n0 o f).p := ⟨h, k⟩
theorem sPU {f : UInt8 → HC} (h : ∃ x : UInt8, v = some (.int .u8 (Int.ofNat x.toNat))) (k : ∀ x : UInt8, v = some (.int .u8 (Int.ofNat x.toNat)) → Int.ofNat x.toNat < 256 → 0 ≤ Int.ofNat x.toNat → (f x).p) : (cu n0 v f).p := ⟨h, fun x e => k x e (u8_lt x).1 (u8_lt x).2⟩
theorem sPN {f : Int → Int → Int → List AV → Bool → Int → Int → Int → ByteArray → Int → Int → List AV → HC} (h : ∃ (k1 : Int) (a1 : Int) (c1 : Int) (s1 : List AV) (g1 : Bool) (n1 : Int) (m1 : Int) (mode1 : Int) (nm1 : ByteArray) (on1 : Int) (off1 : Int) (K1 : List AV), o = some (.agg (nR k1 a1 c1 s1 g1 n1 m1 mode1 nm1 on1 off1 K1))) (k : ∀ (k1 : Int) (a1 : Int) (c1 : Int) (s1 : List AV) (g1 : Bool) (n1 : Int) (m1 : Int) (mode1 : Int) (nm1 : ByteArray) (on1 : Int) (off1 : Int) (K1 : List AV), o = some (.agg (nR k1 a1 c1 s1 g1 n1 m1 mode1 nm1 on1 off1 K1)) → (f k1 a1 c1 s1 g1 n1 m1 mode1 nm1 on1 off1 K1).p) : (cn n0 o f).p := ⟨h, k⟩
theorem sPT {f : Int → Int → Int → Int → List AV → Bool → Int → Int → Int → ByteArray → Int → Int → HC} (h : ∃ (k1 : Int) (a1 : Int) (to1 : Int) (c1 : Int) (s1 : List AV) (g1 : Bool) (n1 : Int) (m1 : Int) (mode1 : Int) (nm1 : ByteArray) (on1 : Int) (off1 : Int), o = some (.agg (kR k1 a1 to1 c1 s1 g1 n1 m1 mode1 nm1 on1 off1))) (k : ∀ (k1 : Int) (a1 : Int) (to1 : Int) (c1 : Int) (s1 : List AV) (g1 : Bool) (n1 : Int) (m1 : Int) (mode1 : Int) (nm1 : ByteArray) (on1 : Int) (off1 : Int), o = some (.agg (kR k1 a1 to1 c1 s1 g1 n1 m1 mode1 nm1 on1 off1)) → (f k1 a1 to1 c1 s1 g1 n1 m1 mode1 nm1 on1 off1).p) : (ct n0 o f).p := ⟨h, k⟩
section
variable {α β γ δ ε : Type}
theorem sP1 {g : α → AV} {f : α → HC} (h : ∃ a, o = some (g a)) (k : ∀ a, o = some (g a) → (f a).p) : (cv1 n0 o g f).p := ⟨h, k⟩
theorem sP2 {g : α → β → AV} {f : α → β → HC} (h : ∃ a b, o = some (g a b)) (k : ∀ a b, o = some (g a b) → (f a b).p) : (cv2 n0 o g f).p := ⟨h, k⟩
theorem sP3 {g : α → β → γ → AV} {f : α → β → γ → HC} (h : ∃ a b c, o = some (g a b c)) (k : ∀ a b c, o = some (g a b c) → (f a b c).p) : (cv3 n0 o g f).p := ⟨h, k⟩
theorem sP4 {g : α → β → γ → δ → AV} {f : α → β → γ → δ → HC} (h : ∃ a b c d, o = some (g a b c d)) (k : ∀ a b c d, o = some (g a b c d) → (f a b c d).p) : (cv4 n0 o g f).p := ⟨h, k⟩
theorem sP5 {g : α → β → γ → δ → ε → AV} {f : α → β → γ → δ → ε → HC} (h : ∃ a b c d e, o = some (g a b c d e)) (k : ∀ a b c d e, o = some (g a b c d e) → (f a b c d e).p) : (cv5 n0 o g f).p := ⟨h, k⟩
theorem sV1 {g : α → Value} {f : α → HC} (h : ∃ a, v = some (g a)) (k : ∀ a, v = some (g a) → (f a).p) : (cw1 n0 v g f).p := ⟨h, k⟩
theorem sV2 {g : α → β → Value} {f : α → β → HC} (h : ∃ a b, v = some (g a b)) (k : ∀ a b, v = some (g a b) → (f a b).p) : (cw2 n0 v g f).p := ⟨h, k⟩
end
theorem sE {E p R : Prop} [C E p] (h : p) (k : R) : E ∧ R := ⟨C.c h, k⟩
theorem sZ {P : Prop} (h : P) : (cz n0 P).p := h
theorem sA {a b R : Prop} (k : a → b → R) : a ∧ b → R := fun h => k h.1 h.2
theorem sR {c q R : Prop} (f : c → q) (k : c → q → R) : c → R := fun h => k h (f h)
end
section
variable {L : List AV} {i : Nat} {k a c : Int} {s : List AV} {g : Bool} {n m mode : Int} {nm : ByteArray} {on off : Int} {K : List AV} {R : Prop}
theorem xN (h : Ns L) (q : L[i]? = some (.agg (nR k a c s g n m mode nm on off K)) → nszL (L.drop i) = nszL K + 1 + nszL (L.drop (i + 1)) → nszL K + 1 ≤ nszL L → SetR s → Ns K → K.length ≤ nszL K → shapeN k n m K → R) : L[i]? = some (.agg (nR k a c s g n m mode nm on off K)) → R := fun e => by
 obtain ⟨h1, h2, h3, h4⟩ := (Ns.elem h e).nw
 exact q e (nsz_drop e) (nsz_get e) h1 h2 h3 h4
theorem xF (h : Nf L) (q : L[i]? = some (.agg (nR k a c s g n m mode nm on off K)) → nszL (L.drop i) = nszL K + 1 + nszL (L.drop (i + 1)) → nszL K + 1 ≤ nszL L → Rs s → Nf K → R) : L[i]? = some (.agg (nR k a c s g n m mode nm on off K)) → R := fun e => q e (nsz_drop e) (nsz_get e) (Nf.elem h e).nw.1 (Nf.elem h e).nw.2
theorem xT {to : Int} (h : Ts L) (q : L[i]? = some (.agg (kR k a to c s g n m mode nm on off)) → SetR s → (k = 9 → 0 ≤ n ∧ n ≤ 255 ∧ -1 ≤ m ∧ m ≤ 255 ∧ (m = -1 ∨ n ≤ m)) → R) : L[i]? = some (.agg (kR k a to c s g n m mode nm on off)) → R := fun e => q e (Ts.elem h e).1 (Ts.elem h e).2
theorem xK {I E x to : Int} (h : Ts L) (h2 : x = kindOf L I E) (h0 : x ≠ 0) (q : L[I.toNat]? = some (.agg (kR k a to c s g n m mode nm on off)) → SetR s → (k = 9 → 0 ≤ n ∧ n ≤ 255 ∧ -1 ≤ m ∧ m ≤ 255 ∧ (m = -1 ∨ n ≤ m)) → x = k → R) : L[I.toNat]? = some (.agg (kR k a to c s g n m mode nm on off)) → R := fun e => q e (Ts.elem h e).1 (Ts.elem h e).2 (kind_at h2 e h0)
theorem xB {n : Int} (h : Bs L) (q : L[i]? = some (.sc (.int .u8 n)) → 0 ≤ n → n < 256 → R) : L[i]? = some (.sc (.int .u8 n)) → R := fun e => q e (Bs.elem h e).1 (Bs.elem h e).2
theorem xW {a b o : Int} {c d : ByteArray} (h : Ws L) (q : L[i]? = some (.agg [iv a, iv b, sv c, sv d, iv o]) → 1 ≤ c.size → R) : L[i]? = some (.agg [iv a, iv b, sv c, sv d, iv o]) → R := fun e => q e (Ws.elem h e)
theorem xS {b : ByteArray} (h : Bs L) (q : (match bytesOf L with | some b => some (Value.string { data := b.toArray }) | none => none) = some (Value.string b) → b.size = L.length → R) : (match bytesOf L with | some b => some (Value.string { data := b.toArray }) | none => none) = some (Value.string b) → R := fun e => q e (Bs.strlen h e)
end
theorem zQ {p : Prop} (h : p := by first | exact hQ | exact tP | fail) : p := h
theorem zI {p : Prop} (h : p := by first | exact hI | exact tP | fail) : p := h
theorem zO {p : Prop} (h : p := by first | exact hO | exact tP | fail) : p := h
theorem zM {p : Prop} (h : p := by first | exact hM | exact tI | fail) : p := h
theorem zD {p : Prop} (h : p := by first | exact hD | exact tD | fail) : p := h
theorem zN {p : Prop} (h : p := by first | exact hN | exact tN | fail) : p := h
theorem zR {p : Prop} (h : p := by first | exact hW | exact tR | fail) : p := h
theorem zG {p : Prop} (h : p := by first | exact hG | exact tG | fail) : p := h
theorem zV {p : Prop} (h : p := by first | exact hV | exact tV | fail) : p := h
theorem zP {p : Prop} (h : p := by first | exact ⟨hR, hP⟩ | exact ⟨hR, tP⟩ | exact hP | exact hI | exact tP | fail) : p := h
theorem zX {p : Prop} (h : p := by first | exact ⟨zO,rfl,rfl⟩ | exact ⟨_,zO,rfl,rfl⟩ | exact ⟨_,_,zO,rfl,rfl⟩ | exact ⟨_,_,_,zO,rfl,rfl⟩ | exact ⟨_,_,_,_,zO,rfl,rfl⟩ | exact ⟨_,_,_,_,_,zO,rfl,rfl⟩ | exact ⟨_,_,_,_,_,_,zO,rfl,rfl⟩ | exact ⟨_,_,_,_,_,_,_,zO,rfl,rfl⟩ | exact ⟨_,_,_,_,_,_,_,_,zO,rfl,rfl⟩ | exact ⟨_,_,_,_,_,_,_,_,_,zO,rfl,rfl⟩ | exact ⟨_,_,_,_,_,_,_,_,_,_,zO,rfl,rfl⟩ | exact ⟨_,_,_,_,_,_,_,_,_,_,_,zO,rfl,rfl⟩ | exact ⟨_,_,_,_,_,_,_,_,_,_,_,_,zO,rfl,rfl⟩ | exact ⟨_,_,_,_,_,_,_,_,_,_,_,_,_,zO,rfl,rfl⟩ | exact ⟨_,_,_,_,_,_,_,_,_,_,_,_,_,_,zO,rfl,rfl⟩ | exact ⟨_,_,_,_,_,_,_,_,_,_,_,_,_,_,_,zO,rfl,rfl⟩ | exact ⟨_,_,_,_,_,_,_,_,_,_,_,_,_,_,_,_,zO,rfl,rfl⟩ | exact ⟨_,_,_,_,_,_,_,_,_,_,_,_,_,_,_,_,_,zO,rfl,rfl⟩ | exact ⟨_,_,_,_,_,_,_,_,_,_,_,_,_,_,_,_,_,_,zO,rfl,rfl⟩ | exact ⟨_,_,_,_,_,_,_,_,_,_,_,_,_,_,_,_,_,_,_,zO,rfl,rfl⟩ | exact ⟨_,_,_,_,_,_,_,_,_,_,_,_,_,_,_,_,_,_,_,_,zO,rfl,rfl⟩ | fail) : p := h
theorem zK {p : Prop} (h : p := by first | exact ⟨zQ,rfl,rfl⟩ | exact ⟨_,zQ,rfl,rfl⟩ | exact ⟨_,_,zQ,rfl,rfl⟩ | exact ⟨_,_,_,zQ,rfl,rfl⟩ | exact ⟨_,_,_,_,zQ,rfl,rfl⟩ | exact ⟨_,_,_,_,_,zQ,rfl,rfl⟩ | exact ⟨_,_,_,_,_,_,zQ,rfl,rfl⟩ | exact ⟨_,_,_,_,_,_,_,zQ,rfl,rfl⟩ | exact ⟨_,_,_,_,_,_,_,_,zQ,rfl,rfl⟩ | exact ⟨_,_,_,_,_,_,_,_,_,zQ,rfl,rfl⟩ | exact ⟨_,_,_,_,_,_,_,_,_,_,zQ,rfl,rfl⟩ | exact ⟨_,_,_,_,_,_,_,_,_,_,_,zQ,rfl,rfl⟩ | exact ⟨_,_,_,_,_,_,_,_,_,_,_,_,zQ,rfl,rfl⟩ | exact ⟨_,_,_,_,_,_,_,_,_,_,_,_,_,zQ,rfl,rfl⟩ | exact ⟨_,_,_,_,_,_,_,_,_,_,_,_,_,_,zQ,rfl,rfl⟩ | exact ⟨_,_,_,_,_,_,_,_,_,_,_,_,_,_,_,zQ,rfl,rfl⟩ | exact ⟨_,_,_,_,_,_,_,_,_,_,_,_,_,_,_,_,zQ,rfl,rfl⟩ | exact .inl ⟨rfl,(),rfl,zI,zM⟩ | exact .inl ⟨rfl,_,rfl,zI,zM⟩ | exact .inl ⟨rfl,(_,_),rfl,zI,zM⟩ | exact .inl ⟨rfl,(_,_,_),rfl,zI,zM⟩ | exact .inl ⟨rfl,(_,_,_,_),rfl,zI,zM⟩ | exact .inl ⟨rfl,(_,_,_,_,_),rfl,zI,zM⟩ | exact .inl ⟨rfl,(_,_,_,_,_,_),rfl,zI,zM⟩ | exact .inl ⟨rfl,(_,_,_,_,_,_,_),rfl,zI,zM⟩ | exact .inl ⟨rfl,(_,_,_,_,_,_,_,_),rfl,zI,zM⟩ | exact .inl ⟨rfl,(_,_,_,_,_,_,_,_,_),rfl,zI,zM⟩ | exact .inl ⟨rfl,(_,_,_,_,_,_,_,_,_,_),rfl,zI,zM⟩ | exact .inl ⟨rfl,(_,_,_,_,_,_,_,_,_,_,_),rfl,zI,zM⟩ | exact .inl ⟨rfl,(_,_,_,_,_,_,_,_,_,_,_,_),rfl,zI,zM⟩ | (refine .inr ⟨by simp, ?_⟩; first | exact zX | exact .inl zX | exact .inr zX | exact .inr (.inl zX) | exact .inr (.inr zX) | exact .inr (.inr (.inl zX)) | exact .inr (.inr (.inr zX)) | exact .inr (.inr (.inr (.inl zX))) | exact .inr (.inr (.inr (.inr zX))) | exact .inr (.inr (.inr (.inr (.inl zX)))) | exact .inr (.inr (.inr (.inr (.inr zX)))) | fail) | exact hB | (exfalso; omega) | fail) : p := h
theorem tZ {p : Prop} (h : p := by repeat' first | (with_reducible refine sA ?_) | ((with_reducible refine sD ?_ ?_) <;> try with_reducible refine sR (by with_reducible assumption) ?_) | (with_reducible refine sW ?_ ?_; · exact tW _) | (with_reducible refine sW0 ?_) | (with_reducible refine sO ?_ ?_; · exact zD) | (with_reducible refine sN ?_ ?_; · exact zN) | (with_reducible refine sQ ?_ ?_; · exact zR) | (with_reducible refine sM ?_ ?_; · exact zD) | (with_reducible refine sE ?_ ?_; · exact zP) | (with_reducible refine sZ ?_; exact zK) | (with_reducible refine sPN ?_ ?_; · exact zG) | (with_reducible refine sPA ?_ ?_; · exact zG) | (with_reducible refine sPB ?_ ?_; · exact zG) | (with_reducible refine sPT ?_ ?_; · exact zG) | (with_reducible refine sPU ?_ ?_; · exact zV) | (with_reducible refine xN (by with_reducible assumption) ?_; intro _) | (with_reducible refine xF (by with_reducible assumption) ?_; intro _) | (with_reducible refine xK (by with_reducible assumption) (by with_reducible assumption) (by omega) ?_; intro _) | (with_reducible refine xT (by with_reducible assumption) ?_; intro _) | (with_reducible refine xB (by with_reducible assumption) ?_; intro _) | (with_reducible refine xW (by with_reducible assumption) ?_; intro _) | (refine xS (by with_reducible assumption) ?_; intro _) | (with_reducible refine And.intro ?_ ?_) | (intro z; try replace z := nz z) | (refine sP1 ?_ ?_; · exact zG) | (refine sP2 ?_ ?_; · exact zG) | (refine sP3 ?_ ?_; · exact zG) | (refine sP4 ?_ ?_; · exact zG) | (refine sP5 ?_ ?_; · exact zG) | (refine sV1 ?_ ?_; · exact zV) | (refine sV2 ?_ ?_; · exact zV)) : p := h
abbrev cq (n : Nat) (Q : AV → HH → Prop) (r : AV) : HC := cz n (Q r [])
end Go.Proofs.YtcjcdammcmjbnaaGreat.U
