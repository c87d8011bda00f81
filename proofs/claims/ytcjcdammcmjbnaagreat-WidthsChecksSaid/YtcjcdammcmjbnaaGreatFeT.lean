/- Trees that tell at once what must hold and how it is shown: the hint, the statement. -/
import Derived.Test.YtcjcdammcmjbnaaGreatFeV
namespace Go.Proofs.YtcjcdammcmjbnaaGreat.U
open Go Go.Vai
set_option linter.unusedVariables false
structure HC : Type 1 where
 h : HS
 p : Prop
abbrev zz (n : Nat) (P : Prop) : HC := ⟨.ev n .stop, P⟩
abbrev dd (n : Nat) (b : Bool) (t u : HC) : HC := ⟨.ev n (.split t.h u.h), D b t.p u.p⟩
abbrev oo (n : Nat) (b : Bool) (t : HC) : HC := ⟨.ev n (.one true t.h), b = true ∧ t.p⟩
abbrev nn (n : Nat) (b : Bool) (t : HC) : HC := ⟨.ev n (.one false t.h), b = false ∧ t.p⟩
abbrev pA (n : Nat) (o : Option AV) (f : Int → HC) : HC := ⟨.ev n (.ask (gA fun a => (f a).h)), G1 o fun a => (f a).p⟩
abbrev pB (n : Nat) (o : Option AV) (f : Int → Int → HC) : HC := ⟨.ev n (.ask (gB fun a b => (f a b).h)), G2 o fun a b => (f a b).p⟩
abbrev pU (n : Nat) (o : Option Value) (f : UInt8 → HC) : HC := ⟨.ev n (.ask (gU fun a => (f a).h)), GU o fun a => (f a).p⟩
abbrev pN (n : Nat) (o : Option AV) (f : Int → Int → Int → List AV → Bool → Int → Int → Int → ByteArray → Int → Int → List AV → HC) : HC := ⟨.ev n (.ask (gN fun a b c d e f1 g h i j k l => (f a b c d e f1 g h i j k l).h)), GN o fun a b c d e f1 g h i j k l => (f a b c d e f1 g h i j k l).p⟩
abbrev pT (n : Nat) (o : Option AV) (f : Int → Int → Int → Int → List AV → Bool → Int → Int → Int → ByteArray → Int → Int → HC) : HC := ⟨.ev n (.ask (gT fun a b c d e f1 g h i j k l => (f a b c d e f1 g h i j k l).h)), GT o fun a b c d e f1 g h i j k l => (f a b c d e f1 g h i j k l).p⟩
section
variable {α β γ δ : Type}
abbrev pV1 (n : Nat) (o : Option AV) (g : α → AV) (f : α → HC) : HC := ⟨.ev n (.ask (.ex α fun a => .done (.av (g a)) (f a).h)), (∃ a, o = some (g a)) ∧ ∀ a, o = some (g a) → (f a).p⟩
abbrev pV2 (n : Nat) (o : Option AV) (g : α → β → AV) (f : α → β → HC) : HC := ⟨.ev n (.ask (.ex α fun a => .ex β fun b => .done (.av (g a b)) (f a b).h)), (∃ a b, o = some (g a b)) ∧ ∀ a b, o = some (g a b) → (f a b).p⟩
abbrev pV3 (n : Nat) (o : Option AV) (g : α → β → γ → AV) (f : α → β → γ → HC) : HC := ⟨.ev n (.ask (.ex α fun a => .ex β fun b => .ex γ fun c => .done (.av (g a b c)) (f a b c).h)), (∃ a b c, o = some (g a b c)) ∧ ∀ a b c, o = some (g a b c) → (f a b c).p⟩
abbrev pV4 (n : Nat) (o : Option AV) (g : α → β → γ → δ → AV) (f : α → β → γ → δ → HC) : HC := ⟨.ev n (.ask (.ex α fun a => .ex β fun b => .ex γ fun c => .ex δ fun d => .done (.av (g a b c d)) (f a b c d).h)), (∃ a b c d, o = some (g a b c d)) ∧ ∀ a b c d, o = some (g a b c d) → (f a b c d).p⟩
abbrev pV5 {ε : Type} (n : Nat) (o : Option AV) (g : α → β → γ → δ → ε → AV) (f : α → β → γ → δ → ε → HC) : HC := ⟨.ev n (.ask (.ex α fun a => .ex β fun b => .ex γ fun c => .ex δ fun d => .ex ε fun e => .done (.av (g a b c d e)) (f a b c d e).h)), (∃ a b c d e, o = some (g a b c d e)) ∧ ∀ a b c d e, o = some (g a b c d e) → (f a b c d e).p⟩
abbrev pW1 (n : Nat) (o : Option Value) (g : α → Value) (f : α → HC) : HC := ⟨.ev n (.ask (.ex α fun a => .done (.va (g a)) (f a).h)), (∃ a, o = some (g a)) ∧ ∀ a, o = some (g a) → (f a).p⟩
abbrev pW2 (n : Nat) (o : Option Value) (g : α → β → Value) (f : α → β → HC) : HC := ⟨.ev n (.ask (.ex α fun a => .ex β fun b => .done (.va (g a b)) (f a b).h)), (∃ a b, o = some (g a b)) ∧ ∀ a b, o = some (g a b) → (f a b).p⟩
end
abbrev qq (n : Nat) (Q : AV → HH → Prop) (r : AV) : HC := zz n (Q r [])
abbrev gZ (a b c : Int) : List AV := gR 0 0 0 0 [] false 0 0 0 (bs []) 0 0 false a b c
theorem lN : (∀ (a : AV) (l : List AV), (a :: l).length = l.length + 1) ∧ ([] : List AV).length = 0 ∧ (∀ l m : List AV, (l ++ m).length = l.length + m.length) ∧ nszL [] = 0 ∧ (∀ v r, nszL (v :: r) = nszV v + nszL r) ∧ (∀ l m, nszL (l ++ m) = nszL l + nszL m) ∧ (∀ (k a c : Int) (s : List AV) (g : Bool) (n m mode : Int) (nm : ByteArray) (on off : Int) (K : List AV), nszV (.agg (nR k a c s g n m mode nm on off K)) = nszL K + 1) := ⟨fun _ _ => List.length_cons, List.length_nil, fun _ _ => List.length_append, nszL_nil, nszL_cons, nszL_app, nszV_nd⟩
section
variable {k a c : Int} {s : List AV} {g : Bool} {n m mode : Int} {nm : ByteArray} {on off : Int} {K l : List AV} {i : Nat}
theorem elN (h : Ns l) (e : l[i]? = some (.agg (nR k a c s g n m mode nm on off K))) : nszL (l.drop i) = nszL K + 1 + nszL (l.drop (i + 1)) ∧ NV (.agg (nR k a c s g n m mode nm on off K)) ∧ nszL K + 1 ≤ nszL l ∧ SetR s ∧ Ns K ∧ K.length ≤ nszL K ∧ shapeN k n m K := ⟨nsz_drop e, h.elem e, nsz_get e, (h.elem e).nw⟩
theorem elF (h : Nf l) (e : l[i]? = some (.agg (nR k a c s g n m mode nm on off K))) : nszL (l.drop i) = nszL K + 1 + nszL (l.drop (i + 1)) ∧ NF (.agg (nR k a c s g n m mode nm on off K)) ∧ nszL K + 1 ≤ nszL l ∧ Rs s ∧ Nf K := ⟨nsz_drop e, h.elem e, nsz_get e, (h.elem e).nw⟩
end
end Go.Proofs.YtcjcdammcmjbnaaGreat.U
