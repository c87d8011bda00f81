/- Widths: what the laws and the reference ask and answer. -/
import Derived.Test.YtcjcdammcmjbnaaWdB1
namespace Go.Proofs.Ytcjcdammcmjbnaa.U
open Go Go.Vai Go.Flo
set_option linter.unusedVariables false
def hW (root : AV) (w : Bool) : Int → Int × Int := if w then hT else hF root
def rk (w : Bool) : Nat := if w then 0 else 300001
theorem mulW {a b : Int} (h0 : 0 ≤ a) (h1 : a ≤ 1000) (h2 : 0 ≤ b) (h3 : b ≤ 255) : w6 (a * b) = a * b ∧ 0 ≤ a * b := by
 have h4 : a * b ≤ 1000 * 255 := Int.mul_le_mul h1 h3 h2 (by omega)
 have h5 := Int.mul_nonneg h0 h2
 exact ⟨tW (a * b), h5⟩
section
variable {k a c : Int} {s : List AV} {g : Bool} {n m mode : Int} {nm : ByteArray} {on off : Int} {K : List AV} {h : Int → Int × Int} {r : Bool} {x y : AV} {t t0 t1 : Int × Int}
end
section
variable {h : Int → Int × Int} {n : Int} {K : List AV} {x y : AV} {a b c d : Int} {t : Int × Int}
end
abbrev pre_awake : Prop := True
abbrev post_awake (r : Bool) : Prop := r = true
abbrev pre_WidthsBounds (b : List AV) (o : Int) : Prop := Bs b ∧ b.length ≤ 9223372036854775807
abbrev post_WidthsBounds (b : List AV) (o : Int) (r : Bool) : Prop := r = true
abbrev pre_WidthsSays (b : List AV) (o : Int) : Prop := Bs b ∧ b.length ≤ 9223372036854775807
abbrev post_WidthsSays (b : List AV) (o : Int) (r : Bool) : Prop := r = true
abbrev rank_accR (k a c : Int) (s : List AV) (g : Bool) (n m mode : Int) (nm : ByteArray) (on off : Int) (K : List AV) : Nat := nszL K
abbrev pre_accR (k a c : Int) (s : List AV) (g : Bool) (n m mode : Int) (nm : ByteArray) (on off : Int) (K : List AV) : Prop := NW k a c s g n m mode nm on off K ∧ nszL K ≤ 300000
abbrev post_accR (k a c : Int) (s : List AV) (g : Bool) (n m mode : Int) (nm : ByteArray) (on off : Int) (K : List AV) (r : Bool) : Prop := r = accV (.agg (nR k a c s g n m mode nm on off K))
abbrev inv_accR_0 (B : Nat) (k a c : Int) (s : List AV) (g : Bool) (n m mode : Int) (nm : ByteArray) (on off : Int) (K : List AV) (io i : Int) : Prop := nszL K ≤ B ∧ NW k a c s g n m mode nm on off K ∧ nszL K ≤ 300000 ∧ 0 ≤ i ∧ i ≤ K.length ∧ accL (K.take i.toNat) = false
abbrev mu_accR_0 (k a c : Int) (s : List AV) (g : Bool) (n m mode : Int) (nm : ByteArray) (on off : Int) (K : List AV) (i : Int) : Nat := (K.length - i).toNat
abbrev out_accR_0_0 (k a c : Int) (s : List AV) (g : Bool) (n m mode : Int) (nm : ByteArray) (on off : Int) (K : List AV) (io : Int) : Prop := accL K = true
abbrev out_accR_0_1 (k a c : Int) (s : List AV) (g : Bool) (n m mode : Int) (nm : ByteArray) (on off : Int) (K : List AV) (io i : Int) : Prop := accL K = false
abbrev rank_GroupR (k a c : Int) (s : List AV) (g : Bool) (n m mode : Int) (nm : ByteArray) (on off : Int) (K : List AV) (x : Int) : Nat := nszL K
abbrev pre_GroupR (k a c : Int) (s : List AV) (g : Bool) (n m mode : Int) (nm : ByteArray) (on off : Int) (K : List AV) (x : Int) : Prop := NW k a c s g n m mode nm on off K ∧ nszL K ≤ 300000
abbrev post_GroupR (k a c : Int) (s : List AV) (g : Bool) (n m mode : Int) (nm : ByteArray) (on off : Int) (K : List AV) (x : Int) (k1 a1 c1 : Int) (s1 : List AV) (g1 : Bool) (n1 m1 mode1 : Int) (nm1 : ByteArray) (on1 off1 : Int) (K1 : List AV) (r : Bool) : Prop := (r = true → NW k1 a1 c1 s1 g1 n1 m1 mode1 nm1 on1 off1 K1 ∧ nszL K1 ≤ nszL K ∧ grpR x (.agg (nR k a c s g n m mode nm on off K)) = some (.agg (nR k1 a1 c1 s1 g1 n1 m1 mode1 nm1 on1 off1 K1))) ∧ (r = false → grpR x (.agg (nR k a c s g n m mode nm on off K)) = none)
abbrev inv_GroupR_0 (B : Nat) (x : Int) (k a c : Int) (s : List AV) (g : Bool) (n m mode : Int) (nm : ByteArray) (on off : Int) (K : List AV) (io i : Int) : Prop := nszL K ≤ B ∧ NW k a c s g n m mode nm on off K ∧ nszL K ≤ 300000 ∧ 0 ≤ i ∧ i ≤ K.length ∧ x ≠ 0 ∧ grpL x (K.take i.toNat) = none
abbrev mu_GroupR_0 (x : Int) (k a c : Int) (s : List AV) (g : Bool) (n m mode : Int) (nm : ByteArray) (on off : Int) (K : List AV) (i : Int) : Nat := (K.length - i).toNat
abbrev out_GroupR_0_0 (x : Int) (k a c : Int) (s : List AV) (g : Bool) (n m mode : Int) (nm : ByteArray) (on off : Int) (K : List AV) (io : Int) (k1 a1 c1 : Int) (s1 : List AV) (g1 : Bool) (n1 m1 mode1 : Int) (nm1 : ByteArray) (on1 off1 : Int) (K1 : List AV) : Prop := NW k1 a1 c1 s1 g1 n1 m1 mode1 nm1 on1 off1 K1 ∧ nszL K1 ≤ nszL K ∧ grpL x K = some (.agg (nR k1 a1 c1 s1 g1 n1 m1 mode1 nm1 on1 off1 K1))
abbrev out_GroupR_0_1 (x : Int) (k a c : Int) (s : List AV) (g : Bool) (n m mode : Int) (nm : ByteArray) (on off : Int) (K : List AV) (io i : Int) : Prop := grpL x K = none
abbrev pre_cutR (a b : Int) : Prop := 0 ≤ a ∧ -1 ≤ b
abbrev post_cutR (a b c d : Int) : Prop := (c, d) = cutP a b ∧ 0 ≤ c ∧ c ≤ 1000 ∧ -1 ≤ d ∧ d ≤ 1000
abbrev pre_orR (a b c d : Int) : Prop := 0 ≤ a ∧ a ≤ 1000 ∧ -1 ≤ b ∧ b ≤ 1000 ∧ 0 ≤ c ∧ c ≤ 1000 ∧ -1 ≤ d ∧ d ≤ 1000
abbrev post_orR (a b c d e f : Int) : Prop := (e, f) = orP (a, b) (c, d) ∧ 0 ≤ e ∧ e ≤ 1000 ∧ -1 ≤ f ∧ f ≤ 1000
abbrev rank_WidthR (k a c : Int) (s : List AV) (g : Bool) (n m mode : Int) (nm : ByteArray) (on off : Int) (K : List AV) (b1 b2 b3 : Int) (b4 : List AV) (b5 : Bool) (b6 b7 b8 : Int) (b9 : ByteArray) (b10 b11 : Int) (b12 : List AV) (w : Bool) : Nat := rk w + nszL K
abbrev pre_WidthR (k a c : Int) (s : List AV) (g : Bool) (n m mode : Int) (nm : ByteArray) (on off : Int) (K : List AV) (b1 b2 b3 : Int) (b4 : List AV) (b5 : Bool) (b6 b7 b8 : Int) (b9 : ByteArray) (b10 b11 : Int) (b12 : List AV) (w : Bool) : Prop := NW k a c s g n m mode nm on off K ∧ nszL K ≤ 300000 ∧ NW b1 b2 b3 b4 b5 b6 b7 b8 b9 b10 b11 b12 ∧ nszL b12 ≤ 300000
abbrev post_WidthR (k a c : Int) (s : List AV) (g : Bool) (n m mode : Int) (nm : ByteArray) (on off : Int) (K : List AV) (b1 b2 b3 : Int) (b4 : List AV) (b5 : Bool) (b6 b7 b8 : Int) (b9 : ByteArray) (b10 b11 : Int) (b12 : List AV) (w : Bool) (lo hi : Int) : Prop := (lo, hi) = widV (hW (.agg (nR b1 b2 b3 b4 b5 b6 b7 b8 b9 b10 b11 b12)) w) (.agg (nR k a c s g n m mode nm on off K)) ∧ 0 ≤ lo ∧ lo ≤ 1000 ∧ -1 ≤ hi ∧ hi ≤ 1000
abbrev inv_WidthR_0 (B : Nat) (w : Bool) (k a c : Int) (s : List AV) (g : Bool) (n m mode : Int) (nm : ByteArray) (on off : Int) (K : List AV) (b1 b2 b3 : Int) (b4 : List AV) (b5 : Bool) (b6 b7 b8 : Int) (b9 : ByteArray) (b10 b11 : Int) (b12 : List AV) (lo0 hi0 io lo hi i : Int) : Prop := rk w + nszL K ≤ B ∧ NW k a c s g n m mode nm on off K ∧ nszL K ≤ 300000 ∧ NW b1 b2 b3 b4 b5 b6 b7 b8 b9 b10 b11 b12 ∧ nszL b12 ≤ 300000 ∧ 0 ≤ i ∧ i ≤ K.length ∧ 0 ≤ lo ∧ lo ≤ 1000 ∧ -1 ≤ hi ∧ hi ≤ 1000 ∧ (lo, hi) = seqI (widL (hW (.agg (nR b1 b2 b3 b4 b5 b6 b7 b8 b9 b10 b11 b12)) w) K) i.toNat
abbrev mu_WidthR_0 (w : Bool) (k a c : Int) (s : List AV) (g : Bool) (n m mode : Int) (nm : ByteArray) (on off : Int) (K : List AV) (b1 b2 b3 : Int) (b4 : List AV) (b5 : Bool) (b6 b7 b8 : Int) (b9 : ByteArray) (b10 b11 : Int) (b12 : List AV) (lo hi i : Int) : Nat := (K.length - i).toNat
abbrev out_WidthR_0_0 (w : Bool) (k a c : Int) (s : List AV) (g : Bool) (n m mode : Int) (nm : ByteArray) (on off : Int) (K : List AV) (b1 b2 b3 : Int) (b4 : List AV) (b5 : Bool) (b6 b7 b8 : Int) (b9 : ByteArray) (b10 b11 : Int) (b12 : List AV) (lo0 hi0 io lo hi i : Int) : Prop := 0 ≤ lo ∧ lo ≤ 1000 ∧ -1 ≤ hi ∧ hi ≤ 1000 ∧ (lo, hi) = seqI (widL (hW (.agg (nR b1 b2 b3 b4 b5 b6 b7 b8 b9 b10 b11 b12)) w) K) K.length
abbrev inv_WidthR_1 (B : Nat) (w : Bool) (k a c : Int) (s : List AV) (g : Bool) (n m mode : Int) (nm : ByteArray) (on off : Int) (K : List AV) (b1 b2 b3 : Int) (b4 : List AV) (b5 : Bool) (b6 b7 b8 : Int) (b9 : ByteArray) (b10 b11 : Int) (b12 : List AV) (lo0 hi0 io lo hi i : Int) : Prop := rk w + nszL K ≤ B ∧ NW k a c s g n m mode nm on off K ∧ nszL K ≤ 300000 ∧ NW b1 b2 b3 b4 b5 b6 b7 b8 b9 b10 b11 b12 ∧ nszL b12 ≤ 300000 ∧ 1 ≤ i ∧ i ≤ K.length ∧ 0 ≤ lo ∧ lo ≤ 1000 ∧ -1 ≤ hi ∧ hi ≤ 1000 ∧ (lo, hi) = tailI (lo0, hi0) (widL (hW (.agg (nR b1 b2 b3 b4 b5 b6 b7 b8 b9 b10 b11 b12)) w) (K.drop 1)) (i - 1).toNat
abbrev mu_WidthR_1 (w : Bool) (k a c : Int) (s : List AV) (g : Bool) (n m mode : Int) (nm : ByteArray) (on off : Int) (K : List AV) (b1 b2 b3 : Int) (b4 : List AV) (b5 : Bool) (b6 b7 b8 : Int) (b9 : ByteArray) (b10 b11 : Int) (b12 : List AV) (lo hi i : Int) : Nat := (K.length - i).toNat
abbrev out_WidthR_1_0 (w : Bool) (k a c : Int) (s : List AV) (g : Bool) (n m mode : Int) (nm : ByteArray) (on off : Int) (K : List AV) (b1 b2 b3 : Int) (b4 : List AV) (b5 : Bool) (b6 b7 b8 : Int) (b9 : ByteArray) (b10 b11 : Int) (b12 : List AV) (lo0 hi0 io lo hi i : Int) : Prop := 0 ≤ lo ∧ lo ≤ 1000 ∧ -1 ≤ hi ∧ hi ≤ 1000 ∧ (lo, hi) = tailI (lo0, hi0) (widL (hW (.agg (nR b1 b2 b3 b4 b5 b6 b7 b8 b9 b10 b11 b12)) w) (K.drop 1)) (K.drop 1).length
abbrev rank_allS (k a c : Int) (s : List AV) (g : Bool) (n m mode : Int) (nm : ByteArray) (on off : Int) (K : List AV) (b1 b2 b3 : Int) (b4 : List AV) (b5 : Bool) (b6 b7 b8 : Int) (b9 : ByteArray) (b10 b11 : Int) (b12 : List AV) : Nat := nszL K
abbrev pre_allS (k a c : Int) (s : List AV) (g : Bool) (n m mode : Int) (nm : ByteArray) (on off : Int) (K : List AV) (b1 b2 b3 : Int) (b4 : List AV) (b5 : Bool) (b6 b7 b8 : Int) (b9 : ByteArray) (b10 b11 : Int) (b12 : List AV) : Prop := NW k a c s g n m mode nm on off K ∧ nszL K ≤ 300000 ∧ NW b1 b2 b3 b4 b5 b6 b7 b8 b9 b10 b11 b12 ∧ nszL b12 ≤ 300000
abbrev post_allS (k a c : Int) (s : List AV) (g : Bool) (n m mode : Int) (nm : ByteArray) (on off : Int) (K : List AV) (b1 b2 b3 : Int) (b4 : List AV) (b5 : Bool) (b6 b7 b8 : Int) (b9 : ByteArray) (b10 b11 : Int) (b12 : List AV) (r : Bool) : Prop := r = true
abbrev inv_allS_0 (B : Nat) (k a c : Int) (s : List AV) (g : Bool) (n m mode : Int) (nm : ByteArray) (on off : Int) (K : List AV) (b1 b2 b3 : Int) (b4 : List AV) (b5 : Bool) (b6 b7 b8 : Int) (b9 : ByteArray) (b10 b11 : Int) (b12 : List AV) (io i : Int) : Prop := nszL K ≤ B ∧ NW k a c s g n m mode nm on off K ∧ nszL K ≤ 300000 ∧ NW b1 b2 b3 b4 b5 b6 b7 b8 b9 b10 b11 b12 ∧ nszL b12 ≤ 300000 ∧ 0 ≤ i ∧ i ≤ K.length
abbrev mu_allS_0 (k a c : Int) (s : List AV) (g : Bool) (n m mode : Int) (nm : ByteArray) (on off : Int) (K : List AV) (b1 b2 b3 : Int) (b4 : List AV) (b5 : Bool) (b6 b7 b8 : Int) (b9 : ByteArray) (b10 b11 : Int) (b12 : List AV) (i : Int) : Nat := (K.length - i).toNat
abbrev out_allS_0_0 (k a c : Int) (s : List AV) (g : Bool) (n m mode : Int) (nm : ByteArray) (on off : Int) (K : List AV) (b1 b2 b3 : Int) (b4 : List AV) (b5 : Bool) (b6 b7 b8 : Int) (b9 : ByteArray) (b10 b11 : Int) (b12 : List AV) (io : Int) : Prop := False
abbrev out_allS_0_1 (k a c : Int) (s : List AV) (g : Bool) (n m mode : Int) (nm : ByteArray) (on off : Int) (K : List AV) (b1 b2 b3 : Int) (b4 : List AV) (b5 : Bool) (b6 b7 b8 : Int) (b9 : ByteArray) (b10 b11 : Int) (b12 : List AV) (io i : Int) : Prop := True
end Go.Proofs.Ytcjcdammcmjbnaa.U
