/- Widths: what the program's functions ask and answer, within bounds. -/
import Derived.Test.YtcjcdammcmjbnaaGreatWidH
namespace Go.Proofs.YtcjcdammcmjbnaaGreat.U
open Go Go.Vai Go.Flo
set_option linter.unusedVariables false
abbrev rank_accW (k a c : Int) (s : List AV) (g : Bool) (n m mode : Int) (nm : ByteArray) (on off : Int) (K : List AV) : Nat := 3 * nszL K + 2
abbrev pre_accW (k a c : Int) (s : List AV) (g : Bool) (n m mode : Int) (nm : ByteArray) (on off : Int) (K : List AV) : Prop := NW k a c s g n m mode nm on off K ∧ nszL K ≤ 300000
abbrev post_accW (k a c : Int) (s : List AV) (g : Bool) (n m mode : Int) (nm : ByteArray) (on off : Int) (K : List AV) (r : Bool) : Prop := r = accV (.agg (nR k a c s g n m mode nm on off K))
abbrev rank_CFW (l : List AV) : Nat := 3 * nszL l + 1
abbrev pre_CFW (l : List AV) : Prop := Ns l ∧ nszL l ≤ 300000 ∧ l.length ≤ nszL l
abbrev post_CFW (l : List AV) (r : Bool) : Prop := r = accL l
abbrev rank_IXW (l : List AV) : Nat := 3 * nszL l
abbrev pre_IXW (l : List AV) : Prop := Ns l ∧ nszL l ≤ 300000 ∧ l.length ≤ nszL l
abbrev post_IXW (l : List AV) (r : Int) : Prop := decide (r ≥ 0) = accL l
abbrev inv_IXW_0 (B : Nat) (l : List AV) (n : Int) (io i : Int) : Prop := 3 * nszL l ≤ B ∧ Ns l ∧ nszL l ≤ 300000 ∧ l.length ≤ nszL l ∧ n = l.length ∧ 0 ≤ i ∧ i ≤ l.length ∧ accL (l.take i.toNat) = false
abbrev mu_IXW_0 (l : List AV) (n : Int) (i : Int) : Nat := (n - i).toNat
abbrev out_IXW_0_0 (l : List AV) (n : Int) (io y : Int) : Prop := 0 ≤ y ∧ accL l = true
abbrev out_IXW_0_1 (l : List AV) (n : Int) (io y : Int) : Prop := accL l = false
abbrev rank_groupW (k a c : Int) (s : List AV) (g : Bool) (n m mode : Int) (nm : ByteArray) (on off : Int) (K : List AV) (x : Int) : Nat := nszL K
abbrev pre_groupW (k a c : Int) (s : List AV) (g : Bool) (n m mode : Int) (nm : ByteArray) (on off : Int) (K : List AV) (x : Int) : Prop := NW k a c s g n m mode nm on off K ∧ nszL K ≤ 300000
abbrev post_groupW (k a c : Int) (s : List AV) (g : Bool) (n m mode : Int) (nm : ByteArray) (on off : Int) (K : List AV) (x : Int) (k1 a1 c1 : Int) (s1 : List AV) (g1 : Bool) (n1 m1 mode1 : Int) (nm1 : ByteArray) (on1 off1 : Int) (K1 : List AV) (r : Bool) : Prop := (r = true → NW k1 a1 c1 s1 g1 n1 m1 mode1 nm1 on1 off1 K1 ∧ nszL K1 ≤ nszL K ∧ grpR x (.agg (nR k a c s g n m mode nm on off K)) = some (.agg (nR k1 a1 c1 s1 g1 n1 m1 mode1 nm1 on1 off1 K1))) ∧ (r = false → grpR x (.agg (nR k a c s g n m mode nm on off K)) = none)
abbrev inv_groupW_0 (B : Nat) (x : Int) (l : List AV) (n : Int) (io i : Int) : Prop := nszL l ≤ B ∧ Ns l ∧ nszL l ≤ 300000 ∧ l.length ≤ nszL l ∧ n = l.length ∧ 0 ≤ i ∧ i ≤ l.length ∧ x ≠ 0 ∧ grpL x (l.take i.toNat) = none
abbrev mu_groupW_0 (x : Int) (l : List AV) (n : Int) (i : Int) : Nat := (n - i).toNat
abbrev out_groupW_0_0 (x : Int) (l : List AV) (n : Int) (io : Int) (k1 a1 c1 : Int) (s1 : List AV) (g1 : Bool) (n1 m1 mode1 : Int) (nm1 : ByteArray) (on1 off1 : Int) (K1 : List AV) : Prop := NW k1 a1 c1 s1 g1 n1 m1 mode1 nm1 on1 off1 K1 ∧ nszL K1 ≤ nszL l ∧ grpL x l = some (.agg (nR k1 a1 c1 s1 g1 n1 m1 mode1 nm1 on1 off1 K1))
abbrev out_groupW_0_1 (x : Int) (l : List AV) (n : Int) (io y : Int) : Prop := grpL x l = none
abbrev pre_plus (x y u v : Nat) : Prop := WO x y ∧ WO u v
abbrev post_plus (x y u v a b : Nat) : Prop := WE a b (plusP (dW x y) (dW u v))
abbrev pre_orW (x y u v : Nat) : Prop := WO x y ∧ WO u v
abbrev post_orW (x y u v a b : Nat) : Prop := WE a b (orP (dW x y) (dW u v))
abbrev pre_rep (x y : Nat) (k a c : Int) (s : List AV) (g : Bool) (n m mode : Int) (nm : ByteArray) (on off : Int) (K : List AV) : Prop := WO x y ∧ 0 ≤ n ∧ n ≤ 255 ∧ -1 ≤ m ∧ m ≤ 255 ∧ (m = -1 ∨ n ≤ m)
abbrev post_rep (x y : Nat) (k a c : Int) (s : List AV) (g : Bool) (n m mode : Int) (nm : ByteArray) (on off : Int) (K : List AV) (u v : Nat) : Prop := WE u v (repP (dW x y) n m)
abbrev pre_toldW (x y : Nat) : Prop := WO x y
abbrev post_toldW (x y : Nat) (r s : Int) : Prop := (r, s) = dW x y
abbrev rank_nodeT (k a c : Int) (s : List AV) (g : Bool) (n m mode : Int) (nm : ByteArray) (on off : Int) (K : List AV) (r1 r2 : List AV) : Nat := 4 * nszL K + 2
abbrev pre_nodeT (k a c : Int) (s : List AV) (g : Bool) (n m mode : Int) (nm : ByteArray) (on off : Int) (K : List AV) (r1 r2 : List AV) : Prop := NW k a c s g n m mode nm on off K ∧ nszL K ≤ 300000 ∧ RootW r1 false ∧ RootW r2 true
abbrev post_nodeT (k a c : Int) (s : List AV) (g : Bool) (n m mode : Int) (nm : ByteArray) (on off : Int) (K : List AV) (r1 r2 : List AV) (u v : Nat) : Prop := WE u v (widV hT (.agg (nR k a c s g n m mode nm on off K)))
abbrev inv_nodeT_0 (B : Nat) (l : List AV) (n : Int) (r1 r2 : List AV) (uo vo : Nat) (io : Int) (u v : Nat) (i : Int) : Prop := 4 * nszL l + 2 ≤ B ∧ Ns l ∧ nszL l ≤ 300000 ∧ l.length ≤ nszL l ∧ RootW r1 false ∧ RootW r2 true ∧ n = l.length ∧ 0 ≤ i ∧ i ≤ l.length ∧ WE u v (seqI (widL hT l) i.toNat)
abbrev mu_nodeT_0 (l : List AV) (n : Int) (r1 r2 : List AV) (u v : Nat) (i : Int) : Nat := (n - i).toNat
abbrev out_nodeT_0_0 (l : List AV) (n : Int) (r1 r2 : List AV) (uo vo : Nat) (io : Int) (u v : Nat) (i : Int) : Prop := WE u v (seqI (widL hT l) l.length)
abbrev rank_anyT (l : List AV) (r1 r2 : List AV) : Nat := 4 * nszL l
abbrev pre_anyT (l : List AV) (r1 r2 : List AV) : Prop := Ns l ∧ 1 ≤ l.length ∧ nszL l ≤ 300000 ∧ l.length ≤ nszL l ∧ RootW r1 false ∧ RootW r2 true
abbrev post_anyT (l : List AV) (r1 r2 : List AV) (u v : Nat) : Prop := WE u v (anyP (widL hT l))
abbrev inv_anyT_0 (B : Nat) (l : List AV) (n : Int) (r1 r2 : List AV) (uo vo : Nat) (io : Int) (u v : Nat) (i : Int) : Prop := 4 * nszL l ≤ B ∧ Ns l ∧ nszL l ≤ 300000 ∧ l.length ≤ nszL l ∧ RootW r1 false ∧ RootW r2 true ∧ n = l.length ∧ 0 ≤ i ∧ i ≤ l.length ∧ WE u v (tailI (dW uo vo) (widL hT l) i.toNat)
abbrev mu_anyT_0 (l : List AV) (n : Int) (r1 r2 : List AV) (u v : Nat) (i : Int) : Nat := (n - i).toNat
abbrev out_anyT_0_0 (l : List AV) (n : Int) (r1 r2 : List AV) (uo vo : Nat) (io : Int) (u v : Nat) (i : Int) : Prop := WE u v (tailI (dW uo vo) (widL hT l) l.length)
abbrev rank_condT (k a c : Int) (s : List AV) (g : Bool) (n m mode : Int) (nm : ByteArray) (on off : Int) (K : List AV) (r1 r2 : List AV) : Nat := 4 * nszL K + 1
abbrev pre_condT (k a c : Int) (s : List AV) (g : Bool) (n m mode : Int) (nm : ByteArray) (on off : Int) (K : List AV) (r1 r2 : List AV) : Prop := k = 19 ∧ NW k a c s g n m mode nm on off K ∧ nszL K ≤ 300000 ∧ RootW r1 false ∧ RootW r2 true
abbrev post_condT (k a c : Int) (s : List AV) (g : Bool) (n m mode : Int) (nm : ByteArray) (on off : Int) (K : List AV) (r1 r2 : List AV) (u v : Nat) : Prop := WE u v (condP n (widL hT K))
abbrev pre_callXT (x : Int) (r1 r2 : List AV) : Prop := RootW r1 false ∧ RootW r2 true
abbrev post_callXT (x : Int) (r1 r2 : List AV) (u v : Nat) : Prop := WE u v (hT x)
abbrev pre_callT (x : Int) (r1 : List AV) (b1 b2 b3 : Int) (b4 : List AV) (b5 : Bool) (b6 b7 b8 : Int) (b9 : ByteArray) (b10 b11 : Int) (b12 : List AV) (w : Bool) : Prop := NW b1 b2 b3 b4 b5 b6 b7 b8 b9 b10 b11 b12 ∧ nszL b12 ≤ 300000
abbrev post_callT (x : Int) (r1 : List AV) (b1 b2 b3 : Int) (b4 : List AV) (b5 : Bool) (b6 b7 b8 : Int) (b9 : ByteArray) (b10 b11 : Int) (b12 : List AV) (w : Bool) (u v : Nat) : Prop := WE u v (0, -1)
abbrev rank_nodeW (k a c : Int) (s : List AV) (g : Bool) (n m mode : Int) (nm : ByteArray) (on off : Int) (K : List AV) (r1 : List AV) : Nat := 4 * nszL K + 2
abbrev pre_nodeW (k a c : Int) (s : List AV) (g : Bool) (n m mode : Int) (nm : ByteArray) (on off : Int) (K : List AV) (r1 : List AV) : Prop := NW k a c s g n m mode nm on off K ∧ nszL K ≤ 300000 ∧ RootW r1 false
abbrev post_nodeW (k a c : Int) (s : List AV) (g : Bool) (n m mode : Int) (nm : ByteArray) (on off : Int) (K : List AV) (r1 : List AV) (u v : Nat) : Prop := WE u v (widV (hF (rootV r1)) (.agg (nR k a c s g n m mode nm on off K)))
abbrev inv_nodeW_0 (B : Nat) (l : List AV) (n : Int) (r1 : List AV) (uo vo : Nat) (io : Int) (u v : Nat) (i : Int) : Prop := 4 * nszL l + 2 ≤ B ∧ Ns l ∧ nszL l ≤ 300000 ∧ l.length ≤ nszL l ∧ RootW r1 false ∧ n = l.length ∧ 0 ≤ i ∧ i ≤ l.length ∧ WE u v (seqI (widL (hF (rootV r1)) l) i.toNat)
abbrev mu_nodeW_0 (l : List AV) (n : Int) (r1 : List AV) (u v : Nat) (i : Int) : Nat := (n - i).toNat
abbrev out_nodeW_0_0 (l : List AV) (n : Int) (r1 : List AV) (uo vo : Nat) (io : Int) (u v : Nat) (i : Int) : Prop := WE u v (seqI (widL (hF (rootV r1)) l) l.length)
abbrev rank_anyW (l : List AV) (r1 : List AV) : Nat := 4 * nszL l
abbrev pre_anyW (l : List AV) (r1 : List AV) : Prop := Ns l ∧ 1 ≤ l.length ∧ nszL l ≤ 300000 ∧ l.length ≤ nszL l ∧ RootW r1 false
abbrev post_anyW (l : List AV) (r1 : List AV) (u v : Nat) : Prop := WE u v (anyP (widL (hF (rootV r1)) l))
abbrev inv_anyW_0 (B : Nat) (l : List AV) (n : Int) (r1 : List AV) (uo vo : Nat) (io : Int) (u v : Nat) (i : Int) : Prop := 4 * nszL l ≤ B ∧ Ns l ∧ nszL l ≤ 300000 ∧ l.length ≤ nszL l ∧ RootW r1 false ∧ n = l.length ∧ 0 ≤ i ∧ i ≤ l.length ∧ WE u v (tailI (dW uo vo) (widL (hF (rootV r1)) l) i.toNat)
abbrev mu_anyW_0 (l : List AV) (n : Int) (r1 : List AV) (u v : Nat) (i : Int) : Nat := (n - i).toNat
abbrev out_anyW_0_0 (l : List AV) (n : Int) (r1 : List AV) (uo vo : Nat) (io : Int) (u v : Nat) (i : Int) : Prop := WE u v (tailI (dW uo vo) (widL (hF (rootV r1)) l) l.length)
abbrev rank_condW (k a c : Int) (s : List AV) (g : Bool) (n m mode : Int) (nm : ByteArray) (on off : Int) (K : List AV) (r1 : List AV) : Nat := 4 * nszL K + 1
abbrev pre_condW (k a c : Int) (s : List AV) (g : Bool) (n m mode : Int) (nm : ByteArray) (on off : Int) (K : List AV) (r1 : List AV) : Prop := k = 19 ∧ NW k a c s g n m mode nm on off K ∧ nszL K ≤ 300000 ∧ RootW r1 false
abbrev post_condW (k a c : Int) (s : List AV) (g : Bool) (n m mode : Int) (nm : ByteArray) (on off : Int) (K : List AV) (r1 : List AV) (u v : Nat) : Prop := WE u v (condP n (widL (hF (rootV r1)) K))
abbrev pre_callXW (x : Int) (r1 : List AV) : Prop := RootW r1 false
abbrev post_callXW (x : Int) (r1 : List AV) (u v : Nat) : Prop := WE u v ((hF (rootV r1)) x)
abbrev pre_callW (x : Int) (b1 b2 b3 : Int) (b4 : List AV) (b5 : Bool) (b6 b7 b8 : Int) (b9 : ByteArray) (b10 b11 : Int) (b12 : List AV) (w : Bool) : Prop := NW b1 b2 b3 b4 b5 b6 b7 b8 b9 b10 b11 b12 ∧ nszL b12 ≤ 300000
abbrev post_callW (x : Int) (b1 b2 b3 : Int) (b4 : List AV) (b5 : Bool) (b6 b7 b8 : Int) (b9 : ByteArray) (b10 b11 : Int) (b12 : List AV) (w : Bool) (u v : Nat) : Prop := WE u v (hF (.agg (nR b1 b2 b3 b4 b5 b6 b7 b8 b9 b10 b11 b12)) x)
abbrev pre_nodeY (k a c : Int) (s : List AV) (g : Bool) (n m mode : Int) (nm : ByteArray) (on off : Int) (K : List AV) (b1 b2 b3 : Int) (b4 : List AV) (b5 : Bool) (b6 b7 b8 : Int) (b9 : ByteArray) (b10 b11 : Int) (b12 : List AV) (w : Bool) (q1 q2 q3 : Int) (q4 : List AV) (q5 : Bool) (q6 q7 q8 : Int) (q9 : ByteArray) (q10 q11 : Int) (q12 : List AV) (w2 : Bool) : Prop := NW k a c s g n m mode nm on off K ∧ nszL K ≤ 300000 ∧ NW b1 b2 b3 b4 b5 b6 b7 b8 b9 b10 b11 b12 ∧ nszL b12 ≤ 300000 ∧ NW q1 q2 q3 q4 q5 q6 q7 q8 q9 q10 q11 q12 ∧ nszL q12 ≤ 300000 ∧ w = false ∧ w2 = true
abbrev post_nodeY (k a c : Int) (s : List AV) (g : Bool) (n m mode : Int) (nm : ByteArray) (on off : Int) (K : List AV) (b1 b2 b3 : Int) (b4 : List AV) (b5 : Bool) (b6 b7 b8 : Int) (b9 : ByteArray) (b10 b11 : Int) (b12 : List AV) (w : Bool) (q1 q2 q3 : Int) (q4 : List AV) (q5 : Bool) (q6 q7 q8 : Int) (q9 : ByteArray) (q10 q11 : Int) (q12 : List AV) (w2 : Bool) (u v : Nat) : Prop := WE u v (widV hT (.agg (nR k a c s g n m mode nm on off K)))
abbrev pre_nodeX (k a c : Int) (s : List AV) (g : Bool) (n m mode : Int) (nm : ByteArray) (on off : Int) (K : List AV) (b1 b2 b3 : Int) (b4 : List AV) (b5 : Bool) (b6 b7 b8 : Int) (b9 : ByteArray) (b10 b11 : Int) (b12 : List AV) (w : Bool) : Prop := NW k a c s g n m mode nm on off K ∧ nszL K ≤ 300000 ∧ NW b1 b2 b3 b4 b5 b6 b7 b8 b9 b10 b11 b12 ∧ nszL b12 ≤ 300000 ∧ w = false
abbrev post_nodeX (k a c : Int) (s : List AV) (g : Bool) (n m mode : Int) (nm : ByteArray) (on off : Int) (K : List AV) (b1 b2 b3 : Int) (b4 : List AV) (b5 : Bool) (b6 b7 b8 : Int) (b9 : ByteArray) (b10 b11 : Int) (b12 : List AV) (w : Bool) (u v : Nat) : Prop := WE u v (widV (hF (.agg (nR b1 b2 b3 b4 b5 b6 b7 b8 b9 b10 b11 b12))) (.agg (nR k a c s g n m mode nm on off K)))
abbrev pre_WidthP (k a c : Int) (s : List AV) (g : Bool) (n m mode : Int) (nm : ByteArray) (on off : Int) (K : List AV) (b1 b2 b3 : Int) (b4 : List AV) (b5 : Bool) (b6 b7 b8 : Int) (b9 : ByteArray) (b10 b11 : Int) (b12 : List AV) : Prop := NW k a c s g n m mode nm on off K ∧ nszL K ≤ 300000 ∧ NW b1 b2 b3 b4 b5 b6 b7 b8 b9 b10 b11 b12 ∧ nszL b12 ≤ 300000
abbrev post_WidthP (k a c : Int) (s : List AV) (g : Bool) (n m mode : Int) (nm : ByteArray) (on off : Int) (K : List AV) (b1 b2 b3 : Int) (b4 : List AV) (b5 : Bool) (b6 b7 b8 : Int) (b9 : ByteArray) (b10 b11 : Int) (b12 : List AV) (r s' : Int) : Prop := (r, s') = widV (hF (.agg (nR b1 b2 b3 b4 b5 b6 b7 b8 b9 b10 b11 b12))) (.agg (nR k a c s g n m mode nm on off K)) ∧ 0 ≤ r ∧ r ≤ 1000 ∧ (s' = -1 ∨ r ≤ s' ∧ s' ≤ 1000)
end Go.Proofs.YtcjcdammcmjbnaaGreat.U
