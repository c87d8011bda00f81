/- Widths: what the laws and the reference ask and answer. -/
import Derived.Test.YtcjcdammcmjbnaaGreatWdB1
namespace Go.Proofs.YtcjcdammcmjbnaaGreat.U
open Go Go.Vai Go.Flo
set_option linter.unusedVariables false
def hW (root : AV) (w : Bool) : Int → Int × Int := if w then hT else hF root
def rk (w : Bool) : Nat := if w then 0 else 300001
theorem rkT : rk true = 0 := rfl
theorem rkF {w : Bool} (h : w = false) : rk w = 300001 := by subst h; rfl
theorem pair_eq {a b c d : Int} {t : Int × Int} (h : (a, b) = t) (k : (c, d) = t) : a = c ∧ b = d := by
 rw [← k] at h
 injection h with h1 h2
 exact ⟨h1, h2⟩
theorem mulW {a b : Int} (h0 : 0 ≤ a) (h1 : a ≤ 1000) (h2 : 0 ≤ b) (h3 : b ≤ 255) : w6 (a * b) = a * b ∧ 0 ≤ a * b := by
 have h4 : a * b ≤ 1000 * 255 := Int.mul_le_mul h1 h3 h2 (by omega)
 have h5 := Int.mul_nonneg h0 h2
 exact ⟨tW (a * b), h5⟩
theorem any1 {h : Int → Int × Int} {l : List AV} {x : AV} (e : l[0]? = some x) (hl : l.length = 1) : anyP (widL h l) = widV h x := by
 match l, hl with
 | [y], _ =>
  simp at e
  subst e
  simp only [widL]
  rfl
theorem any2 {h : Int → Int × Int} {l : List AV} {x y : AV} (e : l[0]? = some x) (e2 : l[1]? = some y) (hl : l.length = 2) : anyP (widL h l) = orP (widV h x) (widV h y) := by
 match l, hl with
 | [u, v], _ =>
  simp at e e2
  subst e e2
  simp only [widL]
  rfl
section
variable {k a c : Int} {s : List AV} {g : Bool} {n m mode : Int} {nm : ByteArray} {on off : Int} {K : List AV} {h : Int → Int × Int} {r : Bool} {x y : AV} {t t0 t1 : Int × Int}
theorem wr_a (ha : r = accV (.agg (nR k a c s g n m mode nm on off K))) (hr : r = true) : (0, -1) = widV h (.agg (nR k a c s g n m mode nm on off K)) := (wn_acc ha hr).symm
theorem wr_2 (ha : r = accV (.agg (nR k a c s g n m mode nm on off K))) (hr : r = false) (e : k = 2) : (1, 1) = widV h (.agg (nR k a c s g n m mode nm on off K)) := ((wn_not ha hr).trans (wc2 e)).symm
theorem wr_7 (ha : r = accV (.agg (nR k a c s g n m mode nm on off K))) (hr : r = false) (e : k = 7) : (0, -1) = widV h (.agg (nR k a c s g n m mode nm on off K)) := ((wn_not ha hr).trans (wc7 e)).symm
theorem wr_12 (ha : r = accV (.agg (nR k a c s g n m mode nm on off K))) (hr : r = false) (e : k = 12) (p : t = seqI (widL h K) K.length) : t = widV h (.agg (nR k a c s g n m mode nm on off K)) := p.trans ((wn_not ha hr).trans ((wc12 e).trans (by rw [widL_len]))).symm
theorem wr_13 (ha : r = accV (.agg (nR k a c s g n m mode nm on off K))) (hr : r = false) (e : k = 13 ∨ k = 16) (q : K[0]? = some x) (w : t0 = widV h x) (p : t = tailI t0 (widL h (K.drop 1)) (K.drop 1).length) : t = widV h (.agg (nR k a c s g n m mode nm on off K)) := (any_all q w p).trans ((wn_not ha hr).trans (by rcases e with e | e; exact wc13 e; exact wc16 e)).symm
theorem wr_14 (ha : r = accV (.agg (nR k a c s g n m mode nm on off K))) (hr : r = false) (e : k = 14 ∨ k = 17) (q : K[0]? = some x) (p : t = widV h x) : t = widV h (.agg (nR k a c s g n m mode nm on off K)) := p.trans ((wn_not ha hr).trans (by rw [← widL_get (h := h) q]; rcases e with e | e; exact wc14 e; exact wc17 e)).symm
theorem wr_19 (ha : r = accV (.agg (nR k a c s g n m mode nm on off K))) (hr : r = false) (e : k = 19) (p : t = condP n (widL h K)) : t = widV h (.agg (nR k a c s g n m mode nm on off K)) := p.trans ((wn_not ha hr).trans (wc19 e)).symm
theorem wr_20 (ha : r = accV (.agg (nR k a c s g n m mode nm on off K))) (hr : r = false) (e : k = 20) (q : K[0]? = some x) (w : t0 = widV h x) (p : t = repP t0 n m) : t = widV h (.agg (nR k a c s g n m mode nm on off K)) := p.trans ((wn_not ha hr).trans (by rw [w, ← widL_get (h := h) q]; exact wc20 e)).symm
theorem wr_8 (ha : r = accV (.agg (nR k a c s g n m mode nm on off K))) (hr : r = false) (e : k = 8) (p : t = h n) : t = widV h (.agg (nR k a c s g n m mode nm on off K)) := p.trans ((wn_not ha hr).trans (wc8 e)).symm
theorem wr_E (ha : r = accV (.agg (nR k a c s g n m mode nm on off K))) (hr : r = false) (h2 : k ≠ 2) (h7 : k ≠ 7) (h12 : k ≠ 12) (h13 : k ≠ 13) (h16 : k ≠ 16) (h14 : k ≠ 14) (h17 : k ≠ 17) (h19 : k ≠ 19) (h20 : k ≠ 20) (h8 : k ≠ 8) : (0, 0) = widV h (.agg (nR k a c s g n m mode nm on off K)) := ((wn_not ha hr).trans (wcE h2 h7 h12 h13 h16 h14 h17 h19 h20 h8)).symm
end
section
variable {h : Int → Int × Int} {n : Int} {K : List AV} {x y : AV} {a b c d : Int} {t : Int × Int}
theorem cr_12 (e : n = 12) : (0, 0) = condP n (widL h K) := (cond_def e).symm
theorem cr_13 (e : n = 13) (hl : (List.drop 1 (List.take K.length K)).length = 1) (q : (List.drop 1 (List.take K.length K))[0]? = some x) (w : (a, b) = widV h x) (p : t = orP (a, b) (0, 0)) : t = condP n (widL h K) := by
 rw [drop_take] at hl q
 rw [cond_look e, if_pos hl, any1 q hl, p, w]
theorem cr_13b (e : n = 13) (hl : (List.drop 1 (List.take K.length K)).length = 2) (q : (List.drop 1 (List.take K.length K))[0]? = some x) (q2 : (List.drop 1 (List.take K.length K))[1]? = some y) (w : (a, b) = widV h x) (w2 : (c, d) = widV h y) (p : t = orP (a, b) (c, d)) : t = condP n (widL h K) := by
 rw [drop_take] at hl q q2
 rw [cond_look e, if_neg (by omega), any2 q q2 hl, p, w, w2]
theorem cr_1 (e : n ≠ 12) (e2 : n ≠ 13) (hl : K.length = 1) (q : K[0]? = some x) (w : (a, b) = widV h x) (p : t = orP (a, b) (0, 0)) : t = condP n (widL h K) := by
 rw [cond_else e e2, if_pos hl, any1 q hl, p, w]
theorem cr_2 (e : n ≠ 12) (e2 : n ≠ 13) (hl : K.length = 2) (q : K[0]? = some x) (q2 : K[1]? = some y) (w : (a, b) = widV h x) (w2 : (c, d) = widV h y) (p : t = orP (a, b) (c, d)) : t = condP n (widL h K) := by
 rw [cond_else e e2, if_neg (by omega), any2 q q2 hl, p, w, w2]
theorem rep_z {m : Int} (e : m = 0 ∨ b = 0) (h0 : 0 ≤ a) (h1 : a ≤ 1000) (h2 : 0 ≤ n) (h3 : n ≤ 255) (p : t = cutP (w6 (a * n)) 0) : t = repP (a, b) n m := by rw [p, (mulW h0 h1 h2 h3).1]; unfold repP; rw [if_pos e]
theorem rep_n {m : Int} (e : ¬ (m = 0 ∨ b = 0)) (e2 : m < 0 ∨ b < 0) (h0 : 0 ≤ a) (h1 : a ≤ 1000) (h2 : 0 ≤ n) (h3 : n ≤ 255) (p : t = cutP (w6 (a * n)) (-1)) : t = repP (a, b) n m := by rw [p, (mulW h0 h1 h2 h3).1]; unfold repP; rw [if_neg e, if_pos e2]
theorem rep_y {m : Int} (e : ¬ (m = 0 ∨ b = 0)) (e2 : ¬ (m < 0 ∨ b < 0)) (h0 : 0 ≤ a) (h1 : a ≤ 1000) (h2 : 0 ≤ n) (h3 : n ≤ 255) (h4 : b ≤ 1000) (h5 : m ≤ 255) (p : t = cutP (w6 (a * n)) (w6 (b * m))) : t = repP (a, b) n m := by rw [p, (mulW h0 h1 h2 h3).1, (mulW (b := m) (a := b) (by omega) h4 (by omega) h5).1]; unfold repP; rw [if_neg e, if_neg e2]
theorem plus_n (e : b < 0 ∨ d < 0) (w : w6 (a + c) = a + c) (p : t = cutP (w6 (a + c)) (-1)) : t = plusP (a, b) (c, d) := by rw [p, w]; unfold plusP; rw [if_pos e]
theorem plus_y (e : ¬ (b < 0 ∨ d < 0)) (w : w6 (a + c) = a + c) (w2 : w6 (b + d) = b + d) (p : t = cutP (w6 (a + c)) (w6 (b + d))) : t = plusP (a, b) (c, d) := by rw [p, w, w2]; unfold plusP; rw [if_neg e]
theorem pre_rep1 (h0 : 0 ≤ a) (h1 : a ≤ 1000) (h2 : 0 ≤ n) (h3 : n ≤ 255) (h4 : -1 ≤ b) : 0 ≤ w6 (a * n) ∧ -1 ≤ b := ⟨by rw [(mulW h0 h1 h2 h3).1]; exact (mulW h0 h1 h2 h3).2, h4⟩
theorem pre_rep2 {m : Int} (h0 : 0 ≤ a) (h1 : a ≤ 1000) (h2 : 0 ≤ n) (h3 : n ≤ 255) (h4 : 0 ≤ b) (h5 : b ≤ 1000) (h6 : 0 ≤ m) (h7 : m ≤ 255) : 0 ≤ w6 (a * n) ∧ -1 ≤ w6 (b * m) := ⟨by rw [(mulW h0 h1 h2 h3).1]; exact (mulW h0 h1 h2 h3).2, by rw [(mulW h4 h5 h6 h7).1]; have := (mulW h4 h5 h6 h7).2; omega⟩
theorem shape1 {k n m : Int} {K : List AV} (h : shapeN k n m K) (e : k = 13 ∨ k = 14 ∨ k = 16 ∨ k = 17 ∨ k = 19 ∨ k = 20) : 1 ≤ K.length := by
 rw [shapeN_eq] at h
 omega
theorem shape19 {k n m : Int} {K : List AV} (h : shapeN k n m K) (e : k = 19) : 1 ≤ K.length ∧ K.length ≤ 3 ∧ (n = 13 → 2 ≤ K.length) ∧ (n ≠ 13 → K.length ≤ 2) := by
 rw [shapeN_eq] at h
 exact ⟨(h.2.2.2.2.1 e).1, (h.2.2.2.2.1 e).2.1, h.1 e, (h.2.2.2.2.1 e).2.2⟩
theorem shape20 {k n m : Int} {K : List AV} (h : shapeN k n m K) (e : k = 20) : 0 ≤ n ∧ n ≤ 255 ∧ -1 ≤ m ∧ m ≤ 255 := by
 rw [shapeN_eq] at h
 exact ⟨(h.2.2.2.2.2.1 e).1, (h.2.2.2.2.2.1 e).2.1, (h.2.2.2.2.2.1 e).2.2.1, (h.2.2.2.2.2.1 e).2.2.2.1⟩
theorem seq_0 {ws : List (Int × Int)} : (0, 0) = seqI ws (0 : Int).toNat := rfl
theorem tail_1 {ws : List (Int × Int)} : (a, b) = tailI (a, b) ws ((1 : Int) - 1).toNat := rfl
theorem seq_n {i : Int} (h0 : 0 ≤ i) (hb : i ≤ 1000000) (e : K[i.toNat]? = some x) (q : (c, d) = widV h x) (w : (a, b) = seqI (widL h K) i.toNat) (p : t = plusP (a, b) (c, d)) : t = seqI (widL h K) (w6 (i + 1)).toNat := by
 rw [p, q, nat1 h0 hb]
 exact seq_step e w
theorem tail_n {i : Int} {t0 : Int × Int} (h0 : 1 ≤ i) (hb : i ≤ 1000000) (e : K[i.toNat]? = some x) (q : (c, d) = widV h x) (w : (a, b) = tailI t0 (widL h (K.drop 1)) (i - 1).toNat) (p : t = orP (a, b) (c, d)) : t = tailI t0 (widL h (K.drop 1)) (w6 (i + 1) - 1).toNat := by
 have e2 : (K.drop 1)[(i - 1).toNat]? = some x := by
  rw [List.getElem?_drop, show 1 + (i - 1).toNat = i.toNat from by omega]
  exact e
 have e3 : (w6 (i + 1) - 1).toNat = (i - 1).toNat + 1 := by
  rw [tW (i + 1)]
  omega
 rw [p, q, e3]
 exact any_step e2 w
theorem seq_e {ws : List (Int × Int)} {i : Int} {j : Nat} (w : t = seqI ws i.toNat) (e : i.toNat = j) : t = seqI ws j := e ▸ w
theorem tail_e {ws : List (Int × Int)} {t0 : Int × Int} {i : Int} {j : Nat} (w : t = tailI t0 ws (i - 1).toNat) (e : (i - 1).toNat = j) : t = tailI t0 ws j := e ▸ w
theorem hw_t {root : AV} {w : Bool} {j : Int} (hw : w = true) : (0, -1) = hW root w j := by subst hw; rfl
theorem hw_n {root : AV} {w : Bool} {j : Int} (e : grpR j root = none) : (0, -1) = hW root w j := by
 cases w
 ·exact (hF_none e).symm
 ·rfl
theorem hw_f {root g : AV} {w : Bool} {j : Int} (hw : w = false) (e : grpR j root = some g) (p : t = widV (hW root true) g) : t = hW root w j := by
 subst hw
 exact p.trans (hF_some e).symm
end
abbrev pre_awake : Prop := True
abbrev post_awake (r : Bool) : Prop := r = true
abbrev pre_WidthsBounds (b : List AV) (o : Int) : Prop := Bs b ∧ b.length ≤ 9223372036854775807
abbrev post_WidthsBounds (b : List AV) (o : Int) (r : Bool) : Prop := r = true
abbrev pre_WidthsSays (b : List AV) (o : Int) : Prop := Bs b ∧ b.length ≤ 9223372036854775807
abbrev post_WidthsSays (b : List AV) (o : Int) (r : Bool) : Prop := r = true
abbrev rank_accR (k a c : Int) (s : List AV) (g : Bool) (n m mode : Int) (nm : ByteArray) (on off : Int) (K : List AV) : Nat := nszL K
abbrev pre_accR (k a c : Int) (s : List AV) (g : Bool) (n m mode : Int) (nm : ByteArray) (on off : Int) (K : List AV) : Prop := NW k a c s g n m mode nm on off K ∧ nszL K ≤ 300000
abbrev post_accR (k a c : Int) (s : List AV) (g : Bool) (n m mode : Int) (nm : ByteArray) (on off : Int) (K : List AV) (r : Bool) : Prop := r = accV (.agg (nR k a c s g n m mode nm on off K))
abbrev inv_accR_0 (B : Nat) (k a c : Int) (s : List AV) (g : Bool) (n m mode : Int) (nm : ByteArray) (on off : Int) (K : List AV) (io i : Int) : Prop := nszL K ≤ B ∧ NW k a c s g n m mode nm on off K ∧ nszL K ≤ 300000 ∧ 0 ≤ i ∧ i ≤ K.length ∧ accL (K.take i.toNat) = false
abbrev mu_accR_0 (k a c : Int) (s : List AV) (g : Bool) (n m mode : Int) (nm : ByteArray) (on off : Int) (K : List AV) (i : Int) : Nat := (K.length - i).toNat
abbrev out_accR_0_0 (k a c : Int) (s : List AV) (g : Bool) (n m mode : Int) (nm : ByteArray) (on off : Int) (K : List AV) (io : Int) : Prop := accL K = true
abbrev out_accR_0_1 (k a c : Int) (s : List AV) (g : Bool) (n m mode : Int) (nm : ByteArray) (on off : Int) (K : List AV) (io i : Int) : Prop := accL K = false
abbrev rank_GroupR (k a c : Int) (s : List AV) (g : Bool) (n m mode : Int) (nm : ByteArray) (on off : Int) (K : List AV) (x : Int) : Nat := nszL K
abbrev pre_GroupR (k a c : Int) (s : List AV) (g : Bool) (n m mode : Int) (nm : ByteArray) (on off : Int) (K : List AV) (x : Int) : Prop := NW k a c s g n m mode nm on off K ∧ nszL K ≤ 300000
abbrev post_GroupR (k a c : Int) (s : List AV) (g : Bool) (n m mode : Int) (nm : ByteArray) (on off : Int) (K : List AV) (x : Int) (k1 a1 c1 : Int) (s1 : List AV) (g1 : Bool) (n1 m1 mode1 : Int) (nm1 : ByteArray) (on1 off1 : Int) (K1 : List AV) (r : Bool) : Prop := (r = true → NW k1 a1 c1 s1 g1 n1 m1 mode1 nm1 on1 off1 K1 ∧ nszL K1 ≤ nszL K ∧ grpR x (.agg (nR k a c s g n m mode nm on off K)) = some (.agg (nR k1 a1 c1 s1 g1 n1 m1 mode1 nm1 on1 off1 K1))) ∧ (r = false → grpR x (.agg (nR k a c s g n m mode nm on off K)) = none)
abbrev inv_GroupR_0 (B : Nat) (x : Int) (k a c : Int) (s : List AV) (g : Bool) (n m mode : Int) (nm : ByteArray) (on off : Int) (K : List AV) (io i : Int) : Prop := nszL K ≤ B ∧ NW k a c s g n m mode nm on off K ∧ nszL K ≤ 300000 ∧ 0 ≤ i ∧ i ≤ K.length ∧ x ≠ 0 ∧ grpL x (K.take i.toNat) = none
abbrev mu_GroupR_0 (x : Int) (k a c : Int) (s : List AV) (g : Bool) (n m mode : Int) (nm : ByteArray) (on off : Int) (K : List AV) (i : Int) : Nat := (K.length - i).toNat
abbrev out_GroupR_0_0 (x : Int) (k a c : Int) (s : List AV) (g : Bool) (n m mode : Int) (nm : ByteArray) (on off : Int) (K : List AV) (io : Int) (k1 a1 c1 : Int) (s1 : List AV) (g1 : Bool) (n1 m1 mode1 : Int) (nm1 : ByteArray) (on1 off1 : Int) (K1 : List AV) : Prop := NW k1 a1 c1 s1 g1 n1 m1 mode1 nm1 on1 off1 K1 ∧ nszL K1 ≤ nszL K ∧ grpL x K = some (.agg (nR k1 a1 c1 s1 g1 n1 m1 mode1 nm1 on1 off1 K1))
abbrev out_GroupR_0_1 (x : Int) (k a c : Int) (s : List AV) (g : Bool) (n m mode : Int) (nm : ByteArray) (on off : Int) (K : List AV) (io i : Int) : Prop := grpL x K = none
abbrev pre_cutR (a b : Int) : Prop := 0 ≤ a ∧ -1 ≤ b
abbrev post_cutR (a b c d : Int) : Prop := (c, d) = cutP a b ∧ 0 ≤ c ∧ c ≤ 1000 ∧ -1 ≤ d ∧ d ≤ 1000
abbrev pre_orR (a b c d : Int) : Prop := 0 ≤ a ∧ a ≤ 1000 ∧ -1 ≤ b ∧ b ≤ 1000 ∧ 0 ≤ c ∧ c ≤ 1000 ∧ -1 ≤ d ∧ d ≤ 1000
abbrev post_orR (a b c d e f : Int) : Prop := (e, f) = orP (a, b) (c, d) ∧ 0 ≤ e ∧ e ≤ 1000 ∧ -1 ≤ f ∧ f ≤ 1000
abbrev rank_WidthR (k a c : Int) (s : List AV) (g : Bool) (n m mode : Int) (nm : ByteArray) (on off : Int) (K : List AV) (b1 b2 b3 : Int) (b4 : List AV) (b5 : Bool) (b6 b7 b8 : Int) (b9 : ByteArray) (b10 b11 : Int) (b12 : List AV) (w : Bool) : Nat := rk w + nszL K
abbrev pre_WidthR (k a c : Int) (s : List AV) (g : Bool) (n m mode : Int) (nm : ByteArray) (on off : Int) (K : List AV) (b1 b2 b3 : Int) (b4 : List AV) (b5 : Bool) (b6 b7 b8 : Int) (b9 : ByteArray) (b10 b11 : Int) (b12 : List AV) (w : Bool) : Prop := NW k a c s g n m mode nm on off K ∧ nszL K ≤ 300000 ∧ NW b1 b2 b3 b4 b5 b6 b7 b8 b9 b10 b11 b12 ∧ nszL b12 ≤ 300000
abbrev post_WidthR (k a c : Int) (s : List AV) (g : Bool) (n m mode : Int) (nm : ByteArray) (on off : Int) (K : List AV) (b1 b2 b3 : Int) (b4 : List AV) (b5 : Bool) (b6 b7 b8 : Int) (b9 : ByteArray) (b10 b11 : Int) (b12 : List AV) (w : Bool) (lo hi : Int) : Prop := (lo, hi) = widV (hW (.agg (nR b1 b2 b3 b4 b5 b6 b7 b8 b9 b10 b11 b12)) w) (.agg (nR k a c s g n m mode nm on off K)) ∧ 0 ≤ lo ∧ lo ≤ 1000 ∧ -1 ≤ hi ∧ hi ≤ 1000
abbrev inv_WidthR_0 (B : Nat) (w : Bool) (k a c : Int) (s : List AV) (g : Bool) (n m mode : Int) (nm : ByteArray) (on off : Int) (K : List AV) (b1 b2 b3 : Int) (b4 : List AV) (b5 : Bool) (b6 b7 b8 : Int) (b9 : ByteArray) (b10 b11 : Int) (b12 : List AV) (lo0 hi0 io lo hi i : Int) : Prop := rk w + nszL K ≤ B ∧ NW k a c s g n m mode nm on off K ∧ nszL K ≤ 300000 ∧ NW b1 b2 b3 b4 b5 b6 b7 b8 b9 b10 b11 b12 ∧ nszL b12 ≤ 300000 ∧ 0 ≤ i ∧ i ≤ K.length ∧ 0 ≤ lo ∧ lo ≤ 1000 ∧ -1 ≤ hi ∧ hi ≤ 1000 ∧ (lo, hi) = seqI (widL (hW (.agg (nR b1 b2 b3 b4 b5 b6 b7 b8 b9 b10 b11 b12)) w) K) i.toNat
abbrev mu_WidthR_0 (w : Bool) (k a c : Int) (s : List AV) (g : Bool) (n m mode : Int) (nm : ByteArray) (on off : Int) (K : List AV) (b1 b2 b3 : Int) (b4 : List AV) (b5 : Bool) (b6 b7 b8 : Int) (b9 : ByteArray) (b10 b11 : Int) (b12 : List AV) (lo hi i : Int) : Nat := (K.length - i).toNat
abbrev out_WidthR_0_0 (w : Bool) (k a c : Int) (s : List AV) (g : Bool) (n m mode : Int) (nm : ByteArray) (on off : Int) (K : List AV) (b1 b2 b3 : Int) (b4 : List AV) (b5 : Bool) (b6 b7 b8 : Int) (b9 : ByteArray) (b10 b11 : Int) (b12 : List AV) (lo0 hi0 io lo hi i : Int) : Prop := 0 ≤ lo ∧ lo ≤ 1000 ∧ -1 ≤ hi ∧ hi ≤ 1000 ∧ (lo, hi) = seqI (widL (hW (.agg (nR b1 b2 b3 b4 b5 b6 b7 b8 b9 b10 b11 b12)) w) K) K.length
abbrev inv_WidthR_1 (B : Nat) (w : Bool) (k a c : Int) (s : List AV) (g : Bool) (n m mode : Int) (nm : ByteArray) (on off : Int) (K : List AV) (b1 b2 b3 : Int) (b4 : List AV) (b5 : Bool) (b6 b7 b8 : Int) (b9 : ByteArray) (b10 b11 : Int) (b12 : List AV) (lo0 hi0 io lo hi i : Int) : Prop := rk w + nszL K ≤ B ∧ NW k a c s g n m mode nm on off K ∧ nszL K ≤ 300000 ∧ NW b1 b2 b3 b4 b5 b6 b7 b8 b9 b10 b11 b12 ∧ nszL b12 ≤ 300000 ∧ 1 ≤ i ∧ i ≤ K.length ∧ 0 ≤ lo ∧ lo ≤ 1000 ∧ -1 ≤ hi ∧ hi ≤ 1000 ∧ (lo, hi) = tailI (lo0, hi0) (widL (hW (.agg (nR b1 b2 b3 b4 b5 b6 b7 b8 b9 b10 b11 b12)) w) (K.drop 1)) (i - 1).toNat
abbrev mu_WidthR_1 (w : Bool) (k a c : Int) (s : List AV) (g : Bool) (n m mode : Int) (nm : ByteArray) (on off : Int) (K : List AV) (b1 b2 b3 : Int) (b4 : List AV) (b5 : Bool) (b6 b7 b8 : Int) (b9 : ByteArray) (b10 b11 : Int) (b12 : List AV) (lo hi i : Int) : Nat := (K.length - i).toNat
abbrev out_WidthR_1_0 (w : Bool) (k a c : Int) (s : List AV) (g : Bool) (n m mode : Int) (nm : ByteArray) (on off : Int) (K : List AV) (b1 b2 b3 : Int) (b4 : List AV) (b5 : Bool) (b6 b7 b8 : Int) (b9 : ByteArray) (b10 b11 : Int) (b12 : List AV) (lo0 hi0 io lo hi i : Int) : Prop := 0 ≤ lo ∧ lo ≤ 1000 ∧ -1 ≤ hi ∧ hi ≤ 1000 ∧ (lo, hi) = tailI (lo0, hi0) (widL (hW (.agg (nR b1 b2 b3 b4 b5 b6 b7 b8 b9 b10 b11 b12)) w) (K.drop 1)) (K.drop 1).length
abbrev rank_allS (k a c : Int) (s : List AV) (g : Bool) (n m mode : Int) (nm : ByteArray) (on off : Int) (K : List AV) (b1 b2 b3 : Int) (b4 : List AV) (b5 : Bool) (b6 b7 b8 : Int) (b9 : ByteArray) (b10 b11 : Int) (b12 : List AV) : Nat := nszL K
abbrev pre_allS (k a c : Int) (s : List AV) (g : Bool) (n m mode : Int) (nm : ByteArray) (on off : Int) (K : List AV) (b1 b2 b3 : Int) (b4 : List AV) (b5 : Bool) (b6 b7 b8 : Int) (b9 : ByteArray) (b10 b11 : Int) (b12 : List AV) : Prop := NW k a c s g n m mode nm on off K ∧ nszL K ≤ 300000 ∧ NW b1 b2 b3 b4 b5 b6 b7 b8 b9 b10 b11 b12 ∧ nszL b12 ≤ 300000
abbrev post_allS (k a c : Int) (s : List AV) (g : Bool) (n m mode : Int) (nm : ByteArray) (on off : Int) (K : List AV) (b1 b2 b3 : Int) (b4 : List AV) (b5 : Bool) (b6 b7 b8 : Int) (b9 : ByteArray) (b10 b11 : Int) (b12 : List AV) (r : Bool) : Prop := r = true
abbrev inv_allS_0 (B : Nat) (k a c : Int) (s : List AV) (g : Bool) (n m mode : Int) (nm : ByteArray) (on off : Int) (K : List AV) (b1 b2 b3 : Int) (b4 : List AV) (b5 : Bool) (b6 b7 b8 : Int) (b9 : ByteArray) (b10 b11 : Int) (b12 : List AV) (io i : Int) : Prop := nszL K ≤ B ∧ NW k a c s g n m mode nm on off K ∧ nszL K ≤ 300000 ∧ NW b1 b2 b3 b4 b5 b6 b7 b8 b9 b10 b11 b12 ∧ nszL b12 ≤ 300000 ∧ 0 ≤ i ∧ i ≤ K.length
abbrev mu_allS_0 (k a c : Int) (s : List AV) (g : Bool) (n m mode : Int) (nm : ByteArray) (on off : Int) (K : List AV) (b1 b2 b3 : Int) (b4 : List AV) (b5 : Bool) (b6 b7 b8 : Int) (b9 : ByteArray) (b10 b11 : Int) (b12 : List AV) (i : Int) : Nat := (K.length - i).toNat
abbrev out_allS_0_0 (k a c : Int) (s : List AV) (g : Bool) (n m mode : Int) (nm : ByteArray) (on off : Int) (K : List AV) (b1 b2 b3 : Int) (b4 : List AV) (b5 : Bool) (b6 b7 b8 : Int) (b9 : ByteArray) (b10 b11 : Int) (b12 : List AV) (io : Int) : Prop := False
abbrev out_allS_0_1 (k a c : Int) (s : List AV) (g : Bool) (n m mode : Int) (nm : ByteArray) (on off : Int) (K : List AV) (b1 b2 b3 : Int) (b4 : List AV) (b5 : Bool) (b6 b7 b8 : Int) (b9 : ByteArray) (b10 b11 : Int) (b12 : List AV) (io i : Int) : Prop := True
end Go.Proofs.YtcjcdammcmjbnaaGreat.U
