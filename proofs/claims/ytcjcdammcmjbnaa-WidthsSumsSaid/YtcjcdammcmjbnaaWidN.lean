/- Widths: sums. -/
import Derived.Test.YtcjcdammcmjbnaaWidL
namespace Go.Proofs.Ytcjcdammcmjbnaa.U
open Go Go.Vai Go.Flo
set_option linter.unusedVariables false
mutual
def callV : AV → Bool
 | .agg l => wI l 0 == 8 || callA l
 | _ => false
def callA : List AV → Bool
 | [] => false
 | v :: r => callS v || callA r
def callS : AV → Bool
 | .sl z K => match z with | 12 => callL K | _ => false
 | _ => false
def callL : List AV → Bool
 | [] => false
 | v :: r => callV v || callL r
end
section
variable {k a c : Int} {s : List AV} {g : Bool} {n m mode : Int} {nm : ByteArray} {on off : Int} {K : List AV}
theorem callV_nd : callV (.agg (nR k a c s g n m mode nm on off K)) = (k == 8 || callL K) := by
 simp only [callV, callA, callS, wI, Bool.false_or, Bool.or_false, List.getElem?_cons_zero]
end
theorem callL_any (l : List AV) : callL l = l.any callV := by
 induction l with
 | nil => simp only [callL, List.any_nil]
 | cons x l ih => simp only [callL, List.any_cons, ih]
theorem callL_hit {l : List AV} {i : Nat} {v : AV} (e : l[i]? = some v) (h : callV v = true) : callL l = true := by
 rw [callL_any, List.any_eq_true]
 exact ⟨v, List.mem_of_getElem? e, h⟩
theorem callL_nil {l : List AV} : callL (l.take (0 : Int).toNat) = false := by
 show callL (l.take 0) = false
 rw [List.take_zero, callL_any, List.any_nil]
theorem callL_next {l : List AV} {i : Int} {v : AV} {r : Bool} (h0 : 0 ≤ i) (hb : i ≤ 1000000) (e : l[i.toNat]? = some v) (h : callL (l.take i.toNat) = false) (p : r = callV v) (hr : r = false) : callL (l.take (w6 (i + 1)).toNat) = false := by
 rw [callL_any] at h ⊢
 rw [nat1 h0 hb, List.take_add_one, e, List.any_append, h, Option.toList_some, List.any_cons, List.any_nil, ← p, hr]
 rfl
theorem callL_end {l : List AV} {i : Int} (h : callL (l.take i.toNat) = false) (hi : l.length ≤ i.toNat) : callL l = false := by
 rw [List.take_of_length_le hi] at h
 exact h
theorem callL_mem {l : List AV} {v : AV} (h : callL l = false) (hv : v ∈ l) : callV v = false := by
 rw [callL_any, List.any_eq_false] at h
 exact Bool.eq_false_iff.2 (h v hv)
theorem callM {k : Int} {b : Bool} (h : k = 8) : true = ((k == 8) || b) := by subst h; rfl
theorem callN {k : Int} {b r : Bool} (h : k ≠ 8) (p : r = b) : r = ((k == 8) || b) := by
 rw [p]
 simp [h]
theorem wcomb_ind {h h' : Int → Int × Int} {k n m : Int} {ws : List (Int × Int)} (e : k ≠ 8) : wcomb h k n m ws = wcomb h' k n m ws := by
 unfold wcomb
 simp only [e, if_false]
theorem wid_ind {h h' : Int → Int × Int} : ∀ {v : AV}, NV v → callV v = false → widV h v = widV h' v
 | _, .mk (k := k) (n := n) (m := m) (K := K) hs hk hsh, hc => by
  have hc2 : ((k == 8) || callL K) = false := callV_nd.symm.trans hc
  rw [Bool.or_eq_false_iff] at hc2
  have e : widL h K = widL h' K := by
   rw [widL_map, widL_map]
   exact List.map_congr_left fun v hv => wid_ind (hk v hv) (callL_mem hc2.2 hv)
  refine widV_nd.trans (Eq.trans ?_ widV_nd.symm)
  rw [e, wcomb_ind (h := h) (h' := h') (fun e => by rw [e] at hc2; exact absurd hc2.1 (by decide))]
section
variable {X Y : AV} {h h1 h2 : Int → Int × Int} {lo hi c d e f t : Int} {a' c' : Int} {s' : List AV} {g' : Bool} {n' m' mode' : Int} {nm' : ByteArray} {on' off' : Int}
theorem two_not (ax : accV X = false) (ay : accV Y = false) {k n : Int} (hk : k ≠ 9) : ((k == 9 && n == 1) || accL [X, Y]) = false := by
 simp [accL, ax, ay, hk]
theorem one_not (ax : accV X = false) {k n : Int} (hk : k ≠ 9) : ((k == 9 && n == 1) || accL [X]) = false := by
 simp [accL, ax, hk]
theorem sum_S (nx : NV X) (ny : NV Y) (cx : callV X = false) (cy : callV Y = false) (ax : accV X = false) (ay : accV Y = false) (px : (lo, hi) = widV h1 X) (py : (c, d) = widV h2 Y) (b : 0 ≤ lo ∧ lo ≤ 100 ∧ -1 ≤ hi ∧ hi ≤ 100) (b2 : 0 ≤ c ∧ c ≤ 100 ∧ -1 ≤ d ∧ d ≤ 100) (ps : (e, f) = widV h (.agg (nR 12 a' c' s' g' n' m' mode' nm' on' off' [X, Y]))) : e = lo + c ∧ (hi < 0 ∨ d < 0 → f = -1) ∧ (0 ≤ hi → 0 ≤ d → f = w6 (hi + d)) := by
 have hw := tW (hi + d)
 rw [widV_nd, two_not ax ay (by decide), wc12 rfl] at ps
 simp only [widL, wid_ind (h' := h1) nx cx, wid_ind (h' := h2) ny cy, ← px, ← py] at ps
 have q : (e, f) = plusP (plusP P0 (lo, hi)) (c, d) := ps
 unfold plusP cutP at q
 dsimp only at q
 injection q with q1 q2
 rw [q1, q2]
 refine ⟨?_, fun hh => ?_, fun hh hk => ?_⟩ <;> (repeat' split) <;> omega
theorem sum_T (nx : NV X) (ny : NV Y) (cx : callV X = false) (cy : callV Y = false) (ax : accV X = false) (ay : accV Y = false) (px : (lo, hi) = widV h1 X) (py : (c, d) = widV h2 Y) (ps : (e, f) = widV h (.agg (nR 13 a' c' s' g' n' m' mode' nm' on' off' [X, Y]))) : e = (if c < lo then c else lo) ∧ (hi < 0 ∨ d < 0 → f = -1) ∧ (0 ≤ hi → 0 ≤ d → f = if d > hi then d else hi) := by
 rw [widV_nd, two_not ax ay (by decide), wc13 rfl] at ps
 simp only [widL, wid_ind (h' := h1) nx cx, wid_ind (h' := h2) ny cy, ← px, ← py] at ps
 have q : (e, f) = orP (lo, hi) (c, d) := ps
 unfold orP at q
 dsimp only at q
 injection q with q1 q2
 rw [q1, q2]
 refine ⟨rfl, fun hh => if_pos hh, fun hh hk => if_neg (by omega)⟩
theorem sum_U0 (nx : NV X) (cx : callV X = false) (ax : accV X = false) (px : (lo, hi) = widV h1 X) (b : 0 ≤ lo ∧ lo ≤ 100 ∧ -1 ≤ hi ∧ hi ≤ 100) (b2 : 0 ≤ t ∧ t ≤ 8) (ps : (e, f) = widV h (.agg (nR 20 a' c' s' g' t t mode' nm' on' off' [X]))) : e = w6 (lo * t) ∧ f = if t = 0 then 0 else if hi < 0 then -1 else w6 (hi * t) := by
 rw [widV_nd, one_not ax (by decide), wc20 rfl] at ps
 simp only [widL, wid_ind (h' := h1) nx cx, ← px] at ps
 have q : (e, f) = repP (lo, hi) t t := ps
 have m1 : lo * t ≤ 100 * 8 := Int.mul_le_mul (by omega) (by omega) (by omega) (by omega)
 have m2 := mulW (a := lo) (b := t) (by omega) (by omega) (by omega) (by omega)
 unfold repP cutP at q
 dsimp only at q
 injection q with q1 q2
 refine ⟨by rw [q1, m2.1, if_neg (by omega)], ?_⟩
 rw [q2]
 by_cases ht : t = 0
 ·simp only [ht, true_or, if_true]
  rfl
 ·by_cases hz : hi = 0
  ·have hw : w6 (0 * t) = 0 := by rw [Int.zero_mul]; rfl
   simp only [hz, or_true, if_true, if_neg ht, hw]
   rfl
  ·have hz2 : ¬ (t = 0 ∨ hi = 0) := by omega
   rw [if_neg hz2, if_neg ht]
   by_cases hn : hi < 0
   ·have hn2 : t < 0 ∨ hi < 0 := .inr hn
    rw [if_pos hn2, if_pos hn]
    rfl
   ·have hn2 : ¬ (t < 0 ∨ hi < 0) := by omega
    have m3 : hi * t ≤ 100 * 8 := Int.mul_le_mul (by omega) (by omega) (by omega) (by omega)
    rw [if_neg hn2, if_neg hn, (mulW (a := hi) (b := t) (by omega) (by omega) (by omega) (by omega)).1, if_neg (by omega)]
theorem sum_U (nx : NV X) (cx : callV X = false) (ax : accV X = false) (px : (lo, hi) = widV h1 X) (b : 0 ≤ lo ∧ lo ≤ 100 ∧ -1 ≤ hi ∧ hi ≤ 100) (b2 : 0 ≤ t ∧ t ≤ 8) (ps : (e, f) = widV h (.agg (nR 20 a' c' s' g' t t mode' nm' on' off' [X]))) : e = w6 (lo * t) ∧ (t = 0 → f = 0) ∧ (t ≠ 0 → hi < 0 → f = -1) ∧ (t ≠ 0 → 0 ≤ hi → f = w6 (hi * t)) ∧ 0 ≤ t := by
 have key : e = w6 (lo * t) ∧ f = if t = 0 then 0 else if hi < 0 then -1 else w6 (hi * t) := by
  exact sum_U0 nx cx ax px b b2 ps
 rw [key.2]
 refine ⟨key.1, fun h0 => if_pos h0, fun h0 h1 => by rw [if_neg h0, if_pos h1], fun h0 h1 => by rw [if_neg h0, if_neg (by omega)], b2.1⟩
end
theorem sh20 {t : Int} {K : List AV} (h : 0 ≤ t ∧ t ≤ 8) (hK : K.length = 1) : shapeN 20 t t K := by
 rw [shapeN_eq]
 refine ⟨?_, ?_, ?_, ?_, ?_, ?_⟩ <;> omega
theorem tmod9 {x : Int} (h : 0 ≤ x) : 0 ≤ x.tmod 9 ∧ x.tmod 9 ≤ 8 := by
 have e := Int.tmod_eq_emod_of_nonneg (b := 9) h
 omega
abbrev rank_callsS (k a c : Int) (s : List AV) (g : Bool) (n m mode : Int) (nm : ByteArray) (on off : Int) (K : List AV) : Nat := nszL K
abbrev pre_callsS (k a c : Int) (s : List AV) (g : Bool) (n m mode : Int) (nm : ByteArray) (on off : Int) (K : List AV) : Prop := NW k a c s g n m mode nm on off K ∧ nszL K ≤ 300000
abbrev post_callsS (k a c : Int) (s : List AV) (g : Bool) (n m mode : Int) (nm : ByteArray) (on off : Int) (K : List AV) (r : Bool) : Prop := r = callV (.agg (nR k a c s g n m mode nm on off K))
abbrev inv_callsS_0 (B : Nat) (k a c : Int) (s : List AV) (g : Bool) (n m mode : Int) (nm : ByteArray) (on off : Int) (K : List AV) (io i : Int) : Prop := nszL K ≤ B ∧ NW k a c s g n m mode nm on off K ∧ nszL K ≤ 300000 ∧ 0 ≤ i ∧ i ≤ K.length ∧ callL (K.take i.toNat) = false
abbrev mu_callsS_0 (k a c : Int) (s : List AV) (g : Bool) (n m mode : Int) (nm : ByteArray) (on off : Int) (K : List AV) (i : Int) : Nat := (K.length - i).toNat
abbrev out_callsS_0_0 (k a c : Int) (s : List AV) (g : Bool) (n m mode : Int) (nm : ByteArray) (on off : Int) (K : List AV) (io : Int) : Prop := callL K = true
abbrev out_callsS_0_1 (k a c : Int) (s : List AV) (g : Bool) (n m mode : Int) (nm : ByteArray) (on off : Int) (K : List AV) (io i : Int) : Prop := callL K = false
abbrev pre_WidthsSums (a b : List AV) (t : Int) : Prop := Bs a ∧ a.length ≤ 9223372036854775807 ∧ Bs b ∧ b.length ≤ 9223372036854775807 ∧ -9223372036854775808 ≤ t ∧ t ≤ 9223372036854775807
abbrev post_WidthsSums (a b : List AV) (t : Int) (r : Bool) : Prop := r = true
end Go.Proofs.Ytcjcdammcmjbnaa.U
