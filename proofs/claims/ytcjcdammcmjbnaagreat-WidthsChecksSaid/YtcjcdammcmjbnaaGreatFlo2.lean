/- Whole numbers as floats of 64 bits: sums and products are exact. -/
import Derived.Test.YtcjcdammcmjbnaaGreatFlo
namespace Go.Flo
open Ieee
theorem near_fl {n : Nat} (h : n < 2 ^ 53) (k : Nat) : double.nearest false (n * 2 ^ k) (-(k : Int)) = fl n := by
 by_cases h0 : n = 0
 ·subst h0
  rw [show ((0 : Nat) : Int) = 0 from rfl, fl_zero, Nat.zero_mul]
  rfl
 have hk : n.log2 ≤ 52 := by
  have := (Nat.log2_lt h0).2 h
  omega
 obtain ⟨h1, h2⟩ := log2_pow h0
 have hp : 0 < 2 ^ k := Nat.pow_pos (by omega)
 have hn : n * 2 ^ k ≠ 0 := Nat.mul_ne_zero h0 (by omega)
 have hl : (n * 2 ^ k).log2 = n.log2 + k := by
  rw [Nat.log2_eq_iff hn]
  constructor
  ·rw [Nat.pow_add]
   exact Nat.mul_le_mul_right _ h1
  ·rw [show n.log2 + k + 1 = n.log2 + 1 + k by omega, Nat.pow_add]
   exact Nat.mul_lt_mul_of_pos_right h2 hp
 have h3 : n * 2 ^ (52 - n.log2) < 2 ^ 53 := by
  have : n * 2 ^ (52 - n.log2) < 2 ^ (n.log2 + 1) * 2 ^ (52 - n.log2) := Nat.mul_lt_mul_of_pos_right h2 (Nat.pow_pos (by omega))
  rw [← Nat.pow_add] at this
  rw [show n.log2 + 1 + (52 - n.log2) = 53 by omega] at this
  exact this
 rw [fl_pos h0 h]
 unfold Format.nearest
 rw [if_neg hn, hl]
 have hlast : max (-(k : Int) + ((n.log2 + k : Nat) : Int) - double.fractionBits) double.leastPlace = (n.log2 : Int) - 52 := by
  show max (-(k : Int) + ((n.log2 + k : Nat) : Int) - (52 : Nat)) (2 - 2 ^ (11 - 1) - (52 : Nat)) = _
  omega
 simp only [hlast]
 have hr : ((n.log2 : Int) - 52 - double.leastPlace).toNat = n.log2 + 1022 := by
  show ((n.log2 : Int) - 52 - (2 - 2 ^ (11 - 1) - (52 : Nat))).toNat = _
  omega
 rw [hr]
 have hb : double.binade = 2 ^ 52 := rfl
 rw [hb]
 have hi : double.infRung = 2047 * 2 ^ 52 := rfl
 have kept : Toward.even.cut false ((n * 2 ^ k) <<< (-(k : Int) - ((n.log2 : Int) - 52)).toNat) ((n.log2 : Int) - 52 - -(k : Int)).toNat = n * 2 ^ (52 - n.log2) := by
  by_cases hc : k ≤ 52 - n.log2
  ·rw [show ((n.log2 : Int) - 52 - -(k : Int)).toNat = 0 by omega, cut0, Nat.shiftLeft_eq, Nat.mul_assoc, ← Nat.pow_add]
   congr 2
   omega
  ·rw [show (-(k : Int) - ((n.log2 : Int) - 52)).toNat = 0 by omega, Nat.shiftLeft_zero]
   obtain ⟨d, hd⟩ : ∃ d, d = ((n.log2 : Int) - 52 - -(k : Int)).toNat := ⟨_, rfl⟩
   rw [← hd]
   have hkd : k = (52 - n.log2) + d := by omega
   unfold Toward.cut
   have hg : 1 <<< min d ((n * 2 ^ k).log2 + 2) = 2 ^ d := by
    rw [Nat.shiftLeft_eq, Nat.one_mul, Nat.min_eq_left]
    omega
   have hnum : n * 2 ^ k = n * 2 ^ (52 - n.log2) * 2 ^ d := by
    rw [hkd, Nat.pow_add, Nat.mul_assoc]
   have hdp : 0 < 2 ^ d := Nat.pow_pos (by omega)
   simp only [hg]
   rw [hnum, Nat.mul_div_cancel _ hdp, Nat.mul_mod_left]
   generalize 2 ^ d = g at hdp
   have e1 : decide (g < 2 * 0) = false := by
    rw [decide_eq_false_iff_not]
    omega
   have e2 : (g == 2 * 0) = false := by
    rw [beq_eq_false_iff_ne]
    omega
   rw [e1, e2]
   rfl
 rw [kept, hi, Nat.min_eq_left (by omega)]
 rfl
theorem add_fl {a b : Nat} (h : a + b < 2 ^ 53) : double.add (fl a) (fl b) = some (fl ((a + b : Nat) : Int)) := by
 obtain ⟨m, k, e, hm, hk⟩ := read_fl (n := a) (by omega)
 obtain ⟨m', k', e', hm', hk'⟩ := read_fl (n := b) (by omega)
 unfold Format.add
 rw [e, e']
 unfold Datum.sum
 simp only [signed_up]
 have h1 : (m * 2 ^ (-(k : Int) - min (-(k : Int)) (-(k' : Int))).toNat : Nat) = a * 2 ^ max k k' := by
  rw [hm, Nat.mul_assoc, ← Nat.pow_add]
  congr 2
  omega
 have h2 : (m' * 2 ^ (-(k' : Int) - min (-(k : Int)) (-(k' : Int))).toNat : Nat) = b * 2 ^ max k k' := by
  rw [hm', Nat.mul_assoc, ← Nat.pow_add]
  congr 2
  omega
 rw [h1, h2, show min (-(k : Int)) (-(k' : Int)) = -((max k k' : Nat) : Int) by omega, ← Int.natCast_add, ← Nat.add_mul]
 have hneg : (if (((a + b) * 2 ^ max k k' : Nat) : Int) = 0 then false && false else decide ((((a + b) * 2 ^ max k k' : Nat) : Int) < 0)) = false := by
  split
  ·rfl
  ·rw [decide_eq_false_iff_not]
   omega
 rw [hneg, Int.natAbs_natCast]
 simp only [Option.map_some]
 unfold Format.write
 simp only []
 rw [near_fl h]
theorem mul_fl {a b : Nat} (ha : a < 2 ^ 53) (hb : b < 2 ^ 53) (h : a * b < 2 ^ 53) : double.mul (fl a) (fl b) = some (fl ((a * b : Nat) : Int)) := by
 obtain ⟨m, k, e, hm, hk⟩ := read_fl ha
 obtain ⟨m', k', e', hm', hk'⟩ := read_fl hb
 unfold Format.mul
 rw [e, e']
 unfold Datum.product
 simp only [Option.map_some]
 unfold Format.write
 simp only []
 have h1 : m * m' = a * b * 2 ^ (k + k') := by
  rw [hm, hm', Nat.pow_add]
  simp only [Nat.mul_assoc, Nat.mul_left_comm]
 rw [h1, show (-(k : Int)) + -(k' : Int) = -((k + k' : Nat) : Int) by omega]
 have : (false ^^ false) = false := rfl
 rw [this, near_fl h]
end Go.Flo
