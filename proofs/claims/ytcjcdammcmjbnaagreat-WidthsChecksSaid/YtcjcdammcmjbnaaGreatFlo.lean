/- Whole numbers below 2^53 as floats of 64 bits: exact; read back; in order. -/
import GoSem.Core.Float
import GoSem.Op.FloatCmp
import GoSem.Op.Equal
namespace Go.Flo
open Ieee
def fl (n : Int) : Nat := FloatKind.nearest .f64 n
theorem log2_pow {n : Nat} (h : n ≠ 0) : 2 ^ n.log2 ≤ n ∧ n < 2 ^ (n.log2 + 1) := ⟨Nat.log2_self_le h, Nat.lt_log2_self⟩
theorem cut0 (w : Toward) (s : Bool) (n : Nat) : w.cut s n 0 = n := by
 unfold Toward.cut
 simp only [Nat.zero_min, Nat.shiftLeft_zero, Nat.div_one, Nat.mod_one, Nat.mul_zero]
 cases w <;> simp
theorem fl_pos {n : Nat} (h0 : n ≠ 0) (h : n < 2 ^ 53) : fl n = (n.log2 + 1022) * 2 ^ 52 + n * 2 ^ (52 - n.log2) := by
 have hk : n.log2 ≤ 52 := by
  have := (Nat.log2_lt h0).2 h
  omega
 obtain ⟨h1, h2⟩ := log2_pow h0
 have h3 : n * 2 ^ (52 - n.log2) < 2 ^ 53 := by
  have : n * 2 ^ (52 - n.log2) < 2 ^ (n.log2 + 1) * 2 ^ (52 - n.log2) := Nat.mul_lt_mul_of_pos_right h2 (Nat.pow_pos (by omega))
  rw [← Nat.pow_add] at this
  rw [show n.log2 + 1 + (52 - n.log2) = 53 by omega] at this
  exact this
 unfold fl FloatKind.nearest FloatKind.encode FloatKind.format Format.write
 simp only [Int.natAbs_natCast, decide_eq_false (show ¬ ((n : Int) < 0) by omega)]
 unfold Format.nearest
 rw [if_neg h0]
 have hl : max ((0 : Int) + n.log2 - double.fractionBits) double.leastPlace = (n.log2 : Int) - 52 := by
  show max ((0 : Int) + n.log2 - (52 : Nat)) (2 - 2 ^ (11 - 1) - (52 : Nat)) = _
  omega
 simp only [hl]
 rw [show (0 - ((n.log2 : Int) - 52)).toNat = 52 - n.log2 by omega, show ((n.log2 : Int) - 52 - 0).toNat = 0 by omega, cut0]
 rw [Nat.shiftLeft_eq]
 have hr : ((n.log2 : Int) - 52 - double.leastPlace).toNat = n.log2 + 1022 := by
  show ((n.log2 : Int) - 52 - (2 - 2 ^ (11 - 1) - (52 : Nat))).toNat = _
  omega
 rw [hr]
 have hb : double.binade = 2 ^ 52 := rfl
 rw [hb]
 have hi : double.infRung = 2047 * 2 ^ 52 := rfl
 rw [hi, Nat.min_eq_left (by omega)]
 rfl
theorem fl_zero : fl 0 = 0 := by
 unfold fl FloatKind.nearest FloatKind.encode FloatKind.format Format.write Format.nearest
 rfl
theorem read_pos {n : Nat} (h0 : n ≠ 0) (h : n < 2 ^ 53) : double.read (fl n) = .number false (n * 2 ^ (52 - n.log2)) ((n.log2 : Int) - 52) := by
 have hk : n.log2 ≤ 52 := by
  have := (Nat.log2_lt h0).2 h
  omega
 obtain ⟨h1, h2⟩ := log2_pow h0
 have h3 : n * 2 ^ (52 - n.log2) < 2 ^ 53 := by
  have : n * 2 ^ (52 - n.log2) < 2 ^ (n.log2 + 1) * 2 ^ (52 - n.log2) := Nat.mul_lt_mul_of_pos_right h2 (Nat.pow_pos (by omega))
  rw [← Nat.pow_add] at this
  rw [show n.log2 + 1 + (52 - n.log2) = 53 by omega] at this
  exact this
 have h4 : 2 ^ 52 ≤ n * 2 ^ (52 - n.log2) := by
  have : 2 ^ n.log2 * 2 ^ (52 - n.log2) ≤ n * 2 ^ (52 - n.log2) := Nat.mul_le_mul_right _ h1
  rw [← Nat.pow_add, show n.log2 + (52 - n.log2) = 52 by omega] at this
  exact this
 rw [fl_pos h0 h]
 generalize n * 2 ^ (52 - n.log2) = m at h3 h4 ⊢
 generalize n.log2 = k at hk ⊢
 unfold Format.read
 have hs : double.signWeight = 2 ^ 63 := rfl
 have hb : double.binade = 2 ^ 52 := rfl
 have hi : double.infRung = 2047 * 2 ^ 52 := rfl
 have hlp : double.leastPlace = -1074 := rfl
 simp only [hs, hb, hi, hlp]
 have e1 : ((k + 1022) * 2 ^ 52 + m) / 2 ^ 63 = 0 := by omega
 have e2 : ((k + 1022) * 2 ^ 52 + m) % 2 ^ 63 = (k + 1022) * 2 ^ 52 + m := by omega
 have e3 : ((k + 1022) * 2 ^ 52 + m) / 2 ^ 52 = k + 1023 := by omega
 have e4 : ((k + 1022) * 2 ^ 52 + m) % 2 ^ 52 = m - 2 ^ 52 := by omega
 rw [e1, e2, if_neg (by omega), if_pos (by omega), e3, e4]
 rw [show 2 ^ 52 + (m - 2 ^ 52) = m by omega, show (-1074 : Int) + ((k + 1023 - 1 : Nat) : Int) = (k : Int) - 52 by omega]
 rfl
theorem read_zero : double.read (fl 0) = .number false 0 (-1074) := by
 rw [fl_zero]
 rfl
theorem signed_up (m u : Nat) : signed false m u = (m * 2 ^ u : Nat) := by
 unfold signed
 simp [Nat.shiftLeft_eq]
theorem read_fl {n : Nat} (h : n < 2 ^ 53) : ∃ (m : Nat) (k : Nat), double.read (fl n) = .number false m (-(k : Int)) ∧ m = n * 2 ^ k ∧ k ≤ 1074 := by
 by_cases h0 : n = 0
 ·subst h0
  have z : ∀ k : Nat, 0 = 0 * 2 ^ k := fun k => (Nat.zero_mul _).symm
  exact ⟨0, 1074, read_zero, z 1074, Nat.le_refl _⟩
 ·have hk : n.log2 ≤ 52 := by
   have := (Nat.log2_lt h0).2 h
   omega
  exact ⟨_, 52 - n.log2, by rw [read_pos h0 h]; congr 1; omega, rfl, by omega⟩
theorem toInt_fl {n : Nat} (h : n < 2 ^ 53) : (FloatKind.decode .f64 (fl n)).toInt .zero = some (n : Int) := by
 obtain ⟨m, k, e, hm, hk⟩ := read_fl h
 show (double.read (fl n)).toInt .zero = _
 rw [e]
 unfold Datum.toInt Datum.integral
 simp only []
 congr 1
 rw [signed_up, Nat.pow_zero, Nat.mul_one, show (-(k : Int)).toNat = 0 by omega, show (-(-(k : Int))).toNat = k by omega, Nat.shiftLeft_zero]
 congr 1
 unfold Toward.cut
 simp only [Bool.toNat_false, Nat.add_zero]
 subst hm
 by_cases h0 : n = 0
 ·subst h0
  rw [Nat.zero_mul, Nat.zero_div]
 have : 1 <<< min k ((n * 2 ^ k).log2 + 2) = 2 ^ k := by
  rw [Nat.shiftLeft_eq, Nat.one_mul, Nat.min_eq_left]
  have h1 : n * 2 ^ k ≠ 0 := Nat.mul_ne_zero h0 (Nat.ne_of_gt (Nat.pow_pos (by omega)))
  have : k ≤ (n * 2 ^ k).log2 := (Nat.le_log2 h1).2 (Nat.le_mul_of_pos_left _ (by omega))
  omega
 rw [this, Nat.mul_div_cancel _ (Nat.pow_pos (by omega))]
theorem order_fl {a b : Nat} (ha : a < 2 ^ 53) (hb : b < 2 ^ 53) : double.order (fl a) (fl b) = some (compare (a : Int) (b : Int)) := by
 obtain ⟨m, k, e, hm, hk⟩ := read_fl ha
 obtain ⟨m', k', e', hm', hk'⟩ := read_fl hb
 unfold Format.order
 rw [e, e']
 unfold Datum.order
 simp only [signed_up]
 congr 1
 subst hm hm'
 have h1 : (a * 2 ^ k * 2 ^ (-(k : Int) - min (-(k : Int)) (-(k' : Int))).toNat : Nat) = a * 2 ^ max k k' := by
  rw [Nat.mul_assoc, ← Nat.pow_add]
  congr 2
  omega
 have h2 : (b * 2 ^ k' * 2 ^ (-(k' : Int) - min (-(k : Int)) (-(k' : Int))).toNat : Nat) = b * 2 ^ max k k' := by
  rw [Nat.mul_assoc, ← Nat.pow_add]
  congr 2
  omega
 rw [h1, h2]
 have hp : 0 < 2 ^ max k k' := Nat.pow_pos (by omega)
 generalize 2 ^ max k k' = p at hp
 have key : ∀ x y : Int, compare x y = if x < y then .lt else if x = y then .eq else .gt := fun x y => by
  show compareOfLessAndEq x y = _
  rfl
 rw [key, key]
 have hlt : ((a * p : Nat) : Int) < ((b * p : Nat) : Int) ↔ (a : Int) < b := by
  rw [Int.ofNat_lt, Int.ofNat_lt]
  exact Nat.mul_lt_mul_right hp
 have heq : ((a * p : Nat) : Int) = ((b * p : Nat) : Int) ↔ (a : Int) = b := by
  rw [Int.ofNat_inj, Int.ofNat_inj]
  exact Nat.mul_left_inj (by omega)
 simp only [hlt, heq]
end Go.Flo
