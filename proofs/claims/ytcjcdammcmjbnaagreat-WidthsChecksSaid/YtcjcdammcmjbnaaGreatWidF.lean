/- Widths: floats as whole numbers; over the front end. -/
import Derived.Test.YtcjcdammcmjbnaaGreatFeC
import Derived.Test.YtcjcdammcmjbnaaGreatFlo2
import Derived.KernelRfl
namespace Go.Proofs.YtcjcdammcmjbnaaGreat.U
open Go Go.Vai Go.Flo
set_option linter.unusedVariables false
def toI (x : Nat) : Int := ((FloatKind.decode .f64 x).toInt .zero).getD 0
def isF (x : Nat) : Prop := ∃ a : Nat, a < 1125899906842624 ∧ x = fl (a : Int)
theorem toI_fl {a : Nat} (h : a < 1125899906842624) : toI (fl (a : Int)) = a := by
 unfold toI
 rw [toInt_fl (by omega)]
 rfl
theorem isF.rng {x : Nat} (h : isF x) : 0 ≤ toI x ∧ toI x < 1125899906842624 := by
 obtain ⟨a, h1, rfl⟩ := h
 rw [toI_fl h1]
 omega
theorem isF.eq {x : Nat} (h : isF x) : x = fl (toI x) := by
 obtain ⟨a, h1, rfl⟩ := h
 rw [toI_fl h1]
theorem isF.mk {a : Int} (h0 : 0 ≤ a) (h1 : a < 1125899906842624) : isF (fl a) ∧ toI (fl a) = a := by
 obtain ⟨n, rfl⟩ := Int.eq_ofNat_of_zero_le h0
 exact ⟨⟨n, by omega, rfl⟩, toI_fl (by omega)⟩
theorem isF.order {x y : Nat} (h : isF x) (k : isF y) : Ieee.double.order x y = some (compare (toI x) (toI y)) := by
 obtain ⟨a, h1, rfl⟩ := h
 obtain ⟨b, k1, rfl⟩ := k
 rw [toI_fl h1, toI_fl k1]
 exact order_fl (by omega) (by omega)
theorem isF.add {x y : Nat} (h : isF x) (k : isF y) (hs : toI x + toI y < 1125899906842624) : ∃ z, Ieee.double.add x y = some z ∧ isF z ∧ toI z = toI x + toI y := by
 obtain ⟨a, h1, rfl⟩ := h
 obtain ⟨b, k1, rfl⟩ := k
 rw [toI_fl h1, toI_fl k1] at hs ⊢
 exact ⟨_, add_fl (by omega), ⟨a + b, by omega, rfl⟩, by rw [toI_fl (by omega)]; omega⟩
theorem isF.mul {x y : Nat} (h : isF x) (k : isF y) (hs : toI x * toI y < 1125899906842624) : ∃ z, Ieee.double.mul x y = some z ∧ isF z ∧ toI z = toI x * toI y := by
 obtain ⟨a, h1, rfl⟩ := h
 obtain ⟨b, k1, rfl⟩ := k
 rw [toI_fl h1, toI_fl k1] at hs ⊢
 have hs' : a * b < 1125899906842624 := by
  rw [← Int.natCast_mul] at hs
  omega
 exact ⟨_, mul_fl (by omega) (by omega) (by omega), ⟨a * b, hs', rfl⟩, by rw [toI_fl hs', Int.natCast_mul]⟩
theorem c1000 : isF 4652007308841189376 ∧ toI 4652007308841189376 = 1000 := by
 have e : (4652007308841189376 : Nat) = fl ((1000 : Nat) : Int) := by decide +kernel
 rw [e]
 exact ⟨⟨1000, by omega, rfl⟩, toI_fl (by omega)⟩
theorem cNone : isF 4787326403894837248 ∧ toI 4787326403894837248 = 1099511627776 := by
 have e : (4787326403894837248 : Nat) = fl ((1099511627776 : Nat) : Int) := by decide +kernel
 rw [e]
 exact ⟨⟨1099511627776, by omega, rfl⟩, toI_fl (by omega)⟩
noncomputable def minR (x c : Nat) : Option Value := (pureOf pr (builtin Builtin.min #[] 0 #[] #[.float .f64 x, .float .f64 c])).bind fun n => match n with
 | .value v => some v
 | _ => none
def pickO (x c : Nat) : Ordering → Nat
 | .lt => x
 | .gt => c
 | .eq => if (FloatKind.decode .f64 x).neg then x else c
theorem minR_val {x c : Nat} (hx : isF x) (hc : isF c) : ∃ z, minR x c = some (.float .f64 z) ∧ isF z ∧ toI z = min (toI x) (toI c) := by
 have key : ∀ o, Ieee.double.order x c = some o → minR x c = some (.float .f64 (pickO x c o)) := fun o ho => by
  unfold minR
  have h2 : Builtin.min2 (.float .f64 x) (.float .f64 c) = Sem.pure (.float .f64 (pickO x c o)) := by
   unfold Builtin.min2
   show (match Ieee.double.order x c with | none => _ | some .lt => _ | some .gt => _ | some .eq => _) = _
   rw [ho]
   cases o <;> rfl
  have e : builtin Builtin.min #[] 0 #[] #[.float .f64 x, .float .f64 c] = ((Builtin.min2 (.float .f64 x) (.float .f64 c)).bind fun s => Sem.pure s).bind fun v => Sem.pure (Next.value v) := rfl
  rw [e, h2]
  rfl
 rcases Int.lt_trichotomy (toI x) (toI c) with h | h | h
 ·exact ⟨x, key .lt (by rw [hx.order hc, Int.compare_eq_lt.2 h]), hx, by omega⟩
 ·refine ⟨_, key .eq (by rw [hx.order hc, Int.compare_eq_eq.2 h]), ?_, ?_⟩
  ·show isF (if _ then x else c)
   split
   ·exact hx
   ·exact hc
  ·show toI (if _ then x else c) = _
   split <;> omega
 ·exact ⟨c, key .gt (by rw [hx.order hc, Int.compare_eq_gt.2 h]), hc, by omega⟩
theorem minE {x c : Nat} {e : Option Value} (he : e = minR x c) (hx : isF x) (hc : isF c) : ∃ z, e = some (.float .f64 z) := by
 obtain ⟨z, h, _⟩ := minR_val hx hc
 exact ⟨z, he.trans h⟩
theorem minG {x c z : Nat} {e : Option Value} (g : e = some (.float .f64 z)) (he : e = minR x c) (hx : isF x) (hc : isF c) : isF z ∧ toI z = min (toI x) (toI c) := by
 obtain ⟨y, h, h1, h2⟩ := minR_val hx hc
 rw [he, h] at g
 injection g with g
 injection g with _ g
 rw [← g]
 exact ⟨h1, h2⟩
theorem arithC {x u a : Nat} (h : Ieee.double.add x u = some a) : Go.Op.Complex.arith .add .f64 x u = Sem.pure a := by
 have f : Go.Op.floatArith .add .f64 x u = Sem.pure (.float .f64 a) := by
  show (match Ieee.double.add x u with
   | some r => Sem.pure (Value.float .f64 r)
   | none => _) = _
  rw [h]
 unfold Go.Op.Complex.arith
 rw [f]
 rfl
theorem addC {x y u v a b : Nat} {o1 o2 : Operand} (hx : Ieee.double.add x u = some a) (hy : Ieee.double.add y v = some b) : binV pr .add 51 o1 o2 (.complex .f64 x y) (.complex .f64 u v) = some (.complex .f64 a b) := by
 have e : binV pr .add 51 o1 o2 (.complex .f64 x y) (.complex .f64 u v) = pureOf pr ((Go.Op.Complex.arith .add .f64 x u).bind fun r => (Go.Op.Complex.arith .add .f64 y v).bind fun i => Sem.pure (.complex .f64 r i)) := by kernel_rfl
 rw [e, arithC hx, arithC hy]
 rfl
theorem addG {x y u v p q : Nat} {o1 o2 : Operand} (g : binV pr .add 51 o1 o2 (.complex .f64 x y) (.complex .f64 u v) = some (.complex .f64 p q)) (hx : isF x) (hy : isF y) (hu : isF u) (hv : isF v) (h1 : toI x + toI u < 1125899906842624) (h2 : toI y + toI v < 1125899906842624) : isF p ∧ isF q ∧ toI p = toI x + toI u ∧ toI q = toI y + toI v := by
 obtain ⟨a, ha, a1, a2⟩ := hx.add hu h1
 obtain ⟨b, hb, b1, b2⟩ := hy.add hv h2
 rw [addC ha hb] at g
 injection g with g
 injection g with _ ga gb
 subst ga gb
 exact ⟨a1, b1, a2, b2⟩
abbrev pre_of (x y : Nat) : Prop := isF x ∧ isF y
def post_of (x y u v : Nat) : Prop := isF u ∧ isF v ∧ toI u = min (toI x) 1000 ∧ toI v = if toI y > 1000 then 1099511627776 else toI y
abbrev pre_plus2 (x y u v : Nat) : Prop := isF x ∧ isF y ∧ isF u ∧ isF v ∧ toI x + toI u < 1125899906842624 ∧ toI y + toI v < 1125899906842624
abbrev post_plus2 (x y u v a b : Nat) : Prop := isF a ∧ isF b ∧ toI a = min (toI x + toI u) 1000 ∧ toI b = if toI y + toI v > 1000 then 1099511627776 else toI y + toI v
theorem mulF {x u a : Nat} {o1 o2 : Operand} (h : Ieee.double.mul x u = some a) : binV pr .mul 86 o1 o2 (.float .f64 x) (.float .f64 u) = some (.float .f64 a) := by
 have f : Go.Op.floatArith .mul .f64 x u = Sem.pure (.float .f64 a) := by
  show (match Ieee.double.mul x u with
   | some r => Sem.pure (Value.float .f64 r)
   | none => _) = _
  rw [h]
 have e : binV pr .mul 86 o1 o2 (.float .f64 x) (.float .f64 u) = pureOf pr (Go.Op.floatArith .mul .f64 x u) := by kernel_rfl
 rw [e, f]
 rfl
theorem mulG {x u p : Nat} {o1 o2 : Operand} (g : binV pr .mul 86 o1 o2 (.float .f64 x) (.float .f64 u) = some (.float .f64 p)) (hx : isF x) (hu : isF u) (h1 : toI x * toI u < 1125899906842624) : isF p ∧ toI p = toI x * toI u := by
 obtain ⟨a, ha, a1, a2⟩ := hx.mul hu h1
 rw [mulF ha] at g
 injection g with g
 injection g with _ ga
 subst ga
 exact ⟨a1, a2⟩
theorem mulE {x u : Nat} {o1 o2 : Operand} (hx : isF x) (hu : isF u) (h1 : toI x * toI u < 1125899906842624) : ∃ p, binV pr .mul 86 o1 o2 (.float .f64 x) (.float .f64 u) = some (.float .f64 p) := by
 obtain ⟨a, ha, a1, a2⟩ := hx.mul hu h1
 exact ⟨a, mulF ha⟩
theorem c1 : isF 4607182418800017408 ∧ toI 4607182418800017408 = 1 := by
 have e : (4607182418800017408 : Nat) = fl ((1 : Nat) : Int) := by decide +kernel
 rw [e]
 exact ⟨⟨1, by omega, rfl⟩, toI_fl (by omega)⟩
theorem c0 : isF 0 ∧ toI 0 = 0 := by
 have e : (0 : Nat) = fl ((0 : Nat) : Int) := by decide +kernel
 have h := toI_fl (a := 0) (by omega)
 have k : toI 0 = toI (fl ((0 : Nat) : Int)) := congrArg toI e
 exact ⟨⟨0, by omega, e⟩, k.trans h⟩
theorem near {a : Int} (h0 : 0 ≤ a) (h1 : a < 1125899906842624) : isF (FloatKind.nearest .f64 a) ∧ toI (FloatKind.nearest .f64 a) = a := isF.mk h0 h1
abbrev pre_told (x y : Nat) : Prop := isF x ∧ isF y
abbrev post_told (x y : Nat) (r s : Int) : Prop := r = toI x ∧ s = if toI y ≥ 1099511627776 then -1 else toI y
theorem min_1000 {a : Int} (h : 0 ≤ a) : min a 1000 = if a > 1000 then 1000 else a := by omega
noncomputable def f2iR (x : Nat) : Option Value := pureOf pr (convert 86 3 (.float .f64 x))
theorem isF.dec {x : Nat} (h : isF x) : (FloatKind.decode .f64 x).toInt .zero = some (toI x) := by
 obtain ⟨a, h1, rfl⟩ := h
 rw [toI_fl h1, toInt_fl (by omega)]
theorem f2iR_val {x : Nat} (h : isF x) : f2iR x = some (.int .i64 (toI x)) := by
 have e : f2iR x = pureOf pr (Conv.floatToInt .f64 x .i64) := by kernel_rfl
 rw [e]
 unfold Conv.floatToInt
 rw [h.dec]
 have := h.rng
 have h1 : IntKind.i64.min ≤ toI x ∧ toI x ≤ IntKind.i64.max := ⟨by
  show (-9223372036854775808 : Int) ≤ toI x
  omega, by
  show toI x ≤ 9223372036854775807
  omega⟩
 simp only [h1, and_self, if_true]
 rfl
theorem f2iR_is {x : Nat} {r : Int} (h : isF x) (g : f2iR x = some (.int .i64 r)) : r = toI x := by
 rw [f2iR_val h] at g
 injection g with g
 injection g with _ g
 exact g.symm
theorem told_yes {a b : Int} (h : (some (compare a b) == some Ordering.gt || some (compare a b) == some Ordering.eq) = true) : a ≥ b := by
 rcases Int.lt_trichotomy a b with k | k | k
 ·rw [Int.compare_eq_lt.2 k] at h
  simp at h
 ·omega
 ·omega
theorem told_no {a b : Int} (h : (some (compare a b) == some Ordering.gt || some (compare a b) == some Ordering.eq) = false) : ¬ a ≥ b := by
 rcases Int.lt_trichotomy a b with k | k | k
 ·omega
 ·rw [Int.compare_eq_eq.2 k] at h
  simp at h
 ·rw [Int.compare_eq_gt.2 k] at h
  simp at h
theorem mul_some {a : Nat} (h : a < 2 ^ 53) {y m : Nat} {s : Bool} {i : Int} (hy : Ieee.double.read y = .number s m i) : ∃ z, Ieee.double.mul (fl (a : Int)) y = some z := by
 obtain ⟨m', k, hr, _⟩ := read_fl h
 unfold Ieee.Format.mul
 rw [hr, hy]
 exact ⟨_, rfl⟩
theorem isF.mulNeg {x : Nat} (h : isF x) : ∃ z, Ieee.double.mul x (FloatKind.nearest .f64 (-1)) = some z := by
 obtain ⟨a, h1, rfl⟩ := h
 exact mul_some (s := true) (m := 4503599627370496) (i := -52) (by omega) (by kernel_rfl)
noncomputable def maxR (x c : Nat) : Option Value := (pureOf pr (builtin Builtin.max #[] 0 #[] #[.float .f64 x, .float .f64 c])).bind fun n => match n with
 | .value v => some v
 | _ => none
def pickM (x c : Nat) : Ordering → Nat
 | .lt => c
 | .gt => x
 | .eq => if (FloatKind.decode .f64 x).neg then c else x
theorem maxR_val {x c : Nat} (hx : isF x) (hc : isF c) : ∃ z, maxR x c = some (.float .f64 z) ∧ isF z ∧ toI z = max (toI x) (toI c) := by
 have key : ∀ o, Ieee.double.order x c = some o → maxR x c = some (.float .f64 (pickM x c o)) := fun o ho => by
  unfold maxR
  have h2 : Builtin.max2 (.float .f64 x) (.float .f64 c) = Sem.pure (.float .f64 (pickM x c o)) := by
   unfold Builtin.max2
   show (match Ieee.double.order x c with | none => _ | some .lt => _ | some .gt => _ | some .eq => _) = _
   rw [ho]
   cases o <;> rfl
  have e : builtin Builtin.max #[] 0 #[] #[.float .f64 x, .float .f64 c] = ((Builtin.max2 (.float .f64 x) (.float .f64 c)).bind fun s => Sem.pure s).bind fun v => Sem.pure (Next.value v) := rfl
  rw [e, h2]
  rfl
 rcases Int.lt_trichotomy (toI x) (toI c) with h | h | h
 ·exact ⟨c, key .lt (by rw [hx.order hc, Int.compare_eq_lt.2 h]), hc, by omega⟩
 ·refine ⟨_, key .eq (by rw [hx.order hc, Int.compare_eq_eq.2 h]), ?_, ?_⟩
  ·show isF (if _ then c else x)
   split
   ·exact hc
   ·exact hx
  ·show toI (if _ then c else x) = _
   split <;> omega
 ·exact ⟨x, key .gt (by rw [hx.order hc, Int.compare_eq_gt.2 h]), hx, by omega⟩
end Go.Proofs.YtcjcdammcmjbnaaGreat.U
