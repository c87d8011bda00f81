/- Widths: floats as whole numbers; what the widths' functions ask and answer. -/
import Derived.Test.YtcjcdammcmjbnaaWidC
import Derived.Test.YtcjcdammcmjbnaaFlo2
import Derived.KernelRfl
namespace Go.Proofs.Ytcjcdammcmjbnaa.U
open Go Go.Vai Go.Flo
set_option linter.unusedVariables false
def toI (x : Nat) : Int := ((FloatKind.decode .f64 x).toInt .zero).getD 0
/-- A whole number below 2^50 as a float. -/
def isF (x : Nat) : Prop := ∃ a : Nat, a < 1125899906842624 ∧ x = fl (a : Int)
theorem toI_fl {a : Nat} (h : a < 1125899906842624) : toI (fl (a : Int)) = a := by
  unfold toI
  rw [toInt_fl (by omega)]
  rfl
theorem isF.rng {x : Nat} (h : isF x) : 0 ≤ toI x ∧ toI x < 1125899906842624 := by
  obtain ⟨a, h1, rfl⟩ := h
  rw [toI_fl h1]
  omega
theorem isF.eq {x : Nat} (h : isF x) : x = fl (toI x) := by
  obtain ⟨a, h1, rfl⟩ := h
  rw [toI_fl h1]
theorem isF.mk {a : Int} (h0 : 0 ≤ a) (h1 : a < 1125899906842624) : isF (fl a) ∧ toI (fl a) = a := by
  obtain ⟨n, rfl⟩ := Int.eq_ofNat_of_zero_le h0
  exact ⟨⟨n, by omega, rfl⟩, toI_fl (by omega)⟩
theorem isF.order {x y : Nat} (h : isF x) (k : isF y) : Ieee.double.order x y = some (compare (toI x) (toI y)) := by
  obtain ⟨a, h1, rfl⟩ := h
  obtain ⟨b, k1, rfl⟩ := k
  rw [toI_fl h1, toI_fl k1]
  exact order_fl (by omega) (by omega)
theorem isF.add {x y : Nat} (h : isF x) (k : isF y) (hs : toI x + toI y < 1125899906842624) : ∃ z, Ieee.double.add x y = some z ∧ isF z ∧ toI z = toI x + toI y := by
  obtain ⟨a, h1, rfl⟩ := h
  obtain ⟨b, k1, rfl⟩ := k
  rw [toI_fl h1, toI_fl k1] at hs ⊢
  exact ⟨_, add_fl (by omega), ⟨a + b, by omega, rfl⟩, by rw [toI_fl (by omega)]; omega⟩
theorem isF.mul {x y : Nat} (h : isF x) (k : isF y) (hs : toI x * toI y < 1125899906842624) : ∃ z, Ieee.double.mul x y = some z ∧ isF z ∧ toI z = toI x * toI y := by
  obtain ⟨a, h1, rfl⟩ := h
  obtain ⟨b, k1, rfl⟩ := k
  rw [toI_fl h1, toI_fl k1] at hs ⊢
  have hs' : a * b < 1125899906842624 := by
    rw [← Int.natCast_mul] at hs
    omega
  exact ⟨_, mul_fl (by omega) (by omega) (by omega), ⟨a * b, hs', rfl⟩, by rw [toI_fl hs', Int.natCast_mul]⟩
theorem c1000 : isF 4652007308841189376 ∧ toI 4652007308841189376 = 1000 := by
  have e : (4652007308841189376 : Nat) = fl ((1000 : Nat) : Int) := by decide +kernel
  rw [e]
  exact ⟨⟨1000, by omega, rfl⟩, toI_fl (by omega)⟩
theorem cNone : isF 4787326403894837248 ∧ toI 4787326403894837248 = 1099511627776 := by
  have e : (4787326403894837248 : Nat) = fl ((1099511627776 : Nat) : Int) := by decide +kernel
  rw [e]
  exact ⟨⟨1099511627776, by omega, rfl⟩, toI_fl (by omega)⟩
/-- The lesser of two floats, as the model has it. -/
noncomputable def minR (x c : Nat) : Option Value := (pureOf pr (builtin Builtin.min #[] 0 #[] #[.float .f64 x, .float .f64 c])).bind fun n => match n with
  | .value v => some v
  | _ => none
def pickO (x c : Nat) : Ordering → Nat
  | .lt => x
  | .gt => c
  | .eq => if (FloatKind.decode .f64 x).neg then x else c
theorem minR_val {x c : Nat} (hx : isF x) (hc : isF c) : ∃ z, minR x c = some (.float .f64 z) ∧ isF z ∧ toI z = min (toI x) (toI c) := by
  have key : ∀ o, Ieee.double.order x c = some o → minR x c = some (.float .f64 (pickO x c o)) := fun o ho => by
    unfold minR
    have h2 : Builtin.min2 (.float .f64 x) (.float .f64 c) = Sem.pure (.float .f64 (pickO x c o)) := by
      unfold Builtin.min2
      show (match Ieee.double.order x c with | none => _ | some .lt => _ | some .gt => _ | some .eq => _) = _
      rw [ho]
      cases o <;> rfl
    have e : builtin Builtin.min #[] 0 #[] #[.float .f64 x, .float .f64 c] = ((Builtin.min2 (.float .f64 x) (.float .f64 c)).bind fun s => Sem.pure s).bind fun v => Sem.pure (Next.value v) := rfl
    rw [e, h2]
    rfl
  rcases Int.lt_trichotomy (toI x) (toI c) with h | h | h
  · exact ⟨x, key .lt (by rw [hx.order hc, Int.compare_eq_lt.2 h]), hx, by omega⟩
  · refine ⟨_, key .eq (by rw [hx.order hc, Int.compare_eq_eq.2 h]), ?_, ?_⟩
    · show isF (if _ then x else c)
      split
      · exact hx
      · exact hc
    · show toI (if _ then x else c) = _
      split <;> omega
  · exact ⟨c, key .gt (by rw [hx.order hc, Int.compare_eq_gt.2 h]), hc, by omega⟩
theorem minE {x c : Nat} {e : Option Value} (he : e = minR x c) (hx : isF x) (hc : isF c) : ∃ z, e = some (.float .f64 z) := by
  obtain ⟨z, h, _⟩ := minR_val hx hc
  exact ⟨z, he.trans h⟩
theorem minG {x c z : Nat} {e : Option Value} (g : e = some (.float .f64 z)) (he : e = minR x c) (hx : isF x) (hc : isF c) : isF z ∧ toI z = min (toI x) (toI c) := by
  obtain ⟨y, h, h1, h2⟩ := minR_val hx hc
  rw [he, h] at g
  injection g with g
  injection g with _ g
  rw [← g]
  exact ⟨h1, h2⟩
theorem arithC {x u a : Nat} (h : Ieee.double.add x u = some a) : Go.Op.Complex.arith .add .f64 x u = Sem.pure a := by
  have f : Go.Op.floatArith .add .f64 x u = Sem.pure (.float .f64 a) := by
    show (match Ieee.double.add x u with
      | some r => Sem.pure (Value.float .f64 r)
      | none => _) = _
    rw [h]
  unfold Go.Op.Complex.arith
  rw [f]
  rfl
theorem addC {x y u v a b : Nat} {o1 o2 : Operand} (hx : Ieee.double.add x u = some a) (hy : Ieee.double.add y v = some b) : binV pr .add 53 o1 o2 (.complex .f64 x y) (.complex .f64 u v) = some (.complex .f64 a b) := by
  have e : binV pr .add 53 o1 o2 (.complex .f64 x y) (.complex .f64 u v) = pureOf pr ((Go.Op.Complex.arith .add .f64 x u).bind fun r => (Go.Op.Complex.arith .add .f64 y v).bind fun i => Sem.pure (.complex .f64 r i)) := by kernel_rfl
  rw [e, arithC hx, arithC hy]
  rfl
theorem addG {x y u v p q : Nat} {o1 o2 : Operand} (g : binV pr .add 53 o1 o2 (.complex .f64 x y) (.complex .f64 u v) = some (.complex .f64 p q)) (hx : isF x) (hy : isF y) (hu : isF u) (hv : isF v) (h1 : toI x + toI u < 1125899906842624) (h2 : toI y + toI v < 1125899906842624) : isF p ∧ isF q ∧ toI p = toI x + toI u ∧ toI q = toI y + toI v := by
  obtain ⟨a, ha, a1, a2⟩ := hx.add hu h1
  obtain ⟨b, hb, b1, b2⟩ := hy.add hv h2
  rw [addC ha hb] at g
  injection g with g
  injection g with _ ga gb
  subst ga gb
  exact ⟨a1, b1, a2, b2⟩
/-! ### contracts -/
abbrev pre_of (x y : Nat) : Prop := isF x ∧ isF y
abbrev post_of (x y u v : Nat) : Prop := isF u ∧ isF v ∧ toI u = min (toI x) 1000 ∧ toI v = if toI y > 1000 then 1099511627776 else toI y
abbrev pre_plus2 (x y u v : Nat) : Prop := isF x ∧ isF y ∧ isF u ∧ isF v ∧ toI x + toI u < 1125899906842624 ∧ toI y + toI v < 1125899906842624
abbrev post_plus2 (x y u v a b : Nat) : Prop := isF a ∧ isF b ∧ toI a = min (toI x + toI u) 1000 ∧ toI b = if toI y + toI v > 1000 then 1099511627776 else toI y + toI v
theorem mulF {x u a : Nat} {o1 o2 : Operand} (h : Ieee.double.mul x u = some a) : binV pr .mul 89 o1 o2 (.float .f64 x) (.float .f64 u) = some (.float .f64 a) := by
  have f : Go.Op.floatArith .mul .f64 x u = Sem.pure (.float .f64 a) := by
    show (match Ieee.double.mul x u with
      | some r => Sem.pure (Value.float .f64 r)
      | none => _) = _
    rw [h]
  have e : binV pr .mul 89 o1 o2 (.float .f64 x) (.float .f64 u) = pureOf pr (Go.Op.floatArith .mul .f64 x u) := by kernel_rfl
  rw [e, f]
  rfl
theorem mulG {x u p : Nat} {o1 o2 : Operand} (g : binV pr .mul 89 o1 o2 (.float .f64 x) (.float .f64 u) = some (.float .f64 p)) (hx : isF x) (hu : isF u) (h1 : toI x * toI u < 1125899906842624) : isF p ∧ toI p = toI x * toI u := by
  obtain ⟨a, ha, a1, a2⟩ := hx.mul hu h1
  rw [mulF ha] at g
  injection g with g
  injection g with _ ga
  subst ga
  exact ⟨a1, a2⟩
theorem mulE {x u : Nat} {o1 o2 : Operand} (hx : isF x) (hu : isF u) (h1 : toI x * toI u < 1125899906842624) : ∃ p, binV pr .mul 89 o1 o2 (.float .f64 x) (.float .f64 u) = some (.float .f64 p) := by
  obtain ⟨a, ha, a1, a2⟩ := hx.mul hu h1
  exact ⟨a, mulF ha⟩
theorem c1 : isF 4607182418800017408 ∧ toI 4607182418800017408 = 1 := by
  have e : (4607182418800017408 : Nat) = fl ((1 : Nat) : Int) := by decide +kernel
  rw [e]
  exact ⟨⟨1, by omega, rfl⟩, toI_fl (by omega)⟩
theorem c0 : isF 0 ∧ toI 0 = 0 := by
  have e : (0 : Nat) = fl ((0 : Nat) : Int) := by decide +kernel
  have h := toI_fl (a := 0) (by omega)
  have k : toI 0 = toI (fl ((0 : Nat) : Int)) := congrArg toI e
  exact ⟨⟨0, by omega, e⟩, k.trans h⟩
/-! ### nodes in which nothing accepts -/
abbrev nodeV (x0 x1 x2 : Int) (x3 : List AV) (x4 : Bool) (x5 x6 x7 : Int) (x8 : ByteArray) (x9 x10 : Int) (x11 : List AV) : AV := .agg [iv x0, iv x1, iv x2, .sl 2 x3, bv x4, iv x5, iv x6, iv x7, sv x8, iv x9, iv x10, .sl 12 x11]
/-- Nodes of which none accepts. -/
def NS (l : List AV) : Prop := ∀ v ∈ l, np v = true ∧ A 37 [v] [] (bv false) [] ∧ ∃ (x0 x1 x2 : Int) (x3 : List AV) (x4 : Bool) (x5 x6 x7 : Int) (x8 : ByteArray) (x9 x10 : Int) (x11 : List AV), v = nodeV x0 x1 x2 x3 x4 x5 x6 x7 x8 x9 x10 x11
theorem NS.get {l : List AV} (h : NS l) {i : Nat} (hi : i < l.length) : ∃ (x0 x1 x2 : Int) (x3 : List AV) (x4 : Bool) (x5 x6 x7 : Int) (x8 : ByteArray) (x9 x10 : Int) (x11 : List AV), l[i]? = some (nodeV x0 x1 x2 x3 x4 x5 x6 x7 x8 x9 x10 x11) := by
  obtain ⟨_, _, a, b, c, d, e, f, g, i', j, k, m, n, hv⟩ := h _ (List.getElem_mem hi)
  exact ⟨a, b, c, d, e, f, g, i', j, k, m, n, by rw [List.getElem?_eq_getElem hi, hv]⟩
theorem NS.acc {l : List AV} (h : NS l) {i : Nat} {v : AV} (g : l[i]? = some v) : A 37 [v] [] (bv false) [] := (h v (List.mem_of_getElem? g)).2.1
theorem NS.npv {l : List AV} (h : NS l) {i : Nat} {v : AV} (g : l[i]? = some v) : np v = true := (h v (List.mem_of_getElem? g)).1
theorem NS.npl : ∀ {l : List AV}, NS l → npL l = true
  | [], _ => by simp only [npL]
  | v :: l, h => by
    simp only [npL, Bool.and_eq_true]
    exact ⟨(h v (by simp)).1, NS.npl (fun u hu => h u (by simp [hu]))⟩
def Never : Prop := False
theorem Never.elim {p : Prop} (h : Never) : p := False.elim h
abbrev pre_acc (x0 x1 x2 : Int) (x3 : List AV) (x4 : Bool) (x5 x6 x7 : Int) (x8 : ByteArray) (x9 x10 : Int) (x11 : List AV) : Prop := A 37 [nodeV x0 x1 x2 x3 x4 x5 x6 x7 x8 x9 x10 x11] [] (bv false) []
abbrev post_acc (x0 x1 x2 : Int) (x3 : List AV) (x4 : Bool) (x5 x6 x7 : Int) (x8 : ByteArray) (x9 x10 : Int) (x11 : List AV) (b : Bool) : Prop := b = false
abbrev pre_IX (l : List AV) : Prop := NS l ∧ l.length ≤ 1000000
abbrev post_IX (l : List AV) (r : Int) : Prop := r = -1
abbrev inv_IX_0 (l : List AV) (n : Int) (io i : Int) : Prop := NS l ∧ l.length ≤ 1000000 ∧ n = l.length ∧ 0 ≤ i ∧ i ≤ l.length
abbrev mu_IX_0 (l : List AV) (n : Int) (i : Int) : Nat := (n - i).toNat
abbrev out_IX_0_0 (l : List AV) (n : Int) (io y : Int) : Prop := Never
abbrev out_IX_0_1 (l : List AV) (n : Int) (io y : Int) : Prop := True
abbrev pre_CF (l : List AV) : Prop := NS l ∧ l.length ≤ 1000000
abbrev post_CF (l : List AV) (b : Bool) : Prop := b = false
abbrev pre_accepts (x0 x1 x2 : Int) (x3 : List AV) (x4 : Bool) (x5 x6 x7 : Int) (x8 : ByteArray) (x9 x10 : Int) (x11 : List AV) : Prop := x0 ≠ 9 ∧ NS x11 ∧ x11.length ≤ 1000000
abbrev post_accepts (x0 x1 x2 : Int) (x3 : List AV) (x4 : Bool) (x5 x6 x7 : Int) (x8 : ByteArray) (x9 x10 : Int) (x11 : List AV) (b : Bool) : Prop := b = false
/-! ### widths of nodes -/
abbrev setV : AV := nodeV 2 0 0 [] false 0 0 0 (bs []) 0 0 []
theorem NS.nil : NS [] := fun v h => by cases h
/-- So many sets. -/
def Sets (l : List AV) : Prop := ∀ v ∈ l, v = setV
abbrev pre_nodeSet (x0 x1 x2 : Int) (x3 : List AV) (x4 : Bool) (x5 x6 x7 : Int) (x8 : ByteArray) (x9 x10 : Int) (x11 : List AV) (b1 b2 b3 : Int) (sb : List AV) (b10 : Bool) (b4 b5 b6 : Int) (b11 : ByteArray) (b7 b8 : Int) (kb : List AV) (wi : Bool) : Prop := True
abbrev post_nodeSet (x0 x1 x2 : Int) (x3 : List AV) (x4 : Bool) (x5 x6 x7 : Int) (x8 : ByteArray) (x9 x10 : Int) (x11 : List AV) (b1 b2 b3 : Int) (sb : List AV) (b10 : Bool) (b4 b5 b6 : Int) (b11 : ByteArray) (b7 b8 : Int) (kb : List AV) (wi : Bool) (p q : Nat) : Prop := isF p ∧ isF q ∧ toI p = 1 ∧ toI q = 1
abbrev pre_nset (x0 x1 x2 : Int) (x3 : List AV) (x4 : Bool) (x5 x6 x7 : Int) (x8 : ByteArray) (x9 x10 : Int) (x11 : List AV) (b1 b2 b3 : Int) (sb : List AV) (b10 : Bool) (b4 b5 b6 : Int) (b11 : ByteArray) (b7 b8 : Int) (kb : List AV) (wi : Bool) : Prop := nodeV x0 x1 x2 x3 x4 x5 x6 x7 x8 x9 x10 x11 = setV
abbrev post_nset (x0 x1 x2 : Int) (x3 : List AV) (x4 : Bool) (x5 x6 x7 : Int) (x8 : ByteArray) (x9 x10 : Int) (x11 : List AV) (b1 b2 b3 : Int) (sb : List AV) (b10 : Bool) (b4 b5 b6 : Int) (b11 : ByteArray) (b7 b8 : Int) (kb : List AV) (wi : Bool) (p q : Nat) : Prop := isF p ∧ isF q ∧ toI p = 1 ∧ toI q = 1
abbrev pre_nodeSeq (x0 x1 x2 : Int) (x3 : List AV) (x4 : Bool) (x5 x6 x7 : Int) (x8 : ByteArray) (x9 x10 : Int) (x11 : List AV) (b1 b2 b3 : Int) (sb : List AV) (b10 : Bool) (b4 b5 b6 : Int) (b11 : ByteArray) (b7 b8 : Int) (kb : List AV) (wi : Bool) : Prop := x0 = 12 ∧ NS x11 ∧ Sets x11 ∧ x11.length ≤ 300
abbrev post_nodeSeq (x0 x1 x2 : Int) (x3 : List AV) (x4 : Bool) (x5 x6 x7 : Int) (x8 : ByteArray) (x9 x10 : Int) (x11 : List AV) (b1 b2 b3 : Int) (sb : List AV) (b10 : Bool) (b4 b5 b6 : Int) (b11 : ByteArray) (b7 b8 : Int) (kb : List AV) (wi : Bool) (p q : Nat) : Prop := isF p ∧ isF q ∧ toI p = x11.length ∧ toI q = x11.length
abbrev inv_nodeSeq_0 (x22 : List AV) (x23 x25 x26 x27 : Int) (x28 : List AV) (x29 : Bool) (x30 x31 x32 : Int) (x33 : ByteArray) (x34 x35 : Int) (x36 : List AV) (x37 : Bool) (x20o x21o : Nat) (x24o : Int) (x20 x21 : Nat) (x24 : Int) : Prop := Sets x22 ∧ x22.length ≤ 300 ∧ x23 = x22.length ∧ 0 ≤ x24 ∧ x24 ≤ x22.length ∧ isF x20 ∧ isF x21 ∧ toI x20 = x24 ∧ toI x21 = x24
abbrev mu_nodeSeq_0 (x22 : List AV) (x23 x25 x26 x27 : Int) (x28 : List AV) (x29 : Bool) (x30 x31 x32 : Int) (x33 : ByteArray) (x34 x35 : Int) (x36 : List AV) (x37 : Bool) (x20 x21 : Nat) (x24 : Int) : Nat := (x23 - x24).toNat
abbrev out_nodeSeq_0_0 (x22 : List AV) (x23 x25 x26 x27 : Int) (x28 : List AV) (x29 : Bool) (x30 x31 x32 : Int) (x33 : ByteArray) (x34 x35 : Int) (x36 : List AV) (x37 : Bool) (x20o x21o : Nat) (x24o : Int) (y0 y1 : Nat) (y4 : Int) : Prop := isF y0 ∧ isF y1 ∧ toI y0 = x22.length ∧ toI y1 = x22.length
theorem Sets.get {l : List AV} (h : Sets l) {i : Nat} (hi : i < l.length) : ∃ (x0 x1 x2 : Int) (x3 : List AV) (x4 : Bool) (x5 x6 x7 : Int) (x8 : ByteArray) (x9 x10 : Int) (x11 : List AV), l[i]? = some (nodeV x0 x1 x2 x3 x4 x5 x6 x7 x8 x9 x10 x11) :=
  ⟨2, 0, 0, [], false, 0, 0, 0, bs [], 0, 0, [], by rw [List.getElem?_eq_getElem hi, h _ (List.getElem_mem hi)]⟩
theorem Sets.is {l : List AV} (h : Sets l) {i : Nat} {v : AV} (g : l[i]? = some v) : v = setV := h v (List.mem_of_getElem? g)
theorem near {a : Int} (h0 : 0 ≤ a) (h1 : a < 1125899906842624) : isF (FloatKind.nearest .f64 a) ∧ toI (FloatKind.nearest .f64 a) = a := isF.mk h0 h1
abbrev pre_rep2 (x y : Nat) (x0 x1 x2 : Int) (x3 : List AV) (x4 : Bool) (x5 x6 x7 : Int) (x8 : ByteArray) (x9 x10 : Int) (x11 : List AV) : Prop := isF x ∧ isF y ∧ 0 ≤ x5 ∧ x5 < 1125899906842624 ∧ 0 ≤ x6 ∧ x6 < 1125899906842624 ∧ toI x * x5 < 1125899906842624 ∧ toI y * x6 < 1125899906842624
abbrev post_rep2 (x y : Nat) (x0 x1 x2 : Int) (x3 : List AV) (x4 : Bool) (x5 x6 x7 : Int) (x8 : ByteArray) (x9 x10 : Int) (x11 : List AV) (p q : Nat) : Prop := isF p ∧ isF q ∧ toI p = min (toI x * x5) 1000 ∧ toI q = if toI y * x6 > 1000 then 1099511627776 else toI y * x6
/-! ### products, groups, the law -/
abbrev seqV (l : List AV) : AV := nodeV 12 0 0 [] false 0 0 0 (bs []) 0 0 l
abbrev repV (k m : Int) (l : List AV) : AV := nodeV 20 0 0 [] false k m 0 (bs []) 0 0 [seqV l]
abbrev capV (k m : Int) (l : List AV) : AV := nodeV 14 0 0 [] false 1 0 0 (bs []) 0 0 [repV k m l]
def kids1 : List AV → List AV
  | [.agg [_, _, _, _, _, _, _, _, _, _, _, .sl _ K]] => K
  | _ => []
def num1 : List AV → Int
  | [.agg [_, _, _, _, _, .sc (.int _ n), _, _, _, _, _, _]] => n
  | _ => 0
def num2 : List AV → Int
  | [.agg [_, _, _, _, _, _, .sc (.int _ n), _, _, _, _, _]] => n
  | _ => 0
abbrev Few (l : List AV) (k m : Int) : Prop := NS l ∧ Sets l ∧ l.length ≤ 300 ∧ 0 ≤ k ∧ k ≤ 255 ∧ 0 ≤ m ∧ m ≤ 255
abbrev wide (l : List AV) (k m : Int) (p q : Nat) : Prop := isF p ∧ isF q ∧ toI p = min (l.length * k) 1000 ∧ toI q = if l.length * m > 1000 then 1099511627776 else l.length * m
abbrev pre_nseq (x0 x1 x2 : Int) (x3 : List AV) (x4 : Bool) (x5 x6 x7 : Int) (x8 : ByteArray) (x9 x10 : Int) (x11 : List AV) (b1 b2 b3 : Int) (sb : List AV) (b10 : Bool) (b4 b5 b6 : Int) (b11 : ByteArray) (b7 b8 : Int) (kb : List AV) (wi : Bool) : Prop := nodeV x0 x1 x2 x3 x4 x5 x6 x7 x8 x9 x10 x11 = seqV x11 ∧ NS x11 ∧ Sets x11 ∧ x11.length ≤ 300
abbrev post_nseq (x0 x1 x2 : Int) (x3 : List AV) (x4 : Bool) (x5 x6 x7 : Int) (x8 : ByteArray) (x9 x10 : Int) (x11 : List AV) (b1 b2 b3 : Int) (sb : List AV) (b10 : Bool) (b4 b5 b6 : Int) (b11 : ByteArray) (b7 b8 : Int) (kb : List AV) (wi : Bool) (p q : Nat) : Prop := isF p ∧ isF q ∧ toI p = x11.length ∧ toI q = x11.length
abbrev pre_nodeRep (x0 x1 x2 : Int) (x3 : List AV) (x4 : Bool) (x5 x6 x7 : Int) (x8 : ByteArray) (x9 x10 : Int) (x11 : List AV) (b1 b2 b3 : Int) (sb : List AV) (b10 : Bool) (b4 b5 b6 : Int) (b11 : ByteArray) (b7 b8 : Int) (kb : List AV) (wi : Bool) : Prop := Few (kids1 x11) x5 x6
abbrev post_nodeRep (x0 x1 x2 : Int) (x3 : List AV) (x4 : Bool) (x5 x6 x7 : Int) (x8 : ByteArray) (x9 x10 : Int) (x11 : List AV) (b1 b2 b3 : Int) (sb : List AV) (b10 : Bool) (b4 b5 b6 : Int) (b11 : ByteArray) (b7 b8 : Int) (kb : List AV) (wi : Bool) (p q : Nat) : Prop := wide (kids1 x11) x5 x6 p q
abbrev pre_nrep (x0 x1 x2 : Int) (x3 : List AV) (x4 : Bool) (x5 x6 x7 : Int) (x8 : ByteArray) (x9 x10 : Int) (x11 : List AV) (b1 b2 b3 : Int) (sb : List AV) (b10 : Bool) (b4 b5 b6 : Int) (b11 : ByteArray) (b7 b8 : Int) (kb : List AV) (wi : Bool) : Prop := nodeV x0 x1 x2 x3 x4 x5 x6 x7 x8 x9 x10 x11 = repV x5 x6 (kids1 x11) ∧ Few (kids1 x11) x5 x6
abbrev post_nrep (x0 x1 x2 : Int) (x3 : List AV) (x4 : Bool) (x5 x6 x7 : Int) (x8 : ByteArray) (x9 x10 : Int) (x11 : List AV) (b1 b2 b3 : Int) (sb : List AV) (b10 : Bool) (b4 b5 b6 : Int) (b11 : ByteArray) (b7 b8 : Int) (kb : List AV) (wi : Bool) (p q : Nat) : Prop := wide (kids1 x11) x5 x6 p q
abbrev pre_nodeCap (x0 x1 x2 : Int) (x3 : List AV) (x4 : Bool) (x5 x6 x7 : Int) (x8 : ByteArray) (x9 x10 : Int) (x11 : List AV) (b1 b2 b3 : Int) (sb : List AV) (b10 : Bool) (b4 b5 b6 : Int) (b11 : ByteArray) (b7 b8 : Int) (kb : List AV) (wi : Bool) : Prop := Few (kids1 (kids1 x11)) (num1 x11) (num2 x11)
abbrev post_nodeCap (x0 x1 x2 : Int) (x3 : List AV) (x4 : Bool) (x5 x6 x7 : Int) (x8 : ByteArray) (x9 x10 : Int) (x11 : List AV) (b1 b2 b3 : Int) (sb : List AV) (b10 : Bool) (b4 b5 b6 : Int) (b11 : ByteArray) (b7 b8 : Int) (kb : List AV) (wi : Bool) (p q : Nat) : Prop := wide (kids1 (kids1 x11)) (num1 x11) (num2 x11) p q
abbrev pre_ncap (x0 x1 x2 : Int) (x3 : List AV) (x4 : Bool) (x5 x6 x7 : Int) (x8 : ByteArray) (x9 x10 : Int) (x11 : List AV) (b1 b2 b3 : Int) (sb : List AV) (b10 : Bool) (b4 b5 b6 : Int) (b11 : ByteArray) (b7 b8 : Int) (kb : List AV) (wi : Bool) : Prop := nodeV x0 x1 x2 x3 x4 x5 x6 x7 x8 x9 x10 x11 = capV (num1 x11) (num2 x11) (kids1 (kids1 x11)) ∧ Few (kids1 (kids1 x11)) (num1 x11) (num2 x11)
abbrev post_ncap (x0 x1 x2 : Int) (x3 : List AV) (x4 : Bool) (x5 x6 x7 : Int) (x8 : ByteArray) (x9 x10 : Int) (x11 : List AV) (b1 b2 b3 : Int) (sb : List AV) (b10 : Bool) (b4 b5 b6 : Int) (b11 : ByteArray) (b7 b8 : Int) (kb : List AV) (wi : Bool) (p q : Nat) : Prop := wide (kids1 (kids1 x11)) (num1 x11) (num2 x11) p q
abbrev pre_told (x y : Nat) : Prop := isF x ∧ isF y
abbrev post_told (x y : Nat) (r s : Int) : Prop := r = toI x ∧ s = if toI y ≥ 1099511627776 then -1 else toI y
abbrev wideI (l : List AV) (k m : Int) (r s : Int) : Prop := r = min (l.length * k) 1000 ∧ s = if l.length * m > 1000 then -1 else l.length * m
abbrev pre_WidthT (x0 x1 x2 : Int) (x3 : List AV) (x4 : Bool) (x5 x6 x7 : Int) (x8 : ByteArray) (x9 x10 : Int) (x11 : List AV) (y0 y1 y2 : Int) (y3 : List AV) (y4 : Bool) (y5 y6 y7 : Int) (y8 : ByteArray) (y9 y10 : Int) (y11 : List AV) : Prop := Few (kids1 (kids1 x11)) (num1 x11) (num2 x11)
abbrev post_WidthT (x0 x1 x2 : Int) (x3 : List AV) (x4 : Bool) (x5 x6 x7 : Int) (x8 : ByteArray) (x9 x10 : Int) (x11 : List AV) (y0 y1 y2 : Int) (y3 : List AV) (y4 : Bool) (y5 y6 y7 : Int) (y8 : ByteArray) (y9 y10 : Int) (y11 : List AV) (r s : Int) : Prop := wideI (kids1 (kids1 x11)) (num1 x11) (num2 x11) r s
abbrev pre_Width (x0 x1 x2 : Int) (x3 : List AV) (x4 : Bool) (x5 x6 x7 : Int) (x8 : ByteArray) (x9 x10 : Int) (x11 : List AV) (y0 y1 y2 : Int) (y3 : List AV) (y4 : Bool) (y5 y6 y7 : Int) (y8 : ByteArray) (y9 y10 : Int) (y11 : List AV) : Prop := nodeV x0 x1 x2 x3 x4 x5 x6 x7 x8 x9 x10 x11 = capV (num1 x11) (num2 x11) (kids1 (kids1 x11)) ∧ nodeV y0 y1 y2 y3 y4 y5 y6 y7 y8 y9 y10 y11 = nodeV x0 x1 x2 x3 x4 x5 x6 x7 x8 x9 x10 x11 ∧ Few (kids1 (kids1 x11)) (num1 x11) (num2 x11)
abbrev post_Width (x0 x1 x2 : Int) (x3 : List AV) (x4 : Bool) (x5 x6 x7 : Int) (x8 : ByteArray) (x9 x10 : Int) (x11 : List AV) (y0 y1 y2 : Int) (y3 : List AV) (y4 : Bool) (y5 y6 y7 : Int) (y8 : ByteArray) (y9 y10 : Int) (y11 : List AV) (r s : Int) : Prop := wideI (kids1 (kids1 x11)) (num1 x11) (num2 x11) r s
theorem mul_few {n : Nat} {k : Int} (hn : n ≤ 300) (h0 : 0 ≤ k) (h1 : k ≤ 255) : 0 ≤ (n : Int) * k ∧ (n : Int) * k ≤ 76500 :=
  ⟨Int.mul_nonneg (by omega) h0, Int.le_trans (Int.mul_le_mul (show (n : Int) ≤ 300 by omega) h1 h0 (by omega)) (by omega)⟩
theorem min_1000 {a : Int} (h : 0 ≤ a) : min a 1000 = if a > 1000 then 1000 else a := by omega
/-! ### the law -/
abbrev pre_awake : Prop := True
abbrev post_awake (b : Bool) : Prop := b = true
abbrev inv_WidthsChars_0 (n k m x9 x10 x11 : Int) (x12 : List AV) (x13 : Bool) (x14 x15 x16 : Int) (x17 : ByteArray) (x18 x19 : Int) (lo : List AV) (io : Int) (l : List AV) (i : Int) : Prop := NS l ∧ Sets l ∧ (l.length : Int) = i ∧ 0 ≤ i ∧ i ≤ n ∧ n ≤ 300
abbrev mu_WidthsChars_0 (n k m x9 x10 x11 : Int) (x12 : List AV) (x13 : Bool) (x14 x15 x16 : Int) (x17 : ByteArray) (x18 x19 : Int) (l : List AV) (i : Int) : Nat := (n - i).toNat
abbrev out_WidthsChars_0_0 (n k m x9 x10 x11 : Int) (x12 : List AV) (x13 : Bool) (x14 x15 x16 : Int) (x17 : ByteArray) (x18 x19 : Int) (lo : List AV) (io : Int) (l : List AV) (i : Int) : Prop := NS l ∧ Sets l ∧ (l.length : Int) = n
abbrev pre_WidthsChars (n k m : Int) : Prop := True
abbrev post_WidthsChars (n k m : Int) (b : Bool) : Prop := b = true
theorem Sets.app {l : List AV} (h : Sets l) : Sets (l ++ [setV]) := fun v hv => by
  rcases List.mem_append.1 hv with hv | hv
  · exact h v hv
  · exact List.mem_singleton.1 hv
theorem NS.app {l m : List AV} (h : NS l) (k : NS m) : NS (l ++ m) := fun v hv => by
  rcases List.mem_append.1 hv with hv | hv
  · exact h v hv
  · exact k v hv
theorem NS.one {v : AV} (hn : np v = true) (ha : A 37 [v] [] (bv false) []) (hf : ∃ (x0 x1 x2 : Int) (x3 : List AV) (x4 : Bool) (x5 x6 x7 : Int) (x8 : ByteArray) (x9 x10 : Int) (x11 : List AV), v = nodeV x0 x1 x2 x3 x4 x5 x6 x7 x8 x9 x10 x11) : NS [v] := fun u hu => by
  rw [List.mem_singleton] at hu
  rw [hu]
  exact ⟨hn, ha, hf⟩
/-- A float as a whole number, as the model has it. -/
noncomputable def f2iR (x : Nat) : Option Value := pureOf pr (convert 89 3 (.float .f64 x))
theorem isF.dec {x : Nat} (h : isF x) : (FloatKind.decode .f64 x).toInt .zero = some (toI x) := by
  obtain ⟨a, h1, rfl⟩ := h
  rw [toI_fl h1, toInt_fl (by omega)]
theorem f2iR_val {x : Nat} (h : isF x) : f2iR x = some (.int .i64 (toI x)) := by
  have e : f2iR x = pureOf pr (Conv.floatToInt .f64 x .i64) := by kernel_rfl
  rw [e]
  unfold Conv.floatToInt
  rw [h.dec]
  have := h.rng
  have h1 : IntKind.i64.min ≤ toI x ∧ toI x ≤ IntKind.i64.max := ⟨by
    show (-9223372036854775808 : Int) ≤ toI x
    omega, by
    show toI x ≤ 9223372036854775807
    omega⟩
  simp only [h1, and_self, if_true]
  rfl
theorem f2iR_is {x : Nat} {r : Int} (h : isF x) (g : f2iR x = some (.int .i64 r)) : r = toI x := by
  rw [f2iR_val h] at g
  injection g with g
  injection g with _ g
  exact g.symm
theorem told_yes {a b : Int} (h : (some (compare a b) == some Ordering.gt || some (compare a b) == some Ordering.eq) = true) : a ≥ b := by
  rcases Int.lt_trichotomy a b with k | k | k
  · rw [Int.compare_eq_lt.2 k] at h
    simp at h
  · omega
  · omega
theorem told_no {a b : Int} (h : (some (compare a b) == some Ordering.gt || some (compare a b) == some Ordering.eq) = false) : ¬ a ≥ b := by
  rcases Int.lt_trichotomy a b with k | k | k
  · omega
  · rw [Int.compare_eq_eq.2 k] at h
    simp at h
  · rw [Int.compare_eq_gt.2 k] at h
    simp at h
abbrev pre_rep3 (x y : Nat) (x0 x1 x2 : Int) (x3 : List AV) (x4 : Bool) (x5 x6 x7 : Int) (x8 : ByteArray) (x9 x10 : Int) (x11 : List AV) : Prop := nodeV x0 x1 x2 x3 x4 x5 x6 x7 x8 x9 x10 x11 = nodeV 20 0 0 [] false x5 x6 0 (bs []) 0 0 x11 ∧ pre_rep2 x y x0 x1 x2 x3 x4 x5 x6 x7 x8 x9 x10 x11
abbrev post_rep3 (x y : Nat) (x0 x1 x2 : Int) (x3 : List AV) (x4 : Bool) (x5 x6 x7 : Int) (x8 : ByteArray) (x9 x10 : Int) (x11 : List AV) (p q : Nat) : Prop := post_rep2 x y x0 x1 x2 x3 x4 x5 x6 x7 x8 x9 x10 x11 p q
def bytesOfT (P : Program) (e : TypeId) : Nat := match P.info? e with | some i => i.bytes | none => 0
theorem roomD_eq (P : Program) (e n m : Nat) : roomD P e n m = (decide ((n + m) * bytesOfT P e ≤ 140737488355328) && decide (n + m ≤ 9223372036854775807)) := rfl
theorem room_of {e n m : Nat} (hb : Nat.ble (bytesOfT pr e) 200 = true) (h : n + m ≤ 100000000000) : roomD pr e n m = true := by
  have hb := Nat.le_of_ble_eq_true hb
  rw [roomD_eq]
  revert hb
  generalize bytesOfT pr e = z
  intro hb
  have : (n + m) * z ≤ 100000000000 * 200 := Nat.mul_le_mul h hb
  simp only [Bool.and_eq_true, decide_eq_true_eq]
  exact ⟨by omega, by omega⟩
theorem Sets.nil : Sets [] := fun v h => by cases h
end Go.Proofs.Ytcjcdammcmjbnaa.U
