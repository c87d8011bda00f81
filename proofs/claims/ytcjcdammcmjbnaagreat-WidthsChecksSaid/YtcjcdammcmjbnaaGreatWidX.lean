/- Widths: lookbehinds: what is looked at, over trees. -/
import Derived.Test.YtcjcdammcmjbnaaGreatWidL
namespace Go.Proofs.YtcjcdammcmjbnaaGreat.U
open Go Go.Vai Go.Flo
set_option linter.unusedVariables false
def badW (root v : AV) : Bool := decide ((widV (hF root) v).1 ≠ (widV (hF root) v).2) || decide (255 < (widV (hF root) v).2)
def kidsA (l : List AV) : List AV := match (l[11]? : Option AV) with
 | some (.sl z K) => (match z with | 12 => K | _ => [])
 | _ => []
def altL (K : List AV) : List AV := match (K[0]? : Option AV) with
 | some (.agg l) => if wI l 0 = 13 then kidsA l else K
 | _ => K
mutual
def chkV (root : AV) : AV → Option Int
 | .agg l => if wI l 0 = 18 ∧ 7 ≤ wI l 5 ∧ (altL (kidsA l)).any (badW root) = true then some (wI l 1) else chkA root l
 | _ => none
def chkA (root : AV) : List AV → Option Int
 | [] => none
 | v :: r => (chkS root v).or (chkA root r)
def chkS (root : AV) : AV → Option Int
 | .sl z K => match z with | 12 => chkL root K | _ => none
 | _ => none
def chkL (root : AV) : List AV → Option Int
 | [] => none
 | v :: r => (chkV root v).or (chkL root r)
end
def chkP : Option Int → Int × Int
 | none => (0, 0)
 | some a => (35, a)
section
variable {k a c : Int} {s : List AV} {g : Bool} {n m mode : Int} {nm : ByteArray} {on off : Int} {K : List AV} {root x : AV} {l : List AV}
theorem chkV_nd : chkV root (.agg (nR k a c s g n m mode nm on off K)) = if k = 18 ∧ 7 ≤ n ∧ (altL K).any (badW root) = true then some a else chkL root K := by
 simp only [chkV, chkA, chkS, wI, kidsA, Option.none_or, Option.or_none, List.getElem?_cons_zero, List.getElem?_cons_succ]
theorem altL_is (e : K[0]? = some x) {l : List AV} (hx : x = .agg l) (h : wI l 0 = 13) : altL K = kidsA l := by
 unfold altL
 rw [e, hx]
 dsimp only
 rw [if_pos h]
theorem altL_not (e : K[0]? = some x) {l : List AV} (hx : x = .agg l) (h : wI l 0 ≠ 13) : altL K = K := by
 unfold altL
 rw [e, hx]
 dsimp only
 rw [if_neg h]
theorem alt_y {K1 : List AV} (e : K1[0]? = some (.agg (nR k a c s g n m mode nm on off K))) (h : k = 13) : altL K1 = K := altL_is e rfl h
theorem alt_n {K1 : List AV} (e : K1[0]? = some (.agg (nR k a c s g n m mode nm on off K))) (h : k ≠ 13) : altL K1 = K1 := altL_not e rfl h
theorem alt_2 {K1 : List AV} {k2 a2 c2 : Int} {s2 : List AV} {g2 : Bool} {n2 m2 mode2 : Int} {nm2 : ByteArray} {on2 off2 : Int} {K2 : List AV} (h : k = 13) (e : K1[0]? = some (.agg (nR k a c s g n m mode nm on off K))) (e2 : K1[0]? = some (.agg (nR k2 a2 c2 s2 g2 n2 m2 mode2 nm2 on2 off2 K2))) : altL K1 = K2 := by
 rw [e] at e2
 injection e2 with e2
 rw [alt_y e h]
 exact congrArg kidsA (AV.agg.inj e2)
theorem chkL_app (l m : List AV) : chkL root (l ++ m) = (chkL root l).or (chkL root m) := by
 induction l with
 | nil => simp only [List.nil_append, chkL, Option.none_or]
 | cons x l ih => simp only [List.cons_append, chkL, ih, Option.or_assoc]
theorem chkL_one (v : AV) : chkL root [v] = chkV root v := by simp only [chkL, Option.or_none]
theorem chkL_step {i : Nat} {v : AV} (e : l[i]? = some v) (h : chkL root (l.take i) = none) : chkL root (l.take (i + 1)) = chkV root v := by
 rw [List.take_add_one, e, chkL_app, h, Option.none_or]
 exact chkL_one v
theorem chkL_hit {i : Nat} {v : AV} {u : Int} (e : l[i]? = some v) (h : chkL root (l.take i) = none) (hv : chkV root v = some u) : chkL root l = some u := by
 have h1 := chkL_step e h
 rw [hv] at h1
 have h2 := chkL_app (root := root) (l.take (i + 1)) (l.drop (i + 1))
 rw [List.take_append_drop, h1] at h2
 rw [h2]
 rfl
theorem chkP_ok {o : Option Int} {e p : Int} (h : (e, p) = chkP o) (h0 : e = 0) : o = none := by
 subst h0
 cases o with
 | none => rfl
 | some a => exact absurd (congrArg Prod.fst h) (by show ¬ ((0 : Int) = 35); decide)
theorem chkL_0 : chkL root (l.take (0 : Int).toNat) = none := by
 show chkL root (l.take 0) = none
 rw [List.take_zero]
 simp only [chkL]
theorem chkL_next {i : Int} {v : AV} {e p : Int} (h0 : 0 ≤ i) (hb : i ≤ 1000000) (q : l[i.toNat]? = some v) (h : chkL root (l.take i.toNat) = none) (w : (e, p) = chkP (chkV root v)) (he : e = 0) : chkL root (l.take (w6 (i + 1)).toNat) = none := by
 rw [nat1 h0 hb, chkL_step q h]
 exact chkP_ok w he
theorem chkL_err {i : Int} {v : AV} {e p : Int} (q : l[i.toNat]? = some v) (h : chkL root (l.take i.toNat) = none) (w : (e, p) = chkP (chkV root v)) (he : e ≠ 0) : (e, p) = chkP (chkL root l) := by
 rw [w]
 cases hv : chkV root v with
 | none => rw [hv] at w; exact absurd (congrArg Prod.fst w) he
 | some u => rw [chkL_hit q h hv]
theorem chkL_end {i : Int} (h : chkL root (l.take i.toNat) = none) (hi : l.length ≤ i.toNat) : chkL root l = none := by
 rw [List.take_of_length_le hi] at h
 exact h
theorem bad_0 : (l.take (0 : Int).toNat).any (badW root) = false := by
 show (l.take 0).any (badW root) = false
 rw [List.take_zero, List.any_nil]
theorem bad_no {v : AV} {lo hi : Int} (w : (lo, hi) = widV (hF root) v) (h1 : lo = hi) (h2 : hi ≤ 255) : badW root v = false := by
 unfold badW
 rw [← w]
 simp only [Bool.or_eq_false_iff, decide_eq_false_iff_not]
 omega
theorem bad_yes {v : AV} {lo hi : Int} (w : (lo, hi) = widV (hF root) v) (h : lo ≠ hi ∨ 255 < hi) : badW root v = true := by
 unfold badW
 rw [← w]
 simp only [Bool.or_eq_true, decide_eq_true_eq]
 exact h
theorem bad_next {i : Int} {v : AV} {lo hi : Int} (h0 : 0 ≤ i) (hb : i ≤ 1000000) (q : l[i.toNat]? = some v) (h : (l.take i.toNat).any (badW root) = false) (w : (lo, hi) = widV (hF root) v) (h1 : lo = hi) (h2 : hi ≤ 255) : (l.take (w6 (i + 1)).toNat).any (badW root) = false := by
 rw [nat1 h0 hb, List.take_add_one, q, List.any_append, h, Bool.false_or]
 show ([v].any (badW root)) = false
 rw [List.any_cons, List.any_nil, bad_no w h1 h2]
 rfl
theorem bad_hit {i : Int} {v : AV} {lo hi : Int} (q : l[i.toNat]? = some v) (w : (lo, hi) = widV (hF root) v) (h : lo ≠ hi ∨ 255 < hi) : l.any (badW root) = true := by
 rw [List.any_eq_true]
 exact ⟨v, List.mem_of_getElem? q, bad_yes w h⟩
theorem bad_end {i : Int} (h : (l.take i.toNat).any (badW root) = false) (hi : l.length ≤ i.toNat) : l.any (badW root) = false := by
 rw [List.take_of_length_le hi] at h
 exact h
theorem ck_hit (h : k = 18) (h2 : 7 ≤ n) (h3 : l.any (badW root) = true) (e : altL K = l) : (35, a) = chkP (chkV root (.agg (nR k a c s g n m mode nm on off K))) := by
 rw [chkV_nd, if_pos ⟨h, h2, e ▸ h3⟩]
 rfl
theorem ck_n {e p : Int} (h : ¬ (k = 18 ∧ 7 ≤ n)) (w : (e, p) = chkP (chkL root K)) : (e, p) = chkP (chkV root (.agg (nR k a c s g n m mode nm on off K))) := by
 rw [chkV_nd, if_neg (fun q => h ⟨q.1, q.2.1⟩)]
 exact w
theorem ck_a {e p : Int} (h3 : l.any (badW root) = false) (h : altL K = l) (w : (e, p) = chkP (chkL root K)) : (e, p) = chkP (chkV root (.agg (nR k a c s g n m mode nm on off K))) := by
 rw [chkV_nd, if_neg (fun q => by rw [h, h3] at q; exact Bool.noConfusion q.2.2)]
 exact w
theorem ck_ok (h : chkL root K = none) : (0, 0) = chkP (chkL root K) := by rw [h]; rfl
theorem shape18 (h : shapeN k n m K) (e : k = 18) : K.length = 1 ∧ n ≤ 8 := by
 rw [shapeN_eq] at h
 omega
theorem alts_sz {k2 a2 c2 : Int} {s2 : List AV} {g2 : Bool} {n2 m2 mode2 : Int} {nm2 : ByteArray} {on2 off2 : Int} {K2 : List AV} (h : K[0]? = some (.agg (nR k2 a2 c2 s2 g2 n2 m2 mode2 nm2 on2 off2 K2))) : nszL K2 ≤ nszL K := by
 have := nsz_get h
 omega
end
abbrev pre_WidthsChecks (b : List AV) (o : Int) : Prop := Bs b ∧ b.length ≤ 9223372036854775807
abbrev post_WidthsChecks (b : List AV) (o : Int) (r : Bool) : Prop := r = true
abbrev pre_AltsR (k a c : Int) (s : List AV) (g : Bool) (n m mode : Int) (nm : ByteArray) (on off : Int) (K : List AV) : Prop := NW k a c s g n m mode nm on off K ∧ K.length = 1
abbrev post_AltsR (k a c : Int) (s : List AV) (g : Bool) (n m mode : Int) (nm : ByteArray) (on off : Int) (K : List AV) (l : List AV) : Prop := l = altL K ∧ Ns l ∧ l.length ≤ nszL l ∧ nszL l ≤ nszL K
abbrev rank_checkP (k a c : Int) (s : List AV) (g : Bool) (n m mode : Int) (nm : ByteArray) (on off : Int) (K : List AV) (b1 b2 b3 : Int) (b4 : List AV) (b5 : Bool) (b6 b7 b8 : Int) (b9 : ByteArray) (b10 b11 : Int) (b12 : List AV) : Nat := nszL K
abbrev pre_checkP (k a c : Int) (s : List AV) (g : Bool) (n m mode : Int) (nm : ByteArray) (on off : Int) (K : List AV) (b1 b2 b3 : Int) (b4 : List AV) (b5 : Bool) (b6 b7 b8 : Int) (b9 : ByteArray) (b10 b11 : Int) (b12 : List AV) : Prop := NW k a c s g n m mode nm on off K ∧ nszL K ≤ 300000 ∧ NW b1 b2 b3 b4 b5 b6 b7 b8 b9 b10 b11 b12 ∧ nszL b12 ≤ 300000
abbrev post_checkP (k a c : Int) (s : List AV) (g : Bool) (n m mode : Int) (nm : ByteArray) (on off : Int) (K : List AV) (b1 b2 b3 : Int) (b4 : List AV) (b5 : Bool) (b6 b7 b8 : Int) (b9 : ByteArray) (b10 b11 : Int) (b12 : List AV) (e p : Int) : Prop := (e, p) = chkP (chkV (.agg (nR b1 b2 b3 b4 b5 b6 b7 b8 b9 b10 b11 b12)) (.agg (nR k a c s g n m mode nm on off K)))
abbrev inv_checkP_0 (k a c : Int) (s : List AV) (g : Bool) (n m mode : Int) (nm : ByteArray) (on off : Int) (K : List AV) (b1 b2 b3 : Int) (b4 : List AV) (b5 : Bool) (b6 b7 b8 : Int) (b9 : ByteArray) (b10 b11 : Int) (b12 : List AV) (l : List AV) (t : Int) (io i : Int) : Prop := NW k a c s g n m mode nm on off K ∧ nszL K ≤ 300000 ∧ NW b1 b2 b3 b4 b5 b6 b7 b8 b9 b10 b11 b12 ∧ nszL b12 ≤ 300000 ∧ Ns l ∧ l.length ≤ nszL l ∧ nszL l ≤ nszL K ∧ t = l.length ∧ 0 ≤ i ∧ i ≤ l.length ∧ (l.take i.toNat).any (badW (.agg (nR b1 b2 b3 b4 b5 b6 b7 b8 b9 b10 b11 b12))) = false
abbrev mu_checkP_0 (k a c : Int) (s : List AV) (g : Bool) (n m mode : Int) (nm : ByteArray) (on off : Int) (K : List AV) (b1 b2 b3 : Int) (b4 : List AV) (b5 : Bool) (b6 b7 b8 : Int) (b9 : ByteArray) (b10 b11 : Int) (b12 : List AV) (l : List AV) (t : Int) (i : Int) : Nat := (l.length - i).toNat
abbrev out_checkP_0_0 (k a c : Int) (s : List AV) (g : Bool) (n m mode : Int) (nm : ByteArray) (on off : Int) (K : List AV) (b1 b2 b3 : Int) (b4 : List AV) (b5 : Bool) (b6 b7 b8 : Int) (b9 : ByteArray) (b10 b11 : Int) (b12 : List AV) (l : List AV) (t : Int) (io : Int) : Prop := l.any (badW (.agg (nR b1 b2 b3 b4 b5 b6 b7 b8 b9 b10 b11 b12))) = true
abbrev out_checkP_0_1 (k a c : Int) (s : List AV) (g : Bool) (n m mode : Int) (nm : ByteArray) (on off : Int) (K : List AV) (b1 b2 b3 : Int) (b4 : List AV) (b5 : Bool) (b6 b7 b8 : Int) (b9 : ByteArray) (b10 b11 : Int) (b12 : List AV) (l : List AV) (t : Int) (io y : Int) : Prop := l.any (badW (.agg (nR b1 b2 b3 b4 b5 b6 b7 b8 b9 b10 b11 b12))) = false
abbrev inv_checkP_1 (B : Nat) (b1 b2 b3 : Int) (b4 : List AV) (b5 : Bool) (b6 b7 b8 : Int) (b9 : ByteArray) (b10 b11 : Int) (b12 : List AV) (K : List AV) (t : Int) (io i : Int) : Prop := nszL K ≤ B ∧ Ns K ∧ K.length ≤ nszL K ∧ nszL K ≤ 300000 ∧ NW b1 b2 b3 b4 b5 b6 b7 b8 b9 b10 b11 b12 ∧ nszL b12 ≤ 300000 ∧ t = K.length ∧ 0 ≤ i ∧ i ≤ K.length ∧ chkL (.agg (nR b1 b2 b3 b4 b5 b6 b7 b8 b9 b10 b11 b12)) (K.take i.toNat) = none
abbrev mu_checkP_1 (b1 b2 b3 : Int) (b4 : List AV) (b5 : Bool) (b6 b7 b8 : Int) (b9 : ByteArray) (b10 b11 : Int) (b12 : List AV) (K : List AV) (t : Int) (i : Int) : Nat := (K.length - i).toNat
abbrev out_checkP_1_0 (b1 b2 b3 : Int) (b4 : List AV) (b5 : Bool) (b6 b7 b8 : Int) (b9 : ByteArray) (b10 b11 : Int) (b12 : List AV) (K : List AV) (t : Int) (io e p : Int) : Prop := (e, p) = chkP (chkL (.agg (nR b1 b2 b3 b4 b5 b6 b7 b8 b9 b10 b11 b12)) K)
abbrev out_checkP_1_1 (b1 b2 b3 : Int) (b4 : List AV) (b5 : Bool) (b6 b7 b8 : Int) (b9 : ByteArray) (b10 b11 : Int) (b12 : List AV) (K : List AV) (t : Int) (io y : Int) : Prop := chkL (.agg (nR b1 b2 b3 b4 b5 b6 b7 b8 b9 b10 b11 b12)) K = none
abbrev pre_CheckP (b1 b2 b3 : Int) (b4 : List AV) (b5 : Bool) (b6 b7 b8 : Int) (b9 : ByteArray) (b10 b11 : Int) (b12 : List AV) : Prop := NW b1 b2 b3 b4 b5 b6 b7 b8 b9 b10 b11 b12 ∧ nszL b12 ≤ 300000
abbrev post_CheckP (b1 b2 b3 : Int) (b4 : List AV) (b5 : Bool) (b6 b7 b8 : Int) (b9 : ByteArray) (b10 b11 : Int) (b12 : List AV) (e p : Int) : Prop := chkP (chkV (.agg (nR b1 b2 b3 b4 b5 b6 b7 b8 b9 b10 b11 b12)) (.agg (nR b1 b2 b3 b4 b5 b6 b7 b8 b9 b10 b11 b12))) = (e, p)
abbrev rank_CheckR (k a c : Int) (s : List AV) (g : Bool) (n m mode : Int) (nm : ByteArray) (on off : Int) (K : List AV) (b1 b2 b3 : Int) (b4 : List AV) (b5 : Bool) (b6 b7 b8 : Int) (b9 : ByteArray) (b10 b11 : Int) (b12 : List AV) : Nat := nszL K
abbrev pre_CheckR (k a c : Int) (s : List AV) (g : Bool) (n m mode : Int) (nm : ByteArray) (on off : Int) (K : List AV) (b1 b2 b3 : Int) (b4 : List AV) (b5 : Bool) (b6 b7 b8 : Int) (b9 : ByteArray) (b10 b11 : Int) (b12 : List AV) : Prop := NW k a c s g n m mode nm on off K ∧ nszL K ≤ 300000 ∧ NW b1 b2 b3 b4 b5 b6 b7 b8 b9 b10 b11 b12 ∧ nszL b12 ≤ 300000
abbrev post_CheckR (k a c : Int) (s : List AV) (g : Bool) (n m mode : Int) (nm : ByteArray) (on off : Int) (K : List AV) (b1 b2 b3 : Int) (b4 : List AV) (b5 : Bool) (b6 b7 b8 : Int) (b9 : ByteArray) (b10 b11 : Int) (b12 : List AV) (e p : Int) : Prop := (e, p) = chkP (chkV (.agg (nR b1 b2 b3 b4 b5 b6 b7 b8 b9 b10 b11 b12)) (.agg (nR k a c s g n m mode nm on off K)))
abbrev inv_CheckR_0 (k a c : Int) (s : List AV) (g : Bool) (n m mode : Int) (nm : ByteArray) (on off : Int) (K : List AV) (b1 b2 b3 : Int) (b4 : List AV) (b5 : Bool) (b6 b7 b8 : Int) (b9 : ByteArray) (b10 b11 : Int) (b12 : List AV) (l : List AV) (io i : Int) : Prop := NW k a c s g n m mode nm on off K ∧ nszL K ≤ 300000 ∧ NW b1 b2 b3 b4 b5 b6 b7 b8 b9 b10 b11 b12 ∧ nszL b12 ≤ 300000 ∧ Ns l ∧ l.length ≤ nszL l ∧ nszL l ≤ nszL K ∧ 0 ≤ i ∧ i ≤ l.length ∧ (l.take i.toNat).any (badW (.agg (nR b1 b2 b3 b4 b5 b6 b7 b8 b9 b10 b11 b12))) = false
abbrev mu_CheckR_0 (k a c : Int) (s : List AV) (g : Bool) (n m mode : Int) (nm : ByteArray) (on off : Int) (K : List AV) (b1 b2 b3 : Int) (b4 : List AV) (b5 : Bool) (b6 b7 b8 : Int) (b9 : ByteArray) (b10 b11 : Int) (b12 : List AV) (l : List AV) (i : Int) : Nat := (l.length - i).toNat
abbrev out_CheckR_0_0 (k a c : Int) (s : List AV) (g : Bool) (n m mode : Int) (nm : ByteArray) (on off : Int) (K : List AV) (b1 b2 b3 : Int) (b4 : List AV) (b5 : Bool) (b6 b7 b8 : Int) (b9 : ByteArray) (b10 b11 : Int) (b12 : List AV) (l : List AV) (io : Int) : Prop := l.any (badW (.agg (nR b1 b2 b3 b4 b5 b6 b7 b8 b9 b10 b11 b12))) = true
abbrev out_CheckR_0_1 (k a c : Int) (s : List AV) (g : Bool) (n m mode : Int) (nm : ByteArray) (on off : Int) (K : List AV) (b1 b2 b3 : Int) (b4 : List AV) (b5 : Bool) (b6 b7 b8 : Int) (b9 : ByteArray) (b10 b11 : Int) (b12 : List AV) (l : List AV) (io y : Int) : Prop := l.any (badW (.agg (nR b1 b2 b3 b4 b5 b6 b7 b8 b9 b10 b11 b12))) = false
abbrev inv_CheckR_1 (B : Nat) (k a c : Int) (s : List AV) (g : Bool) (n m mode : Int) (nm : ByteArray) (on off : Int) (K : List AV) (b1 b2 b3 : Int) (b4 : List AV) (b5 : Bool) (b6 b7 b8 : Int) (b9 : ByteArray) (b10 b11 : Int) (b12 : List AV) (io i : Int) : Prop := nszL K ≤ B ∧ NW k a c s g n m mode nm on off K ∧ nszL K ≤ 300000 ∧ NW b1 b2 b3 b4 b5 b6 b7 b8 b9 b10 b11 b12 ∧ nszL b12 ≤ 300000 ∧ 0 ≤ i ∧ i ≤ K.length ∧ chkL (.agg (nR b1 b2 b3 b4 b5 b6 b7 b8 b9 b10 b11 b12)) (K.take i.toNat) = none
abbrev mu_CheckR_1 (k a c : Int) (s : List AV) (g : Bool) (n m mode : Int) (nm : ByteArray) (on off : Int) (K : List AV) (b1 b2 b3 : Int) (b4 : List AV) (b5 : Bool) (b6 b7 b8 : Int) (b9 : ByteArray) (b10 b11 : Int) (b12 : List AV) (i : Int) : Nat := (K.length - i).toNat
abbrev out_CheckR_1_0 (k a c : Int) (s : List AV) (g : Bool) (n m mode : Int) (nm : ByteArray) (on off : Int) (K : List AV) (b1 b2 b3 : Int) (b4 : List AV) (b5 : Bool) (b6 b7 b8 : Int) (b9 : ByteArray) (b10 b11 : Int) (b12 : List AV) (io e p : Int) : Prop := (e, p) = chkP (chkL (.agg (nR b1 b2 b3 b4 b5 b6 b7 b8 b9 b10 b11 b12)) K)
abbrev out_CheckR_1_1 (k a c : Int) (s : List AV) (g : Bool) (n m mode : Int) (nm : ByteArray) (on off : Int) (K : List AV) (b1 b2 b3 : Int) (b4 : List AV) (b5 : Bool) (b6 b7 b8 : Int) (b9 : ByteArray) (b10 b11 : Int) (b12 : List AV) (io y : Int) : Prop := chkL (.agg (nR b1 b2 b3 b4 b5 b6 b7 b8 b9 b10 b11 b12)) K = none
end Go.Proofs.YtcjcdammcmjbnaaGreat.U
