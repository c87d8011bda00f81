/- Widths: what they are, over trees. -/
import Derived.Test.YtcjcdammcmjbnaaGreatWidF
namespace Go.Proofs.YtcjcdammcmjbnaaGreat.U
open Go Go.Vai Go.Flo
set_option linter.unusedVariables false
def wI (l : List AV) (i : Nat) : Int := match l[i]? with
 | some (.sc (.int _ x)) => x
 | _ => 0
def kid0 (l : List AV) : Option AV := match (l[11]? : Option AV) with
 | some (AV.sl _ (x :: _)) => some x
 | _ => none
mutual
def accV : AV → Bool
 | .agg l => (wI l 0 == 9 && wI l 5 == 1) || accA l
 | _ => false
def accA : List AV → Bool
 | [] => false
 | v :: r => accS v || accA r
def accS : AV → Bool
 | .sl z K => match z with | 12 => accL K | _ => false
 | _ => false
def accL : List AV → Bool
 | [] => false
 | v :: r => accV v || accL r
end
mutual
def grpV (j : Int) : AV → Option AV
 | .agg l => if wI l 0 = 14 ∧ wI l 5 = j then kid0 l else grpA j l
 | _ => none
def grpA (j : Int) : List AV → Option AV
 | [] => none
 | v :: r => (grpS j v).or (grpA j r)
def grpS (j : Int) : AV → Option AV
 | .sl z K => match z with | 12 => grpL j K | _ => none
 | _ => none
def grpL (j : Int) : List AV → Option AV
 | [] => none
 | v :: r => (grpV j v).or (grpL j r)
end
def grpR (j : Int) (v : AV) : Option AV := if j = 0 then some v else grpV j v
def cutP (a b : Int) : Int × Int := (if a > 1000 then 1000 else a, if b > 1000 then -1 else b)
def plusP (p q : Int × Int) : Int × Int := cutP (p.1 + q.1) (if p.2 < 0 ∨ q.2 < 0 then -1 else p.2 + q.2)
def orP (p q : Int × Int) : Int × Int := (if q.1 < p.1 then q.1 else p.1, if p.2 < 0 ∨ q.2 < 0 then -1 else if q.2 > p.2 then q.2 else p.2)
def repP (p : Int × Int) (n m : Int) : Int × Int := cutP (p.1 * n) (if m = 0 ∨ p.2 = 0 then 0 else if m < 0 ∨ p.2 < 0 then -1 else p.2 * m)
abbrev P0 : Int × Int := (0, 0)
def seqI (ws : List (Int × Int)) : Nat → Int × Int
 | 0 => P0
 | i + 1 => plusP (seqI ws i) (ws.getD i P0)
def tailI (p : Int × Int) (ws : List (Int × Int)) : Nat → Int × Int
 | 0 => p
 | i + 1 => orP (tailI p ws i) (ws.getD i P0)
def anyP (ws : List (Int × Int)) : Int × Int := tailI (ws.getD 0 P0) (ws.drop 1) (ws.drop 1).length
def condP (n : Int) (ws : List (Int × Int)) : Int × Int := if n = 12 then P0 else if (if n = 13 then ws.drop 1 else ws).length = 1 then orP (anyP (if n = 13 then ws.drop 1 else ws)) P0 else anyP (if n = 13 then ws.drop 1 else ws)
def wcomb (h : Int → Int × Int) (k n m : Int) (ws : List (Int × Int)) : Int × Int := if k = 2 then (1, 1) else if k = 7 then (0, -1) else if k = 12 then seqI ws ws.length else if k = 13 ∨ k = 16 then anyP ws else if k = 14 ∨ k = 17 then ws.getD 0 P0 else if k = 19 then condP n ws else if k = 20 then repP (ws.getD 0 P0) n m else if k = 8 then h n else P0
mutual
def widV (h : Int → Int × Int) : AV → Int × Int
 | .agg l => if accV (.agg l) then (0, -1) else wcomb h (wI l 0) (wI l 5) (wI l 6) (widA h l)
 | _ => P0
def widA (h : Int → Int × Int) : List AV → List (Int × Int)
 | [] => []
 | v :: r => widS h v ++ widA h r
def widS (h : Int → Int × Int) : AV → List (Int × Int)
 | .sl z K => match z with | 12 => widL h K | _ => []
 | _ => []
def widL (h : Int → Int × Int) : List AV → List (Int × Int)
 | [] => []
 | v :: r => widV h v :: widL h r
end
def hT : Int → Int × Int := fun _ => (0, -1)
def hF (root : AV) : Int → Int × Int := fun j => match grpR j root with
 | none => (0, -1)
 | some g => widV hT g
section
variable {k a c : Int} {s : List AV} {g : Bool} {n m mode : Int} {nm : ByteArray} {on off : Int} {K : List AV}
theorem accV_nd : accV (.agg (nR k a c s g n m mode nm on off K)) = ((k == 9 && n == 1) || accL K) := by
 simp only [accV, accA, accS, wI, Bool.false_or, Bool.or_false, List.getElem?_cons_zero, List.getElem?_cons_succ]
theorem grpV_nd {j : Int} : grpV j (.agg (nR k a c s g n m mode nm on off K)) = if k = 14 ∧ n = j then K[0]? else grpL j K := by
 simp only [grpV, grpA, grpS, wI, kid0, Option.none_or, Option.or_none, List.getElem?_cons_zero, List.getElem?_cons_succ]
 cases K <;> rfl
theorem widV_nd {h : Int → Int × Int} : widV h (.agg (nR k a c s g n m mode nm on off K)) = if ((k == 9 && n == 1) || accL K) = true then (0, -1) else wcomb h k n m (widL h K) := by
 simp only [widV, widA, widS, accV_nd, wI, List.nil_append, List.append_nil, List.getElem?_cons_zero, List.getElem?_cons_succ]
end
theorem accL_any (l : List AV) : accL l = l.any accV := by
 induction l with
 | nil => simp only [accL, List.any_nil]
 | cons x l ih => simp only [accL, List.any_cons, ih]
theorem accL_step {l : List AV} {i : Nat} {v : AV} (e : l[i]? = some v) (h : accL (l.take i) = false) : accL (l.take (i + 1)) = accV v := by
 rw [accL_any] at h ⊢
 rw [List.take_add_one, e, List.any_append, h]
 simp
theorem accL_hit {l : List AV} {i : Nat} {v : AV} (e : l[i]? = some v) (h : accV v = true) : accL l = true := by
 rw [accL_any, List.any_eq_true]
 exact ⟨v, List.mem_of_getElem? e, h⟩
theorem grpL_app (j : Int) (l m : List AV) : grpL j (l ++ m) = (grpL j l).or (grpL j m) := by
 induction l with
 | nil => simp only [List.nil_append, grpL, Option.none_or]
 | cons x l ih => simp only [List.cons_append, grpL, ih, Option.or_assoc]
theorem grpL_one (j : Int) (v : AV) : grpL j [v] = grpV j v := by simp only [grpL, Option.or_none]
theorem grpL_step {j : Int} {l : List AV} {i : Nat} {v : AV} (e : l[i]? = some v) (h : grpL j (l.take i) = none) : grpL j (l.take (i + 1)) = grpV j v := by
 rw [List.take_add_one, e, grpL_app, h, Option.none_or]
 exact grpL_one j v
theorem grpL_hit {j : Int} {l : List AV} {i : Nat} {v u : AV} (e : l[i]? = some v) (h : grpL j (l.take i) = none) (hv : grpV j v = some u) : grpL j l = some u := by
 have h1 := grpL_step e h
 rw [hv] at h1
 have h2 := grpL_app j (l.take (i + 1)) (l.drop (i + 1))
 rw [List.take_append_drop, h1] at h2
 rw [h2]
 rfl
theorem widL_map (h : Int → Int × Int) (l : List AV) : widL h l = l.map (widV h) := by
 induction l with
 | nil => simp only [widL, List.map_nil]
 | cons x l ih => simp only [widL, List.map_cons, ih]
theorem widL_len (h : Int → Int × Int) (l : List AV) : (widL h l).length = l.length := by rw [widL_map, List.length_map]
theorem widL_drop (h : Int → Int × Int) (l : List AV) (i : Nat) : (widL h l).drop i = widL h (l.drop i) := by rw [widL_map, widL_map, List.map_drop]
theorem widL_get {h : Int → Int × Int} {l : List AV} {i : Nat} {v : AV} (e : l[i]? = some v) : (widL h l).getD i P0 = widV h v := by
 rw [widL_map, List.getD_eq_getElem?_getD, List.getElem?_map, e]
 rfl
abbrev wOk (x y : Nat) : Prop := isF x ∧ isF y ∧ 0 ≤ toI x ∧ toI x ≤ 1000 ∧ toI x ≤ toI y ∧ (toI y ≤ 1000 ∨ toI y = 1099511627776)
def dW (x y : Nat) : Int × Int := (toI x, if toI y > 1000 then -1 else toI y)
theorem of_ok {u v : Nat} {a b : Int} (hu : isF u) (hv : isF v) (h1 : toI u = min a 1000) (h2 : toI v = if b > 1000 then 1099511627776 else b) (ha : 0 ≤ a) (hab : a ≤ b) : wOk u v ∧ dW u v = cutP a b := by
 have h3 : toI u = if a > 1000 then 1000 else a := by rw [h1]; exact min_1000 ha
 refine ⟨⟨hu, hv, ?_, ?_, ?_, ?_⟩, ?_⟩
 ·rw [h3]; split <;> omega
 ·rw [h3]; split <;> omega
 ·rw [h3, h2]; split <;> split <;> omega
 ·rw [h2]; split <;> omega
 ·unfold dW cutP
  rw [h3, h2]
  refine Prod.ext rfl ?_
  show (if (if b > 1000 then 1099511627776 else b) > 1000 then (-1 : Int) else (if b > 1000 then 1099511627776 else b)) = if b > 1000 then -1 else b
  split <;> split at * <;> omega
theorem cutP_ext {a b d : Int} (h : (if b > 1000 then (-1 : Int) else b) = if d > 1000 then -1 else d) : cutP a b = cutP a d := Prod.ext rfl h
theorem plus_ok {x y u v e f a b : Nat} (h : wOk x y) (k : wOk u v) (he : toI e = toI x + toI u) (hf : toI f = toI y + toI v) (p : post_of e f a b) : wOk a b ∧ dW a b = plusP (dW x y) (dW u v) := by
 obtain ⟨p1, p2, p3, p4⟩ := p
 rw [he] at p3
 rw [hf] at p4
 obtain ⟨q1, q2⟩ := of_ok p1 p2 p3 p4 (by omega) (by omega)
 refine ⟨q1, q2.trans ?_⟩
 unfold plusP dW
 refine cutP_ext ?_
 dsimp only
 have := h.2.2.2.2
 have := k.2.2.2.2
 (repeat' split) <;> omega
theorem or_ok {x y u v e f a b : Nat} (h : wOk x y) (k : wOk u v) (he : toI e = min (toI x) (toI u)) (hf : toI f = max (toI y) (toI v)) (p : post_of e f a b) : wOk a b ∧ dW a b = orP (dW x y) (dW u v) := by
 obtain ⟨p1, p2, p3, p4⟩ := p
 rw [he] at p3
 rw [hf] at p4
 obtain ⟨q1, q2⟩ := of_ok p1 p2 p3 p4 (by omega) (by omega)
 refine ⟨q1, q2.trans ?_⟩
 unfold orP dW cutP
 have h1 := h.2.2
 have k1 := k.2.2
 refine Prod.ext ?_ ?_ <;> dsimp only <;> (repeat' split) <;> omega
theorem rep_ok {x y e f u v : Nat} {n m : Int} (h : wOk x y) (hn : 0 ≤ n) (hn2 : n ≤ 255) (hnm : m = -1 ∨ n ≤ m) (he : toI e = toI x * n) (hf : toI f = if m = 0 ∨ toI y = 0 then 0 else if m < 0 then 1099511627776 else toI y * m) (p : post_of e f u v) : wOk u v ∧ dW u v = repP (dW x y) n m := by
 obtain ⟨p1, p2, p3, p4⟩ := p
 rw [he] at p3
 rw [hf] at p4
 have hx := h.2.2.1
 have hx1 := h.2.2.2.1
 have hxy := h.2.2.2.2.1
 have hy := h.2.2.2.2.2
 by_cases hz : m = 0 ∨ toI y = 0
 ·rw [if_pos hz] at p4
  have hxn : toI x * n = 0 := by
   rcases hz with rfl | hz
   ·have : n = 0 := by omega
    rw [this, Int.mul_zero]
   ·have : toI x = 0 := by omega
    rw [this, Int.zero_mul]
  obtain ⟨q1, q2⟩ := of_ok p1 p2 p3 p4 (by omega) (by omega)
  refine ⟨q1, q2.trans ?_⟩
  unfold repP
  refine cutP_ext ?_
  have : m = 0 ∨ (dW x y).2 = 0 := by
   rcases hz with hz | hz
   ·exact .inl hz
   ·refine .inr ?_
    unfold dW
    dsimp only
    rw [if_neg (by omega), hz]
  rw [if_pos this]
 ·rw [if_neg hz] at p4
  have hz2 : ¬ (m = 0 ∨ (dW x y).2 = 0) := by
   unfold dW
   dsimp only
   split <;> omega
  by_cases hm0 : m < 0
  ·rw [if_pos hm0] at p4
   have h0 := Int.mul_nonneg hx hn
   have hle : toI x * n ≤ 1000 * 255 := Int.mul_le_mul hx1 hn2 hn (by omega)
   obtain ⟨q1, q2⟩ := of_ok p1 p2 p3 p4 h0 (by omega)
   refine ⟨q1, q2.trans ?_⟩
   unfold repP
   refine cutP_ext ?_
   have h5 : m < 0 ∨ (dW x y).2 < 0 := .inl hm0
   rw [if_neg hz2, if_pos h5]
   rfl
  ·rw [if_neg hm0] at p4
   have hle : toI x * n ≤ toI y * m := Int.mul_le_mul hxy (by omega) hn (by omega)
   have h0 := Int.mul_nonneg hx hn
   obtain ⟨q1, q2⟩ := of_ok p1 p2 p3 p4 h0 hle
   refine ⟨q1, q2.trans ?_⟩
   unfold repP
   refine cutP_ext ?_
   rw [if_neg hz2]
   unfold dW
   dsimp only
   rcases hy with hy | hy
   ·have : ¬ toI y > 1000 := by omega
    have h4 : ¬ (m < 0 ∨ toI y < 0) := by omega
    rw [if_neg this, if_neg h4]
   ·have : toI y > 1000 := by omega
    have h3 : toI y * m > 1000 := by rw [hy]; omega
    have h4 : m < 0 ∨ (-1 : Int) < 0 := .inr (by decide)
    simp only [if_pos this]
    rw [if_pos h3, if_pos h4]
    rfl
def WE (u v : Nat) (p : Int × Int) : Prop := wOk u v ∧ dW u v = p
def WO (u v : Nat) : Prop := wOk u v
theorem WE.wo {u v : Nat} {p : Int × Int} (h : WE u v p) : WO u v := h.1
theorem WE.eq {u v : Nat} {p : Int × Int} (h : WE u v p) : dW u v = p := h.2
theorem WE.to {u v : Nat} {p q : Int × Int} (h : WE u v p) (e : p = q) : WE u v q := e ▸ h
theorem WE.zero : WE 0 0 P0 := by
 refine ⟨⟨c0.1, c0.1, ?_, ?_, ?_, ?_⟩, ?_⟩
 all_goals (try unfold dW); rw [c0.2]; first | decide | rfl
theorem WE.none {u v : Nat} (p : post_of 0 4787326403894837248 u v) : WE u v (0, -1) := by
 obtain ⟨p1, p2, p3, p4⟩ := p
 rw [c0.2] at p3
 rw [cNone.2] at p4
 obtain ⟨q1, q2⟩ := of_ok p1 p2 p3 p4 (by decide) (by decide)
 exact ⟨q1, q2.trans (by decide)⟩
theorem WE.one {u v : Nat} (p : post_of 4607182418800017408 4607182418800017408 u v) : WE u v (1, 1) := by
 obtain ⟨p1, p2, p3, p4⟩ := p
 rw [c1.2] at p3 p4
 obtain ⟨q1, q2⟩ := of_ok p1 p2 p3 p4 (by decide) (by decide)
 exact ⟨q1, q2.trans (by decide)⟩
theorem WE.told {u v : Nat} {p : Int × Int} (h : WE u v p) : 0 ≤ p.1 ∧ p.1 ≤ 1000 ∧ (p.2 = -1 ∨ p.1 ≤ p.2 ∧ p.2 ≤ 1000) := by
 obtain ⟨h, rfl⟩ := h
 have := h.2.2
 unfold dW
 dsimp only
 split <;> omega
section
variable {k a c : Int} {s : List AV} {g : Bool} {n m mode : Int} {nm : ByteArray} {on off : Int} {K : List AV} {h : Int → Int × Int} {u v : Nat}
theorem wn_acc {r : Bool} (e : r = accV (.agg (nR k a c s g n m mode nm on off K))) (hr : r = true) : widV h (.agg (nR k a c s g n m mode nm on off K)) = (0, -1) := by
 rw [widV_nd, ← accV_nd, ← e, hr]
 rfl
theorem wn_not {r : Bool} (e : r = accV (.agg (nR k a c s g n m mode nm on off K))) (hr : r = false) : widV h (.agg (nR k a c s g n m mode nm on off K)) = wcomb h k n m (widL h K) := by
 rw [widV_nd, ← accV_nd, ← e, hr]
 rfl
end
section
variable {h : Int → Int × Int} {k n m : Int} {ws : List (Int × Int)}
theorem wc2 (e : k = 2) : wcomb h k n m ws = (1, 1) := by subst e; rfl
theorem wc7 (e : k = 7) : wcomb h k n m ws = (0, -1) := by subst e; rfl
theorem wc12 (e : k = 12) : wcomb h k n m ws = seqI ws ws.length := by subst e; rfl
theorem wc13 (e : k = 13) : wcomb h k n m ws = anyP ws := by subst e; rfl
theorem wc16 (e : k = 16) : wcomb h k n m ws = anyP ws := by subst e; rfl
theorem wc14 (e : k = 14) : wcomb h k n m ws = ws.getD 0 P0 := by subst e; rfl
theorem wc17 (e : k = 17) : wcomb h k n m ws = ws.getD 0 P0 := by subst e; rfl
theorem wc19 (e : k = 19) : wcomb h k n m ws = condP n ws := by subst e; rfl
theorem wc20 (e : k = 20) : wcomb h k n m ws = repP (ws.getD 0 P0) n m := by subst e; rfl
theorem wc8 (e : k = 8) : wcomb h k n m ws = h n := by subst e; rfl
theorem wcE (h2 : k ≠ 2) (h7 : k ≠ 7) (h12 : k ≠ 12) (h13 : k ≠ 13) (h16 : k ≠ 16) (h14 : k ≠ 14) (h17 : k ≠ 17) (h19 : k ≠ 19) (h20 : k ≠ 20) (h8 : k ≠ 8) : wcomb h k n m ws = P0 := by
 unfold wcomb
 simp only [h2, h7, h12, h13, h16, h14, h17, h19, h20, h8, if_false, or_self]
end
theorem any_step {h : Int → Int × Int} {l : List AV} {p q : Int × Int} {i : Nat} {v : AV} (e : l[i]? = some v) (hp : p = tailI q (widL h l) i) : orP p (widV h v) = tailI q (widL h l) (i + 1) := by
 rw [hp, ← widL_get e]
 rfl
theorem seq_step {h : Int → Int × Int} {l : List AV} {p : Int × Int} {i : Nat} {v : AV} (e : l[i]? = some v) (hp : p = seqI (widL h l) i) : plusP p (widV h v) = seqI (widL h l) (i + 1) := by
 rw [hp, ← widL_get e]
 rfl
theorem any_all {h : Int → Int × Int} {l : List AV} {p q : Int × Int} {v : AV} (e : l[0]? = some v) (hq : q = widV h v) (hp : p = tailI q (widL h (l.drop 1)) (l.drop 1).length) : p = anyP (widL h l) := by
 rw [hp, hq]
 unfold anyP
 rw [widL_get e, widL_drop, widL_len]
theorem cond_def {n : Int} {ws : List (Int × Int)} (e : n = 12) : condP n ws = P0 := by subst e; rfl
theorem cond_look {n : Int} {h : Int → Int × Int} {l : List AV} (e : n = 13) : condP n (widL h l) = if (l.drop 1).length = 1 then orP (anyP (widL h (l.drop 1))) P0 else anyP (widL h (l.drop 1)) := by
 subst e
 unfold condP
 rw [if_neg (by decide), if_pos rfl, widL_drop, widL_len]
theorem cond_else {n : Int} {h : Int → Int × Int} {l : List AV} (e : n ≠ 12) (e2 : n ≠ 13) : condP n (widL h l) = if l.length = 1 then orP (anyP (widL h l)) P0 else anyP (widL h l) := by
 unfold condP
 rw [if_neg e, if_neg e2, widL_len]
theorem nsz_dropped (l : List AV) (i : Nat) : nszL (l.drop i) ≤ nszL l := by
 have := nszL_app (l.take i) (l.drop i)
 rw [List.take_append_drop] at this
 omega
theorem drop_take (l : List AV) (i : Nat) : List.drop i (List.take l.length l) = l.drop i := by rw [List.take_length]
theorem hF_none {r : AV} {j : Int} (e : grpR j r = none) : hF r j = (0, -1) := by unfold hF; rw [e]
theorem hF_some {r g : AV} {j : Int} (e : grpR j r = some g) : hF r j = widV hT g := by unfold hF; rw [e]
def RootW (r : List AV) (w : Bool) : Prop := ∃ (k a c : Int) (s : List AV) (g : Bool) (n m mode : Int) (nm : ByteArray) (on off : Int) (K : List AV), r = [iv k, iv a, iv c, .sl 2 s, bv g, iv n, iv m, iv mode, sv nm, iv on, iv off, .sl 12 K, bv w] ∧ NW k a c s g n m mode nm on off K ∧ nszL K ≤ 300000
def rootV (r : List AV) : AV := .agg (r.take 12)
theorem of_mk {x y u v : Nat} (h1 : isF u) (h2 : isF v) (h3 : toI u = min (toI x) 1000) (h4 : toI v = if toI y > 1000 then 1099511627776 else toI y) : post_of x y u v := ⟨h1, h2, h3, h4⟩
section
variable {x y c : Nat}
theorem gt_yes (hx : isF x) (hc : isF c) (h : (Ieee.double.order x c == some Ordering.gt) = true) : toI x > toI c := by
 rw [hx.order hc] at h
 exact Int.compare_eq_gt.1 (by simpa using h)
theorem gt_no (hx : isF x) (hc : isF c) (h : (Ieee.double.order x c == some Ordering.gt) = false) : ¬ toI x > toI c := fun k => by
 rw [hx.order hc, Int.compare_eq_gt.2 k] at h
 simp at h
theorem eq_yes (hx : isF x) (hc : isF c) (h : (Ieee.double.order x c == some Ordering.eq) = true) : toI x = toI c := by
 rw [hx.order hc] at h
 exact Int.compare_eq_eq.1 (by simpa using h)
theorem eq_no (hx : isF x) (hc : isF c) (h : (Ieee.double.order x c == some Ordering.eq) = false) : ¬ toI x = toI c := fun k => by
 rw [hx.order hc, Int.compare_eq_eq.2 k] at h
 simp at h
theorem maxE {e : Option Value} (he : e = maxR x c) (hx : isF x) (hc : isF c) : ∃ z, e = some (.float .f64 z) := by
 obtain ⟨z, h, _⟩ := maxR_val hx hc
 exact ⟨z, he.trans h⟩
theorem maxG {z : Nat} {e : Option Value} (g : e = some (.float .f64 z)) (he : e = maxR x c) (hx : isF x) (hc : isF c) : isF z ∧ toI z = max (toI x) (toI c) := by
 obtain ⟨y, h, h1, h2⟩ := maxR_val hx hc
 rw [he, h] at g
 injection g with g
 injection g with _ g
 rw [← g]
 exact ⟨h1, h2⟩
end
section
variable {x y u v p q a b e f : Nat} {o1 o2 : Operand}
theorem WO.fx (h : WO x y) : isF x := h.1
theorem WO.fy (h : WO x y) : isF y := h.2.1
theorem WO.bd (h : WO x y) : 0 ≤ toI x ∧ toI x ≤ 1000 ∧ toI x ≤ toI y ∧ (toI y ≤ 1000 ∨ toI y = 1099511627776) := h.2.2
theorem plusE (h : WO x y) (k : WO u v) : ∃ a b, binV pr .add 51 o1 o2 (.complex .f64 x y) (.complex .f64 u v) = some (.complex .f64 a b) := by
 have h1 := h.bd
 have k1 := k.bd
 obtain ⟨a, ha, _⟩ := isF.add h.fx k.fx (by omega)
 obtain ⟨b, hb, _⟩ := isF.add h.fy k.fy (by omega)
 exact ⟨a, b, addC ha hb⟩
theorem plusG (g : binV pr .add 51 o1 o2 (.complex .f64 x y) (.complex .f64 u v) = some (.complex .f64 p q)) (h : WO x y) (k : WO u v) : isF p ∧ isF q ∧ toI p = toI x + toI u ∧ toI q = toI y + toI v := by
 have h1 := h.bd
 have k1 := k.bd
 exact addG g h.fx h.fy k.fx k.fy (by omega) (by omega)
theorem plusW (g : binV pr .add 51 o1 o2 (.complex .f64 x y) (.complex .f64 u v) = some (.complex .f64 p q)) (h : WO x y) (k : WO u v) (r : post_of p q a b) : WE a b (plusP (dW x y) (dW u v)) :=
 plus_ok h k (plusG g h k).2.2.1 (plusG g h k).2.2.2 r
theorem orWE {g1 g2 : Option Value} (c1 : g1 = some (.float .f64 e)) (c2 : g2 = some (.float .f64 f)) (e1 : g1 = minR x u) (e2 : g2 = maxR y v) (h : WO x y) (k : WO u v) : isF e ∧ isF f ∧ (post_of e f a b → WE a b (orP (dW x y) (dW u v))) :=
 ⟨(minG c1 e1 h.fx k.fx).1, (maxG c2 e2 h.fy k.fy).1, or_ok h k (minG c1 e1 h.fx k.fx).2 (maxG c2 e2 h.fy k.fy).2⟩
theorem repE {n : Int} (h : isF x) (hb : 0 ≤ toI x ∧ (toI x ≤ 1000 ∨ toI x = 1099511627776)) (h0 : n = -1 ∨ 0 ≤ n) (h1 : n ≤ 255) : ∃ p, binV pr .mul 86 o1 o2 (.float .f64 x) (.float .f64 (FloatKind.nearest .f64 n)) = some (.float .f64 p) := by
 rcases h0 with rfl | h0
 ·obtain ⟨z, hz⟩ := h.mulNeg
  exact ⟨z, mulF hz⟩
 ·have := near h0 (by omega)
  refine mulE h this.1 ?_
  rw [this.2]
  have h2 : toI x * n ≤ 1099511627776 * 255 := Int.mul_le_mul (by omega) h1 h0 (by omega)
  omega
theorem repG {n : Int} (g : binV pr .mul 86 o1 o2 (.float .f64 x) (.float .f64 (FloatKind.nearest .f64 n)) = some (.float .f64 p)) (h : isF x) (hb : 0 ≤ toI x ∧ (toI x ≤ 1000 ∨ toI x = 1099511627776)) (h0 : 0 ≤ n) (h1 : n ≤ 255) : isF p ∧ toI p = toI x * n := by
 have := near h0 (a := n) (by omega)
 have h2 : toI x * n ≤ 1099511627776 * 255 := Int.mul_le_mul (by omega) h1 h0 (by omega)
 have r := mulG g h this.1 (by rw [this.2]; omega)
 rw [this.2] at r
 exact r
theorem repWE {n m : Int} (g : binV pr .mul 86 o1 o2 (.float .f64 x) (.float .f64 (FloatKind.nearest .f64 n)) = some (.float .f64 p)) (h : WO x y) (hn : 0 ≤ n) (hn2 : n ≤ 255) (hnm : m = -1 ∨ n ≤ m) (q : post_of p f u v) (hf : toI f = if m = 0 ∨ toI y = 0 then 0 else if m < 0 then 1099511627776 else toI y * m) : WE u v (repP (dW x y) n m) := by
 have hb := h.bd
 exact rep_ok h hn hn2 hnm (repG g h.fx (by omega) hn hn2).2 hf q
theorem toldY {r : Int} (h : WO x y) (b : (Ieee.double.order y 4787326403894837248 == some Ordering.gt) = true ∨ (Ieee.double.order y 4787326403894837248 == some Ordering.eq) = true) (g : f2iR x = some (.int .i64 r)) : (r, -1) = dW x y := by
 rw [isF.order h.fy cNone.1, cNone.2] at b
 have := told_yes ((Bool.or_eq_true _ _).mpr b)
 rw [f2iR_is h.fx g]
 unfold dW
 rw [if_pos (by omega)]
theorem toldN {r s : Int} (h : WO x y) (b : (Ieee.double.order y 4787326403894837248 == some Ordering.gt) = false ∧ (Ieee.double.order y 4787326403894837248 == some Ordering.eq) = false) (g : f2iR x = some (.int .i64 r)) (g2 : f2iR y = some (.int .i64 s)) : (r, s) = dW x y := by
 rw [isF.order h.fy cNone.1, cNone.2] at b
 have := told_no ((Bool.or_eq_false_iff).mpr b)
 have hb := h.bd
 rw [f2iR_is h.fx g, f2iR_is h.fy g2]
 unfold dW
 rw [if_neg (by omega)]
end
theorem nat1 {i : Int} (h0 : 0 ≤ i) (hb : i ≤ 1000000) : (w6 (i + 1)).toNat = i.toNat + 1 := wnat h0 (by omega)
theorem accL_nil {l : List AV} : accL (l.take (0 : Int).toNat) = false := by
 show accL (l.take 0) = false
 rw [List.take_zero, accL_any, List.any_nil]
theorem accL_next {l : List AV} {i : Int} {v : AV} {r : Bool} (h0 : 0 ≤ i) (hb : i ≤ 1000000) (e : l[i.toNat]? = some v) (h : accL (l.take i.toNat) = false) (p : r = accV v) (hr : r = false) : accL (l.take (w6 (i + 1)).toNat) = false := by
 rw [nat1 h0 hb, accL_step e h, ← p, hr]
theorem accL_end {l : List AV} {i : Int} (h : accL (l.take i.toNat) = false) (hi : l.length ≤ i.toNat) : accL l = false := by
 rw [List.take_of_length_le hi] at h
 exact h
theorem accM {k n : Int} {b : Bool} (h : k = 9) (h2 : n = 1) : true = ((k == 9 && n == 1) || b) := by subst h h2; rfl
theorem accR {k n : Int} {b r : Bool} (h : k ≠ 9 ∨ n ≠ 1) (p : r = b) : r = ((k == 9 && n == 1) || b) := by
 rw [p]
 rcases h with h | h <;> simp [h]
theorem grpL_nil {j : Int} {l : List AV} : grpL j (l.take (0 : Int).toNat) = none := by
 show grpL j (l.take 0) = none
 rw [List.take_zero]
 simp only [grpL]
theorem grpR_ne {j : Int} {v : AV} (h : j ≠ 0) : grpR j v = grpV j v := by unfold grpR; rw [if_neg h]
theorem grpL_next {j : Int} {l : List AV} {i : Int} {v : AV} (hj : j ≠ 0) (h0 : 0 ≤ i) (hb : i ≤ 1000000) (e : l[i.toNat]? = some v) (h : grpL j (l.take i.toNat) = none) (p : grpR j v = none) : grpL j (l.take (w6 (i + 1)).toNat) = none := by
 rw [nat1 h0 hb, grpL_step e h, ← grpR_ne hj, p]
theorem grpL_end {j : Int} {l : List AV} {i : Int} (h : grpL j (l.take i.toNat) = none) (hi : l.length ≤ i.toNat) : grpL j l = none := by
 rw [List.take_of_length_le hi] at h
 exact h
theorem grpL_is {j : Int} {l : List AV} {i : Int} {v u : AV} (hj : j ≠ 0) (e : l[i.toNat]? = some v) (h : grpL j (l.take i.toNat) = none) (p : grpR j v = some u) : grpL j l = some u := grpL_hit e h (by rw [← grpR_ne hj]; exact p)
theorem grpR_0 {j : Int} {v : AV} (h : j = 0) : grpR j v = some v := by unfold grpR; rw [if_pos h]
section
variable {k a c : Int} {s : List AV} {g : Bool} {n m mode : Int} {nm : ByteArray} {on off : Int} {K : List AV} {j : Int}
theorem grpR_cap {v : AV} (hj : j ≠ 0) (h : k = 14) (h2 : n = j) (e : K[0]? = some v) : grpR j (.agg (nR k a c s g n m mode nm on off K)) = some v := by
 rw [grpR_ne hj, grpV_nd, if_pos ⟨h, h2⟩, e]
theorem grpR_kids {o : Option AV} (hj : j ≠ 0) (h : k ≠ 14 ∨ n ≠ j) (e : grpL j K = o) : grpR j (.agg (nR k a c s g n m mode nm on off K)) = o := by
 rw [grpR_ne hj, grpV_nd, if_neg (by omega), e]
variable {h : Int → Int × Int} {u v : Nat} {r : Bool} {x : AV}
theorem wn_a (ha : r = accV (.agg (nR k a c s g n m mode nm on off K))) (hr : r = true) (p : post_of 0 4787326403894837248 u v) : WE u v (widV h (.agg (nR k a c s g n m mode nm on off K))) := (WE.none p).to (wn_acc ha hr).symm
theorem wn_2 (ha : r = accV (.agg (nR k a c s g n m mode nm on off K))) (hr : r = false) (e : k = 2) (p : post_of 4607182418800017408 4607182418800017408 u v) : WE u v (widV h (.agg (nR k a c s g n m mode nm on off K))) := (WE.one p).to ((wn_not ha hr).trans (wc2 e)).symm
theorem wn_7 (ha : r = accV (.agg (nR k a c s g n m mode nm on off K))) (hr : r = false) (e : k = 7) (p : post_of 0 4787326403894837248 u v) : WE u v (widV h (.agg (nR k a c s g n m mode nm on off K))) := (WE.none p).to ((wn_not ha hr).trans (wc7 e)).symm
theorem wn_12 (ha : r = accV (.agg (nR k a c s g n m mode nm on off K))) (hr : r = false) (e : k = 12) (p : WE u v (seqI (widL h K) K.length)) : WE u v (widV h (.agg (nR k a c s g n m mode nm on off K))) := p.to ((wn_not ha hr).trans ((wc12 e).trans (by rw [widL_len]))).symm
theorem wn_13 (ha : r = accV (.agg (nR k a c s g n m mode nm on off K))) (hr : r = false) (e : k = 13 ∨ k = 16) (p : WE u v (anyP (widL h K))) : WE u v (widV h (.agg (nR k a c s g n m mode nm on off K))) := p.to ((wn_not ha hr).trans (by rcases e with e | e; exact wc13 e; exact wc16 e)).symm
theorem wn_14 (ha : r = accV (.agg (nR k a c s g n m mode nm on off K))) (hr : r = false) (e : k = 14 ∨ k = 17) (q : K[0]? = some x) (p : WE u v (widV h x)) : WE u v (widV h (.agg (nR k a c s g n m mode nm on off K))) := p.to ((wn_not ha hr).trans (by rw [← widL_get (h := h) q]; rcases e with e | e; exact wc14 e; exact wc17 e)).symm
theorem wn_19 (ha : r = accV (.agg (nR k a c s g n m mode nm on off K))) (hr : r = false) (e : k = 19) (p : WE u v (condP n (widL h K))) : WE u v (widV h (.agg (nR k a c s g n m mode nm on off K))) := p.to ((wn_not ha hr).trans (wc19 e)).symm
theorem wn_20 {y z : Nat} (ha : r = accV (.agg (nR k a c s g n m mode nm on off K))) (hr : r = false) (e : k = 20) (q : K[0]? = some x) (w : WE y z (widV h x)) (p : WE u v (repP (dW y z) n m)) : WE u v (widV h (.agg (nR k a c s g n m mode nm on off K))) := p.to ((wn_not ha hr).trans (by rw [w.eq, ← widL_get (h := h) q]; exact wc20 e)).symm
theorem wn_8 (ha : r = accV (.agg (nR k a c s g n m mode nm on off K))) (hr : r = false) (e : k = 8) (p : WE u v (h n)) : WE u v (widV h (.agg (nR k a c s g n m mode nm on off K))) := p.to ((wn_not ha hr).trans (wc8 e)).symm
theorem wn_E (ha : r = accV (.agg (nR k a c s g n m mode nm on off K))) (hr : r = false) (h2 : k ≠ 2) (h7 : k ≠ 7) (h12 : k ≠ 12) (h13 : k ≠ 13) (h16 : k ≠ 16) (h14 : k ≠ 14) (h17 : k ≠ 17) (h19 : k ≠ 19) (h20 : k ≠ 20) (h8 : k ≠ 8) : WE 0 0 (widV h (.agg (nR k a c s g n m mode nm on off K))) := WE.zero.to ((wn_not ha hr).trans (wcE h2 h7 h12 h13 h16 h14 h17 h19 h20 h8)).symm
theorem wn_seq {l : List AV} {i : Int} {y z a b : Nat} (h0 : 0 ≤ i) (hb : i ≤ 1000000) (e : l[i.toNat]? = some x) (q : WE y z (widV h x)) (w : WE u v (seqI (widL h l) i.toNat)) (p : WE a b (plusP (dW u v) (dW y z))) : WE a b (seqI (widL h l) (w6 (i + 1)).toNat) := p.to (by rw [q.eq, nat1 h0 hb]; exact seq_step e w.eq)
theorem wn_tail {l : List AV} {i : Int} {y z a b : Nat} {t : Int × Int} (h0 : 0 ≤ i) (hb : i ≤ 1000000) (e : l[i.toNat]? = some x) (q : WE y z (widV h x)) (w : WE u v (tailI t (widL h l) i.toNat)) (p : WE a b (orP (dW u v) (dW y z))) : WE a b (tailI t (widL h l) (w6 (i + 1)).toNat) := p.to (by rw [q.eq, nat1 h0 hb]; exact any_step e w.eq)
theorem wn_any {l : List AV} {y z : Nat} (e : l[0]? = some x) (q : WE y z (widV h x)) (p : WE u v (tailI (dW y z) (widL h (List.drop 1 (List.take l.length l))) (List.drop 1 (List.take l.length l)).length)) : WE u v (anyP (widL h l)) := by
 rw [drop_take] at p
 exact p.to (any_all e q.eq rfl)
theorem wn_t0 {l : List AV} (q : WO u v) : WE u v (tailI (dW u v) (widL h l) (0 : Int).toNat) := ⟨q, rfl⟩
theorem wn_c12 (e : n = 12) : WE 0 0 (condP n (widL h K)) := WE.zero.to (cond_def e).symm
theorem wn_c13 {y z : Nat} (e : n = 13) (e1 : ((List.drop 1 (List.take K.length K)).length : Int) = 1) (q : WE y z (anyP (widL h (List.drop 1 (List.take K.length K))))) (p : WE u v (orP (dW y z) (dW 0 0))) : WE u v (condP n (widL h K)) := by
 rw [drop_take] at e1 q
 exact p.to (by rw [cond_look e, if_pos (by omega), q.eq, WE.zero.eq])
theorem wn_c13n (e : n = 13) (e1 : ((List.drop 1 (List.take K.length K)).length : Int) ≠ 1) (q : WE u v (anyP (widL h (List.drop 1 (List.take K.length K))))) : WE u v (condP n (widL h K)) := by
 rw [drop_take] at e1 q
 exact q.to (by rw [cond_look e, if_neg (by omega)])
theorem wn_c1 {y z : Nat} (e : n ≠ 12) (e2 : n ≠ 13) (e1 : (K.length : Int) = 1) (q : WE y z (anyP (widL h K))) (p : WE u v (orP (dW y z) (dW 0 0))) : WE u v (condP n (widL h K)) := p.to (by rw [cond_else e e2, if_pos (by omega), q.eq, WE.zero.eq])
theorem wn_cE (e : n ≠ 12) (e2 : n ≠ 13) (e1 : (K.length : Int) ≠ 1) (q : WE u v (anyP (widL h K))) : WE u v (condP n (widL h K)) := q.to (by rw [cond_else e e2, if_neg (by omega)])
end
theorem dropped {l : List AV} (h : Ns l) : Ns (List.drop 1 (List.take l.length l)) ∧ nszL (List.drop 1 (List.take l.length l)) ≤ nszL l ∧ (List.drop 1 (List.take l.length l)).length ≤ nszL (List.drop 1 (List.take l.length l)) ∧ (List.drop 1 (List.take l.length l)).length = l.length - 1 := by
 rw [drop_take]
 exact ⟨h.drop 1, nsz_dropped l 1, (h.drop 1).len, List.length_drop⟩
theorem seq_end {u v n : Nat} {ws : List (Int × Int)} {i : Int} (h : WE u v (seqI ws i.toNat)) (e : i.toNat = n) : WE u v (seqI ws n) := e ▸ h
theorem tail_end {u v n : Nat} {t : Int × Int} {ws : List (Int × Int)} {i : Int} (h : WE u v (tailI t ws i.toNat)) (e : i.toNat = n) : WE u v (tailI t ws n) := e ▸ h
end Go.Proofs.YtcjcdammcmjbnaaGreat.U
