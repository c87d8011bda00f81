/- The references' front end: tokens, nodes. -/
import Derived.Test.YtcjcdammcmjbnaaGreatSetQ
namespace Go.Proofs.YtcjcdammcmjbnaaGreat.U
open Go Go.Vai
set_option linter.unusedVariables false
theorem bs_list (l : List Nat) : (bs l).toList = l.map Nat.toUInt8 := by
 rw [ByteArray.toList_eq]
 show ((l.map Nat.toUInt8).toArray).toList = _
 simp
theorem isB_cons {S : ByteArray} {i : Int} {a : Nat} {l : List Nat} (h0 : 0 ≤ i) : isB S i (bs (a :: l)) = (isB S i (bs [a]) && isB S (i + 1) (bs l)) := by
 unfold isB
 rw [bs_list, bs_list, bs_list]
 have e : (i + 1).toNat = i.toNat + 1 := by omega
 rw [e]
 cases h : S.toList.drop i.toNat with
 | nil =>
  have : S.toList.drop (i.toNat + 1) = [] := by rw [← List.tail_drop, h]; rfl
  simp
 | cons x d =>
  have : S.toList.drop (i.toNat + 1) = d := by rw [← List.tail_drop, h]; rfl
  simp [List.isPrefixOf, this]
theorem isB_at {S : ByteArray} {i : Int} (h : isB S i (bs [40]) = true) : (bytesAV S)[i.toNat]? = some (.sc (.int .u8 40)) := by
 unfold isB at h
 rw [bs_list] at h
 cases hd : S.toList.drop i.toNat with
 | nil => rw [hd] at h; simp at h
 | cons x d =>
  rw [hd] at h
  simp only [List.map, List.isPrefixOf, Bool.and_true, beq_iff_eq] at h
  have hx : x = 40 := h.symm
  have g : S.toList[i.toNat]? = some 40 := by
   have := List.getElem?_drop (xs := S.toList) (i := i.toNat) (j := 0)
   rw [hd] at this
   simp at this
   rw [← this, hx]
  unfold bytesAV
  rw [ByteArray.toList_eq] at g
  rw [List.getElem?_map, g]
  rfl
theorem isB_two {S : ByteArray} {i : Int} {a b : Nat} (h : isB S i (bs [a]) = true) (k : isB S i (bs [b]) = true) : a.toUInt8 = b.toUInt8 := by
 unfold isB at h k
 rw [bs_list] at h k
 cases hd : S.toList.drop i.toNat with
 | nil => rw [hd] at h; simp at h
 | cons x d =>
  rw [hd] at h k
  simp only [List.map, List.isPrefixOf, Bool.and_true, beq_iff_eq] at h k
  rw [h, k]
def lookB (S : ByteArray) (i : Int) : Bool := isB S i (bs [40]) && (isB S (i + 1) (bs [63]) && (isB S (i + 2) (bs [61]) || (isB S (i + 2) (bs [33]) || (isB S (i + 2) (bs [60, 61]) || isB S (i + 2) (bs [60, 33])))))
theorem lookB_open {S : ByteArray} {i : Int} (h : lookB S i = true) : isB S i (bs [40]) = true := by
 unfold lookB at h
 simp only [Bool.and_eq_true] at h
 exact h.1
theorem lookB_lt {S : ByteArray} {i : Int} (h0 : 0 ≤ i) (hi : i ≤ S.size) (h : lookB S i = true) : i < S.size := by
 have := isB_le h0 hi (lookB_open h)
 rw [bs_size] at this
 simp at this
 omega
theorem lookB_noQ {S : ByteArray} {i : Int} (h0 : 0 ≤ i) (k : isB S i (bs [92, 81]) = true) (h : lookB S i = true) : False := by
 rw [isB_cons h0, Bool.and_eq_true] at k
 exact absurd (isB_two k.1 (lookB_open h)) (by decide)
theorem lookB_of {S : ByteArray} {j i : Int} (e : i = j + 1) (h0 : 0 ≤ j) (h1 : isB S j (bs [40]) = true) (h2 : isB S i (bs [63, 61]) = true ∨ isB S i (bs [63, 33]) = true ∨ isB S i (bs [63, 60, 61]) = true ∨ isB S i (bs [63, 60, 33]) = true) : lookB S j = true := by
 subst e
 have hj : j + 1 + 1 = j + 2 := by omega
 unfold lookB
 rcases h2 with h | h | h | h <;> (rw [isB_cons (by omega), Bool.and_eq_true, hj] at h; simp [h1, h.1, h.2])
theorem lookB_none {S : ByteArray} {i j k : Int} (e : j = i + 1) (e2 : k = i + 2) (h : lookB S i = true) (h1 : isB S j (bs [63]) = false ∨ (isB S k (bs [61]) = false ∧ isB S k (bs [33]) = false ∧ isB S k (bs [60, 61]) = false ∧ isB S k (bs [60, 33]) = false)) : False := by
 subst e e2
 unfold lookB at h
 rcases h1 with h1 | ⟨h1, h2, h3, h4⟩ <;> simp_all
abbrev TokW (k at' to c : Int) (s : List AV) (neg : Bool) (n m mode : Int) (nm : ByteArray) (on off : Int) : Prop := SetR s ∧ (k = 9 → 0 ≤ n ∧ n ≤ 255 ∧ -1 ≤ m ∧ m ≤ 255 ∧ (m = -1 ∨ n ≤ m))
abbrev Got (S : ByteArray) (i : Int) (k at' to c : Int) (s : List AV) (neg : Bool) (n m mode : Int) (nm : ByteArray) (on off : Int) (some' : Bool) (To E At' : Int) : Prop := E = 0 → (i < To ∧ To ≤ S.size ∧ SetR s ∧ (k = 9 → 0 ≤ n ∧ n ≤ 255 ∧ -1 ≤ m ∧ m ≤ 255 ∧ (m = -1 ∨ n ≤ m)) ∧ (k = 10 → n = 13 → lookB S To = true))
def GotL (S : ByteArray) (i : Int) (l : List AV) : Prop := ∃ (k at' to c : Int) (s : List AV) (neg : Bool) (n m mode : Int) (nm : ByteArray) (on off : Int) (some' : Bool) (To E At' : Int), l = [iv k, iv at', iv to, iv c, .sl 2 s, bv neg, iv n, iv m, iv mode, sv nm, iv on, iv off, bv some', iv To, iv E, iv At'] ∧ SetR s ∧ Got S i k at' to c s neg n m mode nm on off some' To E At'
theorem GotL.mk {S : ByteArray} {i : Int} {k at' to c : Int} {s : List AV} {neg : Bool} {n m mode : Int} {nm : ByteArray} {on off : Int} {some' : Bool} {To E At' : Int} (hs : SetR s) (h : Got S i k at' to c s neg n m mode nm on off some' To E At') : GotL S i [iv k, iv at', iv to, iv c, .sl 2 s, bv neg, iv n, iv m, iv mode, sv nm, iv on, iv off, bv some', iv To, iv E, iv At'] := ⟨_, _, _, _, _, _, _, _, _, _, _, _, _, _, _, _, rfl, hs, h⟩
theorem GotL.bad {S : ByteArray} {i : Int} {k at' to c : Int} {s : List AV} {neg : Bool} {n m mode : Int} {nm : ByteArray} {on off : Int} {some' : Bool} {To E At' : Int} (hs : SetR s) (h : E ≠ 0) : GotL S i [iv k, iv at', iv to, iv c, .sl 2 s, bv neg, iv n, iv m, iv mode, sv nm, iv on, iv off, bv some', iv To, iv E, iv At'] := .mk hs fun e => absurd e h
theorem GotL.word14 {S : ByteArray} {i : Int} {l : List AV} (h : GotL S i l) : ∃ x : Int, l[14]? = some (iv x) := by
 obtain ⟨_, _, _, _, _, _, _, _, _, _, _, _, _, _, E, _, rfl, _⟩ := h
 exact ⟨E, rfl⟩
theorem GotL.np {S : ByteArray} {i : Int} {l : List AV} (h : GotL S i l) : npL l = true := by
 obtain ⟨_, _, _, _, _, _, _, _, _, _, _, _, _, _, E, _, rfl, hs, _⟩ := h
 simp only [npL, Go.Vai.np, hs.np, Bool.and_true]
theorem GotL.words {P : List AV → Prop} {f : FuncId} {args : List AV} (h : ∃ l : List AV, P l ∧ A f args [] (.agg l) []) (hP : ∀ l, P l → ∃ S i, GotL S i l := by first | exact fun l h => ⟨_, _, h⟩ | exact fun l h => ⟨_, _, h.1⟩) : ∃ (k at' to c : Int) (s : List AV) (neg : Bool) (n m mode : Int) (nm : ByteArray) (on off : Int) (some' : Bool) (To E At' : Int), P [iv k, iv at', iv to, iv c, .sl 2 s, bv neg, iv n, iv m, iv mode, sv nm, iv on, iv off, bv some', iv To, iv E, iv At'] ∧ A f args [] (.agg [iv k, iv at', iv to, iv c, .sl 2 s, bv neg, iv n, iv m, iv mode, sv nm, iv on, iv off, bv some', iv To, iv E, iv At']) [] := by
 obtain ⟨l, h, k⟩ := h
 obtain ⟨_, _, _, _, _, _, _, _, _, _, _, _, _, _, _, _, _, _, rfl, _⟩ := hP l h
 exact ⟨_, _, _, _, _, _, _, _, _, _, _, _, _, _, _, _, h, k⟩
theorem GotL.got {S : ByteArray} {i : Int} {k at' to c : Int} {s : List AV} {neg : Bool} {n m mode : Int} {nm : ByteArray} {on off : Int} {some' : Bool} {To E At' : Int} (h : GotL S i [iv k, iv at', iv to, iv c, .sl 2 s, bv neg, iv n, iv m, iv mode, sv nm, iv on, iv off, bv some', iv To, iv E, iv At']) : SetR s ∧ Got S i k at' to c s neg n m mode nm on off some' To E At' := by
 obtain ⟨_, _, _, _, _, _, _, _, _, _, _, _, _, _, _, _, e, h1, h2⟩ := h
 simp only [List.cons.injEq, AV.sc.injEq, Value.int.injEq, AV.sl.injEq, Value.bool.injEq, Value.string.injEq, true_and, and_true] at e
 obtain ⟨rfl, rfl, rfl, rfl, rfl, rfl, rfl, rfl, rfl, rfl, rfl, rfl, rfl, rfl, rfl, rfl⟩ := e
 exact ⟨h1, h2⟩
def Opens (l : List AV) : Prop := ∃ (at' to c : Int) (s : List AV) (neg : Bool) (n m mode : Int) (nm : ByteArray) (on off To At' : Int), l = [iv 10, iv at', iv to, iv c, .sl 2 s, bv neg, iv n, iv m, iv mode, sv nm, iv on, iv off, bv true, iv To, iv 0, iv At'] ∧ n ≠ 13
theorem Opens.mk {at' to c : Int} {s : List AV} {neg : Bool} {n m mode : Int} {nm : ByteArray} {on off : Int} {To At' : Int} (h : n ≠ 13) : Opens [iv 10, iv at', iv to, iv c, .sl 2 s, bv neg, iv n, iv m, iv mode, sv nm, iv on, iv off, bv true, iv To, iv 0, iv At'] := ⟨_, _, _, _, _, _, _, _, _, _, _, _, _, rfl, h⟩
theorem Opens.got {k at' to c : Int} {s : List AV} {neg : Bool} {n m mode : Int} {nm : ByteArray} {on off : Int} {some' : Bool} {To E At' : Int} (h : Opens [iv k, iv at', iv to, iv c, .sl 2 s, bv neg, iv n, iv m, iv mode, sv nm, iv on, iv off, bv some', iv To, iv E, iv At']) : k = 10 ∧ n ≠ 13 ∧ some' = true ∧ E = 0 := by
 obtain ⟨_, _, _, _, _, _, _, _, _, _, _, _, _, e, h1⟩ := h
 simp only [List.cons.injEq, AV.sc.injEq, Value.int.injEq, AV.sl.injEq, Value.bool.injEq, Value.string.injEq, true_and, and_true] at e
 obtain ⟨rfl, rfl, rfl, rfl, rfl, rfl, rfl, rfl, rfl, rfl, rfl, rfl, rfl, rfl, rfl, rfl⟩ := e
 exact ⟨rfl, h1, rfl, rfl⟩
def Ts (l : List AV) : Prop := ∀ v ∈ l, ∃ (k at' to c : Int) (s : List AV) (neg : Bool) (n m mode : Int) (nm : ByteArray) (on off : Int), v = .agg [iv k, iv at', iv to, iv c, .sl 2 s, bv neg, iv n, iv m, iv mode, sv nm, iv on, iv off] ∧ TokW k at' to c s neg n m mode nm on off
theorem Ts.nil : Ts [] := fun v h => by cases h
theorem Ts.app {l m : List AV} (h : Ts l) (k : Ts m) : Ts (l ++ m) := fun v hv => by
 rcases List.mem_append.1 hv with hv | hv
 ·exact h v hv
 ·exact k v hv
theorem Ts.one {k at' to c : Int} {s : List AV} {neg : Bool} {n m mode : Int} {nm : ByteArray} {on off : Int} (h : TokW k at' to c s neg n m mode nm on off) : Ts [.agg [iv k, iv at', iv to, iv c, .sl 2 s, bv neg, iv n, iv m, iv mode, sv nm, iv on, iv off]] := fun v hv => by
 rw [List.mem_singleton] at hv
 exact ⟨k, at', to, c, s, neg, n, m, mode, nm, on, off, hv, h⟩
theorem Ts.get {l : List AV} (h : Ts l) {i : Nat} (hi : i < l.length) : ∃ (k at' to c : Int) (s : List AV) (neg : Bool) (n m mode : Int) (nm : ByteArray) (on off : Int), l[i]? = some (.agg [iv k, iv at', iv to, iv c, .sl 2 s, bv neg, iv n, iv m, iv mode, sv nm, iv on, iv off]) := by
 obtain ⟨k, at', to, c, s, neg, n, m, mode, nm, on, off, e, _⟩ := h l[i] (List.getElem_mem hi)
 exact ⟨k, at', to, c, s, neg, n, m, mode, nm, on, off, by rw [List.getElem?_eq_getElem hi, e]⟩
theorem Ts.elem {l : List AV} (h : Ts l) {i : Nat} {k at' to c : Int} {s : List AV} {neg : Bool} {n m mode : Int} {nm : ByteArray} {on off : Int} (e : l[i]? = some (.agg [iv k, iv at', iv to, iv c, .sl 2 s, bv neg, iv n, iv m, iv mode, sv nm, iv on, iv off])) : TokW k at' to c s neg n m mode nm on off := by
 obtain ⟨k', at1, to', c', s', neg', n', m', mode', nm', on', off', h1, h2⟩ := h _ (List.mem_of_getElem? e)
 simp only [AV.agg.injEq, List.cons.injEq, AV.sc.injEq, Value.int.injEq, AV.sl.injEq, Value.bool.injEq, Value.string.injEq, true_and, and_true] at h1
 obtain ⟨rfl, rfl, rfl, rfl, rfl, rfl, rfl, rfl, rfl, rfl, rfl, rfl⟩ := h1
 exact h2
def isC : AV → Bool
 | .agg (.sc (.int _ k) :: _ :: _ :: _ :: _ :: _ :: .sc (.int _ n) :: _) => k == 10 && n == 13
 | _ => false
def isO : AV → Bool
 | .agg (.sc (.int _ k) :: _ :: _ :: _ :: _ :: _ :: .sc (.int _ n) :: _) => k == 10 && n != 13
 | _ => false
theorem isO_of {k at' to c : Int} {s : List AV} {neg : Bool} {n m mode : Int} {nm : ByteArray} {on off : Int} (hk : k = 10) (hn : n ≠ 13) : isO (.agg [iv k, iv at', iv to, iv c, .sl 2 s, bv neg, iv n, iv m, iv mode, sv nm, iv on, iv off]) = true := by
 show ((k == 10) && (n != 13)) = true
 simp [hk, hn]
theorem isC_of {k at' to c : Int} {s : List AV} {neg : Bool} {n m mode : Int} {nm : ByteArray} {on off : Int} (h : isC (.agg [iv k, iv at', iv to, iv c, .sl 2 s, bv neg, iv n, iv m, iv mode, sv nm, iv on, iv off]) = true) : k = 10 ∧ n = 13 := by
 have h : ((k == 10) && (n == 13)) = true := h
 simpa using h
def TC (l : List AV) : Prop := ∀ (j : Nat) (v : AV), l[j]? = some v → isC v = true → ∃ u, l[j + 1]? = some u ∧ isO u = true
def TCi (l : List AV) (S : ByteArray) (i : Int) (q : Bool) : Prop := ∀ (j : Nat) (v : AV), l[j]? = some v → isC v = true → (∃ u, l[j + 1]? = some u ∧ isO u = true) ∨ (j + 1 = l.length ∧ q = false ∧ lookB S i = true)
theorem TCi.nil {S : ByteArray} {i : Int} {q : Bool} : TCi [] S i q := fun j v h => by simp at h
theorem TCi.fin {l : List AV} {S : ByteArray} {i : Int} {q : Bool} (h : TCi l S i q) (h0 : 0 ≤ i) (h1 : i ≤ S.size) (hi : S.size ≤ i) : TC l := fun j v hj hv => by
 rcases h j v hj hv with g | ⟨_, _, g⟩
 ·exact g
 ·exact absurd (lookB_lt h0 h1 g) (by omega)
theorem TCi.skip {l : List AV} {S : ByteArray} {i i' : Int} {q q' : Bool} (h : TCi l S i q) (k : lookB S i = true → q = false → False) : TCi l S i' q' := fun j v hj hv => by
 rcases h j v hj hv with g | ⟨_, g1, g2⟩
 ·exact .inl g
 ·exact (k g2 g1).elim
theorem TCi.push {l : List AV} {S : ByteArray} {i i' : Int} {q q' : Bool} {v : AV} (h : TCi l S i q) (k : lookB S i = true → q = false → isO v = true) (k2 : isC v = true → q' = false ∧ lookB S i' = true) : TCi (l ++ [v]) S i' q' := fun j u hj hu => by
 rcases Nat.lt_or_ge j l.length with g | g
 ·rw [List.getElem?_append_left g] at hj
  rcases h j u hj hu with ⟨w, hw, ho⟩ | ⟨e, hq, hl⟩
  ·exact .inl ⟨w, by rw [List.getElem?_append_left (List.getElem?_eq_some_iff.1 hw).1]; exact hw, ho⟩
  ·exact .inl ⟨v, by rw [e, List.getElem?_append_right (Nat.le_refl _)]; simp, k hl hq⟩
 ·rw [List.getElem?_append_right g] at hj
  have e : j = l.length := by
   have := (List.getElem?_eq_some_iff.1 hj).1
   simp at this
   omega
  subst e
  simp at hj
  subst hj
  exact .inr ⟨by simp, k2 hu⟩
def shapeN (k n m : Int) (K : List AV) : Prop := (k = 19 → n = 13 → 2 ≤ K.length) ∧ (k = 13 → 1 ≤ K.length) ∧ (k = 14 ∨ k = 15 ∨ k = 17 ∨ k = 18 ∨ k = 20 → K.length = 1) ∧ (k = 16 → 1 ≤ K.length) ∧ (k = 19 → 1 ≤ K.length ∧ K.length ≤ 3 ∧ (n ≠ 13 → K.length ≤ 2)) ∧ (k = 20 → 0 ≤ n ∧ n ≤ 255 ∧ -1 ≤ m ∧ m ≤ 255 ∧ (m = -1 ∨ n ≤ m)) ∧ (k = 18 → n ≤ 8)
theorem shapeN_eq (k n m : Int) (K : List AV) : shapeN k n m K = ((k = 19 → n = 13 → 2 ≤ K.length) ∧ (k = 13 → 1 ≤ K.length) ∧ (k = 14 ∨ k = 15 ∨ k = 17 ∨ k = 18 ∨ k = 20 → K.length = 1) ∧ (k = 16 → 1 ≤ K.length) ∧ (k = 19 → 1 ≤ K.length ∧ K.length ≤ 3 ∧ (n ≠ 13 → K.length ≤ 2)) ∧ (k = 20 → 0 ≤ n ∧ n ≤ 255 ∧ -1 ≤ m ∧ m ≤ 255 ∧ (m = -1 ∨ n ≤ m)) ∧ (k = 18 → n ≤ 8)) := rfl
mutual
def nszV : AV → Nat
 | .agg l => nszA l + 1
 | _ => 0
def nszA : List AV → Nat
 | [] => 0
 | v :: r => nszS v + nszA r
def nszS : AV → Nat
 | .sl z K => match z with | 12 => nszL K | _ => 0
 | _ => 0
def nszL : List AV → Nat
 | [] => 0
 | v :: r => nszV v + nszL r
end
theorem nszL_nil : nszL [] = 0 := by simp only [nszL]
theorem nszL_cons (v : AV) (r : List AV) : nszL (v :: r) = nszV v + nszL r := by simp only [nszL]
theorem nszL_app (l m : List AV) : nszL (l ++ m) = nszL l + nszL m := by
 induction l with
 | nil => simp only [List.nil_append, nszL_nil, Nat.zero_add]
 | cons x l ih => simp only [List.cons_append, nszL_cons, ih, Nat.add_assoc]
theorem nszV_nd (k a c : Int) (s : List AV) (g : Bool) (n m mode : Int) (nm : ByteArray) (on off : Int) (K : List AV) : nszV (.agg [iv k, iv a, iv c, .sl 2 s, bv g, iv n, iv m, iv mode, sv nm, iv on, iv off, .sl 12 K]) = nszL K + 1 := by
 simp only [nszV, nszA, nszS, Nat.zero_add, Nat.add_zero]
theorem nsz_mem {l : List AV} {v : AV} (h : v ∈ l) : nszV v ≤ nszL l := by
 induction l with
 | nil => cases h
 | cons x l ih =>
  rw [nszL_cons]
  rcases List.mem_cons.1 h with rfl | h
  ·omega
  ·have := ih h; omega
theorem nsz_get {l : List AV} {i : Nat} {k a c : Int} {s : List AV} {g : Bool} {n m mode : Int} {nm : ByteArray} {on off : Int} {K : List AV} (e : l[i]? = some (.agg [iv k, iv a, iv c, .sl 2 s, bv g, iv n, iv m, iv mode, sv nm, iv on, iv off, .sl 12 K])) : nszL K + 1 ≤ nszL l := by
 have := nsz_mem (List.mem_of_getElem? e)
 rw [nszV_nd] at this
 exact this
inductive NV : AV → Prop
 | mk {k a c : Int} {s : List AV} {g : Bool} {n m mode : Int} {nm : ByteArray} {on off : Int} {K : List AV} (hs : SetR s) (hk : ∀ v ∈ K, NV v) (h : shapeN k n m K) : NV (.agg [iv k, iv a, iv c, .sl 2 s, bv g, iv n, iv m, iv mode, sv nm, iv on, iv off, .sl 12 K])
def Ns (K : List AV) : Prop := ∀ v ∈ K, NV v
theorem Ns.nil : Ns [] := fun v h => by cases h
theorem Ns.app {l m : List AV} (h : Ns l) (k : Ns m) : Ns (l ++ m) := fun v hv => by
 rcases List.mem_append.1 hv with hv | hv
 ·exact h v hv
 ·exact k v hv
theorem Ns.cons {x : AV} {l : List AV} (h : NV x) (k : Ns l) : Ns (x :: l) := fun v hv => by
 rcases List.mem_cons.1 hv with rfl | hv
 ·exact h
 ·exact k v hv
theorem Ns.drop {l : List AV} (h : Ns l) (n : Nat) : Ns (l.drop n) := fun v hv => h v (List.mem_of_mem_drop hv)
theorem NV.form {v : AV} (h : NV v) : ∃ (k a c : Int) (s : List AV) (g : Bool) (n m mode : Int) (nm : ByteArray) (on off : Int) (K : List AV), v = .agg [iv k, iv a, iv c, .sl 2 s, bv g, iv n, iv m, iv mode, sv nm, iv on, iv off, .sl 12 K] := by
 cases h
 exact ⟨_, _, _, _, _, _, _, _, _, _, _, _, rfl⟩
theorem Ns.get {l : List AV} (h : Ns l) {i : Nat} (hi : i < l.length) : ∃ (k a c : Int) (s : List AV) (g : Bool) (n m mode : Int) (nm : ByteArray) (on off : Int) (K : List AV), l[i]? = some (.agg [iv k, iv a, iv c, .sl 2 s, bv g, iv n, iv m, iv mode, sv nm, iv on, iv off, .sl 12 K]) := by
 obtain ⟨k, a, c, s, g, n, m, mode, nm, on, off, K, e⟩ := (h l[i] (List.getElem_mem hi)).form
 exact ⟨k, a, c, s, g, n, m, mode, nm, on, off, K, by rw [List.getElem?_eq_getElem hi, e]⟩
theorem Ns.elem {l : List AV} (h : Ns l) {i : Nat} {v : AV} (e : l[i]? = some v) : NV v := h _ (List.mem_of_getElem? e)
section
variable {k a c : Int} {s : List AV} {g : Bool} {n m mode : Int} {nm : ByteArray} {on off : Int} {K : List AV}
theorem NV.rs (h : NV (.agg [iv k, iv a, iv c, .sl 2 s, bv g, iv n, iv m, iv mode, sv nm, iv on, iv off, .sl 12 K])) : SetR s := by cases h; assumption
theorem NV.ns (h : NV (.agg [iv k, iv a, iv c, .sl 2 s, bv g, iv n, iv m, iv mode, sv nm, iv on, iv off, .sl 12 K])) : Ns K := by cases h; assumption
theorem Ns.len {l : List AV} (h : Ns l) : l.length ≤ nszL l := by
 induction l with
 | nil => simp
 | cons x l ih =>
  have h1 := ih fun v hv => h v (by simp [hv])
  obtain ⟨k, a, c, s, g, n, m, mode, nm, on, off, K, rfl⟩ := (h x (by simp)).form
  rw [nszL_cons, nszV_nd, List.length_cons]
  omega
theorem NV.shape (h : NV (.agg [iv k, iv a, iv c, .sl 2 s, bv g, iv n, iv m, iv mode, sv nm, iv on, iv off, .sl 12 K])) : shapeN k n m K := by cases h; assumption
abbrev NW (k a c : Int) (s : List AV) (g : Bool) (n m mode : Int) (nm : ByteArray) (on off : Int) (K : List AV) : Prop := SetR s ∧ Ns K ∧ K.length ≤ nszL K ∧ shapeN k n m K
theorem NV.of (h : NW k a c s g n m mode nm on off K) : NV (.agg [iv k, iv a, iv c, .sl 2 s, bv g, iv n, iv m, iv mode, sv nm, iv on, iv off, .sl 12 K]) := .mk h.1 h.2.1 h.2.2.2
theorem NV.nw (h : NV (.agg [iv k, iv a, iv c, .sl 2 s, bv g, iv n, iv m, iv mode, sv nm, iv on, iv off, .sl 12 K])) : NW k a c s g n m mode nm on off K := ⟨h.rs, h.ns, h.ns.len, h.shape⟩
end
mutual
theorem NV.np : ∀ {v : AV}, NV v → np v = true
 | _, .mk hs hk _ => by simp only [Go.Vai.np, npL, SetR.np hs, np_of fun v hv => NV.np (hk v hv), Bool.and_self]
end
inductive NF : AV → Prop
 | mk {k a c : Int} {s : List AV} {g : Bool} {n m mode : Int} {nm : ByteArray} {on off : Int} {K : List AV} (hs : Rs s) (hk : ∀ v ∈ K, NF v) : NF (.agg [iv k, iv a, iv c, .sl 2 s, bv g, iv n, iv m, iv mode, sv nm, iv on, iv off, .sl 12 K])
def Nf (K : List AV) : Prop := ∀ v ∈ K, NF v
theorem Nf.nil : Nf [] := fun v h => by cases h
theorem Nf.app {l m : List AV} (h : Nf l) (k : Nf m) : Nf (l ++ m) := fun v hv => by
 rcases List.mem_append.1 hv with hv | hv
 ·exact h v hv
 ·exact k v hv
theorem Nf.cons {x : AV} {l : List AV} (h : NF x) (k : Nf l) : Nf (x :: l) := fun v hv => by
 rcases List.mem_cons.1 hv with rfl | hv
 ·exact h
 ·exact k v hv
theorem NF.form {v : AV} (h : NF v) : ∃ (k a c : Int) (s : List AV) (g : Bool) (n m mode : Int) (nm : ByteArray) (on off : Int) (K : List AV), v = .agg [iv k, iv a, iv c, .sl 2 s, bv g, iv n, iv m, iv mode, sv nm, iv on, iv off, .sl 12 K] := by
 cases h
 exact ⟨_, _, _, _, _, _, _, _, _, _, _, _, rfl⟩
theorem Nf.get {l : List AV} (h : Nf l) {i : Nat} (hi : i < l.length) : ∃ (k a c : Int) (s : List AV) (g : Bool) (n m mode : Int) (nm : ByteArray) (on off : Int) (K : List AV), l[i]? = some (.agg [iv k, iv a, iv c, .sl 2 s, bv g, iv n, iv m, iv mode, sv nm, iv on, iv off, .sl 12 K]) := by
 obtain ⟨k, a, c, s, g, n, m, mode, nm, on, off, K, e⟩ := (h l[i] (List.getElem_mem hi)).form
 exact ⟨k, a, c, s, g, n, m, mode, nm, on, off, K, by rw [List.getElem?_eq_getElem hi, e]⟩
theorem Nf.elem {l : List AV} (h : Nf l) {i : Nat} {v : AV} (e : l[i]? = some v) : NF v := h _ (List.mem_of_getElem? e)
section
variable {k a c : Int} {s : List AV} {g : Bool} {n m mode : Int} {nm : ByteArray} {on off : Int} {K : List AV}
theorem NF.nw (h : NF (.agg [iv k, iv a, iv c, .sl 2 s, bv g, iv n, iv m, iv mode, sv nm, iv on, iv off, .sl 12 K])) : Rs s ∧ Nf K := by
 cases h
 exact ⟨by assumption, by assumption⟩
theorem NF.of (h : Rs s ∧ Nf K) : NF (.agg [iv k, iv a, iv c, .sl 2 s, bv g, iv n, iv m, iv mode, sv nm, iv on, iv off, .sl 12 K]) := .mk h.1 h.2
end
theorem NF.np : ∀ {v : AV}, NF v → Go.Vai.np v = true
 | _, .mk hs hk => by simp only [Go.Vai.np, npL, Rs.np hs, np_of fun v hv => NF.np (hk v hv), Bool.and_self]
theorem Nf.np {l : List AV} (h : Nf l) : npL l = true := np_of fun v hv => (h v hv).np
theorem NV.nf : ∀ {v : AV}, NV v → NF v
 | _, .mk hs hk _ => .mk hs.rs fun v hv => NV.nf (hk v hv)
theorem Ns.nf {l : List AV} (h : Ns l) : Nf l := fun v hv => (h v hv).nf
theorem Ns.np {l : List AV} (h : Ns l) : npL l = true := np_of fun v hv => (h v hv).np
theorem Ts.np {l : List AV} (h : Ts l) : npL l = true := np_of fun v hv => by
 obtain ⟨k, at', to, c, s, neg, n, m, mode, nm, on, off, rfl, h1, _⟩ := h v hv
 simp only [Go.Vai.np, npL, SetR.np h1, Bool.and_self]
def kindOf (L : List AV) (I E : Int) : Int := if E ≠ 0 ∨ I ≥ L.length then 0 else match L[I.toNat]? with | some (.agg (.sc (.int _ k) :: _)) => k | _ => 0
theorem kind_ne {L : List AV} {I E : Int} (h : kindOf L I E ≠ 0) : E = 0 ∧ I < L.length := by
 unfold kindOf at h
 split at h
 ·exact absurd rfl h
 ·omega
theorem kind_of {L : List AV} {I E k : Int} {r : List AV} (h : ¬ (E ≠ 0 ∨ I ≥ L.length)) (g : L[I.toNat]? = some (.agg (iv k :: r))) : kindOf L I E = k := by
 unfold kindOf
 rw [if_neg h, g]
theorem kind_at {L : List AV} {I E x k : Int} {r : List AV} (h : x = kindOf L I E) (g : L[I.toNat]? = some (.agg (iv k :: r))) (h0 : x ≠ 0) : x = k := by
 have h1 := kind_ne (by rw [← h]; exact h0 : kindOf L I E ≠ 0)
 rw [h, kind_of (by omega) g]
theorem TC.kind {L : List AV} {I j E k at' to c : Int} {s : List AV} {neg : Bool} {n m mode : Int} {nm : ByteArray} {on off : Int} (h : TC L) (g : L[I.toNat]? = some (.agg [iv k, iv at', iv to, iv c, .sl 2 s, bv neg, iv n, iv m, iv mode, sv nm, iv on, iv off])) (hk : k = 10) (hn : n = 13) (h0 : 0 ≤ I) (e : j = I + 1) (hE : E = 0) : kindOf L j E = 10 := by
 subst hk hn e hE
 obtain ⟨u, hu, ho⟩ := h _ _ g rfl
 have e2 : (I + 1).toNat = I.toNat + 1 := by omega
 have hl := (List.getElem?_eq_some_iff.1 hu).1
 unfold kindOf
 rw [if_neg (by omega), e2, hu]
 unfold isO at ho
 split at ho
 ·simp only [Bool.and_eq_true, beq_iff_eq] at ho
  exact ho.1
 ·cases ho
def Nm (l : List AV) : Prop := ∀ v ∈ l, ∃ (s : ByteArray) (n : Int), v = .agg [sv s, iv n]
theorem Nm.nil : Nm [] := fun v h => by cases h
theorem Nm.get {l : List AV} (h : Nm l) {i : Nat} (hi : i < l.length) : ∃ (s : ByteArray) (n : Int), l[i]? = some (.agg [sv s, iv n]) := by
 obtain ⟨a, b, e⟩ := h l[i] (List.getElem_mem hi)
 exact ⟨a, b, by rw [List.getElem?_eq_getElem hi, e]⟩
theorem Nm.add {l : List AV} (h : Nm l) (s : ByteArray) (n : Int) : Nm (l ++ [.agg [sv s, iv n]]) := fun v hv => by
 rcases List.mem_append.1 hv with hv | hv
 ·exact h v hv
 ·exact ⟨s, n, List.mem_singleton.1 hv⟩
theorem Nm.np {l : List AV} (h : Nm l) : npL l = true := np_of fun v hv => by obtain ⟨a, b, rfl⟩ := h v hv; rfl
theorem nsz_drop {l : List AV} {i : Nat} {k a c : Int} {s : List AV} {g : Bool} {n m mode : Int} {nm : ByteArray} {on off : Int} {K : List AV} (e : l[i]? = some (.agg [iv k, iv a, iv c, .sl 2 s, bv g, iv n, iv m, iv mode, sv nm, iv on, iv off, .sl 12 K])) : nszL (l.drop i) = nszL K + 1 + nszL (l.drop (i + 1)) := by
 obtain ⟨hi, e⟩ := List.getElem?_eq_some_iff.1 e
 rw [List.drop_eq_getElem_cons hi, nszL_cons, e, nszV_nd]
theorem shapeN_len {k n m : Int} {K K1 : List AV} (h : shapeN k n m K) (e : K1.length = K.length) : shapeN k n m K1 := by
 rw [shapeN_eq] at h ⊢
 rw [e]
 exact h
theorem shapeN_not {k n m n1 m1 : Int} {K K1 : List AV} (h : shapeN k n m K) (e : K1.length = K.length) (hk : k ≠ 20) (hn : k = 19 → n1 = 13 → n = 13) (hm : k = 19 → n = 13 → n1 = 13) (hl : k = 18 → n1 = n) : shapeN k n1 m1 K1 := by
 rw [shapeN_eq] at h ⊢
 rw [e]
 exact ⟨fun e f => h.1 e (hn e f), h.2.1, h.2.2.1, h.2.2.2.1, fun e => ⟨(h.2.2.2.2.1 e).1, (h.2.2.2.2.1 e).2.1, fun f => (h.2.2.2.2.1 e).2.2 fun g => f (hm e g)⟩, fun e => absurd e hk, fun e => (hl e) ▸ h.2.2.2.2.2.2 e⟩
def w6 (a : Int) : Int := IntKind.wrap .i64 a
theorem w6_eq (a : Int) : w6 a = IntKind.wrap .i64 a := rfl
theorem tW (a : Int) (h : -9223372036854775808 ≤ a ∧ a ≤ 9223372036854775807 := by omega) : w6 a = a := by
 rw [w6_eq, wr]
 omega
class BP (b : Bool) (y n : outParam Prop) : Prop where
 yes : b = true → y
 no : b = false → n
instance (priority := low) bpAny (b : Bool) : BP b (b = true) (b = false) := ⟨id, id⟩
instance bpDec (p : Prop) [Decidable p] : BP (decide p) p (¬p) := ⟨of_decide_eq_true, of_decide_eq_false⟩
instance bpEqI (a b : Int) : BP (a == b) (a = b) (a ≠ b) := ⟨fun h => eq_of_beq h, fun h e => by rw [e, beq_self_eq_true] at h; cases h⟩
instance bpNot (b : Bool) (y n : Prop) [i : BP b y n] : BP (!b) n y := ⟨fun h => i.no (by cases b <;> simp_all), fun h => i.yes (by cases b <;> simp_all)⟩
instance bpAnd (a b : Bool) (y n y2 n2 : Prop) [i : BP a y n] [j : BP b y2 n2] : BP (a && b) (y ∧ y2) (n ∨ n2) := ⟨fun h => ⟨i.yes (by cases a <;> simp_all), j.yes (by cases b <;> simp_all)⟩, fun h => by
 cases ha : a with
 | false => exact .inl (i.no ha)
 | true => exact .inr (j.no (by rw [ha] at h; simpa using h))⟩
instance bpOr (a b : Bool) (y n y2 n2 : Prop) [i : BP a y n] [j : BP b y2 n2] : BP (a || b) (y ∨ y2) (n ∧ n2) := ⟨fun h => by
 cases ha : a with
 | true => exact .inl (i.yes ha)
 | false => exact .inr (j.yes (by rw [ha] at h; simpa using h)), fun h => ⟨i.no (by cases a <;> simp_all), j.no (by cases b <;> simp_all)⟩⟩
theorem nsz_end {l : List AV} {i : Nat} (h : l.length ≤ i) : nszL (l.drop i) = 0 := by rw [List.drop_of_length_le h, nszL_nil]
theorem outE {l ks : List AV} {i : Nat} (h : nszL ks + nszL (l.drop i) = nszL l) (hi : l.length ≤ i) : nszL ks = nszL l := by
 have := nsz_end hi
 omega
theorem wnat {x : Int} (h : 0 ≤ x) (h2 : x ≤ 1000000000000) : (w6 (x + 1)).toNat = x.toNat + 1 := by
 rw [tW (x + 1)]
 omega
theorem bS {b : Bool} {y n p q : Prop} [i : BP b y n] (h1 : y → p) (h2 : n → q) : (b = true → p) ∧ (b = false → q) := ⟨fun h => h1 (i.yes h), fun h => h2 (i.no h)⟩
theorem slice_one {b : List AV} {at' n j : Int} {v : AV} (hb : b[at'.toNat]? = some v) (hn : n = 1) (h0 : 0 ≤ at') (hj : j = at' + n) : (b.take j.toNat).drop at'.toNat = [v] := by
 subst hn hj
 have e : (at' + 1).toNat = at'.toNat + 1 := by omega
 obtain ⟨hl, hv⟩ := List.getElem?_eq_some_iff.1 hb
 rw [e, List.drop_take, show at'.toNat + 1 - at'.toNat = 1 from by omega, List.drop_eq_getElem_cons hl, hv]
 rfl
theorem at_eq {b : List AV} {at' n j c : Int} (hi : b[at'.toNat]? = some (.sc (.int .u8 40)) → n = 1) (p : (b.take j.toNat).drop at'.toNat = [.sc (.int .u8 40)] → c = 40) (h0 : 0 ≤ at') (hj : j = at' + n) (hb : b[at'.toNat]? = some (.sc (.int .u8 40))) : c = 40 ∧ n = 1 := ⟨p (slice_one hb (hi hb) h0 hj), hi hb⟩
theorem lookB_end2 {S : ByteArray} {i j : Int} (e : j = i + 2) (h0 : 0 ≤ i) (hj : j = S.size) (h : lookB S i = true) : False := by
 subst e
 have key : ∀ s : ByteArray, 1 ≤ s.size → isB S (i + 2) s = true → False := fun s hs k => by
  have := isB_le (by omega) (by omega) k
  omega
 unfold lookB at h
 simp only [Bool.and_eq_true, Bool.or_eq_true] at h
 rcases h.2.2 with k | k | k | k
 ·exact key _ (by rw [bs_size]; decide) k
 ·exact key _ (by rw [bs_size]; decide) k
 ·exact key _ (by rw [bs_size]; decide) k
 ·exact key _ (by rw [bs_size]; decide) k
theorem lookB_star {S : ByteArray} {i j : Int} (e : j = i + 1) (h : lookB S i = true) (k : isB S j (bs [42]) = true) : False := by
 subst e
 unfold lookB at h
 simp only [Bool.and_eq_true] at h
 exact absurd (isB_two k h.2.1) (by decide)
theorem TC.nil : TC [] := fun j v h => by simp at h
abbrev zZ (n : Nat) : HS := .ev n .stop
abbrev sS (n : Nat) (a b : HS) : HS := .ev n (.split a b)
abbrev oO (n : Nat) (h : HS) : HS := .ev n (.one true h)
abbrev aA (n : Nat) (t : TG) : HS := .ev n (.ask t)
abbrev eI (k : Int → TG) : TG := .ex Int k
abbrev eB (k : Bool → TG) : TG := .ex Bool k
abbrev eS (k : ByteArray → TG) : TG := .ex ByteArray k
abbrev eL (k : List AV → TG) : TG := .ex (List AV) k
abbrev eN (k : Int → Int → Int → List AV → Bool → Int → Int → Int → ByteArray → Int → Int → List AV → TG) : TG := .ex Int fun a0 => .ex Int fun a1 => .ex Int fun a2 => .ex (List AV) fun a3 => .ex Bool fun a4 => .ex Int fun a5 => .ex Int fun a6 => .ex Int fun a7 => .ex ByteArray fun a8 => .ex Int fun a9 => .ex Int fun a10 => .ex (List AV) fun a11 => k a0 a1 a2 a3 a4 a5 a6 a7 a8 a9 a10 a11
abbrev eG (k : Int → Int → Int → Int → List AV → Bool → Int → Int → Int → ByteArray → Int → Int → Bool → Int → Int → Int → TG) : TG := .ex Int fun a0 => .ex Int fun a1 => .ex Int fun a2 => .ex Int fun a3 => .ex (List AV) fun a4 => .ex Bool fun a5 => .ex Int fun a6 => .ex Int fun a7 => .ex Int fun a8 => .ex ByteArray fun a9 => .ex Int fun a10 => .ex Int fun a11 => .ex Bool fun a12 => .ex Int fun a13 => .ex Int fun a14 => .ex Int fun a15 => k a0 a1 a2 a3 a4 a5 a6 a7 a8 a9 a10 a11 a12 a13 a14 a15
abbrev eT (k : Int → Int → Int → Int → List AV → Bool → Int → Int → Int → ByteArray → Int → Int → TG) : TG := .ex Int fun a0 => .ex Int fun a1 => .ex Int fun a2 => .ex Int fun a3 => .ex (List AV) fun a4 => .ex Bool fun a5 => .ex Int fun a6 => .ex Int fun a7 => .ex Int fun a8 => .ex ByteArray fun a9 => .ex Int fun a10 => .ex Int fun a11 => k a0 a1 a2 a3 a4 a5 a6 a7 a8 a9 a10 a11
abbrev nR (a0 : Int) (a1 : Int) (a2 : Int) (a3 : List AV) (a4 : Bool) (a5 : Int) (a6 : Int) (a7 : Int) (a8 : ByteArray) (a9 : Int) (a10 : Int) (a11 : List AV) : List AV := [iv a0, iv a1, iv a2, .sl 2 a3, bv a4, iv a5, iv a6, iv a7, sv a8, iv a9, iv a10, .sl 12 a11]
abbrev gR (a0 : Int) (a1 : Int) (a2 : Int) (a3 : Int) (a4 : List AV) (a5 : Bool) (a6 : Int) (a7 : Int) (a8 : Int) (a9 : ByteArray) (a10 : Int) (a11 : Int) (a12 : Bool) (a13 : Int) (a14 : Int) (a15 : Int) : List AV := [iv a0, iv a1, iv a2, iv a3, .sl 2 a4, bv a5, iv a6, iv a7, iv a8, sv a9, iv a10, iv a11, bv a12, iv a13, iv a14, iv a15]
abbrev kR (a0 : Int) (a1 : Int) (a2 : Int) (a3 : Int) (a4 : List AV) (a5 : Bool) (a6 : Int) (a7 : Int) (a8 : Int) (a9 : ByteArray) (a10 : Int) (a11 : Int) : List AV := [iv a0, iv a1, iv a2, iv a3, .sl 2 a4, bv a5, iv a6, iv a7, iv a8, sv a9, iv a10, iv a11]
abbrev D (b : Bool) (p q : Prop) : Prop := (b = true → p) ∧ (b = false → q)
abbrev G1 (o : Option AV) (pP : Int → Prop) : Prop := (∃ a : Int, o = some (iv a)) ∧ (∀ a : Int, o = some (iv a) → pP a)
abbrev G2 (o : Option AV) (pP : Int → Int → Prop) : Prop := (∃ a b : Int, o = some (.agg [iv a, iv b])) ∧ (∀ a b : Int, o = some (.agg [iv a, iv b]) → pP a b)
abbrev GU (o : Option Value) (pP : UInt8 → Prop) : Prop := (∃ x : UInt8, o = some (.int .u8 (Int.ofNat x.toNat))) ∧ (∀ x : UInt8, o = some (.int .u8 (Int.ofNat x.toNat)) → pP x)
abbrev GN (o : Option AV) (pP : Int → Int → Int → List AV → Bool → Int → Int → Int → ByteArray → Int → Int → List AV → Prop) : Prop := (∃ (a0 a1 a2 : Int) (a3 : List AV) (a4 : Bool) (a5 a6 a7 : Int) (a8 : ByteArray) (a9 a10 : Int) (a11 : List AV), o = some (.agg (nR a0 a1 a2 a3 a4 a5 a6 a7 a8 a9 a10 a11))) ∧ (∀ (a0 a1 a2 : Int) (a3 : List AV) (a4 : Bool) (a5 a6 a7 : Int) (a8 : ByteArray) (a9 a10 : Int) (a11 : List AV), o = some (.agg (nR a0 a1 a2 a3 a4 a5 a6 a7 a8 a9 a10 a11)) → pP a0 a1 a2 a3 a4 a5 a6 a7 a8 a9 a10 a11)
abbrev GT (o : Option AV) (pP : Int → Int → Int → Int → List AV → Bool → Int → Int → Int → ByteArray → Int → Int → Prop) : Prop := (∃ (a0 a1 a2 a3 : Int) (a4 : List AV) (a5 : Bool) (a6 a7 a8 : Int) (a9 : ByteArray) (a10 a11 : Int), o = some (.agg (kR a0 a1 a2 a3 a4 a5 a6 a7 a8 a9 a10 a11))) ∧ (∀ (a0 a1 a2 a3 : Int) (a4 : List AV) (a5 : Bool) (a6 a7 a8 : Int) (a9 : ByteArray) (a10 a11 : Int), o = some (.agg (kR a0 a1 a2 a3 a4 a5 a6 a7 a8 a9 a10 a11)) → pP a0 a1 a2 a3 a4 a5 a6 a7 a8 a9 a10 a11)
abbrev gA (k : Int → HS) : TG := .ex Int fun a => .done (.av (iv a)) (k a)
abbrev gB (k : Int → Int → HS) : TG := .ex Int fun a => .ex Int fun b => .done (.av (.agg [iv a, iv b])) (k a b)
abbrev gU (k : UInt8 → HS) : TG := .ex UInt8 fun x => .done (.va (.int .u8 (Int.ofNat x.toNat))) (k x)
abbrev gN (k : Int → Int → Int → List AV → Bool → Int → Int → Int → ByteArray → Int → Int → List AV → HS) : TG := eN fun a0 a1 a2 a3 a4 a5 a6 a7 a8 a9 a10 a11 => .done (.av (.agg (nR a0 a1 a2 a3 a4 a5 a6 a7 a8 a9 a10 a11))) (k a0 a1 a2 a3 a4 a5 a6 a7 a8 a9 a10 a11)
abbrev gT (k : Int → Int → Int → Int → List AV → Bool → Int → Int → Int → ByteArray → Int → Int → HS) : TG := eT fun a0 a1 a2 a3 a4 a5 a6 a7 a8 a9 a10 a11 => .done (.av (.agg (kR a0 a1 a2 a3 a4 a5 a6 a7 a8 a9 a10 a11))) (k a0 a1 a2 a3 a4 a5 a6 a7 a8 a9 a10 a11)
theorem tA {p : Prop} (h : p := by with_reducible assumption) : p := h
theorem tD {p : Prop} (h : p := by first | ((try simp only [Option.getD_some, Option.getD_none, ByteArray.size_extract, bs_size, List.length_cons, List.length_nil, List.length_append, List.length_set, List.length_take, List.length_drop, bytes_len, Bool.true_and, Bool.and_eq_true, Nat.ble_eq, Nat.blt_eq, decide_eq_true_eq]); omega) | grind [bs_size]) : p := h
theorem tR {e n m : Nat} (hb : Nat.ble (bytesOfT pr e) 200 = true := by kernel_rfl) (h : n + m ≤ 100000000000 := by (try simp only [List.length_append, List.length_take, List.length_drop, List.length_cons, List.length_nil]); omega) : roomD pr e n m = true := room_of hb h
theorem tN {p : Prop} (h : p := by simp only [npL, np, Bool.and_true, Bool.true_and, Bool.and_eq_true]; (repeat' apply And.intro) <;> first | with_reducible rfl | exact Bs.np (by with_reducible assumption) | exact Rs.np (by with_reducible assumption) | exact Is.np (by with_reducible assumption) | exact Ts.np (by with_reducible assumption) | exact Ns.np (by with_reducible assumption) | exact Nf.np (by with_reducible assumption) | exact SetR.np (by with_reducible assumption) | exact Nm.np (by with_reducible assumption) | exact GotL.np (by with_reducible assumption) | grind [npL, np, Bs.np, Rs.np, Is.np, Ts.np, Ns.np, Nf.np, Ns.app, Nf.app, Bs.take, Bs.drop, Bs.bytes, Rs.app]) : p := h
theorem tG {p : Prop} (h : p := by first | exact GotL.word14 (by with_reducible assumption) | (with_reducible refine Rs.get ?_ ?_ <;> first | (with_reducible assumption) | omega) | (with_reducible refine Nm.get ?_ ?_ <;> first | (with_reducible assumption) | omega) | (with_reducible refine Ts.get ?_ ?_ <;> first | (with_reducible assumption) | omega) | (with_reducible refine Ns.get ?_ ?_ <;> first | (with_reducible assumption) | omega | (simp only [shapeN_eq] at *; omega)) | (with_reducible refine Nf.get ?_ ?_ <;> first | (with_reducible assumption) | omega) | (with_reducible refine Is.get ?_ ?_ <;> first | (with_reducible assumption) | omega) | (with_reducible refine Bs.get ?_ ?_ <;> first | (with_reducible assumption) | omega) | (with_reducible refine Ws.get ?_ ?_ <;> first | (with_reducible assumption) | omega)) : p := h
theorem tV {p : Prop} (h : p := by first | exact str_get (by (try simp only [ByteArray.size_extract, bs_size, List.length_cons, List.length_nil]); omega) | exact Bs.str (by first | (with_reducible assumption) | grind)) : p := h
theorem tP {p : Prop} (h : p := by (try dsimp only); repeat' first | (with_reducible assumption) | (with_reducible first | (refine GotL.bad ?_ (by first | decide | omega)) | (refine GotL.mk ?_ (fun _ => ?_)) | exact fun _ => Opens.mk (by first | decide | omega)) | exact fun hl => absurd ((show isB _ _ _ = true → _ = (40 : Int) from by with_reducible assumption) (lookB_open hl)) (by omega) | exact ((show lookB _ _ = true → Opens _ from by with_reducible assumption)) | exact (show (_ : Int) = 0 → NW _ _ _ _ _ _ _ _ _ _ _ _ from by with_reducible assumption) (by omega) | (with_reducible first | apply And.intro | exact True.intro | exact TC.nil | exact SetR.nil | exact RSetP.r (by with_reducible assumption) | exact SetR.rs (by with_reducible assumption) | (refine SetR.one ?_ ?_ ?_) | exact Rs.nil | apply Rs.app | apply Rs.cons | apply Rs.set | exact Is.nil | apply Is.app | apply Is.cons | apply Is.take | apply Is.drop | exact Bs.nil | apply Bs.take | apply Bs.drop | exact Bs.bytes _ | apply Bs.consw | apply Bs.consm | exact Ts.nil | apply Ts.app | apply Ts.one | exact Nf.nil | apply Nf.app | apply Nf.cons | apply NF.of | exact Ns.nil | apply Ns.app | apply Ns.cons | apply Ns.drop | apply NV.of | exact Nm.nil | apply Nm.add | apply Ns.len | apply Ns.nf; (with_reducible assumption)) | exact (show (_ : Int) = 0 → Ns _ from by with_reducible assumption) (by omega) | exact (show _ → _ → SetR _ from by with_reducible assumption) (by omega) (by omega) | exact Nat.le_trans (SetR.len (by with_reducible assumption)) (by decide) | exact outE (by with_reducible assumption) (by omega) | exact shapeN_len (by with_reducible assumption) (by omega) | exact shapeN_not (by with_reducible assumption) (by omega) (by omega) (by omega) (by omega) (by omega) | ((with_reducible show shapeN _ _ _ _); rw [shapeN_eq]; refine ⟨fun _ _ => ?_, fun _ => ?_, fun _ => ?_, fun _ => ?_, fun _ => ?_, fun _ => ?_, fun _ => ?_⟩ <;> (try simp only [List.length_cons, List.length_nil, List.length_append]) <;> omega) | ((try simp (disch := omega) only [Option.getD_some, Option.getD_none, ByteArray.size_extract, bs_size, List.length_cons, List.length_nil, List.length_append, List.length_set, List.length_take, List.length_drop, bytes_len, nszL_nil, nszL_cons, nszL_app, nszV_nd, Int.toNat_zero, List.drop_zero, wnat]); omega) | intro _ | grind [bytes_len, bs_size, Ns.cons, Ns.app, Ns.nil, NV.of, Rs.nil]) : p := h
theorem tI {p : Prop} (h : p := by (try dsimp only); omega) : p := h
theorem lookB_none6 {S : ByteArray} {i : Int} (b : 0 ≤ i ∧ i ≤ 100000) (h : lookB S i = true) (h1 : isB S (w6 (i + 1)) (bs [63]) = false ∨ (isB S (w6 (i + 2)) (bs [61]) = false ∧ isB S (w6 (i + 2)) (bs [33]) = false ∧ isB S (w6 (i + 2)) (bs [60, 61]) = false ∧ isB S (w6 (i + 2)) (bs [60, 33]) = false)) : False := lookB_none (tW _) (tW _) h h1
theorem lookB_star6 {S : ByteArray} {i : Int} (b : 0 ≤ i ∧ i ≤ 100000) (h : lookB S i = true) (k : isB S (w6 (i + 1)) (bs [42]) = true) : False := lookB_star (tW _) h k
theorem lookB_end6 {S : ByteArray} {i : Int} (b : 0 ≤ i ∧ i ≤ 100000) (h : lookB S i = true) (hj : w6 (i + 2) = S.size) : False := lookB_end2 (tW _) b.1 hj h
theorem tO {p : Prop} (h : p := by refine ⟨tP, ?_⟩; first | (with_reducible assumption) | exact fun _ => Opens.mk (by decide) | exact fun hl => (lookB_none6 (by omega) hl (by grind)).elim | exact fun hl => (lookB_star6 (by omega) hl (by grind)).elim | exact fun hl => (lookB_end6 (by omega) hl (by omega)).elim) : p := h
theorem tK {p : Prop} (h : p := by refine ⟨tP, ?_⟩; first | (with_reducible assumption) | exact fun hl => absurd ((show isB _ _ _ = true → _ = (40 : Int) from by with_reducible assumption) (lookB_open hl)) (by omega)) : p := h
theorem nz {p q : Prop} (a : p) (h : p = q := by simp only [Option.getD_some, Option.getD_none, ByteArray.size_extract, bs_size, List.length_cons, List.length_nil, List.length_append, List.length_set, List.length_take, List.length_drop, bytes_len, nszL_nil, nszL_cons, nszL_app, nszV_nd]; exact rfl) : q := h ▸ a
theorem cond6 {S : ByteArray} {i : Int} (b : 0 ≤ i ∧ i ≤ 100000) (h : isB S (w6 (i + 2)) (bs [40]) = true) : isB S (i + 2) (bs [40]) = true := by rwa [tW (i + 2)] at h
theorem tC {p : Prop} (h : p := by first | (with_reducible refine ⟨⟨?_, ?_, ?_⟩, ?_, ?_, cond6 ?_ ?_⟩ <;> first | omega | grind) | exact tP) : p := h
end Go.Proofs.YtcjcdammcmjbnaaGreat.U
