/- The references' sets: words for what their functions ask and answer. -/
import Derived.Test.YtcjcdammcmjbnaaGreatFeU
import Derived.Test.YtcjcdammcmjbnaaGreatCan4
namespace Go.Proofs.YtcjcdammcmjbnaaGreat.U
open Go Go.Vai
set_option linter.unusedVariables false
def decI : AV → Int
 | .sc (.int _ n) => n
 | _ => 0
def decR : AV → Rg
 | .agg [.sc (.int _ a), .sc (.int _ b)] => (a, b)
 | _ => (0, 0)
def IS (l : List AV) : List Int := l.map decI
def RS (l : List AV) : List Rg := l.map decR
theorem RS_nil : RS [] = [] := rfl
theorem IS_len (l : List AV) : (IS l).length = l.length := List.length_map _
theorem RS_len (l : List AV) : (RS l).length = l.length := List.length_map _
theorem IS_app (l m : List AV) : IS (l ++ m) = IS l ++ IS m := List.map_append
theorem RS_app (l m : List AV) : RS (l ++ m) = RS l ++ RS m := List.map_append
theorem IS_one (n : Int) : IS [iv n] = [n] := rfl
theorem RS_one (a b : Int) : RS [.agg [iv a, iv b]] = [(a, b)] := rfl
theorem RS_set (l : List AV) (i : Nat) (a b : Int) : RS (l.set i (.agg [iv a, iv b])) = (RS l).set i (a, b) := List.map_set
theorem IS_take (l : List AV) (n : Nat) : IS (l.take n) = (IS l).take n := List.map_take
theorem IS_drop (l : List AV) (n : Nat) : IS (l.drop n) = (IS l).drop n := List.map_drop
theorem Is.one (n : Int) : Is [iv n] := fun v h => ⟨n, by rw [List.mem_singleton] at h; exact h⟩
theorem Is.elem {l : List AV} (h : Is l) {i : Nat} {n : Int} (e : l[i]? = some (iv n)) : (IS l)[i]? = some n := by
 unfold IS
 rw [List.getElem?_map, e]
 rfl
theorem Rs.one (a b : Int) : Rs [.agg [iv a, iv b]] := fun v h => ⟨a, b, by rw [List.mem_singleton] at h; exact h⟩
theorem Rs.rep (n : Nat) (a b : Int) : Rs (List.replicate n (.agg [iv a, iv b])) := fun v hv => ⟨a, b, List.eq_of_mem_replicate hv⟩
theorem Rs.elem {l : List AV} (h : Rs l) {i : Nat} {a b : Int} (e : l[i]? = some (.agg [iv a, iv b])) : (RS l)[i]? = some (a, b) := by
 unfold RS
 rw [List.getElem?_map, e]
 rfl
def OkP (d : List Rg) : Prop := ∀ p ∈ d, 0 ≤ p.1 ∧ p.1 ≤ p.2 ∧ p.2 ≤ 1114111
theorem OkP.nil : OkP [] := fun p h => by cases h
theorem OkP.app {l m : List Rg} (h : OkP l) (k : OkP m) : OkP (l ++ m) := fun p hp => by
 rcases List.mem_append.1 hp with hp | hp
 ·exact h p hp
 ·exact k p hp
theorem OkP.one {a b : Int} (h0 : 0 ≤ a) (h : a ≤ b) (k : b ≤ 1114111) : OkP [(a, b)] := fun p hp => by
 rw [List.mem_singleton] at hp
 subst hp
 exact ⟨h0, h, k⟩
theorem OkP.get {l : List Rg} (h : OkP l) {i : Nat} {a b : Int} (e : l[i]? = some (a, b)) : 0 ≤ a ∧ a ≤ b ∧ b ≤ 1114111 := h _ (List.mem_of_getElem? e)
def inB (most c : Int) : Prop := 0 ≤ c ∧ c ≤ most ∧ c ≤ 1114111
structure RSetP (x : List AV) (P : Int → Prop) : Prop where
 rs : Rs x
 can : Vai.Can (-1) (RS x)
 ok : OkP (RS x)
 has : ∀ c, InS (RS x) c ↔ P c
theorem OkP.len {l : List Rg} (h : Vai.Can (-1) l) (k : OkP l) : l.length ≤ 1114112 := by
 have := Vai.Can.len h (N := 1114111) (fun r hr => (k r hr).2.2) (by omega)
 omega
theorem RSetP.len {x : List AV} {P : Int → Prop} (h : RSetP x P) : x.length ≤ 1114112 := by rw [← RS_len]; exact OkP.len h.can h.ok
theorem RSetP.to {x : List AV} {P Q : Int → Prop} (h : RSetP x P) (k : ∀ c, P c ↔ Q c) : RSetP x Q := ⟨h.rs, h.can, h.ok, fun c => (h.has c).trans (k c)⟩
abbrev pre_In (l : List AV) (c : Int) : Prop := Rs l ∧ l.length ≤ 1000000000000
abbrev post_In (l : List AV) (c : Int) (r : Bool) : Prop := r = true ↔ InS (RS l) c
abbrev inv_In_0 (x3 : List AV) (x4 x5o x5 : Int) : Prop := Rs x3 ∧ x3.length ≤ 1000000000000 ∧ 0 ≤ x5 ∧ x5 ≤ x3.length ∧ ¬ InS ((RS x3).take x5.toNat) x4
abbrev mu_In_0 (x3 : List AV) (x4 x5 : Int) : Nat := (x3.length - x5).toNat
abbrev out_In_0_0 (x3 : List AV) (x4 x5o : Int) : Prop := InS (RS x3) x4
abbrev out_In_0_1 (x3 : List AV) (x4 x5o y2 : Int) : Prop := ¬ InS (RS x3) x4
abbrev pre_put (l : List AV) (n : Int) : Prop := Is l ∧ l.length ≤ 1000000000000
abbrev post_put (l : List AV) (n : Int) (x : List AV) : Prop := Is x ∧ x.length ≤ l.length + 1 ∧ IS x = putL n (IS l)
abbrev inv_put_0 (x3 : List AV) (x4 x5o x5 : Int) : Prop := Is x3 ∧ x3.length ≤ 1000000000000 ∧ 0 ≤ x5 ∧ x5 ≤ x3.length ∧ ∀ (j : Nat) (v : Int), (IS x3)[j]? = some v → j < x5.toNat → v < x4
abbrev mu_put_0 (x3 : List AV) (x4 x5 : Int) : Nat := (x3.length - x5).toNat
structure Put (l : List AV) (n k : Int) : Prop where
 is : Is l
 ge : 0 ≤ k
 le : k ≤ l.length
 below : ∀ (j : Nat) (v : Int), (IS l)[j]? = some v → j < k.toNat → v < n
 at' : ∀ v, (IS l)[k.toNat]? = some v → n ≤ v
abbrev out_put_0_0 (x3 : List AV) (x4 x5o y2 : Int) : Prop := Put x3 x4 y2 ∧ 0 ≤ y2 ∧ y2 ≤ x3.length
abbrev mostC (m : Int) : Int := if m > 1114111 then 1114111 else m
abbrev pre_Edges (l : List AV) (most : Int) : Prop := Rs l ∧ l.length ≤ 100000000000
abbrev post_Edges (l : List AV) (most : Int) (x : List AV) : Prop := Is x ∧ x.length ≤ 2 * l.length + 2 ∧ IS x = if mostC most < 0 then [] else edgesL (RS l) (mostC most)
abbrev inv_Edges_0 (x3 : List AV) (x4 : Int) (x5o : List AV) (x6o : Int) (x5 : List AV) (x6 : Int) : Prop :=
 Rs x3 ∧ x3.length ≤ 100000000000 ∧ 0 ≤ x4 ∧ x4 ≤ 1114111 ∧ 0 ≤ x6 ∧ x6 ≤ x3.length ∧ Is x5 ∧ x5.length ≤ 2 * x6 + 2 ∧ IS x5 = ((RS x3).take x6.toNat).foldl (edge1 x4) [0, x4 + 1]
abbrev mu_Edges_0 (x3 : List AV) (x4 : Int) (x5 : List AV) (x6 : Int) : Nat := (x3.length - x6).toNat
abbrev out_Edges_0_0 (x3 : List AV) (x4 : Int) (x5o : List AV) (x6o : Int) (y2 : List AV) (y3 : Int) : Prop := Is y2 ∧ y2.length ≤ 2 * x3.length + 2 ∧ IS y2 = edgesL (RS x3) x4
def jf (kind : Int) (a b : List Rg) (c : Int) : Bool := if kind = 2 then !inR a c else if kind = 1 then inR a c && inR b c else inR a c || inR b c
abbrev pre_Join (kind : Int) (a b : List AV) (most : Int) : Prop := Rs a ∧ Rs b ∧ a.length ≤ 40000000000 ∧ b.length ≤ 40000000000
abbrev post_Join (kind : Int) (a b : List AV) (most : Int) (x : List AV) : Prop := RSetP x (fun c => inB most c ∧ jf kind (RS a) (RS b) c = true)
def OkE (e : List Int) : Prop := ∀ v ∈ e, 0 ≤ v ∧ v ≤ 1114112
theorem OkE.get {e : List Int} (h : OkE e) {i : Nat} {v : Int} (k : e[i]? = some v) : 0 ≤ v ∧ v ≤ 1114112 := h v (List.mem_of_getElem? k)
def OkJ (l : List Rg) : Prop := ∀ p ∈ l, 0 ≤ p.1 ∧ p.1 ≤ 1114112 ∧ -1 ≤ p.2 ∧ p.2 ≤ 1114111
abbrev inv_Join_0 (x7 : Int) (x8 x9 x10 : List AV) (x11o : List AV) (x12o : Int) (x11 : List AV) (x12 : Int) : Prop :=
 Rs x8 ∧ Rs x9 ∧ x8.length ≤ 40000000000 ∧ x9.length ≤ 40000000000 ∧ Is x10 ∧ OkE (IS x10) ∧ x10.length ≤ 1000000000000 ∧ 0 ≤ x12 ∧ x12 ≤ x10.length ∧ Rs x11 ∧ x11.length ≤ x12 ∧ OkJ (RS x11) ∧ joinF (jf x7 (RS x8) (RS x9)) (RS x11) ((IS x10).drop x12.toNat) = joinF (jf x7 (RS x8) (RS x9)) [] (IS x10)
abbrev mu_Join_0 (x7 : Int) (x8 x9 x10 x11 : List AV) (x12 : Int) : Nat := (x10.length - x12).toNat
abbrev out_Join_0_0 (x7 : Int) (x8 x9 x10 : List AV) (x11o : List AV) (x12o : Int) (y4 : List AV) (y5 : Int) : Prop := Rs y4 ∧ OkJ (RS y4) ∧ RS y4 = joinF (jf x7 (RS x8) (RS x9)) [] (IS x10)
abbrev pre_RNew (l : List AV) (most : Int) : Prop := Rs l ∧ l.length ≤ 40000000000
abbrev post_RNew (l : List AV) (most : Int) (x : List AV) : Prop := RSetP x (fun c => inB most c ∧ InS (RS l) c)
abbrev pre_add (l n : List AV) : Prop := Rs l ∧ Is n ∧ l.length ≤ 1000000000000 ∧ n.length ≤ 1000000000000
def dup (l : List Int) : List Rg := l.map fun v => (v, v)
abbrev post_add (l n x : List AV) : Prop := Rs x ∧ x.length ≤ l.length + n.length ∧ RS x = RS l ++ dup (IS n)
abbrev inv_add_0 (x4 : List AV) (x3o : List AV) (x5o : Int) (x3 : List AV) (x5 : Int) : Prop :=
 Rs x3o ∧ Is x4 ∧ x3o.length ≤ 1000000000000 ∧ x4.length ≤ 1000000000000 ∧ x5o = 0 ∧ 0 ≤ x5 ∧ x5 ≤ x4.length ∧ Rs x3 ∧ x3.length ≤ x3o.length + x5 ∧ RS x3 = RS x3o ++ dup ((IS x4).take x5.toNat)
abbrev mu_add_0 (x4 x3 : List AV) (x5 : Int) : Nat := (x4.length - x5).toNat
abbrev out_add_0_0 (x4 : List AV) (x3o : List AV) (x5o : Int) (y0 : List AV) (y2 : Int) : Prop := Rs y0 ∧ y0.length ≤ x3o.length + x4.length ∧ RS y0 = RS x3o ++ dup (IS x4)
abbrev pre_RSame (a b : List AV) : Prop := Rs a ∧ Rs b ∧ a.length ≤ 1000000000000
abbrev post_RSame (a b : List AV) (r : Bool) : Prop := r = true ↔ RS a = RS b
abbrev inv_RSame_0 (x3 x4 : List AV) (x5o x5 : Int) : Prop := Rs x3 ∧ Rs x4 ∧ x3.length ≤ 1000000000000 ∧ x4.length = x3.length ∧ 0 ≤ x5 ∧ x5 ≤ x3.length ∧ (RS x3).take x5.toNat = (RS x4).take x5.toNat
abbrev mu_RSame_0 (x3 x4 : List AV) (x5 : Int) : Nat := (x3.length - x5).toNat
abbrev out_RSame_0_0 (x3 x4 : List AV) (x5o : Int) : Prop := ¬ RS x3 = RS x4
abbrev out_RSame_0_1 (x3 x4 : List AV) (x5o y2 : Int) : Prop := RS x3 = RS x4
theorem wrapu_id {n : Int} (h1 : 0 ≤ n) (h2 : n ≤ 18446744073709551615) : IntKind.wrap .u64 n = n := by
 rw [IntKind.wrap_u64]; omega
theorem fdiv2 (x : Int) : Int.fdiv x 2 = x / 2 := Int.fdiv_eq_ediv_of_nonneg x (by decide)
theorem nsucc {x : Int} (h : 0 ≤ x) : (x + 1).toNat = x.toNat + 1 := by omega
theorem full {α : Type} {l : List α} {x : Int} (h : (l.length : Int) ≤ x) : l.take x.toNat = l := List.take_of_length_le (by omega)
theorem InS_get {l : List Rg} {i : Nat} {a b c : Int} (h : l[i]? = some (a, b)) (h1 : a ≤ c) (h2 : c ≤ b) : InS l c := InS_iff.2 ⟨_, List.mem_of_getElem? h, h1, h2⟩
theorem not_step {l : List Rg} {i : Nat} {a b c : Int} (h : ¬ InS (l.take i) c) (hi : l[i]? = some (a, b)) (k : ¬ (a ≤ c ∧ c ≤ b)) : ¬ InS (l.take (i + 1)) c := fun g => by
 rcases (InS_take hi).1 g with g | g
 ·exact h g
 ·exact k g
theorem not_zero {l : List Rg} {c : Int} : ¬ InS (l.take 0) c := fun h => InS_nil.1 h
theorem low_step {α : Type} {l : List α} {P : α → Prop} {i : Nat} {p : α} (h : ∀ j q, l[j]? = some q → j < i → P q) (hi : l[i]? = some p) (hp : P p) : ∀ j q, l[j]? = some q → j < i + 1 → P q := fun j q hj hji => by
 rcases Nat.lt_or_ge j i with g | g
 ·exact h j q hj g
 ·have : j = i := by omega
  subst this
  rw [hi] at hj
  injection hj with hj
  rw [← hj]
  exact hp
theorem Put.mk1 {l : List AV} {n k m : Int} (h1 : Is l) (h2 : 0 ≤ k) (h3 : k ≤ l.length) (h4 : ∀ (j : Nat) (v : Int), (IS l)[j]? = some v → j < k.toNat → v < n) (h5 : (IS l)[k.toNat]? = some m) (h6 : n ≤ m) : Put l n k :=
 ⟨h1, h2, h3, h4, fun v hv => by rw [h5] at hv; injection hv with hv; omega⟩
theorem Put.mk2 {l : List AV} {n k : Int} (h1 : Is l) (h2 : 0 ≤ k) (h3 : k ≤ l.length) (h4 : ∀ (j : Nat) (v : Int), (IS l)[j]? = some v → j < k.toNat → v < n) (h5 : (l.length : Int) ≤ k) : Put l n k :=
 ⟨h1, h2, h3, h4, fun v hv => by
  have := (List.getElem?_eq_some_iff.1 hv).1
  rw [IS_len] at this
  omega⟩
theorem Put.same {l : List AV} {n k : Int} (h : Put l n k) (e : (IS l)[k.toNat]? = some n) : IS l = putL n (IS l) := by
 rw [putL_at h.below (by rw [IS_len]; have := h.le; omega) h.at', if_pos e]
theorem Put.ins {l : List AV} {n k m : Int} (h : Put l n k) (e : (IS l)[k.toNat]? = some m) (hm : ¬ m = n) : (IS l).take k.toNat ++ [n] ++ (IS l).drop k.toNat = putL n (IS l) := by
 rw [putL_at h.below (by rw [IS_len]; have := h.le; omega) h.at', if_neg (by rw [e]; simp [hm])]
theorem Put.end' {l : List AV} {n k : Int} (h : Put l n k) (e : (l.length : Int) ≤ k) : (IS l).take k.toNat ++ [n] ++ (IS l).drop k.toNat = putL n (IS l) := by
 rw [putL_at h.below (by rw [IS_len]; have := h.le; omega) h.at', if_neg]
 rw [List.getElem?_eq_none (by rw [IS_len]; omega)]
 simp
theorem addR_set : ∀ {out : List Rg} {q : Rg} {lo hi : Int}, out[out.length - 1]? = some q → q.2 + 1 = lo → addR out lo hi = out.set (out.length - 1) (q.1, hi)
 | [], _, _, _, h, _ => by simp at h
 | [q'], q, lo, hi, h, hz => by
  simp at h
  subst h
  simp [addR, hz]
 | q' :: r :: l, q, lo, hi, h, hz => by
  show q' :: addR (r :: l) lo hi = _
  rw [addR_set (q := q) (by simpa using h) hz]
  simp
theorem addR_app : ∀ {out : List Rg} {q : Rg} {lo hi : Int}, out[out.length - 1]? = some q → ¬ q.2 + 1 = lo → addR out lo hi = out ++ [(lo, hi)]
 | [], _, _, _, h, _ => by simp at h
 | [q'], q, lo, hi, h, hz => by
  simp at h
  subst h
  simp [addR, hz]
 | q' :: r :: l, q, lo, hi, h, hz => by
  show q' :: addR (r :: l) lo hi = _
  rw [addR_app (q := q) (by simpa using h) hz]
  rfl
theorem join_in {f : Int → Bool} {out : List Rg} {E : List Int} {i : Nat} {k : List Rg} {x y : Int} (h : joinF f out (E.drop i) = k) (hx : E[i]? = some x) (hy : E[i + 1]? = some y) (hf : f x = true) : joinF f (addR out x (y - 1)) (E.drop (i + 1)) = k := by
 rw [drop_next hx, drop_next hy] at h
 rw [drop_next hy]
 simp only [joinF, hf, if_true] at h
 exact h
theorem join_out {f : Int → Bool} {out : List Rg} {E : List Int} {i : Nat} {k : List Rg} {x y : Int} (h : joinF f out (E.drop i) = k) (hx : E[i]? = some x) (hy : E[i + 1]? = some y) (hf : f x = false) : joinF f out (E.drop (i + 1)) = k := by
 rw [drop_next hx, drop_next hy] at h
 rw [drop_next hy]
 simp only [joinF, hf, Bool.false_eq_true, if_false] at h
 exact h
theorem join_end {f : Int → Bool} {out : List Rg} {E : List Int} {i : Nat} {k : List Rg} (h : joinF f out (E.drop i) = k) (hi : E.length ≤ i + 1) : out = k := by
 rcases Nat.lt_or_ge i E.length with g | g
 ·rw [drop_next (List.getElem?_eq_getElem g), List.drop_of_length_le hi] at h
  exact h
 ·rw [List.drop_of_length_le g] at h
  exact h
theorem OkJ.nil : OkJ [] := fun p h => by cases h
theorem OkJ.app {l : List Rg} {a b : Int} (h : OkJ l) (h0 : 0 ≤ a) (h1 : a ≤ 1114112) (h2 : -1 ≤ b) (h3 : b ≤ 1114111) : OkJ (l ++ [(a, b)]) := fun p hp => by
 rcases List.mem_append.1 hp with hp | hp
 ·exact h p hp
 ·rw [List.mem_singleton] at hp
  subst hp
  exact ⟨h0, h1, h2, h3⟩
theorem OkJ.set {l : List Rg} {a b : Int} {i : Nat} (h : OkJ l) (h0 : 0 ≤ a) (h1 : a ≤ 1114112) (h2 : -1 ≤ b) (h3 : b ≤ 1114111) : OkJ (l.set i (a, b)) := fun p hp => by
 rcases List.mem_or_eq_of_mem_set hp with hp | rfl
 ·exact h p hp
 ·exact ⟨h0, h1, h2, h3⟩
theorem OkJ.get {l : List Rg} (h : OkJ l) {i : Nat} {a b : Int} (e : l[i]? = some (a, b)) : 0 ≤ a ∧ a ≤ 1114112 ∧ -1 ≤ b ∧ b ≤ 1114111 := h _ (List.mem_of_getElem? e)
theorem inR_same {l : List Rg} {c e : Int} (h : ∀ r ∈ l, (decide (r.1 ≤ c) && decide (c ≤ r.2)) = (decide (r.1 ≤ e) && decide (e ≤ r.2))) : inR l c = inR l e := by
 unfold inR
 induction l with
 | nil => rfl
 | cons r l ih => simp only [List.any_cons, h r (by simp), ih fun s hs => h s (by simp [hs])]
theorem join_post {kind most : Int} {a b : List AV} {y : List AV} {E : List Int} (h1 : Rs y) (hE : E = if mostC most < 0 then [] else edgesL (RS (a ++ b)) (mostC most)) (h2 : RS y = joinF (jf kind (RS a) (RS b)) [] E) :
  RSetP y (fun c => inB most c ∧ jf kind (RS a) (RS b) c = true) := by
 rw [RS_app] at hE
 have hj := joinL_ok (f := jf kind (RS a) (RS b)) (l := RS a ++ RS b) (most := mostC most) fun c e h => by
  have ha : inR (RS a) c = inR (RS a) e := inR_same fun r hr => h r (List.mem_append_left _ hr)
  have hb : inR (RS b) c = inR (RS b) e := inR_same fun r hr => h r (List.mem_append_right _ hr)
  unfold jf
  rw [ha, hb]
 have e : RS y = joinL (jf kind (RS a) (RS b)) (RS a ++ RS b) (mostC most) := by
  rw [h2, hE]
  unfold joinL
  split <;> simp [joinF]
 rw [← e] at hj
 have hm : ∀ c, (0 ≤ c ∧ c ≤ mostC most) ↔ inB most c := fun c => by
  unfold inB mostC
  split <;> omega
 have hi : ∀ c, InS (RS y) c ↔ inB most c ∧ jf kind (RS a) (RS b) c = true := fun c => by
  unfold InS
  rw [hj.2, ← hm]
  simp [and_assoc]
 refine ⟨h1, hj.1, fun p hp => ?_, hi⟩
 have h3 := (hj.1.low hp).2
 have h4 := (hi p.1).1 (InS_iff.2 ⟨p, hp, Int.le_refl _, h3⟩)
 have h5 := (hi p.2).1 (InS_iff.2 ⟨p, hp, h3, Int.le_refl _⟩)
 have := h4.1
 have := h5.1
 unfold inB at *
 omega
theorem edges_len {l : List Rg} {most : Int} (h0 : 0 ≤ most) (h1 : most ≤ 1114111) : OkE (edgesL l most) := fun v hv => by
 have := (edges_ok (l := l) h0).1
 have h2 := this.lo v hv
 have h3 := this.hi v hv
 omega
theorem jf_union {a b : List Rg} {c : Int} : jf 0 a b c = true ↔ InS a c ∨ InS b c := by
 unfold jf InS
 simp
theorem not_full {l : List Rg} {x c : Int} (h : ¬ InS (l.take x.toNat) c) (k : (l.length : Int) ≤ x) : ¬ InS l c := by rwa [full k] at h
theorem below_zero {α : Type} {l : List α} {P : α → Prop} : ∀ j q, l[j]? = some q → j < 0 → P q := fun _ _ _ h => absurd h (Nat.not_lt_zero _)
theorem iff_no {p : Prop} (h : ¬ p) : false = true ↔ p := ⟨fun h => (by cases h), fun k => absurd k h⟩
theorem iff_yes {p : Prop} (h : p) : true = true ↔ p := ⟨fun _ => h, fun _ => rfl⟩
theorem rsame {l : List AV} {i : Nat} {a b c d : Int} (h : (RS l)[i]? = some (c, d)) (k : l[i]? = some (.agg [iv a, iv b])) : c = a ∧ d = b := by
 have : (RS l)[i]? = some (a, b) := by
  unfold RS
  rw [List.getElem?_map, k]
  rfl
 rw [h] at this
 injection this with this
 injection this with h1 h2
 exact ⟨h1, h2⟩
theorem isame {l : List AV} {i : Nat} {a c : Int} (h : (IS l)[i]? = some c) (k : l[i]? = some (iv a)) : c = a := by
 have : (IS l)[i]? = some a := by
  unfold IS
  rw [List.getElem?_map, k]
  rfl
 rw [h] at this
 injection this
theorem edge_step {l : List Rg} {i : Nat} {most a b : Int} {o x z : List Int} (h : o = (l.take i).foldl (edge1 most) z) (hi : l[i]? = some (a, b)) (k : x = edge1 most o (a, b)) : x = (l.take (i + 1)).foldl (edge1 most) z := by
 rw [take_next hi, List.foldl_append, ← h, k]
 rfl
theorem edge_full {l : List Rg} {x most : Int} {o : List Int} (h : o = (l.take x.toNat).foldl (edge1 most) [0, most + 1]) (k : (l.length : Int) ≤ x) : o = edgesL l most := by rwa [full k] at h
theorem edgesE {l : List Rg} {most : Int} {E : List Int} (h : E = if mostC most < 0 then [] else edgesL l (mostC most)) : OkE E := by
 have hm : mostC most ≤ 1114111 := by unfold mostC; split <;> omega
 rw [h]
 generalize mostC most = m at hm
 split
 ·exact fun v hv => by cases hv
 ·exact edges_len (by omega) hm
theorem J_out {f : Int → Bool} {out E : List AV} {i : Nat} {k : List Rg} {x : Int} (h : joinF f (RS out) ((IS E).drop i) = k) (hx : (IS E)[i]? = some x) (hl : i + 1 < E.length) (hf : f x = false) : joinF f (RS out) ((IS E).drop (i + 1)) = k :=
 join_out h hx (List.getElem?_eq_getElem (by rw [IS_len]; exact hl)) hf
theorem J_first {f : Int → Bool} {out E : List AV} {i : Nat} {k : List Rg} {x y v z : Int} (h : joinF f (RS out) ((IS E).drop i) = k) (hx : (IS E)[i]? = some x) (hy : (IS E)[i + 1]? = some y) (hf : f x = true) (h0 : out.length = 0) (hv : v = x) (hz : z = y - 1) : joinF f (RS (out ++ [.agg [iv v, iv z]])) ((IS E).drop (i + 1)) = k := by
 have : out = [] := List.length_eq_zero_iff.1 h0
 subst this hv hz
 exact join_in h hx hy hf
theorem J_app {f : Int → Bool} {out E : List AV} {i n : Nat} {k : List Rg} {x y v z qa qb : Int} (h : joinF f (RS out) ((IS E).drop i) = k) (hx : (IS E)[i]? = some x) (hy : (IS E)[i + 1]? = some y) (hf : f x = true) (hl : (RS out)[n]? = some (qa, qb)) (hn : n = out.length - 1) (hq : ¬ qb + 1 = x) (hv : v = x) (hz : z = y - 1) : joinF f (RS (out ++ [.agg [iv v, iv z]])) ((IS E).drop (i + 1)) = k := by
 subst hn hv hz
 have := join_in h hx hy hf
 rw [addR_app (q := (qa, qb)) (by rw [RS_len]; exact hl) hq] at this
 rw [RS_app, RS_one]
 exact this
theorem J_set {f : Int → Bool} {out E : List AV} {i n : Nat} {k : List Rg} {x y v z qa qb : Int} (h : joinF f (RS out) ((IS E).drop i) = k) (hx : (IS E)[i]? = some x) (hy : (IS E)[i + 1]? = some y) (hf : f x = true) (hl : (RS out)[n]? = some (qa, qb)) (hn : n = out.length - 1) (hq : qb + 1 = x) (hv : v = qa) (hz : z = y - 1) : joinF f (RS (out.set n (.agg [iv v, iv z]))) ((IS E).drop (i + 1)) = k := by
 subst hn hv hz
 have := join_in h hx hy hf
 rw [addR_set (q := (v, qb)) (by rw [RS_len]; exact hl) hq, RS_len] at this
 rw [RS_set]
 exact this
theorem J_end {f : Int → Bool} {out E : List AV} {x : Int} {k : List Rg} (h : joinF f (RS out) ((IS E).drop x.toNat) = k) (h0 : 0 ≤ x) (hi : (E.length : Int) ≤ x + 1) : RS out = k := join_end h (by rw [IS_len]; omega)
theorem OkJ.appA {l : List AV} {a b : Int} (h : OkJ (RS l)) (h0 : 0 ≤ a) (h1 : a ≤ 1114112) (h2 : -1 ≤ b) (h3 : b ≤ 1114111) : OkJ (RS (l ++ [.agg [iv a, iv b]])) := by
 rw [RS_app, RS_one]
 exact h.app h0 h1 h2 h3
theorem OkJ.setA {l : List AV} {a b : Int} {i : Nat} (h : OkJ (RS l)) (h0 : 0 ≤ a) (h1 : a ≤ 1114112) (h2 : -1 ≤ b) (h3 : b ≤ 1114111) : OkJ (RS (l.set i (.agg [iv a, iv b]))) := by
 rw [RS_set]
 exact h.set h0 h1 h2 h3
theorem jf_val {kind : Int} {a b : List Rg} {e : Int} {r s : Bool} (h1 : r = true ↔ InS a e) (h2 : s = true ↔ InS b e) : jf kind a b e = if kind = 2 then !r else if kind = 1 then r && s else r || s := by
 have g1 : inR a e = r := by
  rw [Bool.eq_iff_iff]
  exact h1.symm
 have g2 : inR b e = s := by
  rw [Bool.eq_iff_iff]
  exact h2.symm
 unfold jf
 rw [g1, g2]
def OkV (l : List Int) : Prop := ∀ v ∈ l, 0 ≤ v ∧ v ≤ 1114111
theorem OkV.get {e : List Int} (h : OkV e) {i : Nat} {v : Int} (k : e[i]? = some v) : 0 ≤ v ∧ v ≤ 1114111 := h v (List.mem_of_getElem? k)
def SetR (s : List AV) : Prop := RSetP s (InS (RS s))
theorem SetR.rs {s : List AV} (h : SetR s) : Rs s := RSetP.rs h
theorem SetR.len {s : List AV} (h : SetR s) : s.length ≤ 1114112 := RSetP.len h
theorem SetR.nil : SetR [] := ⟨Rs.nil, trivial, OkP.nil, fun _ => Iff.rfl⟩
theorem RSetP.r {s : List AV} {P : Int → Prop} (h : RSetP s P) : SetR s := ⟨h.rs, h.can, h.ok, fun _ => Iff.rfl⟩
theorem SetR.one {a b : Int} (h0 : 0 ≤ a) (h : a ≤ b) (h1 : b ≤ 1114111) : SetR [.agg [iv a, iv b]] := ⟨Rs.one a b, ⟨by show (-1 : Int) < a; omega, h, trivial⟩, by rw [RS_one]; exact OkP.one h0 h h1, fun _ => Iff.rfl⟩
theorem SetR.np {s : List AV} (h : SetR s) : npL s = true := Rs.np h.rs
theorem tA' {p : Prop} (h : p := by with_reducible assumption) : p := h
theorem tB {p : Prop} (h : p := by assumption) : p := h
theorem qP {p : Prop} (h : p := by (try dsimp only); (try simp (disch := omega) only [wrap_id, wrapu_id, fdiv2, Option.getD_some, Option.getD_none, List.length_cons, List.length_nil, List.length_append, List.length_set, List.length_take, List.length_drop, List.length_replicate, Int.toNat_natCast]) <;> (repeat' first | (with_reducible first | apply And.intro | assumption | exact Is.nil | exact Rs.nil | exact Is.one _ | exact Rs.one _ _ | apply Is.app | apply Rs.app | apply Is.take | apply Is.drop | apply Rs.set | exact Rs.rep _ _ _ | exact Is.cons (Is.cons Is.nil)) | omega | (with_reducible rfl) | intro _ | grind)) : p := h
theorem qD {p : Prop} (h : p := by (try simp (disch := omega) only [wrap_id, wrapu_id, fdiv2, Option.getD_some, Option.getD_none, List.length_cons, List.length_nil, List.length_append, List.length_set, List.length_take, List.length_drop, List.length_replicate, Int.toNat_natCast, Bool.and_eq_true, Nat.ble_eq, Nat.blt_eq, decide_eq_true_eq, decide_eq_false_iff_not, Nat.beq_refl, true_and, and_true]); first | omega | (simp_all; done)) : p := h
theorem qR {p : Prop} (h : p := by exact room_wide (by kernel_rfl) (by (try simp (disch := omega) only [wrap_id, wrapu_id, fdiv2, Option.getD_some, Option.getD_none, List.length_cons, List.length_nil, List.length_append, List.length_set, List.length_take, List.length_drop, List.length_replicate, Int.toNat_natCast]); omega)) : p := h
theorem qN {p : Prop} (h : p := by simp only [npL, np, Bool.and_self, Bool.and_true, Bool.and_eq_true]; first | done | ((repeat' apply And.intro) <;> (first | exact Rs.np (by with_reducible assumption) | exact Is.np (by with_reducible assumption) | rfl)) | (first | exact Rs.np (by with_reducible assumption) | exact Is.np (by with_reducible assumption)) | grind [npL, np, Rs.np, Is.np]) : p := h
theorem qG {p : Prop} (h : p := by (try simp (disch := omega) only [wrap_id, wrapu_id, fdiv2, Option.getD_some, Option.getD_none, List.length_cons, List.length_nil, List.length_append, List.length_set, List.length_take, List.length_drop, List.length_replicate, Int.toNat_natCast]); first | (with_reducible refine Rs.get ?_ ?_ <;> first | (with_reducible assumption) | omega) | (with_reducible refine Is.get ?_ ?_ <;> first | (with_reducible assumption) | omega)) : p := h
theorem nq {p q : Prop} (a : p) (h : p = q := by simp (disch := omega) only [wrap_id, wrapu_id, fdiv2, Option.getD_some, Option.getD_none, List.length_cons, List.length_nil, List.length_append, List.length_set, List.length_take, List.length_drop, List.length_replicate, Int.toNat_natCast, beq_iff_eq, beq_eq_false_iff_ne, ne_eq, Bool.not_eq_true', Bool.not_eq_false', Bool.not_not, Bool.not_eq_true, Bool.not_eq_false, decide_eq_true_eq, decide_eq_false_iff_not]; exact rfl) : q := h ▸ a
theorem nw {p q : Prop} (a : p) (h : p = q := by simp (disch := omega) only [wrap_id, wrapu_id, fdiv2]; exact rfl) : q := h ▸ a
theorem jInINV {p : Prop} (h : p := by (try unfold inv_In_0); (try simp (disch := omega) only [wrap_id, wrapu_id, fdiv2, Option.getD_some, Option.getD_none, List.length_cons, List.length_nil, List.length_append, List.length_set, List.length_take, List.length_drop, List.length_replicate, Int.toNat_natCast]) <;> (repeat' first | (with_reducible first | apply And.intro | assumption | exact Is.nil | exact Rs.nil | exact Is.one _ | exact Rs.one _ _ | apply Is.app | apply Rs.app | apply Is.take | apply Is.drop | apply Rs.set | exact Rs.rep _ _ _ | exact Is.cons (Is.cons Is.nil)) | omega | (with_reducible exact True.intro) | (with_reducible rfl)); all_goals first | (rw [nsucc tB]; exact not_step tB tB (by omega)) | exact not_zero) : p := h
theorem jputINV {p : Prop} (h : p := by (try unfold inv_put_0); (try simp (disch := omega) only [wrap_id, wrapu_id, fdiv2, Option.getD_some, Option.getD_none, List.length_cons, List.length_nil, List.length_append, List.length_set, List.length_take, List.length_drop, List.length_replicate, Int.toNat_natCast]) <;> (repeat' first | (with_reducible first | apply And.intro | assumption | exact Is.nil | exact Rs.nil | exact Is.one _ | exact Rs.one _ _ | apply Is.app | apply Rs.app | apply Is.take | apply Is.drop | apply Rs.set | exact Rs.rep _ _ _ | exact Is.cons (Is.cons Is.nil)) | omega | (with_reducible exact True.intro) | (with_reducible rfl)); all_goals first | (rw [nsucc tB]; exact low_step tB tB (by omega)) | exact below_zero) : p := h
theorem jputPOST {p : Prop} (h : p := by (try unfold post_put); (try simp (disch := omega) only [wrap_id, wrapu_id, fdiv2, Option.getD_some, Option.getD_none, List.length_cons, List.length_nil, List.length_append, List.length_set, List.length_take, List.length_drop, List.length_replicate, Int.toNat_natCast]) <;> (repeat' first | (with_reducible first | apply And.intro | assumption | exact Is.nil | exact Rs.nil | exact Is.one _ | exact Rs.one _ _ | apply Is.app | apply Rs.app | apply Is.take | apply Is.drop | apply Rs.set | exact Rs.rep _ _ _ | exact Is.cons (Is.cons Is.nil)) | omega | (with_reducible exact True.intro) | (with_reducible rfl)); all_goals first | exact Put.same tB (by first | assumption | (subst_vars; assumption)) | (simp only [IS_app, IS_take, IS_drop, IS_one, List.take_length]; first | exact Put.ins tB tB (by omega) | exact Put.end' tB (by omega))) : p := h
theorem jEdgesINV {p : Prop} (h : p := by (try unfold inv_Edges_0); (try simp (disch := omega) only [wrap_id, wrapu_id, fdiv2, Option.getD_some, Option.getD_none, List.length_cons, List.length_nil, List.length_append, List.length_set, List.length_take, List.length_drop, List.length_replicate, Int.toNat_natCast]) <;> (repeat' first | (with_reducible first | apply And.intro | assumption | exact Is.nil | exact Rs.nil | exact Is.one _ | exact Rs.one _ _ | apply Is.app | apply Rs.app | apply Is.take | apply Is.drop | apply Rs.set | exact Rs.rep _ _ _ | exact Is.cons (Is.cons Is.nil)) | omega | (with_reducible exact True.intro) | (with_reducible rfl)); all_goals first | (rw [nsucc tB]; refine edge_step tB tB ?_; unfold edge1; (repeat' split) <;> first | (exfalso; omega) | simp_all) | rfl) : p := h
theorem jEdgesPOST {p : Prop} (h : p := by refine ⟨by first | assumption | exact Is.nil, by (try simp only [List.length_nil]); omega, ?_⟩; unfold mostC; (repeat' split) <;> first | (exfalso; omega) | assumption | rfl) : p := h
theorem jJoinINV {p : Prop} (h : p := by (try unfold inv_Join_0); (try simp (disch := omega) only [wrap_id, wrapu_id, fdiv2, Option.getD_some, Option.getD_none, List.length_cons, List.length_nil, List.length_append, List.length_set, List.length_take, List.length_drop, List.length_replicate, Int.toNat_natCast]) <;> (repeat' first | (with_reducible first | apply And.intro | assumption | exact Is.nil | exact Rs.nil | exact Is.one _ | exact Rs.one _ _ | apply Is.app | apply Rs.app | apply Is.take | apply Is.drop | apply Rs.set | exact Rs.rep _ _ _ | exact Is.cons (Is.cons Is.nil)) | omega | (with_reducible exact True.intro) | (with_reducible rfl)); all_goals first | exact edgesE tB | exact OkJ.nil | exact OkJ.appA tB (by omega) (by omega) (by omega) (by omega) | exact OkJ.setA tB (by omega) (by omega) (by omega) (by omega) | (rw [nsucc tB]; first | exact J_out tB tB (by omega) (by subst_vars; rw [jf_val tB tB]; simp_all) | exact J_first tB tB (by first | assumption | (rw [← nsucc tB]; assumption)) (by subst_vars; rw [jf_val tB tB]; simp_all) (by omega) (by omega) (by omega) | exact J_app tB tB (by first | assumption | (rw [← nsucc tB]; assumption)) (by subst_vars; rw [jf_val tB tB]; simp_all) tB (by omega) (by omega) (by omega) (by omega) | exact J_set tB tB (by first | assumption | (rw [← nsucc tB]; assumption)) (by subst_vars; rw [jf_val tB tB]; simp_all) tB (by omega) (by omega) (by omega) (by omega)) | rfl) : p := h
end Go.Proofs.YtcjcdammcmjbnaaGreat.U
