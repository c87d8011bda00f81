/- What from 0 to a greatest number ranges have, joined. -/
import Derived.Test.YtcjcdammcmjbnaaGreatCan2
namespace Go.Vai
def edge1 (most : Int) (o : List Int) (r : Rg) : List Int :=
 let o := if 0 < r.1 ∧ r.1 ≤ most then putL r.1 o else o
 if 0 ≤ r.2 ∧ r.2 < most then putL (r.2 + 1) o else o
def edgesL (l : List Rg) (most : Int) : List Int := l.foldl (edge1 most) [0, most + 1]
structure EdOk (most : Int) (o : List Int) : Prop where
 up : o.Pairwise (· < ·)
 zero : 0 ∈ o
 top : most + 1 ∈ o
 lo : ∀ x ∈ o, 0 ≤ x
 hi : ∀ x ∈ o, x ≤ most + 1
theorem edge1_ok {most : Int} {o : List Int} (h : EdOk most o) (r : Rg) : EdOk most (edge1 most o r) ∧ (∀ x ∈ o, x ∈ edge1 most o r) ∧ (0 < r.1 → r.1 ≤ most → r.1 ∈ edge1 most o r) ∧ (0 ≤ r.2 → r.2 < most → r.2 + 1 ∈ edge1 most o r) := by
 have put : ∀ {n : Int} {o : List Int}, EdOk most o → 0 ≤ n → n ≤ most + 1 → EdOk most (putL n o) := fun {n o} h h0 h1 =>
  ⟨putL_up n o h.up, (putL_mem n o 0).2 (.inr h.zero), (putL_mem n o _).2 (.inr h.top), fun x hx => by rcases (putL_mem n o x).1 hx with rfl | hx; exact h0; exact h.lo x hx, fun x hx => by rcases (putL_mem n o x).1 hx with rfl | hx; exact h1; exact h.hi x hx⟩
 unfold edge1
 by_cases c1 : 0 < r.1 ∧ r.1 ≤ most <;> by_cases c2 : 0 ≤ r.2 ∧ r.2 < most <;> simp only [c1, c2, if_true, if_false, and_self]
 ·refine ⟨put (put h (by omega) (by omega)) (by omega) (by omega), fun x hx => (putL_mem _ _ _).2 (.inr ((putL_mem _ _ _).2 (.inr hx))), fun _ _ => (putL_mem _ _ _).2 (.inr ((putL_mem _ _ _).2 (.inl rfl))), fun _ _ => (putL_mem _ _ _).2 (.inl rfl)⟩
 ·exact ⟨put h (by omega) (by omega), fun x hx => (putL_mem _ _ _).2 (.inr hx), fun _ _ => (putL_mem _ _ _).2 (.inl rfl), fun a b => absurd ⟨a, b⟩ c2⟩
 ·exact ⟨put h (by omega) (by omega), fun x hx => (putL_mem _ _ _).2 (.inr hx), fun a b => absurd ⟨a, b⟩ c1, fun _ _ => (putL_mem _ _ _).2 (.inl rfl)⟩
 ·exact ⟨h, fun x hx => hx, fun a b => absurd ⟨a, b⟩ c1, fun a b => absurd ⟨a, b⟩ c2⟩
theorem edges_fold {most : Int} : ∀ {l : List Rg} {o : List Int}, EdOk most o → EdOk most (l.foldl (edge1 most) o) ∧ (∀ x ∈ o, x ∈ l.foldl (edge1 most) o) ∧ ∀ r ∈ l, (0 < r.1 → r.1 ≤ most → r.1 ∈ l.foldl (edge1 most) o) ∧ (0 ≤ r.2 → r.2 < most → r.2 + 1 ∈ l.foldl (edge1 most) o)
 | [], o, h => ⟨h, fun x hx => hx, fun r hr => by cases hr⟩
 | r :: l, o, h => by
  obtain ⟨a1, a2, a3, a4⟩ := edge1_ok h r
  obtain ⟨b1, b2, b3⟩ := edges_fold (l := l) a1
  refine ⟨b1, fun x hx => b2 x (a2 x hx), fun s hs => ?_⟩
  rcases List.mem_cons.1 hs with rfl | hs
  ·exact ⟨fun x y => b2 _ (a3 x y), fun x y => b2 _ (a4 x y)⟩
  ·exact b3 s hs
theorem edges_ok {l : List Rg} {most : Int} (h0 : 0 ≤ most) : EdOk most (edgesL l most) ∧ ∀ r ∈ l, (0 < r.1 → r.1 ≤ most → r.1 ∈ edgesL l most) ∧ (0 ≤ r.2 → r.2 < most → r.2 + 1 ∈ edgesL l most) := by
 have := edges_fold (most := most) (l := l) (o := [0, most + 1]) ⟨by simp; omega, by simp, by simp, by simp; omega, by simp; omega⟩
 exact ⟨this.1, this.2.2⟩
theorem last_max : ∀ {r : List Int} {x : Int}, (x :: r).Pairwise (· < ·) → lastI x r ∈ x :: r ∧ ∀ y ∈ x :: r, y ≤ lastI x r
 | [], x, _ => ⟨by simp [lastI], by simp [lastI]⟩
 | y :: r, x, h => by
  obtain ⟨h1, h2⟩ := List.pairwise_cons.1 h
  obtain ⟨i1, i2⟩ := last_max h2
  rw [show lastI x (y :: r) = lastI y r from rfl]
  refine ⟨List.mem_cons_of_mem _ i1, fun z hz => ?_⟩
  rcases List.mem_cons.1 hz with rfl | hz
  ·have := h1 _ i1; omega
  ·exact i2 z hz
def joinL (f : Int → Bool) (l : List Rg) (most : Int) : List Rg := if most < 0 then [] else joinF f [] (edgesL l most)
theorem joinL_ok {f : Int → Bool} {l : List Rg} {most : Int} (hf : ∀ c e, (∀ r ∈ l, (decide (r.1 ≤ c) && decide (c ≤ r.2)) = (decide (r.1 ≤ e) && decide (e ≤ r.2))) → f c = f e) :
  Can (-1) (joinL f l most) ∧ ∀ c, inR (joinL f l most) c = (decide (0 ≤ c) && decide (c ≤ most) && f c) := by
 unfold joinL
 by_cases hm : most < 0
 ·rw [if_pos hm]
  refine ⟨trivial, fun c => ?_⟩
  have : (decide (0 ≤ c) && decide (c ≤ most)) = false := by
   simp
   omega
  rw [this]
  rfl
 ·rw [if_neg hm]
  obtain ⟨E, he⟩ := edges_ok (l := l) (most := most) (by omega)
  revert E he
  generalize edgesL l most = o
  intro E he
  cases o with
  | nil => cases E.zero
  | cons x r =>
   have hx : x = 0 := by
    have h1 := E.lo x (by simp)
    have h2 := E.zero
    rcases List.mem_cons.1 h2 with h | h
    ·exact h.symm
    ·have := (List.pairwise_cons.1 E.up).1 0 h; omega
   subst hx
   obtain ⟨l1, l2⟩ := last_max E.up
   have hl : lastI 0 r = most + 1 := by
    have := l2 _ E.top
    have := E.hi _ l1
    omega
   obtain ⟨a1, a2⟩ := joinF_ok (f := f) (b := -1) (out := []) E.up trivial (by simp) (by omega) fun c h0 h1 e hme hec hmx => hf c e fun s hs => by
    have := inR_floor (l := [s]) (E := 0 :: r) (most := most) (c := c) (e := e) (fun t ht => by rw [List.mem_singleton] at ht; subst ht; exact (he t hs).1) (fun t ht => by rw [List.mem_singleton] at ht; subst ht; exact (he t hs).2) (E.lo e hme) hec (by omega) hmx
    simpa [inR] using this
   refine ⟨a1, fun c => ?_⟩
   rw [a2, hl, inR_nil, Bool.false_or]
   congr 2
   rw [Bool.eq_iff_iff]
   simp
   omega
end Go.Vai
