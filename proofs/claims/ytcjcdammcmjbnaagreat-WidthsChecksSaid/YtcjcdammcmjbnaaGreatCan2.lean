/- Rows of ranges joined at their edges. -/
import Derived.Test.YtcjcdammcmjbnaaGreatCan
namespace Go.Vai
def addR : List Rg → Int → Int → List Rg
 | [], lo, hi => [(lo, hi)]
 | [q], lo, hi => if q.2 + 1 = lo then [(q.1, hi)] else [q, (lo, hi)]
 | q :: r, lo, hi => q :: addR r lo hi
theorem addR_ok : ∀ {l : List Rg} {b lo hi : Int}, Can b l → (∀ q ∈ l, q.2 < lo) → b < lo → lo ≤ hi → Can b (addR l lo hi) ∧ (∀ c, inR (addR l lo hi) c = (inR l c || (decide (lo ≤ c) && decide (c ≤ hi)))) ∧ ∀ q ∈ addR l lo hi, q.2 ≤ hi
 | [], b, lo, hi, _, _, hb, hl => ⟨⟨hb, hl, trivial⟩, fun c => by simp [addR, inR], by simp [addR]⟩
 | [q], b, lo, hi, h, hq, hb, hl => by
  obtain ⟨h1, h2, _⟩ := h
  have h3 := hq q (by simp)
  unfold addR
  split
  ·refine ⟨⟨h1, by simp; omega, trivial⟩, fun c => ?_, by simp⟩
   rw [Bool.eq_iff_iff]
   simp [inR]
   omega
  ·refine ⟨⟨h1, h2, by simp; omega, hl, trivial⟩, fun c => by simp [inR], by simp; omega⟩
 | q :: r :: l, b, lo, hi, h, hq, hb, hl => by
  obtain ⟨h1, h2, h3⟩ := h
  have h4 := hq q (by simp)
  have h5 : q.2 + 1 < lo := by
   have := hq r (by simp)
   obtain ⟨g1, g2, _⟩ := h3
   omega
  obtain ⟨i1, i2, i3⟩ := addR_ok h3 (fun s hs => hq s (by simp [hs])) h5 hl
  refine ⟨⟨h1, h2, i1⟩, fun c => ?_, fun s hs => ?_⟩
  ·show inR (q :: addR (r :: l) lo hi) c = _
   rw [inR_cons, inR_cons, i2, Bool.or_assoc]
  ·rcases List.mem_cons.1 hs with rfl | hs
   ·omega
   ·exact i3 s hs
def joinF (f : Int → Bool) : List Rg → List Int → List Rg
 | out, x :: y :: r => joinF f (if f x then addR out x (y - 1) else out) (y :: r)
 | out, _ => out
def lastI : Int → List Int → Int
 | x, [] => x
 | _, y :: r => lastI y r
theorem joinF_ok {f : Int → Bool} : ∀ {r : List Int} {x b : Int} {out : List Rg}, (x :: r).Pairwise (· < ·) → Can b out → (∀ q ∈ out, q.2 < x) → b < x →
  (∀ c, x ≤ c → c < lastI x r → ∀ e ∈ x :: r, e ≤ c → (∀ e' ∈ x :: r, e' ≤ c → e' ≤ e) → f c = f e) →
  Can b (joinF f out (x :: r)) ∧ ∀ c, inR (joinF f out (x :: r)) c = (inR out c || (decide (x ≤ c) && decide (c < lastI x r) && f c))
 | [], x, b, out, _, h, _, _, _ => ⟨h, fun c => by
   have : (decide (x ≤ c) && decide (c < lastI x [])) = false := by
    rw [show lastI x [] = x from rfl]
    simp
   simp [joinF, this]⟩
 | y :: r, x, b, out, hp, h, hq, hb, hf => by
  obtain ⟨p1, p2⟩ := List.pairwise_cons.1 hp
  have hxy := p1 y (by simp)
  have hly : y ≤ lastI y r := by
   have : ∀ (r : List Int) (y : Int), (y :: r).Pairwise (· < ·) → y ≤ lastI y r := by
    intro r
    induction r with
    | nil => intro y _; exact Int.le_refl _
    | cons z r ih =>
     intro y hp
     obtain ⟨q1, q2⟩ := List.pairwise_cons.1 hp
     have := q1 z (by simp)
     have := ih z q2
     simp only [lastI]
     omega
   exact this r y p2
  have hfx : ∀ c, x ≤ c → c < y → f c = f x := fun c h1 h2 => hf c h1 (by simp only [lastI]; omega) x (by simp) h1 fun e he hec => by
   rcases List.mem_cons.1 he with rfl | he
   ·omega
   ·have : y ≤ e := by
     rcases List.mem_cons.1 he with rfl | he
     ·omega
     ·have := (List.pairwise_cons.1 p2).1 e he; omega
    omega
  have hf' : ∀ c, y ≤ c → c < lastI y r → ∀ e ∈ y :: r, e ≤ c → (∀ e' ∈ y :: r, e' ≤ c → e' ≤ e) → f c = f e := fun c h1 h2 e he hec hmx =>
   hf c (by omega) (by simpa only [lastI] using h2) e (by simp only [List.mem_cons] at he ⊢; exact .inr he) hec fun e' he' hec' => by
    rcases List.mem_cons.1 he' with rfl | he'
    ·have := p1 e he; omega
    ·exact hmx e' he' hec'
  by_cases hx : f x = true
  ·obtain ⟨a1, a2, a3⟩ := addR_ok h hq hb (show x ≤ y - 1 by omega)
   obtain ⟨i1, i2⟩ := joinF_ok p2 a1 (fun q hq' => by have := a3 q hq'; omega) (by omega) hf'
   simp only [joinF, hx, if_true]
   refine ⟨i1, fun c => ?_⟩
   rw [i2, a2, Bool.or_assoc]
   congr 1
   rw [Bool.eq_iff_iff]
   rw [show lastI x (y :: r) = lastI y r from rfl]
   simp only [Bool.or_eq_true, Bool.and_eq_true, decide_eq_true_eq]
   constructor
   ·rintro (⟨h1, h2⟩ | ⟨⟨h1, h2⟩, h3⟩)
    ·exact ⟨⟨h1, by omega⟩, by rw [hfx c h1 (by omega)]; exact hx⟩
    ·exact ⟨⟨by omega, h2⟩, h3⟩
   ·rintro ⟨⟨h1, h2⟩, h3⟩
    by_cases hc : c < y
    ·exact .inl ⟨h1, by omega⟩
    ·exact .inr ⟨⟨by omega, h2⟩, h3⟩
  ·have hx : f x = false := by simpa using hx
   obtain ⟨i1, i2⟩ := joinF_ok p2 h (fun q hq' => by have := hq q hq'; omega) (by omega) hf'
   simp only [joinF, hx, Bool.false_eq_true, if_false]
   refine ⟨i1, fun c => ?_⟩
   rw [i2]
   congr 1
   rw [Bool.eq_iff_iff]
   rw [show lastI x (y :: r) = lastI y r from rfl]
   simp only [Bool.and_eq_true, decide_eq_true_eq]
   constructor
   ·rintro ⟨⟨h1, h2⟩, h3⟩
    exact ⟨⟨by omega, h2⟩, h3⟩
   ·rintro ⟨⟨h1, h2⟩, h3⟩
    refine ⟨⟨?_, h2⟩, h3⟩
    by_cases hc : c < y
    ·rw [hfx c h1 hc, hx] at h3; cases h3
    ·omega
theorem inR_floor {l : List Rg} {E : List Int} {most c e : Int} (h1 : ∀ r ∈ l, 0 < r.1 → r.1 ≤ most → r.1 ∈ E) (h2 : ∀ r ∈ l, 0 ≤ r.2 → r.2 < most → r.2 + 1 ∈ E)
  (he : 0 ≤ e) (hec : e ≤ c) (hc : c ≤ most) (hm : ∀ e' ∈ E, e' ≤ c → e' ≤ e) : inR l c = inR l e := by
 rw [Bool.eq_iff_iff, inR_iff, inR_iff]
 constructor
 ·rintro ⟨r, hr, h3, h4⟩
  refine ⟨r, hr, ?_, by omega⟩
  by_cases h0 : 0 < r.1
  ·exact hm _ (h1 r hr h0 (by omega)) h3
  ·omega
 ·rintro ⟨r, hr, h3, h4⟩
  refine ⟨r, hr, by omega, ?_⟩
  by_cases h5 : r.2 < c
  ·have := hm _ (h2 r hr (by omega) (by omega)) (by omega)
   omega
  ·omega
def putL (n : Int) : List Int → List Int
 | [] => [n]
 | x :: r => if x < n then x :: putL n r else if x = n then x :: r else n :: x :: r
theorem putL_mem (n : Int) : ∀ (l : List Int) (x : Int), x ∈ putL n l ↔ x = n ∨ x ∈ l
 | [], x => by simp [putL]
 | y :: r, x => by
  unfold putL
  split
  ·simp only [List.mem_cons, putL_mem n r x]; constructor <;> (rintro (h | h | h) <;> simp [h])
  ·split
   ·rename_i h; subst h; simp
   ·simp
theorem putL_up (n : Int) : ∀ (l : List Int), l.Pairwise (· < ·) → (putL n l).Pairwise (· < ·)
 | [], _ => by simp [putL]
 | y :: r, h => by
  obtain ⟨h1, h2⟩ := List.pairwise_cons.1 h
  unfold putL
  split
  ·refine List.pairwise_cons.2 ⟨fun x hx => ?_, putL_up n r h2⟩
   rcases (putL_mem n r x).1 hx with rfl | hx
   ·assumption
   ·exact h1 x hx
  ·split
   ·exact h
   ·refine List.pairwise_cons.2 ⟨fun x hx => ?_, h⟩
    rcases List.mem_cons.1 hx with rfl | hx
    ·omega
    ·have := h1 x hx; omega
end Go.Vai
