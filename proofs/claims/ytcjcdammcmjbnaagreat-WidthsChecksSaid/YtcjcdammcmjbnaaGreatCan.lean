/- Rows of ranges: as few as may be, rising; two such rows that have the same numbers are the same. -/
namespace Go.Vai
abbrev Rg := Int × Int
def inR (l : List Rg) (c : Int) : Bool := l.any fun r => decide (r.1 ≤ c) && decide (c ≤ r.2)
theorem inR_nil (c : Int) : inR [] c = false := rfl
theorem inR_cons (r : Rg) (l : List Rg) (c : Int) : inR (r :: l) c = ((decide (r.1 ≤ c) && decide (c ≤ r.2)) || inR l c) := rfl
theorem inR_app (l m : List Rg) (c : Int) : inR (l ++ m) c = (inR l c || inR m c) := by simp [inR]
theorem inR_iff {l : List Rg} {c : Int} : inR l c = true ↔ ∃ r ∈ l, r.1 ≤ c ∧ c ≤ r.2 := by simp [inR]
def Can : Int → List Rg → Prop
 | _, [] => True
 | b, r :: l => b < r.1 ∧ r.1 ≤ r.2 ∧ Can (r.2 + 1) l
theorem Can.weak {a b : Int} {l : List Rg} (h : Can b l) (k : a ≤ b) : Can a l := by
 cases l with
 | nil => trivial
 | cons r l => exact ⟨by have := h.1; omega, h.2⟩
theorem Can.above {b : Int} {l : List Rg} (h : Can b l) {c : Int} (hc : c ≤ b) : inR l c = false := by
 induction l generalizing b with
 | nil => rfl
 | cons r l ih =>
  obtain ⟨h1, h2, h3⟩ := h
  rw [inR_cons, ih h3 (by omega)]
  simp
  omega
theorem Can.unique : ∀ {l m : List Rg} {a b : Int}, Can a l → Can b m → (∀ c, inR l c = inR m c) → l = m
 | [], [], _, _, _, _, _ => rfl
 | [], s :: m, _, _, _, h, k => by
  have := k s.1
  rw [inR_nil, inR_cons] at this
  simp [h.2.1] at this
 | r :: l, [], _, _, h, _, k => by
  have := k r.1
  rw [inR_nil, inR_cons] at this
  simp [h.2.1] at this
 | r :: l, s :: m, a, b, h, g, k => by
  obtain ⟨h1, h2, h3⟩ := h
  obtain ⟨g1, g2, g3⟩ := g
  have low : ∀ {r s : Rg} {l m : List Rg}, r.1 ≤ r.2 → Can (s.2 + 1) m → s.1 ≤ s.2 → (∀ c, inR (r :: l) c = inR (s :: m) c) → s.1 ≤ r.1 := fun {r s l m} h2 g3 g2 k => by
   have := k r.1
   rw [inR_cons, inR_cons] at this
   by_cases hc : s.1 ≤ r.1
   ·exact hc
   ·rw [g3.above (by omega)] at this
    simp [h2, hc] at this
  have e1 : r.1 = s.1 := by
   have x1 := low h2 g3 g2 k
   have x2 := low g2 h3 h2 (fun c => (k c).symm)
   omega
  have high : ∀ {r s : Rg} {l m : List Rg}, r.1 = s.1 → r.1 ≤ r.2 → s.1 ≤ s.2 → Can (r.2 + 1) l → Can (s.2 + 1) m → (∀ c, inR (r :: l) c = inR (s :: m) c) → r.2 ≤ s.2 := fun {r s l m} e1 h2 g2 h3 g3 k => by
   have := k (s.2 + 1)
   rw [inR_cons, inR_cons, g3.above (by omega)] at this
   by_cases hc : r.2 ≤ s.2
   ·exact hc
   ·have x1 : r.1 ≤ s.2 + 1 := by omega
    have x2 : s.2 + 1 ≤ r.2 := by omega
    have x3 : ¬ s.2 + 1 ≤ s.2 := by omega
    simp [x1, x2, x3] at this
  have e2 : r.2 = s.2 := by
   have x1 := high e1 h2 g2 h3 g3 k
   have x2 := high e1.symm g2 h2 g3 h3 (fun c => (k c).symm)
   omega
  have er : r = s := Prod.ext e1 e2
  subst er
  congr 1
  refine Can.unique h3 g3 fun c => ?_
  have := k c
  rw [inR_cons, inR_cons] at this
  by_cases hc : c ≤ r.2 + 1
  ·rw [h3.above hc, g3.above hc]
  ·have x : decide (c ≤ r.2) = false := by simp; omega
   simpa [x] using this
theorem Can.len : ∀ {l : List Rg} {b N : Int}, Can b l → (∀ r ∈ l, r.2 ≤ N) → b ≤ N → (l.length : Int) ≤ N - b
 | [], _, _, _, _, h => by simp; omega
 | r :: l, b, N, h, k, hb => by
  obtain ⟨h1, h2, h3⟩ := h
  have x := k r (by simp)
  rw [List.length_cons]
  by_cases hn : r.2 + 1 ≤ N
  ·have := Can.len h3 (fun s hs => k s (by simp [hs])) hn
   omega
  ·cases l with
   | nil => simp; omega
   | cons s l =>
    obtain ⟨g1, g2, _⟩ := h3
    have := k s (by simp)
    omega
end Go.Vai
