/- Rows of ranges: how many numbers; what is beside a range. -/
import Derived.Test.YtkocppnbipjiiaaCan4
namespace Go.Vai
/-- How many numbers below n are so. -/
def cnt (f : Int → Bool) : Nat → Int
  | 0 => 0
  | n + 1 => cnt f n + if f n then 1 else 0
theorem cnt_congr {f g : Int → Bool} (h : ∀ c, f c = g c) (n : Nat) : cnt f n = cnt g n := by
  have : f = g := funext h
  rw [this]
theorem cnt_or (f g : Int → Bool) : ∀ n, cnt (fun c => f c || g c) n + cnt (fun c => f c && g c) n = cnt f n + cnt g n
  | 0 => rfl
  | n + 1 => by
    have := cnt_or f g n
    simp only [cnt]
    have h1 : ∀ x y : Bool, ((if (x || y) = true then 1 else 0) + (if (x && y) = true then 1 else 0) : Int) = (if x = true then 1 else 0) + (if y = true then 1 else 0) := by decide
    have h2 := h1 (f n) (g n)
    omega
theorem cnt_none {f : Int → Bool} (h : ∀ c, f c = false) : ∀ n, cnt f n = 0
  | 0 => rfl
  | n + 1 => by simp [cnt, cnt_none h n, h]
theorem cnt_one {a b : Int} (h0 : 0 ≤ a) (h : a ≤ b + 1) : ∀ (n : Nat), cnt (fun c => decide (a ≤ c) && decide (c ≤ b)) n = max 0 (min (n : Int) (b + 1) - a)
  | 0 => by simp [cnt]; omega
  | n + 1 => by
    have := cnt_one h0 h n
    simp only [cnt, this]
    by_cases h1 : a ≤ (n : Int) <;> by_cases h2 : (n : Int) ≤ b <;> simp [h1, h2] <;> omega
theorem cnt_row : ∀ {l : List Rg} {b : Int} {n : Nat}, Can b l → -1 ≤ b → (∀ p ∈ l, p.2 < n) → cnt (inR l) n = cntR l
  | [], _, n, _, _, _ => cnt_none (fun _ => rfl) n
  | r :: l, b, n, h, hb, hn => by
    obtain ⟨h1, h2, h3⟩ := h
    have e : cnt (inR (r :: l)) n = cnt (fun c => (decide (r.1 ≤ c) && decide (c ≤ r.2)) || inR l c) n := cnt_congr (fun c => inR_cons r l c) n
    have h4 := cnt_or (fun c => decide (r.1 ≤ c) && decide (c ≤ r.2)) (inR l) n
    have h5 : cnt (fun c => (decide (r.1 ≤ c) && decide (c ≤ r.2)) && inR l c) n = 0 := cnt_none (fun c => by
      by_cases hc : c ≤ r.2
      · rw [h3.above (by omega)]
        simp
      · simp [hc]) n
    have h6 := cnt_row h3 (by omega) (fun p hp => hn p (by simp [hp])) (n := n)
    have h7 := cnt_one (a := r.1) (b := r.2) (by omega) (by omega) n
    have h8 := hn r (by simp)
    rw [e]
    simp only [cntR]
    omega
theorem not_before {l : List Rg} {b : Int} {i : Nat} {p : Rg} (h : Can b l) (hi : l[i]? = some p) : ¬ InS l (p.1 - 1) := fun g => by
  obtain ⟨q, hq, h1, h2⟩ := InS_iff.1 g
  obtain ⟨j, hj⟩ := List.getElem?_of_mem hq
  rcases Nat.lt_trichotomy j i with k | k | k
  · have := h.up k hj hi
    omega
  · subst k
    rw [hi] at hj
    injection hj with hj
    subst hj
    omega
  · have := h.up k hi hj
    have := (h.low (List.mem_of_getElem? hi)).2
    omega
theorem not_behind {l : List Rg} {b : Int} {i : Nat} {p : Rg} (h : Can b l) (hi : l[i]? = some p) : ¬ InS l (p.2 + 1) := fun g => by
  obtain ⟨q, hq, h1, h2⟩ := InS_iff.1 g
  obtain ⟨j, hj⟩ := List.getElem?_of_mem hq
  rcases Nat.lt_trichotomy j i with k | k | k
  · have := h.up k hj hi
    have := (h.low (List.mem_of_getElem? hi)).2
    omega
  · subst k
    rw [hi] at hj
    injection hj with hj
    subst hj
    omega
  · have := h.up k hi hj
    omega
end Go.Vai
