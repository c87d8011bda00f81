/- The interpreter's answers for the table of characters: the row of a code point, as the table has it. -/
import Derived.Test.YtbfjpgjeglickaaUcd3
namespace Go.Proofs.Ytbfjpgjeglickaa.U
open Go Go.Vai

theorem find_cases {α : Type} (p : α → Bool) : ∀ (l : List α), (∃ k, ∃ hk : k < l.length, p l[k] = true ∧ (∀ t (ht : t < l.length), t < k → p l[t] = false) ∧ l.find? p = some l[k]) ∨ ((∀ t (ht : t < l.length), p l[t] = false) ∧ l.find? p = none)
  | [] => .inr ⟨fun t ht => by simp at ht, rfl⟩
  | x :: l => by
    cases hx : p x with
    | true => exact .inl ⟨0, by simp, by simpa using hx, fun t ht h => by omega, by simp [List.find?, hx]⟩
    | false =>
      rcases find_cases p l with ⟨k, hk, h1, h2, h3⟩ | ⟨h1, h2⟩
      · refine .inl ⟨k + 1, by simpa using hk, by simpa using h1, fun t ht h => ?_, by simp [List.find?, hx, h3]⟩
        cases t with
        | zero => simpa using hx
        | succ t => simpa using h2 t (by simpa using ht) (by omega)
      · refine .inr ⟨fun t ht => ?_, by simp [List.find?, hx, h2]⟩
        cases t with
        | zero => simpa using hx
        | succ t => simpa using h1 t (by simpa using ht)

theorem rows_cut (a b : Nat) (hab : a ≤ b) (c : Int) (h1 : ∀ r ∈ rows.take a, inRow c r = false) (h2 : ∀ r ∈ rows.drop b, inRow c r = false) : rows.find? (inRow c) = (cut a b).find? (inRow c) := by
  have e : rows = rows.take a ++ (cut a b ++ rows.drop b) := by
    unfold cut
    have : (rows.take b).drop a ++ rows.drop b = rows.drop a := by
      have h := List.take_append_drop (b - a) (rows.drop a)
      rw [List.drop_drop] at h
      rw [List.drop_take, show a + (b - a) = b by omega] at *
      exact h
    rw [this, List.take_append_drop]
  have n1 : (rows.take a).find? (inRow c) = none := List.find?_eq_none.2 (fun r hr => by rw [h1 r hr]; simp)
  have n2 : (rows.drop b).find? (inRow c) = none := List.find?_eq_none.2 (fun r hr => by rw [h2 r hr]; simp)
  conv => lhs; rw [e]
  rw [List.find?_append, List.find?_append, n1, n2]
  simp
/-- The row of a code point. -/
def ofR (c : Int) : Rw := if c < 0 ∨ c > 1114111 then zeroRw else (rows.find? (inRow c)).getD (noRw c)
theorem low_out {c : Int} {a : Nat} {m : Int} (h : (rows.take a).all (fun r => decide (r.hi < m)) = true) (hc : m ≤ c) : ∀ r ∈ rows.take a, inRow c r = false := fun r hr => by
  have := of_decide_eq_true (List.all_eq_true.1 h r hr)
  simp only [inRow, Bool.and_eq_false_iff, decide_eq_false_iff_not]
  right; omega
theorem high_out {c : Int} {b : Nat} {m : Int} (h : (rows.drop b).all (fun r => decide (m ≤ r.lo)) = true) (hc : c < m) : ∀ r ∈ rows.drop b, inRow c r = false := fun r hr => by
  have := of_decide_eq_true (List.all_eq_true.1 h r hr)
  simp only [inRow, Bool.and_eq_false_iff, decide_eq_false_iff_not]
  left; omega
theorem drop81 (c : Int) : ∀ r ∈ rows.drop 81, inRow c r = false := fun r hr => by
  have : rows.drop 81 = [] := List.drop_eq_nil_of_le (by decide +kernel)
  rw [this] at hr
  cases hr
theorem cut_len (a b : Nat) : (cut a b).length < 1000000 := by
  unfold cut
  have : rows.length = 81 := by decide +kernel
  rw [List.length_drop, List.length_take]
  omega
theorem find0 (c : Int) (h : decide (c < 0) = false) (h2 : decide (c > 1114111) = false) (h3 : decide (0 ≤ ix c) = true) (h4 : (ix c).toNat = 0) (hr : 256 * 0 ≤ c ∧ c < 256) : A 18 [i c] [] (rowAV ((rows.find? (inRow c)).getD (noRw c))) [] := by
  rw [rows_cut 0 62 (by decide) c (low_out (m := 0) (by decide +kernel) (by omega)) (high_out (m := 256) (by decide +kernel) (by omega))]
  rcases find_cases (inRow c) (cut 0 62) with ⟨k, hk, q1, q2, q3⟩ | ⟨q1, q2⟩
  · rw [q3]
    exact f18_hit0 c k _ h h2 h3 h4 (a27_hit (cut_len 0 62) hk q1 q2) (by simp) (by simp [hk])
  · rw [q2]
    exact f18_none0 c h h2 h3 h4 (a27_none (cut_len 0 62) q1)
theorem find1 (c : Int) (h : decide (c < 0) = false) (h2 : decide (c > 1114111) = false) (h3 : decide (0 ≤ ix c) = true) (h4 : (ix c).toNat = 1) (hr : 256 * 1 ≤ c ∧ c < 512) : A 18 [i c] [] (rowAV ((rows.find? (inRow c)).getD (noRw c))) [] := by
  rw [rows_cut 62 63 (by decide) c (low_out (m := 256) (by decide +kernel) (by omega)) (high_out (m := 512) (by decide +kernel) (by omega))]
  rcases find_cases (inRow c) (cut 62 63) with ⟨k, hk, q1, q2, q3⟩ | ⟨q1, q2⟩
  · rw [q3]
    exact f18_hit1 c k _ h h2 h3 h4 (a27_hit (cut_len 62 63) hk q1 q2) (by simp) (by simp [hk])
  · rw [q2]
    exact f18_none1 c h h2 h3 h4 (a27_none (cut_len 62 63) q1)
theorem find2 (c : Int) (h : decide (c < 0) = false) (h2 : decide (c > 1114111) = false) (h3 : decide (0 ≤ ix c) = true) (h4 : (ix c).toNat = 2) (hr : 256 * 2 ≤ c ∧ c < 768) : A 18 [i c] [] (rowAV ((rows.find? (inRow c)).getD (noRw c))) [] := by
  rw [rows_cut 63 63 (by decide) c (low_out (m := 512) (by decide +kernel) (by omega)) (high_out (m := 768) (by decide +kernel) (by omega))]
  rcases find_cases (inRow c) (cut 63 63) with ⟨k, hk, q1, q2, q3⟩ | ⟨q1, q2⟩
  · rw [q3]
    exact f18_hit2 c k _ h h2 h3 h4 (a27_hit (cut_len 63 63) hk q1 q2) (by simp) (by simp [hk])
  · rw [q2]
    exact f18_none2 c h h2 h3 h4 (a27_none (cut_len 63 63) q1)
theorem find3 (c : Int) (h : decide (c < 0) = false) (h2 : decide (c > 1114111) = false) (h3 : decide (0 ≤ ix c) = true) (h4 : (ix c).toNat = 3) (hr : 256 * 3 ≤ c ∧ c < 1024) : A 18 [i c] [] (rowAV ((rows.find? (inRow c)).getD (noRw c))) [] := by
  rw [rows_cut 63 69 (by decide) c (low_out (m := 768) (by decide +kernel) (by omega)) (high_out (m := 1024) (by decide +kernel) (by omega))]
  rcases find_cases (inRow c) (cut 63 69) with ⟨k, hk, q1, q2, q3⟩ | ⟨q1, q2⟩
  · rw [q3]
    exact f18_hit3 c k _ h h2 h3 h4 (a27_hit (cut_len 63 69) hk q1 q2) (by simp) (by simp [hk])
  · rw [q2]
    exact f18_none3 c h h2 h3 h4 (a27_none (cut_len 63 69) q1)
theorem find4 (c : Int) (h : decide (c < 0) = false) (h2 : decide (c > 1114111) = false) (h3 : decide (0 ≤ ix c) = true) (h4 : (ix c).toNat = 4) (hr : 256 * 4 ≤ c ∧ c < 1280) : A 18 [i c] [] (rowAV ((rows.find? (inRow c)).getD (noRw c))) [] := by
  rw [rows_cut 69 71 (by decide) c (low_out (m := 1024) (by decide +kernel) (by omega)) (high_out (m := 1280) (by decide +kernel) (by omega))]
  rcases find_cases (inRow c) (cut 69 71) with ⟨k, hk, q1, q2, q3⟩ | ⟨q1, q2⟩
  · rw [q3]
    exact f18_hit4 c k _ h h2 h3 h4 (a27_hit (cut_len 69 71) hk q1 q2) (by simp) (by simp [hk])
  · rw [q2]
    exact f18_none4 c h h2 h3 h4 (a27_none (cut_len 69 71) q1)
theorem find5 (c : Int) (h : decide (c < 0) = false) (h2 : decide (c > 1114111) = false) (h3 : decide (0 ≤ ix c) = true) (h4 : (ix c).toNat = 5) (hr : 1280 ≤ c) : A 18 [i c] [] (rowAV ((rows.find? (inRow c)).getD (noRw c))) [] := by
  rw [rows_cut 71 81 (by decide) c (low_out (m := 1280) (by decide +kernel) (by omega)) (drop81 c)]
  rcases find_cases (inRow c) (cut 71 81) with ⟨k, hk, q1, q2, q3⟩ | ⟨q1, q2⟩
  · rw [q3]
    exact f18_hit5 c k _ h h2 h3 h4 (a27_hit (cut_len 71 81) hk q1 q2) (by simp) (by simp [hk])
  · rw [q2]
    exact f18_none5 c h h2 h3 h4 (a27_none (cut_len 71 81) q1)

theorem find_ok (c : Int) : A 18 [i c] [] (rowAV (ofR c)) [] := by
  unfold ofR
  by_cases hl : c < 0
  · rw [if_pos (.inl hl)]
    exact f18_low c (by simpa using hl)
  · have h : decide (c < 0) = false := by simpa using hl
    by_cases hh : c > 1114111
    · rw [if_pos (.inr hh)]
      exact f18_high c h (by simpa using hh)
    · have h2 : decide (c > 1114111) = false := by simpa using hh
      rw [if_neg (by omega)]
      have e : c.fdiv 256 = c / 256 := Int.fdiv_eq_ediv_of_nonneg _ (by decide)
      have h3 : decide (0 ≤ ix c) = true := by
        simp only [ix, e, decide_eq_true_eq]
        split <;> omega
      have hx : ix c = if 5 < c / 256 then 5 else c / 256 := by simp only [ix, e]
      by_cases c0 : c < 256
      · exact find0 c h h2 h3 (by rw [hx, if_neg (by omega)]; omega) (by omega)
      by_cases c1 : c < 512
      · exact find1 c h h2 h3 (by rw [hx, if_neg (by omega)]; omega) (by omega)
      by_cases c2 : c < 768
      · exact find2 c h h2 h3 (by rw [hx, if_neg (by omega)]; omega) (by omega)
      by_cases c3 : c < 1024
      · exact find3 c h h2 h3 (by rw [hx, if_neg (by omega)]; omega) (by omega)
      by_cases c4 : c < 1280
      · exact find4 c h h2 h3 (by rw [hx, if_neg (by omega)]; omega) (by omega)
      · refine find5 c h h2 h3 ?_ (by omega)
        rw [hx]
        split <;> omega
end Go.Proofs.Ytbfjpgjeglickaa.U
