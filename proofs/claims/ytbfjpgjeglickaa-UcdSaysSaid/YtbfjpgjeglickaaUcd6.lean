/- The interpreter's answers for the table of characters: the reference's row of a code point. -/
import Derived.Test.YtbfjpgjeglickaaUcd5
namespace Go.Proofs.Ytbfjpgjeglickaa.U
open Go Go.Vai
section
variable {part : List Rw} {c : Int}
def x19 (r : Rw) : St := ⟨[], [(2, .box [i r.lo, i r.hi, st r.cat, st r.scr, i r.oth])], [], 0⟩
def e19 (c : Int) (l : List AV) (j : Int) : St := ⟨[], [(0, i c), (2, bx), (3, .sl 5 l), (4, i j), (16, b (decide (j < (l.length : Int))))], [], 0⟩
theorem m19 {j : Nat} (hj : j < part.length) (hb : j < 1000000) (hin : inRow c part[j] = false) : L 19 0 (s19 c (part.map rowAV) j) (.norm, s19 c (part.map rowAV) ((j + 1 : Nat) : Int)) := by
  obtain ⟨h1, h2, h3⟩ := at27 hj
  have w : IntKind.wrap .i64 ((j : Int) + 1) = ((j + 1 : Nat) : Int) := by rw [wrap_id (by omega) (by omega)]; omega
  rw [← w]
  simp only [inRow] at hin
  cases hlo : decide (part[j].lo ≤ c) with
  | true =>
    rw [hlo, Bool.true_and] at hin
    exact l19_1 c j part[j].lo part[j].hi part[j].oth part[j].cat part[j].scr (part.map rowAV) h1 h2 h3 hlo hin
  | false => exact l19_2 c j part[j].lo part[j].hi part[j].oth part[j].cat part[j].scr (part.map rowAV) h1 h2 h3 hlo
variable (hlen : part.length < 1000000)
include hlen
theorem r19_hit {k : Nat} (hk : k < part.length) (hin : inRow c part[k] = true) : ∀ {d j : Nat}, j + d = k → (∀ t (ht : t < part.length), j ≤ t → t < k → inRow c part[t] = false) → R 19 0 (s19 c (part.map rowAV) j) (.ret, x19 part[k])
  | 0, j, hd, _ => by
    have : j = k := by omega
    subst this
    obtain ⟨h1, h2, h3⟩ := at27 hk
    simp only [inRow, Bool.and_eq_true] at hin
    exact Rounds.last (by simp) (l19_0 c j part[j].lo part[j].hi part[j].oth part[j].cat part[j].scr (part.map rowAV) h1 h2 h3 hin.1 hin.2)
  | d + 1, j, hd, hm => by
    have hj : j < part.length := by omega
    exact Rounds.next (m19 hj (by omega) (hm j hj (Nat.le_refl _) (by omega))) (r19_hit hk hin (d := d) (j := j + 1) (by omega) (fun t ht h5 h6 => hm t ht (by omega) h6))
theorem r19_none : ∀ {d j : Nat}, j + d = part.length → (∀ t (ht : t < part.length), j ≤ t → inRow c part[t] = false) → R 19 0 (s19 c (part.map rowAV) j) (.exit 0, e19 c (part.map rowAV) part.length)
  | 0, j, hd, _ => by
    have : j = part.length := by omega
    subst this
    exact Rounds.last (by simp) (l19_3 c _ 0 0 0 (bs []) (bs []) _ (by simp))
  | d + 1, j, hd, hm => by
    have hj : j < part.length := by omega
    exact Rounds.next (m19 hj (by omega) (hm j hj (Nat.le_refl _))) (r19_none (d := d) (j := j + 1) (by omega) (fun t ht h5 => hm t ht (by omega)))
end
theorem f19_low (c : Int) (h : decide (c < 0) = true) : A 19 [i c] [] (rowAV zeroRw) [] :=
  A.of [.ev, .b true, .b true, .b true, .ev, .ev] (decide (c < 0) = true ∧ decide (c < 0) = true ∧ decide (c < 0) = true ∧ True) (by kernel_rfl) ⟨h, h, h, trivial⟩
theorem f19_high (c : Int) (h : decide (c < 0) = false) (h2 : decide (c > 1114111) = true) : A 19 [i c] [] (rowAV zeroRw) [] :=
  A.of [.ev, .b false, .b false, .ev, .b false, .b true, .ev] (decide (c > 1114111) = true ∧ decide (c < 0) = false ∧ decide (c < 0) = false ∧ decide (c < 0) = false ∧ True) (by kernel_rfl) ⟨h2, h, h, h, trivial⟩
theorem f19_hit (c : Int) (r : Rw) (h : decide (c < 0) = false) (h2 : decide (c > 1114111) = false) (h3 : R 19 0 (s19 c rowsAV (0 : Nat)) (.ret, x19 r)) : A 19 [i c] [] (rowAV r) [] :=
  A.of [.ev, .b false, .b false, .ev, .b false, .b false, .ev, .res (.sl 5 rowsAV) [], .loop .ret (x19 r), .ev] (R 19 0 (s19 c rowsAV (0 : Nat)) (.ret, x19 r) ∧ A 17 [] [] (.sl 5 rowsAV) [] ∧ decide (c > 1114111) = false ∧ decide (c < 0) = false ∧ decide (c < 0) = false ∧ decide (c < 0) = false ∧ True) (by kernel_rfl) ⟨h3, ref_rows, h2, h, h, h, trivial⟩
theorem f19_none (c : Int) (h : decide (c < 0) = false) (h2 : decide (c > 1114111) = false) (h3 : R 19 0 (s19 c rowsAV (0 : Nat)) (.exit 0, e19 c rowsAV rows.length)) : A 19 [i c] [] (rowAV (noRw c)) [] :=
  A.of [.ev, .b false, .b false, .ev, .b false, .b false, .ev, .res (.sl 5 rowsAV) [], .loop (.exit 0) (e19 c rowsAV rows.length), .ev] (R 19 0 (s19 c rowsAV (0 : Nat)) (.exit 0, e19 c rowsAV rows.length) ∧ A 17 [] [] (.sl 5 rowsAV) [] ∧ decide (c > 1114111) = false ∧ decide (c < 0) = false ∧ decide (c < 0) = false ∧ decide (c < 0) = false ∧ True) (by kernel_rfl) ⟨h3, ref_rows, h2, h, h, h, trivial⟩
theorem rows_len : rows.length < 1000000 := by have : rows.length = 81 := by decide +kernel
                                               omega
theorem of_ok (c : Int) : A 19 [i c] [] (rowAV (ofR c)) [] := by
  unfold ofR
  by_cases hl : c < 0
  · rw [if_pos (.inl hl)]
    exact f19_low c (by simpa using hl)
  · have h : decide (c < 0) = false := by simpa using hl
    by_cases hh : c > 1114111
    · rw [if_pos (.inr hh)]
      exact f19_high c h (by simpa using hh)
    · have h2 : decide (c > 1114111) = false := by simpa using hh
      rw [if_neg (by omega)]
      rcases find_cases (inRow c) rows with ⟨k, hk, q1, q2, q3⟩ | ⟨q1, q2⟩
      · rw [q3]
        exact f19_hit c _ h h2 (r19_hit rows_len hk q1 (d := k) (j := 0) (by omega) (fun t ht _ h => q2 t ht h))
      · rw [q2]
        exact f19_none c h h2 (r19_none rows_len (d := rows.length) (j := 0) (by omega) (fun t ht _ => q1 t ht))
theorem own_cat (c : Int) : A 10 [i c] [] (st (ofR c).cat) [] := f10_0 c _ _ _ _ _ (find_ok c)
theorem own_scr (c : Int) : A 12 [i c] [] (st (ofR c).scr) [] := f12_0 c _ _ _ _ _ (find_ok c)
theorem ref_cat (c : Int) : A 11 [i c] [] (st (ofR c).cat) [] := f11_0 c _ _ _ _ _ (of_ok c)
theorem ref_scr (c : Int) : A 13 [i c] [] (st (ofR c).scr) [] := f13_0 c _ _ _ _ _ (of_ok c)
end Go.Proofs.Ytbfjpgjeglickaa.U
