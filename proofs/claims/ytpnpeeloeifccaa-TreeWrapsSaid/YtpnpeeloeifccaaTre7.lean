/- Trees: may a node by itself be: the program's answer and the reference's. -/
import Derived.Test.YtpnpeeloeifccaaTre6
import Derived.Test.YtpnpeeloeifccaaTre2b
namespace Go.Proofs.Ytpnpeeloeifccaa.U
open Go Go.Vai
set_option linter.unusedVariables false
/-- May ranges be a set's, behind a greatest number? -/
def rise : Int → List (Int × Int) → Bool
  | _, [] => true
  | was, (lo, hi) :: r => decide (lo > was + 1) && decide (0 ≤ lo) && decide (lo ≤ hi) && decide (hi ≤ 1114111) && rise hi r
theorem rg_len (s : List (Int × Int)) : (s.map rg).length = s.length := List.length_map ..
theorem rg_get (s : List (Int × Int)) {i : Nat} (h : i < s.length) : (s.map rg)[((i : Nat) : Int).toNat]? = some (.agg [iv (s[i]).1, iv (s[i]).2]) := by
  simp [h, rg]
theorem rising_loop {s : List (Int × Int)} (hs : s.length ≤ 9223372036854775807) : ∀ (d i : Nat) (was : Int), i + d = s.length → -2 ≤ was → was ≤ 1114111 →
    (rise was (s.drop i) = false → R 38 0 (s_rising_38_0 was (s.map rg) s.length i) (.ret, x_rising_38_0_0)) ∧
    (rise was (s.drop i) = true → ∃ w j : Int, R 38 0 (s_rising_38_0 was (s.map rg) s.length i) (.exit 0, x_rising_38_0_1 w (s.map rg) s.length j))
  | 0, i, was, hd, h0, h1 => by
    have : i = s.length := by omega
    subst this
    rw [List.drop_length]
    simp only [rise]
    exact ⟨fun h => by simp at h, fun _ => ⟨_, _, Rounds.last (by simp) (leads (l_rising_38_0 _ _ _ _ _ ⟨fun h => absurd (dt h) (by omega), fun _ => ⟨rfl, rfl⟩⟩))⟩⟩
  | d + 1, i, was, hd, h0, h1 => by
    have hi : i < s.length := by omega
    rw [drop_at hi]
    have hg := rg_get s hi
    generalize s[i] = r at hg
    obtain ⟨lo, hi'⟩ := r
    simp only [rise]
    have hw : IntKind.wrap .i64 (was + 1) = was + 1 := wrap_id (by omega) (by omega)
    have step : ∃ e s', L 38 0 (s_rising_38_0 was (s.map rg) s.length i) (e, s') ∧ ((¬ (lo > was + 1 ∧ 0 ≤ lo ∧ lo ≤ hi' ∧ hi' ≤ 1114111) ∧ e = .ret ∧ s' = x_rising_38_0_0) ∨ ((lo > was + 1 ∧ 0 ≤ lo ∧ lo ≤ hi' ∧ hi' ≤ 1114111) ∧ e = .norm ∧ s' = s_rising_38_0 hi' (s.map rg) s.length ((i + 1 : Nat) : Int))) := by
      refine l_rising_38_0 _ _ _ _ _ ⟨fun _ => ⟨by simp, _, _, hg, ?_⟩, fun h => absurd hi (by have := df h; omega)⟩
      rw [hw, next_i hi hs]
      refine ⟨fun h2 => .inl ⟨?_, rfl, rfl⟩, fun h2 => ⟨fun h3 => .inl ⟨?_, rfl, rfl⟩, fun h3 => ⟨fun h4 => .inl ⟨?_, rfl, rfl⟩, fun h4 => ⟨fun h5 => .inl ⟨?_, rfl, rfl⟩, fun h5 => .inr ⟨?_, rfl, rfl⟩⟩⟩⟩⟩
      · have := dt h2; dsimp only at this; omega
      · have := dt h3; dsimp only at this; omega
      · have := dt h4; dsimp only at this; omega
      · have := dt h5; dsimp only at this; omega
      · have := df h2; have := df h3; have := df h4; have := df h5; dsimp only at *; omega
    obtain ⟨e', s', hL, h⟩ := step
    rcases h with ⟨h1, rfl, rfl⟩ | ⟨h1, rfl, rfl⟩
    · have e : (decide (lo > was + 1) && decide (0 ≤ lo) && decide (lo ≤ hi') && decide (hi' ≤ 1114111) && rise hi' (s.drop (i + 1))) = false := by
        simp only [Bool.and_eq_false_iff, decide_eq_false_iff_not]
        omega
      rw [e]
      exact ⟨fun _ => Rounds.last (by simp) hL, fun h => by cases h⟩
    · have r := rising_loop hs d (i + 1) hi' (by omega) (by omega) (by omega)
      have e : (decide (lo > was + 1) && decide (0 ≤ lo) && decide (lo ≤ hi') && decide (hi' ≤ 1114111) && rise hi' (s.drop (i + 1))) = rise hi' (s.drop (i + 1)) := by
        rw [decide_eq_true h1.1, decide_eq_true h1.2.1, decide_eq_true h1.2.2.1, decide_eq_true h1.2.2.2]; rfl
      rw [e]
      refine ⟨fun h => Rounds.next hL (r.1 h), fun h => ?_⟩
      obtain ⟨w, j, h⟩ := r.2 h
      exact ⟨w, j, Rounds.next hL h⟩
theorem rising_ok (s : List (Int × Int)) (hs : s.length ≤ 9223372036854775807) : A 38 [.sl 2 (s.map rg)] [] (bv (rise (-2) s)) [] := by
  have r := rising_loop hs s.length 0 (-2) (by omega) (by omega) (by omega)
  rw [List.drop_zero] at r
  refine done (w_rising _ _ ?_)
  rw [rg_len]
  cases h : rise (-2) s with
  | false => exact .inl ⟨r.1 h, rfl, rfl⟩
  | true =>
    obtain ⟨w, j, h⟩ := r.2 h
    exact .inr ⟨_, _, _, _, h, rfl, rfl⟩
theorem rises_loop {s : List (Int × Int)} (hs : s.length ≤ 9223372036854775807) : ∀ (d i : Nat) (was : Int), i + d = s.length → -2 ≤ was → was ≤ 1114111 → (i = 0 → was = -2) → (0 < i → ∃ r, s[i - 1]? = some r ∧ was = r.2) →
    (rise was (s.drop i) = false → R 46 0 (s_rises_46_0 (s.map rg) i) (.ret, x_rises_46_0_0)) ∧
    (rise was (s.drop i) = true → ∃ j : Int, R 46 0 (s_rises_46_0 (s.map rg) i) (.exit 0, x_rises_46_0_1 (s.map rg) j))
  | 0, i, was, hd, h0, h1, _, _ => by
    have : i = s.length := by omega
    subst this
    rw [List.drop_length]
    simp only [rise]
    exact ⟨fun h => by simp at h, fun _ => ⟨_, Rounds.last (by simp) (leads (l_rises_46_0 _ _ _ ⟨fun h => absurd (dt h) (by rw [rg_len]; omega), fun _ => ⟨rfl, rfl⟩⟩))⟩⟩
  | d + 1, i, was, hd, h0, h1, hw0, hw1 => by
    have hi : i < s.length := by omega
    rw [drop_at hi]
    have hg := rg_get s hi
    generalize hr : s[i] = r at hg
    obtain ⟨lo, hi'⟩ := r
    simp only [rise]
    have hw : IntKind.wrap .i64 (was + 1) = was + 1 := wrap_id (by omega) (by omega)
    have step : ∃ e s', L 46 0 (s_rises_46_0 (s.map rg) i) (e, s') ∧ ((¬ (lo > was + 1 ∧ 0 ≤ lo ∧ lo ≤ hi' ∧ hi' ≤ 1114111) ∧ e = .ret ∧ s' = x_rises_46_0_0) ∨ ((lo > was + 1 ∧ 0 ≤ lo ∧ lo ≤ hi' ∧ hi' ≤ 1114111) ∧ e = .norm ∧ s' = s_rises_46_0 (s.map rg) ((i + 1 : Nat) : Int))) := by
      refine l_rises_46_0 _ _ _ ⟨fun _ => ⟨by simp, _, _, hg, ?_⟩, fun h => absurd hi (by have := df h; rw [rg_len] at this; omega)⟩
      rw [next_i hi hs]
      refine ⟨fun h2 => .inl ⟨?_, rfl, rfl⟩, fun h2 => ⟨by simp, _, _, hg, by simp, _, _, hg, fun h3 => .inl ⟨?_, rfl, rfl⟩, fun h3 => ⟨by simp, _, _, hg, fun h4 => .inl ⟨?_, rfl, rfl⟩, fun h4 => ⟨fun h5 => ⟨by simp, _, _, hg, ?_⟩, fun h5 => .inr ⟨?_, rfl, rfl⟩⟩⟩⟩⟩
      · have := dt h2; dsimp only at this; omega
      · have := dt h3; dsimp only at this; omega
      · have := dt h4; dsimp only at this; omega
      · have h5 := dt h5
        have hi0 : 0 < i := by omega
        have hw2 : IntKind.wrap .i64 ((i : Int) - 1) = ((i - 1 : Nat) : Int) := by rw [wrap_id (by omega) (by omega)]; omega
        obtain ⟨r1, hr1, hwr⟩ := hw1 hi0
        have hg2 := rg_get s (i := i - 1) (by omega)
        rw [hw2]
        refine ⟨by simp, _, _, hg2, ?_⟩
        rw [List.getElem?_eq_getElem (by omega)] at hr1
        injection hr1 with hr1
        rw [hr1, ← hwr, hw]
        refine ⟨fun h6 => .inl ⟨?_, rfl, rfl⟩, fun h6 => .inr ⟨?_, rfl, rfl⟩⟩
        · have := dt h6; dsimp only at this; omega
        · have := df h2; have := df h3; have := df h4; have := df h6; dsimp only at *; omega
      · have := df h2; have := df h3; have := df h4; have h5 := df h5; have := hw0 (by omega); dsimp only at *; omega
    obtain ⟨e', s', hL, h⟩ := step
    rcases h with ⟨h1, rfl, rfl⟩ | ⟨h1, rfl, rfl⟩
    · have e : (decide (lo > was + 1) && decide (0 ≤ lo) && decide (lo ≤ hi') && decide (hi' ≤ 1114111) && rise hi' (s.drop (i + 1))) = false := by
        simp only [Bool.and_eq_false_iff, decide_eq_false_iff_not]
        omega
      rw [e]
      exact ⟨fun _ => Rounds.last (by simp) hL, fun h => by cases h⟩
    · have r := rises_loop hs d (i + 1) hi' (by omega) (by omega) (by omega) (fun h => by omega) (fun _ => ⟨(lo, hi'), by simp [hi, hr], rfl⟩)
      have e : (decide (lo > was + 1) && decide (0 ≤ lo) && decide (lo ≤ hi') && decide (hi' ≤ 1114111) && rise hi' (s.drop (i + 1))) = rise hi' (s.drop (i + 1)) := by
        rw [decide_eq_true h1.1, decide_eq_true h1.2.1, decide_eq_true h1.2.2.1, decide_eq_true h1.2.2.2]; rfl
      rw [e]
      refine ⟨fun h => Rounds.next hL (r.1 h), fun h => ?_⟩
      obtain ⟨j, h⟩ := r.2 h
      exact ⟨j, Rounds.next hL h⟩
theorem rises_ok (s : List (Int × Int)) (hs : s.length ≤ 9223372036854775807) : A 46 [.sl 2 (s.map rg)] [] (bv (rise (-2) s)) [] := by
  have r := rises_loop hs s.length 0 (-2) (by omega) (by omega) (by omega) (fun _ => rfl) (fun h => absurd h (by omega))
  rw [List.drop_zero] at r
  refine done (w_rises _ _ ?_)
  cases h : rise (-2) s with
  | false => exact .inl ⟨r.1 h, rfl, rfl⟩
  | true =>
    obtain ⟨j, h⟩ := r.2 h
    exact .inr ⟨_, _, h, rfl, rfl⟩
end Go.Proofs.Ytpnpeeloeifccaa.U
