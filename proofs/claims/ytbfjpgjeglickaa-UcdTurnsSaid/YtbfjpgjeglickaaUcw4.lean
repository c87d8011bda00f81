/- The table of characters: the laws. -/
import Derived.Test.YtbfjpgjeglickaaUcw3
namespace Go.Proofs.Ytbfjpgjeglickaa.U
open Go Go.Vai
theorem leads {f : FuncId} {k : Nat} {s s0 : St} {e0 : Ex} (h : ∃ e s', L f k s (e, s') ∧ (e = e0 ∧ s' = s0)) : L f k s (e0, s0) := by
  obtain ⟨e, s', h1, rfl, rfl⟩ := h
  exact h1
/-- UcdLetters. -/
theorem letters (c : Int) (utf : Bool) : A 6 [iv c, bv utf] [] (bv true) [] := by
  refine done (w_f6 c utf (fun r H => r = bv true ∧ H = []) ⟨awake, _, own_oth c utf, fun _ => ⟨rfl, rfl⟩, fun hne => ?_⟩)
  cases hl : othL c utf with
  | nil => rw [hl] at hne; cases hne
  | cons x l =>
    obtain ⟨h1, h2, h3⟩ := letters_low c utf x l hl
    simp only [letter, Bool.or_eq_true] at h1 h2
    have fin : ∃ x6 : ByteArray, A 12 [(iv c)] [] (sv (x6)) [] ∧ (∃ x7 : Int, (((x :: l).map iv)[0]?) = some (iv (x7)) ∧ (∃ x8 : ByteArray, A 12 [(iv (x7))] [] (sv (x8)) [] ∧ (((x6.toList == x8.toList) = true → (bv true = bv true ∧ ([] : HH) = [])) ∧ ((x6.toList == x8.toList) = false → (((c == 181) = true → (bv true = bv true ∧ ([] : HH) = [])) ∧ ((c == 181) = false → (∃ x9 : Int, (((x :: l).map iv)[0]?) = some (iv (x9)) ∧ (bv (x9 == 181) = bv true ∧ ([] : HH) = [])))))))) := by
      refine ⟨_, own_scr c, x, rfl, _, own_scr x, fun _ => ⟨rfl, rfl⟩, fun h => ⟨fun _ => ⟨rfl, rfl⟩, fun h' => ⟨x, rfl, ?_, rfl⟩⟩⟩
      rcases h3 with h3 | h3 | h3
      · rw [h] at h3; cases h3
      · subst h3; cases h'
      · subst h3; rfl
    refine ⟨_, own_cat c, x, rfl, _, own_cat x, fun ha => ⟨fun hb => fin, fun hb => ⟨fun _ => fin, fun hc => ?_⟩⟩, fun ha => ⟨fun hb => ⟨fun _ => fin, fun hc => ⟨fun _ => fin, fun hd => ?_⟩⟩, fun hb => ?_⟩⟩
    · rw [hb, hc] at h2; simp at h2
    · rw [hc, hd] at h2; simp at h2
    · rw [ha, hb] at h1; simp at h1
/-- UcdTurns. -/
def turnsOk (utf : Bool) (c : Int) : Bool :=
  (othL c utf).all (fun x => (othL x utf).any (· == c) && !(x == c) && (othL x utf).length == (othL c utf).length && decide ((othL x utf).length < 1000)) && (match othL c utf with | [] => true | [_] => true | [x, y] => decide (x < y) | _ => false)
theorem turns_ok (c : Int) (utf : Bool) : turnsOk utf c = true := by
  by_cases h : othL c utf = []
  · simp [turnsOk, h]
  · rcases oth_where c utf h with hc | rfl
    · cases utf with
      | true => exact low_all 1104 (turnsOk true) (by decide +kernel) c hc.1 hc.2
      | false => exact low_all 1104 (turnsOk false) (by decide +kernel) c hc.1 hc.2
    · cases utf <;> decide +kernel
theorem in5 (c : Int) (utf : Bool) (m : List AV) (ii : Int) (back : List Int) (hl : back.length < 1000) : ∀ (d k : Nat) (there : Bool), k + d = back.length →
    R 5 1 (s5_1 c utf m ii (back.map iv) there k) (.exit 2, x5_1_0 c utf m ii (back.map iv) (there || (back.drop k).any (· == c)) back.length)
  | 0, k, there, hk => by
    have : k = back.length := by omega
    subst this
    simp only [List.drop_length, List.any_nil, Bool.or_false]
    exact Rounds.last (by simp) (leads (l5_1 _ _ _ _ _ _ _ _ ⟨fun h => by simp at h, fun _ => ⟨rfl, rfl⟩⟩))
  | d + 1, k, there, hk => by
    have hk' : k < back.length := by omega
    have w : IntKind.wrap .i64 ((k : Int) + 1) = ((k + 1 : Nat) : Int) := by rw [wrap_id (by omega) (by omega)]; omega
    have n : L 5 1 (s5_1 c utf m ii (back.map iv) there k) (.norm, s5_1 c utf m ii (back.map iv) (there || (back[k] == c)) ((k + 1 : Nat) : Int)) := by
      refine leads (l5_1 _ _ _ _ _ _ _ _ ⟨fun _ => ⟨fun h => ?_, fun h => ⟨by simp, back[k], by simp [hk'], ?_⟩⟩, fun h => ?_⟩)
      · subst h; rw [w]; exact ⟨rfl, rfl⟩
      · subst h; rw [w]; exact ⟨rfl, rfl⟩
      · simp at h; omega
    have r := in5 c utf m ii back hl d (k + 1) (there || (back[k] == c)) (by omega)
    have e : (back.drop k).any (· == c) = ((back[k] == c) || (back.drop (k + 1)).any (· == c)) := by
      rw [List.drop_eq_getElem_cons hk']; rfl
    rw [e, ← Bool.or_assoc]
    exact Rounds.next n r
theorem out5 (c : Int) (utf : Bool) : ∀ (d k : Nat), k + d = (othL c utf).length → R 5 0 (s5_0 c utf ((othL c utf).map iv) k) (.exit 0, x5_0_1 c utf ((othL c utf).map iv) (othL c utf).length)
  | 0, k, hk => by
    have : k = (othL c utf).length := by omega
    subst this
    exact Rounds.last (by simp) (leads (l5_0 _ _ _ _ _ ⟨fun h => by simp at h, fun _ => ⟨rfl, rfl⟩⟩))
  | d + 1, k, hk => by
    have hk' : k < (othL c utf).length := by omega
    have hl := oth_len c utf
    have w : IntKind.wrap .i64 ((k : Int) + 1) = ((k + 1 : Nat) : Int) := by rw [wrap_id (by omega) (by omega)]; omega
    have ok := turns_ok c utf
    simp only [turnsOk, Bool.and_eq_true] at ok
    have hx := List.all_eq_true.1 ok.1 _ (List.getElem_mem hk')
    generalize hxx : (othL c utf)[k] = x at hx
    simp only [Bool.and_eq_true, decide_eq_true_eq, Bool.not_eq_true', beq_iff_eq, List.any_eq_true] at hx
    obtain ⟨⟨⟨h1, h2⟩, h3⟩, h4⟩ := hx
    have hany : ((othL x utf).drop 0).any (· == c) = true := by simpa using h1
    have n : L 5 0 (s5_0 c utf ((othL c utf).map iv) k) (.norm, s5_0 c utf ((othL c utf).map iv) ((k + 1 : Nat) : Int)) := by
      refine leads (l5_0 _ _ _ _ _ ⟨fun _ => ⟨by simp, x, by simp [hk', hxx], _, own_oth x utf, _, _, _, _, _, _, _, in5 c utf ((othL c utf).map iv) k (othL x utf) h4 _ 0 false (Nat.zero_add _), fun h => ?_, fun _ => ⟨by simp, x, by simp [hk', hxx], fun h => ?_, fun _ => ⟨fun h => ?_, fun _ => ⟨fun h => ?_, fun h => ?_⟩⟩⟩⟩, fun h => ?_⟩)
      · rw [hany] at h; simp at h
      · rw [h2] at h; cases h
      · simp [h3] at h
      · have hk0 : 0 < k := by simpa using h
        have hw : IntKind.wrap .i64 ((k : Int) - 1) = ((k - 1 : Nat) : Int) := by rw [wrap_id (by omega) (by omega)]; omega
        rw [hw, w]
        refine ⟨by simp, (othL c utf)[k - 1]'(by omega), by simp <;> omega, by simp, x, by simp [hk', hxx], fun h5 => ?_, fun _ => ⟨rfl, rfl⟩⟩
        have h6 := ok.2
        split at h6
        · rename_i he; rw [he] at hk'; simp at hk'
        · rename_i he; rw [he] at hk'; simp at hk'; omega
        · rename_i a b' he
          have hk1 : k = 1 := by rw [he] at hk'; simp at hk'; omega
          subst hk1
          have e1 : (othL c utf)[0]'(by omega) = a := by simp [he]
          have e2 : x = b' := by rw [← hxx]; simp [he]
          have h7 := dt h6
          have h8 := dt h5
          simp only [show (1 : Nat) - 1 = 0 from rfl, e1, e2] at h8
          omega
        · cases h6
      · rw [w]; exact ⟨rfl, rfl⟩
      · have := df h; simp at this; omega
    exact Rounds.next n (out5 c utf d (k + 1) (by omega))
theorem turns (c : Int) (utf : Bool) : A 5 [iv c, bv utf] [] (bv true) [] := by
  refine done (w_f5 c utf (fun r H => r = bv true ∧ H = []) ⟨awake, _, own_oth c utf, .inr ⟨_, _, _, _, out5 c utf _ 0 (Nat.zero_add _), ?_, rfl⟩⟩)
  have : (othL c utf).length ≤ 2 := by
    have ok := turns_ok c utf
    simp only [turnsOk, Bool.and_eq_true] at ok
    have h6 := ok.2
    split at h6
    · rename_i he; rw [he]; simp
    · rename_i he; rw [he]; simp
    · rename_i he; rw [he]; simp
    · cases h6
  simp; omega
end Go.Proofs.Ytbfjpgjeglickaa.U
