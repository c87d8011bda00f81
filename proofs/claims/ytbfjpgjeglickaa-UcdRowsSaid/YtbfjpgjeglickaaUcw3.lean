/- The table of characters: other cases, the program's and the reference's. -/
import Derived.Test.YtbfjpgjeglickaaUcw2
namespace Go.Proofs.Ytbfjpgjeglickaa.U
open Go Go.Vai
theorem dt {p : Prop} [Decidable p] (h : decide p = true) : p := of_decide_eq_true h
theorem df {p : Prop} [Decidable p] (h : decide p = false) : ¬ p := of_decide_eq_false h
theorem done {f : FuncId} {args : List AV} {H H0 : HH} {r0 : AV} (h : ∃ r H', A f args H r H' ∧ (r = r0 ∧ H' = H0)) : A f args H r0 H0 := by
  obtain ⟨r, H', h1, rfl, rfl⟩ := h
  exact h1
def othL (c : Int) (utf : Bool) : List Int :=
  if utf = false then (if 65 ≤ c ∧ c ≤ 90 then [c + 32] else if 97 ≤ c ∧ c ≤ 122 then [c - 32] else [])
  else if c = 75 then [107, 8490] else if c = 107 then [75, 8490] else if c = 8490 then [75, 107]
  else if c = 83 then [115, 383] else if c = 115 then [83, 383] else if c = 383 then [83, 115]
  else if c = 181 then [924, 956] else if c = 924 then [181, 956] else if c = 956 then [181, 924]
  else if c = 931 then [962, 963] else if c = 962 then [931, 963] else if c = 963 then [931, 962]
  else if (ofR c).oth = 0 then [] else [c + (ofR c).oth]
theorem ite_h {α : Type} {p : α → Prop} {c : Prop} [Decidable c] {a b : α} (ha : c → p a) (hb : ¬ c → p b) : p (if c then a else b) := by
  split
  · exact ha ‹_›
  · exact hb ‹_›
def othAV (c : Int) (utf : Bool) : AV := .sl 1 ((othL c utf).map iv)
theorem oth_bounds (c : Int) (h : (ofR c).oth ≠ 0) : 65 ≤ c ∧ c ≤ 1103 ∧ -100 ≤ (ofR c).oth ∧ (ofR c).oth ≤ 100 := by
  unfold ofR at h ⊢
  split at h
  · exact absurd rfl h
  · rename_i hc
    rw [if_neg hc] at *
    cases hf : rows.find? (inRow c) with
    | none => rw [hf] at h; exact absurd rfl h
    | some r =>
      rw [hf] at h
      simp only [Option.getD_some] at h ⊢
      have h1 := List.find?_some hf
      have h2 := List.mem_of_find?_eq_some hf
      have h3 : rows.all (fun r => r.oth == 0 || (decide (65 ≤ r.lo) && decide (r.hi ≤ 1103) && decide (-100 ≤ r.oth) && decide (r.oth ≤ 100))) = true := by decide +kernel
      have h4 := List.all_eq_true.1 h3 r h2
      simp only [inRow, Bool.and_eq_true, Bool.or_eq_true, beq_iff_eq, decide_eq_true_eq] at h1 h4
      omega
theorem low_all (n : Nat) (p : Int → Bool) (h : (List.range n).all (fun k => p (k : Int)) = true) (c : Int) (h0 : 0 ≤ c) (h1 : c < n) : p c = true := by
  have := List.all_eq_true.1 h c.toNat (by simp; omega)
  simpa [Int.toNat_of_nonneg h0] using this
theorem oth_ascii (c : Int) (h : c < 128) : (ofR c).oth = if 65 ≤ c ∧ c ≤ 90 then 32 else if 97 ≤ c ∧ c ≤ 122 then -32 else 0 := by
  by_cases h0 : 0 ≤ c
  · have := low_all 128 (fun c => (ofR c).oth == if 65 ≤ c ∧ c ≤ 90 then 32 else if 97 ≤ c ∧ c ≤ 122 then -32 else 0) (by decide +kernel) c h0 h
    simpa using this
  · have : ofR c = zeroRw := by unfold ofR; rw [if_pos (by omega)]
    rw [this]
    rw [if_neg (by omega), if_neg (by omega)]
    rfl
theorem oth_find (c x : Int) (hx : x = (ofR c).oth) : IntKind.wrap .i64 (c + x) = c + (ofR c).oth ∨ (!x == 0) = false := by
  by_cases h : (ofR c).oth = 0
  · right; simp [hx, h]
  · left
    have := oth_bounds c h
    rw [hx, wrap_id (by omega) (by omega)]
theorem ref_oth (c : Int) (utf : Bool) : A 16 [iv c, bv utf] [] (othAV c utf) [] := by
  refine done (w_f16 c utf (fun r H => r = othAV c utf ∧ H = []) ?_)
  have hw1 : 65 ≤ c → c ≤ 90 → IntKind.wrap .i64 (c + 32) = c + 32 := fun _ _ => wrap_id (by omega) (by omega)
  have hw2 : 97 ≤ c → c ≤ 122 → IntKind.wrap .i64 (c - 32) = c - 32 := fun _ _ => wrap_id (by omega) (by omega)
  cases utf with
  | false =>
    refine ⟨fun _ => ?_, fun h => by simp at h⟩
    simp only [decide_eq_true_eq, decide_eq_false_iff_not]
    refine ⟨fun h1 => ⟨fun h2 => ?_, fun h2 => ⟨fun h3 => ⟨fun h4 => ?_, fun h4 => ?_⟩, fun h3 => ?_⟩⟩, fun h1 => ⟨fun h3 => ⟨fun h4 => ?_, fun h4 => ?_⟩, fun h3 => ?_⟩⟩
    · rw [hw1 (by omega) (by omega)]; simp only [othAV, othL, if_true]; rw [if_pos (by omega)]; simp
    · rw [hw2 (by omega) (by omega)]; simp only [othAV, othL, if_true]; rw [if_neg (by omega), if_pos (by omega)]; simp
    · simp only [othAV, othL, if_true]; rw [if_neg (by omega), if_neg (by omega)]; simp
    · simp only [othAV, othL, if_true]; rw [if_neg (by omega), if_neg (by omega)]; simp
    · omega
    · omega
    · simp only [othAV, othL, if_true]; rw [if_neg (by omega), if_neg (by omega)]; simp
  | true =>
    refine ⟨fun h => by simp at h, fun _ => ?_⟩
    repeat' (first
      | (refine ⟨fun h => ?_, fun h => ?_⟩; · (have := eq_of_beq h; subst this; exact ⟨rfl, rfl⟩)))
    have e : othL c true = if (ofR c).oth = 0 then [] else [c + (ofR c).oth] := by
      simp only [beq_eq_false_iff_ne, ne_eq] at *
      unfold othL
      simp only [*, if_false, Bool.true_eq_false]
    refine ⟨_, _, _, _, _, of_ok c, fun h => ?_, fun h => ?_⟩
    · rcases oth_find c _ rfl with h1 | h1
      · have h2 : (ofR c).oth ≠ 0 := by simpa using h
        simp only [othAV, e, h1, if_neg h2]
        exact ⟨rfl, by trivial⟩
      · rw [h] at h1; cases h1
    · have h2 : (ofR c).oth = 0 := by simpa using h
      simp only [othAV, e, if_pos h2]
      exact ⟨rfl, by trivial⟩
theorem own_oth (c : Int) (utf : Bool) : A 15 [iv c, bv utf] [] (othAV c utf) [] := by
  cases utf with
  | false =>
    refine done (w_f15f c (fun r H => r = othAV c false ∧ H = []) ⟨_, _, _, _, _, find_ok c, fun h => ⟨fun h3 => ?_, fun h3 => ?_⟩, fun h => ?_⟩)
    all_goals simp only [decide_eq_true_eq, decide_eq_false_iff_not, ne_eq, Bool.not_eq_true', Bool.not_eq_false', beq_iff_eq, beq_eq_false_iff_ne] at *
    · have h1 := oth_ascii c h3
      have h2 := oth_bounds c h
      rw [wrap_id (by omega) (by omega)]
      refine ⟨?_, by trivial⟩
      simp only [othAV, othL, if_true]
      rw [h1] at h ⊢
      split at h <;> rename_i h4
      · rw [if_pos h4, if_pos h4]; rfl
      · split at h <;> rename_i h5
        · rw [if_neg h4, if_neg h4, if_pos h5, if_pos h5]; rfl
        · exact absurd rfl h
    · refine ⟨?_, by trivial⟩
      simp only [othAV, othL, if_true]
      rw [if_neg (by omega), if_neg (by omega)]
      rfl
    · refine ⟨?_, by trivial⟩
      simp only [othAV, othL, if_true]
      have h1 : ¬ (65 ≤ c ∧ c ≤ 90) ∧ ¬ (97 ≤ c ∧ c ≤ 122) := by
        by_cases h3 : c < 128
        · have h1 := oth_ascii c h3
          rw [h] at h1
          refine ⟨fun h4 => ?_, fun h4 => ?_⟩
          · rw [if_pos h4] at h1; omega
          · rw [if_neg (by omega), if_pos h4] at h1; omega
        · omega
      rw [if_neg h1.1, if_neg h1.2]
      rfl
  | true =>
    refine done (w_f15t c (fun r H => r = othAV c true ∧ H = []) ?_)
    repeat' (first
      | (refine ⟨fun h => ?_, fun h => ?_⟩; · (have := eq_of_beq h; subst this; simp [othAV, othL])))
    have e : othL c true = if (ofR c).oth = 0 then [] else [c + (ofR c).oth] := by
      simp only [beq_eq_false_iff_ne, ne_eq] at *
      unfold othL
      simp only [*, if_false, Bool.true_eq_false]
    refine ⟨_, _, _, _, _, find_ok c, fun h => ?_, fun h => ?_⟩
    · rcases oth_find c _ rfl with h1 | h1
      · have h2 : (ofR c).oth ≠ 0 := by simpa using h
        simp only [othAV, e, h1, if_neg h2]
        exact ⟨rfl, by trivial⟩
      · rw [h] at h1; cases h1
    · have h2 : (ofR c).oth = 0 := by simpa using h
      simp only [othAV, e, if_pos h2]
      exact ⟨rfl, by trivial⟩
theorem np_iv (l : List Int) : npL (l.map iv) = true := by
  induction l with
  | nil => rfl
  | cons x l ih => simp [npL, np, ih]
theorem oth_len (c : Int) (utf : Bool) : (othL c utf).length < 1000000 := by
  unfold othL
  repeat' (refine ite_h (p := fun l : List Int => l.length < 1000000) (fun _ => ?_) (fun _ => ?_))
  all_goals simp
/-- UcdSays. -/
theorem says (c : Int) (utf : Bool) : A 3 [iv c, bv utf] [] (bv true) [] := by
  refine done (w_f3 c utf (fun r H => r = bv true ∧ H = []) ⟨awake, _, own_cat c, _, ref_cat c, fun _ => ⟨_, own_scr c, _, ref_scr c, fun _ => ⟨_, own_oth c utf, _, ref_oth c utf, ?_, _, same_ok (oth_len c utf), rfl, rfl⟩, fun h => ?_⟩, fun h => ?_⟩)
  · simp [npL, np, np_iv]
  · simp at h
  · simp at h
theorem ofR_all (p : Rw → Bool) (h : rows.all p = true) (hn : ∀ c, p (noRw c) = true) (c : Int) (h0 : 0 ≤ c) (h1 : c ≤ 1114111) : p (ofR c) = true := by
  unfold ofR
  rw [if_neg (by omega)]
  cases hf : rows.find? (inRow c) with
  | none => exact hn c
  | some r => exact List.all_eq_true.1 h r (List.mem_of_find?_eq_some hf)
theorem size_ok (c : Int) (h0 : 0 ≤ c) (h1 : c ≤ 1114111) : ((ofR c).cat.size : Int) = 2 ∧ ((ofR c).scr.toList == (bs []).toList) = false := by
  have := ofR_all (fun r => r.cat.size == 2 && !(r.scr.toList == (bs []).toList)) (by decide +kernel) (fun _ => (by decide +kernel : ((bs [67, 110]).size == 2 && !((bs [85, 110, 107, 110, 111, 119, 110]).toList == (bs []).toList)) = true)) c h0 h1
  simp only [Bool.and_eq_true, beq_iff_eq, Bool.not_eq_true'] at this
  exact ⟨by omega, this.2⟩
theorem out_ok (c : Int) (h : c < 0 ∨ c > 1114111) : ofR c = zeroRw := by unfold ofR; rw [if_pos h]
theorem oth_out (c : Int) (utf : Bool) (h : c < 0 ∨ c > 1114111) : othL c utf = [] := by
  have h1 := out_ok c h
  unfold othL
  rw [h1]
  repeat' (refine ite_h (p := fun l : List Int => l = []) (fun _ => ?_) (fun _ => ?_))
  all_goals first | rfl | omega | exact absurd rfl ‹¬ zeroRw.oth = 0›
theorem oth_high (c : Int) (h : c > 127) : othL c false = [] := by
  unfold othL
  rw [if_pos rfl, if_neg (by omega), if_neg (by omega)]
/-- UcdBeyond. -/
theorem beyond (c : Int) (utf : Bool) : A 8 [iv c, bv utf] [] (bv true) [] := by
  refine done (w_f8 c utf (fun r H => r = bv true ∧ H = []) ⟨awake, _, own_oth c false, ?_⟩)
  have inn : 0 ≤ c → c ≤ 1114111 → (∃ x3 : ByteArray, A 10 [(iv (c))] [] (sv (x3)) [] ∧ ((((↑x3.size : Int) == 2) = true → (∃ x4 : ByteArray, A 12 [(iv (c))] [] (sv (x4)) [] ∧ (bv (!x4.toList == (bs []).toList) = bv true ∧ ([] : HH) = []))) ∧ (((↑x3.size : Int) == 2) = false → (bv false = bv true ∧ ([] : HH) = [])))) := fun h0 h1 => by
    obtain ⟨h2, h3⟩ := size_ok c h0 h1
    refine ⟨_, own_cat c, fun _ => ⟨_, own_scr c, ?_, rfl⟩, fun h => ?_⟩
    · rw [h3]; rfl
    · rw [h2] at h; cases h
  have out : c < 0 ∨ c > 1114111 → (∃ x8 : ByteArray, A 10 [(iv (c))] [] (sv (x8)) [] ∧ (((x8.toList == (bs []).toList) = true → (∃ x9 : ByteArray, A 12 [(iv (c))] [] (sv (x9)) [] ∧ (((x9.toList == (bs []).toList) = true → (∃ x10 : List AV, A 15 [(iv (c)), (bv (utf))] [] (.sl 1 (x10)) [] ∧ (bv ((↑x10.length : Int) == 0) = bv true ∧ ([] : HH) = []))) ∧ ((x9.toList == (bs []).toList) = false → (bv false = bv true ∧ ([] : HH) = []))))) ∧ ((x8.toList == (bs []).toList) = false → (bv false = bv true ∧ ([] : HH) = [])))) := fun h => by
    have h1 := out_ok c h
    refine ⟨_, own_cat c, fun _ => ⟨_, own_scr c, fun _ => ⟨_, own_oth c utf, ?_, rfl⟩, fun h2 => ?_⟩, fun h2 => ?_⟩
    · rw [oth_out c utf h]; rfl
    · rw [h1] at h2; exact absurd h2 (by decide +kernel)
    · rw [h1] at h2; exact absurd h2 (by decide +kernel)
  have hh : c > 127 → ((!(((othL c false).map iv).length : Int) == 0) = false) := fun h => by rw [oth_high c h]; rfl
  refine ⟨fun h => ⟨fun h2 => ?_, fun _ => ⟨fun h3 => ⟨fun h4 => inn (dt h3) (dt h4), fun h4 => out (.inr (by have := df h4; omega))⟩, fun h3 => out (.inl (by have := df h3; omega))⟩⟩, fun h => ⟨fun h3 => ⟨fun h4 => inn (dt h3) (dt h4), fun h4 => out (.inr (by have := df h4; omega))⟩, fun h3 => out (.inl (by have := df h3; omega))⟩⟩
  rw [hh (dt h)] at h2; cases h2
/-- UcdLetters. -/
theorem oth_where (c : Int) (utf : Bool) (h : othL c utf ≠ []) : (0 ≤ c ∧ c < 1104) ∨ c = 8490 := by
  by_cases hb : (0 ≤ c ∧ c < 1104) ∨ c = 8490
  · exact hb
  · refine absurd ?_ h
    unfold othL
    repeat' (refine ite_h (p := fun l : List Int => l = []) (fun _ => ?_) (fun _ => ?_))
    all_goals first | rfl | omega | (have := oth_bounds c ‹_›; omega)
def letter (s : ByteArray) : Bool := s.toList == (bs [76, 117]).toList || s.toList == (bs [76, 108]).toList
theorem letters_low (c : Int) (utf : Bool) (x : Int) (l : List Int) (h : othL c utf = x :: l) : letter (ofR c).cat = true ∧ letter (ofR x).cat = true ∧ (((ofR c).scr.toList == (ofR x).scr.toList) = true ∨ c = 181 ∨ x = 181) := by
  have key : ∀ c, (match othL c utf with | [] => true | x :: _ => letter (ofR c).cat && letter (ofR x).cat && ((ofR c).scr.toList == (ofR x).scr.toList || c == 181 || x == 181)) = true → othL c utf = x :: l → letter (ofR c).cat = true ∧ letter (ofR x).cat = true ∧ (((ofR c).scr.toList == (ofR x).scr.toList) = true ∨ c = 181 ∨ x = 181) := fun c h1 h2 => by
    rw [h2] at h1
    simp only [Bool.and_eq_true, Bool.or_eq_true, beq_iff_eq] at h1
    refine ⟨h1.1.1, h1.1.2, ?_⟩
    rcases h1.2 with (h3 | h3) | h3
    · exact .inl (by rw [h3]; simp)
    · exact .inr (.inl h3)
    · exact .inr (.inr h3)
  rcases oth_where c utf (by rw [h]; simp) with hc | rfl
  · refine key c ?_ h
    cases utf with
    | true => exact low_all 1104 (fun c => match othL c true with | [] => true | x :: _ => letter (ofR c).cat && letter (ofR x).cat && ((ofR c).scr.toList == (ofR x).scr.toList || c == 181 || x == 181)) (by decide +kernel) c hc.1 hc.2
    | false => exact low_all 1104 (fun c => match othL c false with | [] => true | x :: _ => letter (ofR c).cat && letter (ofR x).cat && ((ofR c).scr.toList == (ofR x).scr.toList || c == 181 || x == 181)) (by decide +kernel) c hc.1 hc.2
  · refine key 8490 ?_ h
    cases utf <;> decide +kernel
end Go.Proofs.Ytbfjpgjeglickaa.U
