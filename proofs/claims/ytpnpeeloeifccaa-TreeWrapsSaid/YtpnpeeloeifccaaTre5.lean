/- Trees: the program's walks that count nodes, depth, groups; the reference's groups. -/
import Derived.Test.YtpnpeeloeifccaaTre4
namespace Go.Proofs.Ytpnpeeloeifccaa.U
open Go Go.Vai
set_option linter.unusedVariables false
theorem av_form (n : Nd) : ∃ k a c s g N M m nm on off K, n.av = nd k a c s g N M m nm on off K ∧ npL K = true ∧ npL s = true := by
  cases n with
  | mk k a c s g N M m nm on off kids => exact ⟨k, a, c, s.map rg, g, N, M, m, nm, on, off, Nd.avs kids, rfl, np_avs kids, np_rg s⟩

/-! ### how many nodes -/
theorem walkS_loop {kids : List Nd} {depth : Int} (hk : kids.length ≤ 9223372036854775807) (h0 : 0 ≤ depth)
    (ih : ∀ n ∈ kids, ∀ l : Int, 0 ≤ l → depth + 1 + l ≤ 1000000 → A 26 [n.av, iv (depth + 1), .ptr 0 0, .fn 30 []] [[iv l]] (bv (decide (0 ≤ cnt n l))) [[iv (cnt n l)]]) :
    ∀ (d i : Nat) (l : Int), i + d = kids.length → 0 ≤ l → depth + 1 + l ≤ 1000000 →
      (cnts (kids.drop i) l < 0 → R 26 0 (s_walkS_26_0 depth (Nd.avs kids) kids.length i l) (.ret, x_walkS_26_0_0 (cnts (kids.drop i) l))) ∧
      (0 ≤ cnts (kids.drop i) l → R 26 0 (s_walkS_26_0 depth (Nd.avs kids) kids.length i l) (.exit 0, x_walkS_26_0_1 depth (Nd.avs kids) kids.length kids.length (cnts (kids.drop i) l)))
  | 0, i, l, hd, hl, hm => by
    have : i = kids.length := by omega
    subst this
    rw [List.drop_length]
    simp only [cnts]
    exact ⟨fun h => absurd h (by omega), fun _ => Rounds.last (by simp) (leads (l_walkS_26_0 _ _ _ _ _ _ ⟨fun h => absurd (dt h) (by omega), fun _ => ⟨rfl, rfl⟩⟩))⟩
  | d + 1, i, l, hd, hl, hm => by
    have hi : i < kids.length := by omega
    rw [drop_at hi]
    simp only [cnts, if_pos hl]
    have hc := ih kids[i] (List.getElem_mem hi) l hl hm
    have hb := cnt_le kids[i] l hl
    have hg := avs_get kids hi
    have hw : IntKind.wrap .i64 (depth + 1) = depth + 1 := wrap_id (by omega) (by omega)
    obtain ⟨k, a, c, s, g, N, M, m, nm, on, off, K, e, n1, n2⟩ := av_form kids[i]
    rw [e] at hg hc
    have step : ∃ e s', L 26 0 (s_walkS_26_0 depth (Nd.avs kids) kids.length i l) (e, s') ∧ ((cnt kids[i] l < 0 ∧ e = .ret ∧ s' = x_walkS_26_0_0 (cnt kids[i] l)) ∨ (0 ≤ cnt kids[i] l ∧ e = .norm ∧ s' = s_walkS_26_0 depth (Nd.avs kids) kids.length ((i + 1 : Nat) : Int) (cnt kids[i] l))) := by
      refine l_walkS_26_0 _ _ _ _ _ _ ⟨fun _ => ⟨by simp, _, _, _, _, _, _, _, _, _, _, _, _, hg, ?_, _, _, (by rw [hw]; exact hc), fun h => .inl ⟨?_, rfl, rfl⟩, fun h => .inr ⟨?_, rfl, ?_⟩⟩, fun h => absurd hi (by have := df h; omega)⟩
      · simp [npL, np, n1, n2]
      · have := df (show decide (0 ≤ cnt kids[i] l) = false by simpa using h); omega
      · exact dt (show decide (0 ≤ cnt kids[i] l) = true by simpa using h)
      · rw [next_i hi hk]
    obtain ⟨e', s', hL, h⟩ := step
    rcases h with ⟨h1, rfl, rfl⟩ | ⟨h1, rfl, rfl⟩
    · rw [cnts_neg _ _ h1]
      exact ⟨fun _ => Rounds.last (by simp) hL, fun h => absurd h (by omega)⟩
    · have r := walkS_loop hk h0 ih d (i + 1) (cnt kids[i] l) (by omega) h1 (by omega)
      exact ⟨fun h => Rounds.next hL (r.1 h), fun h => Rounds.next hL (r.2 h)⟩
theorem walkS_ok : ∀ n : Nd, n.Ok → ∀ depth l : Int, 0 ≤ depth → 0 ≤ l → depth + l ≤ 1000000 → A 26 [n.av, iv depth, .ptr 0 0, .fn 30 []] [[iv l]] (bv (decide (0 ≤ cnt n l))) [[iv (cnt n l)]] := by
  refine Nd.ind fun k a c s g N M m nm on off kids ih hok depth l h0 h1 h2 => ?_
  cases hok with
  | mk hs hk h =>
    obtain ⟨x, hx⟩ : ∃ x, x = cnt (.mk k a c s g N M m nm on off kids) l := ⟨_, rfl⟩
    rw [← hx]
    have hx : x = cnts kids (l - 1) := hx
    have hw : IntKind.wrap .i64 (l - 1) = l - 1 := wrap_id (by omega) (by omega)
    refine done (w_walkS _ _ _ _ _ _ _ _ _ _ _ _ _ _ _ ?_)
    rw [hw, avs_len]
    refine ⟨fun h3 => ?_, fun h3 => ⟨?_, ?_⟩⟩
    · have h3 := dt h3
      rw [cnts_neg _ _ h3] at hx
      rw [decide_eq_false (by omega), hx]; exact ⟨rfl, rfl⟩
    · simp [npL, np, np_rg, np_avs]
    · have h3 := df h3
      have r := walkS_loop (kids := kids) (depth := depth) hk h0 (fun n hn l' h4 h5 => ih n hn (h n hn) (depth + 1) l' (by omega) h4 h5) kids.length 0 (l - 1) (by omega) (by omega) (by omega)
      rw [List.drop_zero, ← hx] at r
      by_cases h4 : 0 ≤ x
      · exact .inr ⟨_, _, _, _, _, r.2 h4, by rw [decide_eq_true h4], rfl⟩
      · exact .inl ⟨_, r.1 (by omega), by rw [decide_eq_false h4], rfl⟩
theorem Size_ok (n : Nd) (h : n.Ok) : A 14 [n.av] [] (iv (4000 - cnt n 4000)) [] := by
  have hc := walkS_ok n h 1 4000 (by omega) (by omega) (by omega)
  have hb := cnt_le n 4000 (by omega)
  cases n with
  | mk k a c s g N M m nm on off kids =>
    refine done (w_Size _ _ _ _ _ _ _ _ _ _ _ _ _ ⟨?_, _, _, hc, ?_⟩)
    · simp [npL, np, np_rg, np_avs]
    · rw [wrap_id (by omega) (by omega)]; exact ⟨rfl, rfl⟩

/-! ### how deep -/
theorem walkD_loop {kids : List Nd} {depth : Int} (hk : kids.length ≤ 9223372036854775807) (h0 : 1 ≤ depth) (h01 : depth ≤ 300)
    (ih : ∀ n ∈ kids, ∀ l q : Int, (sz n : Int) ≤ l → l ≤ 1000000 → depth ≤ q → q ≤ 300 → ∃ l' : Int, A 26 [n.av, iv (depth + 1), .ptr 0 0, .fn 31 [.ptr 1 0]] [[iv l], [iv q]] (bv (decide (depth + ht n ≤ 300))) [[iv l'], [iv (min (max q (depth + ht n)) 301)]] ∧ (depth + ht n ≤ 300 → l' = l - sz n)) :
    ∀ (d i : Nat) (l q : Int), i + d = kids.length → (szs (kids.drop i) : Int) ≤ l → l ≤ 1000000 → depth ≤ q → q ≤ 300 →
      (depth + hts (kids.drop i) > 300 → ∃ l', R 26 0 (s_walkD_26_0 depth (Nd.avs kids) kids.length i l q) (.ret, x_walkD_26_0_0 l' 301)) ∧
      (depth + hts (kids.drop i) ≤ 300 → R 26 0 (s_walkD_26_0 depth (Nd.avs kids) kids.length i l q) (.exit 0, x_walkD_26_0_1 depth (Nd.avs kids) kids.length kids.length (l - szs (kids.drop i)) (max q (depth + hts (kids.drop i)))))
  | 0, i, l, q, hd, hl, hm, hq, hq2 => by
    have : i = kids.length := by omega
    subst this
    rw [List.drop_length]
    simp only [hts, szs]
    refine ⟨fun h => absurd h (by omega), fun _ => ?_⟩
    rw [show l - ((0 : Nat) : Int) = l by omega, show max q (depth + ((0 : Nat) : Int)) = q by omega]
    exact Rounds.last (by simp) (leads (l_walkD_26_0 _ _ _ _ _ _ _ ⟨fun h => absurd (dt h) (by omega), fun _ => ⟨rfl, rfl⟩⟩))
  | d + 1, i, l, q, hd, hl, hm, hq, hq2 => by
    have hi : i < kids.length := by omega
    rw [drop_at hi] at hl ⊢
    simp only [hts, szs] at hl ⊢
    obtain ⟨l', hc, hl'⟩ := ih kids[i] (List.getElem_mem hi) l q (by omega) hm hq hq2
    have hg := avs_get kids hi
    have hp := ht_pos kids[i]
    have hw : IntKind.wrap .i64 (depth + 1) = depth + 1 := wrap_id (by omega) (by omega)
    obtain ⟨k, a, c, s, g, N, M, m, nm, on, off, K, e, n1, n2⟩ := av_form kids[i]
    rw [e] at hg hc
    have step : ∃ e s', L 26 0 (s_walkD_26_0 depth (Nd.avs kids) kids.length i l q) (e, s') ∧ ((depth + ht kids[i] > 300 ∧ e = .ret ∧ s' = x_walkD_26_0_0 l' 301) ∨ (depth + ht kids[i] ≤ 300 ∧ e = .norm ∧ s' = s_walkD_26_0 depth (Nd.avs kids) kids.length ((i + 1 : Nat) : Int) (l - sz kids[i]) (max q (depth + ht kids[i])))) := by
      refine l_walkD_26_0 _ _ _ _ _ _ _ ⟨fun _ => ⟨by simp, _, _, _, _, _, _, _, _, _, _, _, _, hg, ?_, _, _, _, (by rw [hw]; exact hc), fun h => .inl ⟨?_, rfl, ?_⟩, fun h => .inr ⟨?_, rfl, ?_⟩⟩, fun h => absurd hi (by have := df h; omega)⟩
      · simp [npL, np, n1, n2]
      · have := df (show decide (depth + ht kids[i] ≤ 300) = false by simpa using h); omega
      · have := df (show decide (depth + ht kids[i] ≤ 300) = false by simpa using h)
        rw [show min (max q (depth + ht kids[i])) 301 = 301 by omega]
      · exact dt (show decide (depth + ht kids[i] ≤ 300) = true by simpa using h)
      · have h5 := dt (show decide (depth + ht kids[i] ≤ 300) = true by simpa using h)
        rw [next_i hi hk, hl' h5, show min (max q (depth + ht kids[i])) 301 = max q (depth + ht kids[i]) by omega]
    obtain ⟨e', s', hL, h⟩ := step
    rcases h with ⟨h1, rfl, rfl⟩ | ⟨h1, rfl, rfl⟩
    · exact ⟨fun _ => ⟨_, Rounds.last (by simp) hL⟩, fun h => absurd h (by omega)⟩
    · have r := walkD_loop hk h0 h01 ih d (i + 1) (l - sz kids[i]) (max q (depth + ht kids[i])) (by omega) (by omega) (by omega) (by omega) (by omega)
      refine ⟨fun h => ?_, fun h => ?_⟩
      · obtain ⟨l2, h2⟩ := r.1 (by omega)
        exact ⟨l2, Rounds.next hL h2⟩
      · have h2 := r.2 (by omega)
        rw [show l - sz kids[i] - szs (kids.drop (i + 1)) = l - ((sz kids[i] + szs (kids.drop (i + 1)) : Nat) : Int) by omega, show max (max q (depth + ht kids[i])) (depth + hts (kids.drop (i + 1))) = max q (depth + ((max (ht kids[i]) (hts (kids.drop (i + 1))) : Nat) : Int)) by omega] at h2
        exact Rounds.next hL h2
theorem walkD_ok : ∀ n : Nd, n.Ok → ∀ depth l q : Int, 0 ≤ depth → depth ≤ 300 → (sz n : Int) ≤ l → l ≤ 1000000 → depth ≤ q → q ≤ 300 →
    ∃ l' : Int, A 26 [n.av, iv (depth + 1), .ptr 0 0, .fn 31 [.ptr 1 0]] [[iv l], [iv q]] (bv (decide (depth + ht n ≤ 300))) [[iv l'], [iv (min (max q (depth + ht n)) 301)]] ∧ (depth + ht n ≤ 300 → l' = l - sz n) := by
  refine Nd.ind fun k a c s g N M m nm on off kids ih hok depth l q h0 h00 h1 h2 h3 h4 => ?_
  cases hok with
  | mk hs hk h =>
    obtain ⟨x, hx⟩ : ∃ x, x = ht (.mk k a c s g N M m nm on off kids) := ⟨_, rfl⟩
    obtain ⟨z, hz⟩ : ∃ z, z = sz (.mk k a c s g N M m nm on off kids) := ⟨_, rfl⟩
    rw [← hz] at h1
    rw [← hx, ← hz]
    have hx : x = hts kids + 1 := hx
    have hz : z = szs kids + 1 := hz
    have hw : IntKind.wrap .i64 (l - 1) = l - 1 := wrap_id (by omega) (by omega)
    have hmx : (if depth + 1 > q then depth + 1 else q) = max q (depth + 1) := by split <;> omega
    by_cases hdeep : depth = 300
    · refine ⟨l - 1, done (w_walkD _ _ _ _ _ _ _ _ _ _ _ _ _ _ _ _ ?_), fun h => absurd h (by omega)⟩
      rw [hw, hmx]
      refine ⟨fun h5 => absurd (dt h5) (by omega), fun h5 => ⟨fun h6 => ?_, fun h6 => ?_⟩⟩
      · rw [decide_eq_false (by omega), show min (max q (depth + (x : Int))) 301 = max q (depth + 1) by omega]
        exact ⟨rfl, rfl⟩
      · have := dt (show decide (max q (depth + 1) ≤ 300) = true by simpa using h6); omega
    · have r := walkD_loop (kids := kids) (depth := depth + 1) hk (by omega) (by omega) (fun n hn l' q' g1 g2 g3 g4 => ih n hn (h n hn) (depth + 1) l' q' (by omega) (by omega) g1 g2 g3 g4) kids.length 0 (l - 1) (max q (depth + 1)) (by omega) (by rw [List.drop_zero]; omega) (by omega) (by omega) (by omega)
      rw [List.drop_zero] at r
      by_cases h5 : depth + 1 + hts kids ≤ 300
      · refine ⟨l - 1 - szs kids, done (w_walkD _ _ _ _ _ _ _ _ _ _ _ _ _ _ _ _ ?_), fun h => by omega⟩
        rw [hw, hmx, avs_len]
        refine ⟨fun h6 => absurd (dt h6) (by omega), fun h6 => ⟨fun h7 => ?_, fun h7 => .inr ⟨_, _, _, _, _, _, r.2 h5, ?_, ?_⟩⟩⟩
        · have := df (show decide (max q (depth + 1) ≤ 300) = false by simpa using h7); omega
        · rw [decide_eq_true (by omega)]
        · rw [show max (max q (depth + 1)) (depth + 1 + hts kids) = min (max q (depth + (x : Int))) 301 by omega]
      · obtain ⟨l', r1⟩ := r.1 (by omega)
        refine ⟨l', done (w_walkD _ _ _ _ _ _ _ _ _ _ _ _ _ _ _ _ ?_), fun h => absurd h (by omega)⟩
        rw [hw, hmx, avs_len]
        refine ⟨fun h6 => absurd (dt h6) (by omega), fun h6 => ⟨fun h7 => ?_, fun h7 => .inl ⟨_, _, r1, ?_, ?_⟩⟩⟩
        · have := df (show decide (max q (depth + 1) ≤ 300) = false by simpa using h7); omega
        · rw [decide_eq_false (by omega)]
        · rw [show min (max q (depth + (x : Int))) 301 = 301 by omega]
theorem Depth_ok (n : Nd) (h : n.Ok) (hs : sz n ≤ 4000) : A 16 [n.av] [] (iv (cap 301 (ht n))) [] := by
  obtain ⟨l', hc, _⟩ := walkD_ok n h 0 4000 0 (by omega) (by omega) (by omega) (by omega) (by omega) (by omega)
  have hp := ht_pos n
  rw [show min (max 0 (0 + (ht n : Int))) 301 = cap 301 (ht n) by unfold cap; omega] at hc
  cases n with
  | mk k a c s g N M m nm on off kids =>
    refine done (w_Depth _ _ _ _ _ _ _ _ _ _ _ _ _ ⟨?_, _, _, _, hc, ⟨rfl, rfl⟩⟩)
    simp [npL, np, np_rg, np_avs]
end Go.Proofs.Ytpnpeeloeifccaa.U
