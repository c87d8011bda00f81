/- Trees: a whole tree may be: the program's walk and the reference's; the law of checks. -/
import Derived.Test.YtpnpeeloeifccaaTre8
namespace Go.Proofs.Ytpnpeeloeifccaa.U
open Go Go.Vai
set_option linter.unusedVariables false
mutual
def chk : Nd → Int → Bool
  | .mk k a c s g N M m nm on off kids, d => decide (d ≤ 300) && may (.mk k a c s g N M m nm on off kids) && chks kids (d + 1)
def chks : List Nd → Int → Bool
  | [], _ => true
  | n :: r, d => chk n d && chks r d
end
mutual
def allB : Nd → Bool
  | .mk k a c s g N M m nm on off kids => may (.mk k a c s g N M m nm on off kids) && allBs kids
def allBs : List Nd → Bool
  | [] => true
  | n :: r => allB n && allBs r
end
def le3 (d : Int) (h : Nat) : Bool := decide (d + h ≤ 301)
theorem le3_t {d : Int} {h : Nat} (p : d + h ≤ 301) : le3 d h = true := decide_eq_true p
theorem le3_f {d : Int} {h : Nat} (p : ¬ d + h ≤ 301) : le3 d h = false := decide_eq_false p
mutual
theorem chk_all : ∀ (n : Nd) (d : Int), chk n d = (le3 d (ht n) && allB n)
  | .mk k a c s g N M m nm on off kids, d => by
    simp only [chk, allB, ht]
    rw [chks_all kids (d + 1)]
    generalize may _ = x
    by_cases h1 : d + 1 + (hts kids : Int) ≤ 301
    · by_cases h2 : d ≤ 300
      · rw [le3_t h1, le3_t (show d + ((hts kids + 1 : Nat) : Int) ≤ 301 by omega), decide_eq_true h2]
        simp
      · have hk : kids.isEmpty = true ∨ kids.isEmpty = false := by cases kids.isEmpty <;> simp
        exfalso; omega
    · rw [le3_f h1, le3_f (show ¬ d + ((hts kids + 1 : Nat) : Int) ≤ 301 by omega)]
      cases kids with
      | nil =>
        simp only [hts] at h1
        rw [decide_eq_false (show ¬ d ≤ 300 by omega)]
        simp
      | cons y r => simp
theorem chks_all : ∀ (k : List Nd) (d : Int), chks k d = ((le3 d (hts k) || k.isEmpty) && allBs k)
  | [], d => by simp [chks, allBs]
  | n :: r, d => by
    simp only [chks, allBs, hts]
    rw [chk_all n d, chks_all r d]
    have hp := ht_pos n
    cases r with
    | nil => simp [hts, allBs]
    | cons x l =>
      simp only [List.isEmpty_cons, Bool.or_false]
      by_cases h1 : d + (ht n : Int) ≤ 301 <;> by_cases h2 : d + (hts (x :: l) : Int) ≤ 301
      · rw [le3_t h1, le3_t h2, le3_t (show d + ((max (ht n) (hts (x :: l)) : Nat) : Int) ≤ 301 by omega)]; simp
      · rw [le3_t h1, le3_f h2, le3_f (show ¬ d + ((max (ht n) (hts (x :: l)) : Nat) : Int) ≤ 301 by omega)]; simp
      · rw [le3_f h1, le3_t h2, le3_f (show ¬ d + ((max (ht n) (hts (x :: l)) : Nat) : Int) ≤ 301 by omega)]; simp
      · rw [le3_f h1, le3_f h2, le3_f (show ¬ d + ((max (ht n) (hts (x :: l)) : Nat) : Int) ≤ 301 by omega)]; simp
end
def leI (z : Nat) (l : Int) : Bool := decide ((z : Int) ≤ l)
theorem leI_y {z : Nat} {l : Int} (h : leI z l = true) : (z : Int) ≤ l := of_decide_eq_true h
theorem leI_n {z : Nat} {l : Int} (h : leI z l = false) : ¬ (z : Int) ≤ l := of_decide_eq_false h
theorem leI_f {z : Nat} {l : Int} (h : ¬ (z : Int) ≤ l) : leI z l = false := decide_eq_false h
theorem leI_eq {z z' : Nat} {l l' : Int} (h : (z : Int) ≤ l ↔ (z' : Int) ≤ l') : leI z l = leI z' l' := decide_eq_decide.2 h
theorem walkC_loop {kids : List Nd} {depth : Int} (hk : kids.length ≤ 9223372036854775807) (h0 : 0 ≤ depth)
    (ih : ∀ n ∈ kids, ∀ l : Int, 0 ≤ l → depth + 1 + l ≤ 1000000 → ∃ l' : Int, A 26 [n.av, iv (depth + 1), .ptr 0 0, .fn 27 []] [[iv l]] (bv (chk n (depth + 1) && leI (sz n) l)) [[iv l']] ∧ ((chk n (depth + 1) && leI (sz n) l) = true → l' = l - sz n)) :
    ∀ (d i : Nat) (l : Int), i + d = kids.length → 0 ≤ l → depth + 1 + l ≤ 1000000 →
      ((chks (kids.drop i) (depth + 1) && leI (szs (kids.drop i)) l) = false → ∃ l', R 26 0 (s_walkC_26_0 depth (Nd.avs kids) kids.length i l) (.ret, x_walkC_26_0_0 l')) ∧
      ((chks (kids.drop i) (depth + 1) && leI (szs (kids.drop i)) l) = true → R 26 0 (s_walkC_26_0 depth (Nd.avs kids) kids.length i l) (.exit 0, x_walkC_26_0_1 depth (Nd.avs kids) kids.length kids.length (l - szs (kids.drop i))))
  | 0, i, l, hd, hl, hm => by
    have : i = kids.length := by omega
    subst this
    rw [List.drop_length]
    simp only [chks, szs, Bool.true_and]
    refine ⟨fun h => absurd hl (by have := leI_n h; omega), fun _ => ?_⟩
    rw [show l - ((0 : Nat) : Int) = l by omega]
    exact Rounds.last (by simp) (leads (l_walkC_26_0 _ _ _ _ _ _ ⟨fun h => absurd (dt h) (by omega), fun _ => ⟨rfl, rfl⟩⟩))
  | d + 1, i, l, hd, hl, hm => by
    have hi : i < kids.length := by omega
    rw [drop_at hi]
    simp only [chks, szs]
    obtain ⟨l', hc, hl'⟩ := ih kids[i] (List.getElem_mem hi) l hl hm
    have hg := avs_get kids hi
    have hp := sz_pos kids[i]
    have hw : IntKind.wrap .i64 (depth + 1) = depth + 1 := wrap_id (by omega) (by omega)
    obtain ⟨k, a, c, s, g, N, M, m, nm, on, off, K, e, n1, n2⟩ := av_form kids[i]
    rw [e] at hg hc
    generalize hb : (chk kids[i] (depth + 1) && leI (sz kids[i]) l) = b at hc hl'
    have step : ∃ e s', L 26 0 (s_walkC_26_0 depth (Nd.avs kids) kids.length i l) (e, s') ∧ ((b = false ∧ e = .ret ∧ s' = x_walkC_26_0_0 l') ∨ (b = true ∧ e = .norm ∧ s' = s_walkC_26_0 depth (Nd.avs kids) kids.length ((i + 1 : Nat) : Int) l')) := by
      refine l_walkC_26_0 _ _ _ _ _ _ ⟨fun _ => ⟨by simp, _, _, _, _, _, _, _, _, _, _, _, _, hg, ?_, _, _, (by rw [hw]; exact hc), fun h => .inl ⟨by simpa using h, rfl, rfl⟩, fun h => .inr ⟨by simpa using h, rfl, ?_⟩⟩, fun h => absurd hi (by have := df h; omega)⟩
      · simp [npL, np, n1, n2]
      · rw [next_i hi hk]
    obtain ⟨e', s', hL, h⟩ := step
    rcases h with ⟨rfl, rfl, rfl⟩ | ⟨rfl, rfl, rfl⟩
    · refine ⟨fun _ => ⟨_, Rounds.last (by simp) hL⟩, fun h => ?_⟩
      simp only [Bool.and_eq_true] at h
      rw [h.1.1, Bool.true_and] at hb
      have := leI_n hb; have := leI_y h.2; omega
    · simp only [Bool.and_eq_true] at hb
      have hb2 := leI_y hb.2
      rw [hl' rfl] at hL
      have r := walkC_loop hk h0 ih d (i + 1) (l - sz kids[i]) (by omega) (by omega) (by omega)
      have e2 : (chk kids[i] (depth + 1) && chks (kids.drop (i + 1)) (depth + 1) && leI (sz kids[i] + szs (kids.drop (i + 1))) l) = (chks (kids.drop (i + 1)) (depth + 1) && leI (szs (kids.drop (i + 1))) (l - sz kids[i])) := by
        rw [hb.1, Bool.true_and]
        congr 1
        exact leI_eq (by omega)
      rw [e2]
      refine ⟨fun h => ?_, fun h => ?_⟩
      · obtain ⟨l2, h2⟩ := r.1 h
        exact ⟨l2, Rounds.next hL h2⟩
      · have h2 := r.2 h
        rw [show l - sz kids[i] - szs (kids.drop (i + 1)) = l - ((sz kids[i] + szs (kids.drop (i + 1)) : Nat) : Int) by omega] at h2
        exact Rounds.next hL h2
theorem walkC_ok : ∀ n : Nd, n.Ok → ∀ d l : Int, 0 ≤ d → 0 ≤ l → d + l ≤ 1000000 →
    ∃ l' : Int, A 26 [n.av, iv d, .ptr 0 0, .fn 27 []] [[iv l]] (bv (chk n d && leI (sz n) l)) [[iv l']] ∧ ((chk n d && leI (sz n) l) = true → l' = l - sz n) := by
  refine Nd.ind fun k a c s g N M m nm on off kids ih hok d l h0 h1 h2 => ?_
  cases hok with
  | mk hs hk h =>
    obtain ⟨z, hz⟩ : ∃ z, z = sz (.mk k a c s g N M m nm on off kids) := ⟨_, rfl⟩
    obtain ⟨q, hq⟩ : ∃ q, q = chk (.mk k a c s g N M m nm on off kids) d := ⟨_, rfl⟩
    rw [← hz, ← hq]
    have hz : z = szs kids + 1 := hz
    have hm := may_ok (k := k) (a := a) (c := c) (s := s) (g := g) (N := N) (M := M) (m := m) (nm := nm) (on := on) (off := off) (kids := kids) hs
    have hn := np_node (k := k) (a := a) (c := c) (s := s) (g := g) (N := N) (M := M) (m := m) (nm := nm) (on := on) (off := off) (kids := kids)
    have hq : q = (decide (d ≤ 300) && may (.mk k a c s g N M m nm on off kids) && chks kids (d + 1)) := hq
    generalize may (.mk k a c s g N M m nm on off kids) = y at hm hq
    have hw : IntKind.wrap .i64 (l - 1) = l - 1 := wrap_id (by omega) (by omega)
    by_cases hl : l = 0
    · refine ⟨l - 1, done (w_walkC _ _ _ _ _ _ _ _ _ _ _ _ _ _ _ ⟨fun h3 => ?_, fun h3 => ?_⟩), fun h => ?_⟩
      · rw [hw, leI_f (show ¬ (z : Int) ≤ l by omega), Bool.and_false]; exact ⟨rfl, rfl⟩
      · rw [hw] at h3; have := df h3; omega
      · rw [leI_f (show ¬ (z : Int) ≤ l by omega), Bool.and_false] at h; cases h
    · have first : ∀ (l' : Int) (b : Bool), (d ≤ 300 → y = true → (∃ e s', R 26 0 (s_walkC_26_0 d (Nd.avs kids) kids.length (0 : Nat) (l - 1)) (e, s') ∧ ((b = false ∧ e = .ret ∧ s' = x_walkC_26_0_0 l') ∨ (b = true ∧ e = .exit 0 ∧ ∃ j, s' = x_walkC_26_0_1 d (Nd.avs kids) kids.length j l')))) →
          (¬ (d ≤ 300 ∧ y = true) → b = false ∧ l' = l - 1) → A 26 [(Nd.mk k a c s g N M m nm on off kids).av, iv d, .ptr 0 0, .fn 27 []] [[iv l]] (bv b) [[iv l']] := fun l' b hb hnb => by
        refine done (w_walkC _ _ _ _ _ _ _ _ _ _ _ _ _ _ _ ⟨fun h3 => ?_, fun h3 => ⟨?_, fun h4 => ⟨hn, _, hm, fun h5 => ?_, fun h5 => ?_⟩, fun h4 => ?_⟩⟩)
        · rw [hw] at h3; have := dt h3; omega
        · simp [npL, np, np_rg, np_avs]
        · have : y = false := by simpa using h5
          obtain ⟨rfl, rfl⟩ := hnb (by simp [this])
          rw [hw]; exact ⟨rfl, rfl⟩
        · have : y = true := by simpa using h5
          obtain ⟨e, s', hR, h6⟩ := hb (dt h4) this
          rw [hw, avs_len]
          rcases h6 with ⟨rfl, rfl, rfl⟩ | ⟨rfl, rfl, j, rfl⟩
          · exact .inl ⟨_, hR, rfl, rfl⟩
          · exact .inr ⟨_, _, _, _, _, hR, rfl, rfl⟩
        · obtain ⟨rfl, rfl⟩ := hnb (fun h => absurd h.1 (df h4))
          rw [hw]; exact ⟨rfl, rfl⟩
      have r := walkC_loop (kids := kids) (depth := d) hk h0 (fun n hn l' h4 h5 => ih n hn (h n hn) (d + 1) l' (by omega) h4 h5) kids.length 0 (l - 1) (by omega) (by omega) (by omega)
      rw [List.drop_zero] at r
      by_cases hy : d ≤ 300 ∧ y = true
      · have hq : q = chks kids (d + 1) := by rw [hq, decide_eq_true hy.1, hy.2]; rfl
        have e2 : (q && leI z l) = (chks kids (d + 1) && leI (szs kids) (l - 1)) := by
          rw [hq]; congr 1; exact leI_eq (by omega)
        rw [e2]
        cases hb : (chks kids (d + 1) && leI (szs kids) (l - 1)) with
        | false =>
          obtain ⟨l', hR⟩ := r.1 hb
          exact ⟨l', first l' false (fun _ _ => ⟨_, _, hR, .inl ⟨rfl, rfl, rfl⟩⟩) (fun h => absurd hy h), fun h => by cases h⟩
        | true =>
          exact ⟨l - 1 - szs kids, first _ true (fun _ _ => ⟨_, _, r.2 hb, .inr ⟨rfl, rfl, _, rfl⟩⟩) (fun h => absurd hy h), fun _ => by omega⟩
      · have hq : q = false := by
          rw [hq]
          by_cases h3 : d ≤ 300
          · have : y = false := by simpa using fun h => hy ⟨h3, h⟩
            rw [this]; simp
          · rw [decide_eq_false h3]; simp
        rw [hq, Bool.false_and]
        exact ⟨l - 1, first _ false (fun h3 h4 => absurd ⟨h3, h4⟩ hy) (fun _ => ⟨rfl, rfl⟩), fun h => by cases h⟩
theorem Check_ok (n : Nd) (h : n.Ok) : A 12 [n.av] [] (bv (chk n 1 && decide (sz n ≤ 4000))) [] := by
  obtain ⟨l', hc, _⟩ := walkC_ok n h 1 4000 (by omega) (by omega) (by omega)
  have e : leI (sz n) 4000 = decide (sz n ≤ 4000) := decide_eq_decide.2 (by omega)
  rw [e] at hc
  generalize (chk n 1 && decide (sz n ≤ 4000)) = b at hc
  cases n with
  | mk k a c s g N M m nm on off kids =>
    refine done (w_Check _ _ _ _ _ _ _ _ _ _ _ _ _ ⟨?_, _, _, hc, rfl, rfl⟩)
    simp [npL, np, np_rg, np_avs]

/-! ### the reference -/
section
variable {k a c : Int} {s : List AV} {g : Bool} {N M m : Int} {nm : ByteArray} {on off : Int}
theorem all_loop {kids : List Nd} (hk : kids.length ≤ 9223372036854775807) (ih : ∀ n ∈ kids, A 29 [n.av] [] (bv (allB n)) []) : ∀ (d i : Nat), i + d = kids.length →
    (allBs (kids.drop i) = false → R 29 0 (s_all_29_0 k a c s g N M m nm on off (Nd.avs kids) i) (.ret, x_all_29_0_0)) ∧
    (allBs (kids.drop i) = true → ∃ j : Int, R 29 0 (s_all_29_0 k a c s g N M m nm on off (Nd.avs kids) i) (.exit 0, x_all_29_0_1 k a c s g N M m nm on off (Nd.avs kids) j))
  | 0, i, hd => by
    have : i = kids.length := by omega
    subst this
    rw [List.drop_length]
    simp only [allBs]
    exact ⟨fun h => (by cases h), fun _ => ⟨_, Rounds.last (by simp) (leads (l_all_29_0 _ _ _ _ _ _ _ _ _ _ _ _ _ _ ⟨fun h => absurd (dt h) (by rw [avs_len]; omega), fun _ => ⟨rfl, rfl⟩⟩))⟩⟩
  | d + 1, i, hd => by
    have hi : i < kids.length := by omega
    rw [drop_at hi]
    simp only [allBs]
    have hc := ih kids[i] (List.getElem_mem hi)
    have hg := avs_get kids hi
    obtain ⟨k', a', c', s', g', N', M', m', nm', on', off', K, e, n1, n2⟩ := av_form kids[i]
    rw [e] at hg hc
    generalize allB kids[i] = b at hc
    have step : ∃ e s', L 29 0 (s_all_29_0 k a c s g N M m nm on off (Nd.avs kids) i) (e, s') ∧ ((b = false ∧ e = .ret ∧ s' = x_all_29_0_0) ∨ (b = true ∧ e = .norm ∧ s' = s_all_29_0 k a c s g N M m nm on off (Nd.avs kids) ((i + 1 : Nat) : Int))) := by
      refine l_all_29_0 _ _ _ _ _ _ _ _ _ _ _ _ _ _ ⟨fun _ => ⟨by simp, _, _, _, _, _, _, _, _, _, _, _, _, hg, ?_, _, hc, fun h => .inl ⟨by simpa using h, rfl, rfl⟩, fun h => .inr ⟨by simpa using h, rfl, ?_⟩⟩, fun h => absurd hi (len_i h)⟩
      · simp [npL, np, n1, n2]
      · rw [next_i hi hk]
    obtain ⟨e', s'', hL, h⟩ := step
    rcases h with ⟨rfl, rfl, rfl⟩ | ⟨rfl, rfl, rfl⟩
    · exact ⟨fun _ => Rounds.last (by simp) hL, fun h => by cases h⟩
    · have r := all_loop hk ih d (i + 1) (by omega)
      rw [Bool.true_and]
      refine ⟨fun h => Rounds.next hL (r.1 h), fun h => ?_⟩
      obtain ⟨j, h2⟩ := r.2 h
      exact ⟨j, Rounds.next hL h2⟩
end
theorem all_ok : ∀ n : Nd, n.Ok → A 29 [n.av] [] (bv (allB n)) [] := by
  refine Nd.ind fun k a c s g N M m nm on off kids ih hok => ?_
  cases hok with
  | mk hs hk h =>
    have hm := May_ok (k := k) (a := a) (c := c) (s := s) (g := g) (N := N) (M := M) (m := m) (nm := nm) (on := on) (off := off) (kids := kids) hs
    have hn := np_node (k := k) (a := a) (c := c) (s := s) (g := g) (N := N) (M := M) (m := m) (nm := nm) (on := on) (off := off) (kids := kids)
    have r := all_loop (k := k) (a := a) (c := c) (s := s.map rg) (g := g) (N := N) (M := M) (m := m) (nm := nm) (on := on) (off := off) hk (fun n hn => ih n hn (h n hn)) kids.length 0 (by omega)
    rw [List.drop_zero] at r
    simp only [allB]
    generalize may (.mk k a c s g N M m nm on off kids) = y at hm
    refine done (w_all _ _ _ _ _ _ _ _ _ _ _ _ _ ⟨hn, _, hm, fun h2 => ?_, fun h2 => ?_⟩)
    · have : y = false := by simpa using h2
      rw [this]; exact ⟨rfl, rfl⟩
    · have : y = true := by simpa using h2
      rw [this, Bool.true_and]
      cases hb : allBs kids with
      | false => exact .inl ⟨r.1 hb, rfl, rfl⟩
      | true =>
        obtain ⟨j, h3⟩ := r.2 hb
        exact .inr ⟨_, _, _, _, _, _, _, _, _, _, _, _, _, h3, rfl, rfl⟩
theorem rCheck_ok (n : Nd) (h : n.Ok) : A 13 [n.av] [] (bv (chk n 1 && decide (sz n ≤ 4000))) [] := by
  have h3 := Small_ok n h
  have h5 := rDepth_ok n h
  have h6 := all_ok n h
  have h7 := np_one n
  rw [small_sz] at h3
  have e : chk n 1 = (decide (cap 301 (ht n) ≤ 300) && allB n) := by
    rw [chk_all]
    congr 1
    unfold le3
    exact decide_eq_decide.2 (by unfold cap; omega)
  rw [e]
  revert h3 h5 h6 h7
  generalize decide (sz n ≤ 4000) = b
  generalize cap 301 (ht n) = q
  generalize allB n = y
  cases n with
  | mk k a c s g N M m nm on off kids =>
    intro h3 h5 h6 h7
    refine done (w_rCheck _ _ _ _ _ _ _ _ _ _ _ _ _ ⟨h7, _, h3, fun h => ⟨h7, _, h5, fun h2 => ⟨h7, _, h6, ?_, rfl⟩, fun h2 => ⟨?_, rfl⟩⟩, fun h => ⟨?_, rfl⟩⟩)
    · rw [h, h2]; simp
    · rw [h2]; simp
    · rw [h]; simp
theorem checks (n : Nd) (h : n.Ok) : A 3 [n.av] [] (bv true) [] := by
  have h3 := Small_ok n h
  have h5 := rCheck_ok n h
  have h6 := Check_ok n h
  have h7 := np_one n
  rw [small_sz] at h3
  revert h3 h5 h6 h7
  generalize decide (sz n ≤ 4000) = b
  generalize chk n 1 = y
  cases n with
  | mk k a c s g N M m nm on off kids =>
    intro h3 h5 h6 h7
    refine done (w_TreeChecks _ _ _ _ _ _ _ _ _ _ _ _ _ ⟨awake, h7, _, h3, fun h => ⟨h7, _, h6, ?_, rfl⟩, fun h => ⟨h7, _, h6, h7, _, h5, ?_, rfl⟩⟩)
    · have : b = false := by simpa using h
      rw [this]; simp
    · simp
end Go.Proofs.Ytpnpeeloeifccaa.U
