/- Trees: when two trees are the same: the program's answer and the reference's. -/
import Derived.Test.YtpnpeeloeifccaaTre9b
namespace Go.Proofs.Ytpnpeeloeifccaa.U
open Go Go.Vai
set_option linter.unusedVariables false
def bareB (k c : Int) (s : List (Int × Int)) (g : Bool) (N M m : Int) (nm : ByteArray) (on off : Int) (k' c' : Int) (s' : List (Int × Int)) (g' : Bool) (N' M' m' : Int) (nm' : ByteArray) (on' off' : Int) : Bool :=
  k == k' && c == c' && g == g' && N == N' && M == M' && m == m' && nm.toList == nm'.toList && on == on' && off == off' && decide (s = s')
mutual
def sameB : Nd → Nd → Bool
  | .mk k _ c s g N M m nm on off kids, .mk k' _ c' s' g' N' M' m' nm' on' off' kids' => bareB k c s g N M m nm on off k' c' s' g' N' M' m' nm' on' off' && sames kids kids'
def sames : List Nd → List Nd → Bool
  | [], [] => true
  | n :: r, m :: q => sameB n m && sames r q
  | _, _ => false
end
theorem sames_len : ∀ {k q : List Nd}, sames k q = true → k.length = q.length
  | [], [], _ => rfl
  | n :: r, m :: q, h => by
    simp only [sames, Bool.and_eq_true] at h
    simp [sames_len h.2]
  | [], _ :: _, h => by simp [sames] at h
  | _ :: _, [], h => by simp [sames] at h
theorem rngEq_loop {s s' : List (Int × Int)} (hs : s.length ≤ 9223372036854775807) (hl : s.length = s'.length) : ∀ (d i : Nat), i + d = s.length →
    (s.drop i ≠ s'.drop i → R 47 0 (s_rngEq_47_0 (s.map rg) (s'.map rg) s.length i) (.ret, x_rngEq_47_0_0)) ∧
    (s.drop i = s'.drop i → ∃ j : Int, R 47 0 (s_rngEq_47_0 (s.map rg) (s'.map rg) s.length i) (.exit 0, x_rngEq_47_0_1 (s.map rg) (s'.map rg) s.length j))
  | 0, i, hd => by
    have : i = s.length := by omega
    subst this
    rw [List.drop_length, hl, List.drop_length]
    exact ⟨fun h => absurd rfl h, fun _ => ⟨_, Rounds.last (by simp) (leads (l_rngEq_47_0 _ _ _ _ _ ⟨fun h => absurd (dt h) (by omega), fun _ => ⟨rfl, rfl⟩⟩))⟩⟩
  | d + 1, i, hd => by
    have hi : i < s.length := by omega
    have hi' : i < s'.length := by omega
    rw [drop_at hi, drop_at hi']
    have hg := rg_get s hi
    have hg' := rg_get s' hi'
    have step : ∃ e q, L 47 0 (s_rngEq_47_0 (s.map rg) (s'.map rg) s.length i) (e, q) ∧ ((s[i] ≠ s'[i] ∧ e = .ret ∧ q = x_rngEq_47_0_0) ∨ (s[i] = s'[i] ∧ e = .norm ∧ q = s_rngEq_47_0 (s.map rg) (s'.map rg) s.length ((i + 1 : Nat) : Int))) := by
      refine l_rngEq_47_0 _ _ _ _ _ ⟨fun _ => ⟨by simp, _, _, hg, by simp, _, _, hg', _, rng_neq _ _ _ _ _ _, fun h => .inl ⟨?_, rfl, rfl⟩, fun h => .inr ⟨?_, rfl, ?_⟩⟩, fun h => absurd hi (by have := df h; omega)⟩
      · intro h2; rw [h2] at h; simp at h
      · simp only [Bool.not_eq_false', Bool.and_eq_true, beq_iff_eq] at h
        exact Prod.ext h.1 h.2
      · rw [next_i hi hs]
    obtain ⟨e', q, hL, h⟩ := step
    rcases h with ⟨h1, rfl, rfl⟩ | ⟨h1, rfl, rfl⟩
    · exact ⟨fun _ => Rounds.last (by simp) hL, fun h => by injection h with h2; exact absurd h2 h1⟩
    · have r := rngEq_loop hs hl d (i + 1) (by omega)
      rw [h1]
      refine ⟨fun h => Rounds.next hL (r.1 (fun h2 => h (by rw [h2]))), fun h => ?_⟩
      injection h with _ h
      obtain ⟨j, h2⟩ := r.2 h
      exact ⟨j, Rounds.next hL h2⟩
theorem rngEq_ok (s s' : List (Int × Int)) (hs : s.length ≤ 9223372036854775807) : A 47 [.sl 2 (s.map rg), .sl 2 (s'.map rg)] [] (bv (decide (s = s'))) [] := by
  refine done (w_rngEq _ _ _ ?_)
  rw [rg_len, rg_len]
  refine ⟨fun h => ?_, fun h => ?_⟩
  · have : s ≠ s' := by intro h2; rw [h2] at h; simp at h
    rw [decide_eq_false this]; exact ⟨rfl, rfl⟩
  · have hl : s.length = s'.length := by simp at h; omega
    have r := rngEq_loop hs hl s.length 0 (by omega)
    rw [List.drop_zero, List.drop_zero] at r
    by_cases he : s = s'
    · obtain ⟨j, h2⟩ := r.2 he
      rw [decide_eq_true he]
      exact .inr ⟨_, _, _, _, h2, rfl, rfl⟩
    · rw [decide_eq_false he]
      exact .inl ⟨r.1 he, rfl, rfl⟩
section
variable {k a c : Int} {s : List (Int × Int)} {g : Bool} {N M m : Int} {nm : ByteArray} {on off : Int} {kids : List Nd}
variable {k' a' c' : Int} {s' : List (Int × Int)} {g' : Bool} {N' M' m' : Int} {nm' : ByteArray} {on' off' : Int} {kids' : List Nd}
theorem bare_ok (hs : s.length ≤ 9223372036854775807) : A 42 [(Nd.mk k a c s g N M m nm on off kids).av, (Nd.mk k' a' c' s' g' N' M' m' nm' on' off' kids').av] [] (bv (bareB k c s g N M m nm on off k' c' s' g' N' M' m' nm' on' off')) [] := by
  have hr := rngEq_ok s s' hs
  obtain ⟨z, hz⟩ : ∃ z, z = bareB k c s g N M m nm on off k' c' s' g' N' M' m' nm' on' off' := ⟨_, rfl⟩
  rw [← hz]
  have hb : z = (k == k' && c == c' && g == g' && N == N' && M == M' && m == m' && nm.toList == nm'.toList && on == on' && off == off' && decide (s = s')) := hz
  clear hz
  generalize decide (s = s') = y at hr hb
  refine done (w_bare _ _ _ _ _ _ _ _ _ _ _ _ _ _ _ _ _ _ _ _ _ _ _ _ _ ?_)
  have np2 : npL [.sl 2 (s.map rg), .sl 2 (s'.map rg)] = true := by simp [npL, np, np_rg]
  repeat' (first | refine ⟨fun h => ?_, fun h => ?_⟩ | refine ⟨np2, _, hr, ?_⟩ | fail)
  all_goals (clear hr np2; refine ⟨congrArg bv ?_, rfl⟩; rw [hb]; clear hb; simp only [*, Bool.true_and, Bool.and_true, Bool.false_and, Bool.and_false])
end
theorem np_two (n m : Nd) : npL [n.av, m.av] = true := by simp [npL, np_av]
theorem eqf_loop {K K' : List Nd} (hk : K.length ≤ 9223372036854775807) (hl : K.length = K'.length)
    (ih : ∀ n ∈ K, ∀ m : Nd, ∀ l : Int, (sz n : Int) ≤ l → l ≤ 1000000 → ∃ l' : Int, A 33 [n.av, m.av, .ptr 0 0] [[iv l]] (bv (sameB n m)) [[iv l']] ∧ l - sz n ≤ l' ∧ l' ≤ l) :
    ∀ (d i : Nat) (l : Int), i + d = K.length → (szs (K.drop i) : Int) ≤ l → l ≤ 1000000 →
      (sames (K.drop i) (K'.drop i) = false → ∃ l' : Int, R 43 0 (s_eqf_43_0 (Nd.avs K') (Nd.avs K) K.length i l) (.ret, x_eqf_43_0_0 l') ∧ l - szs (K.drop i) ≤ l' ∧ l' ≤ l) ∧
      (sames (K.drop i) (K'.drop i) = true → ∃ j l' : Int, R 43 0 (s_eqf_43_0 (Nd.avs K') (Nd.avs K) K.length i l) (.exit 0, x_eqf_43_0_1 (Nd.avs K') (Nd.avs K) K.length j l') ∧ l - szs (K.drop i) ≤ l' ∧ l' ≤ l)
  | 0, i, l, hd, h1, h2 => by
    have : i = K.length := by omega
    subst this
    rw [List.drop_length, hl, List.drop_length]
    simp only [sames, szs]
    exact ⟨fun h => (by cases h), fun _ => ⟨_, l, Rounds.last (by simp) (leads (l_eqf_43_0 _ _ _ _ _ _ ⟨fun h => absurd (dt h) (by omega), fun _ => ⟨rfl, rfl⟩⟩)), by omega, by omega⟩⟩
  | d + 1, i, l, hd, h1, h2 => by
    have hi : i < K.length := by omega
    have hi' : i < K'.length := by omega
    rw [drop_at hi] at h1
    rw [drop_at hi, drop_at hi']
    simp only [sames, szs] at h1 ⊢
    obtain ⟨l', hc, b1, b2⟩ := ih K[i] (List.getElem_mem hi) K'[i] l (by omega) h2
    have hg := avs_get K hi
    have hg' := avs_get K' hi'
    have hn : npL [K[i].av, K'[i].av, .ptr 0 0] = false := by simp [npL, np, np_av]
    generalize sameB K[i] K'[i] = b at hc
    have step : ∃ e q, L 43 0 (s_eqf_43_0 (Nd.avs K') (Nd.avs K) K.length i l) (e, q) ∧ ((b = false ∧ e = .ret ∧ q = x_eqf_43_0_0 l') ∨ (b = true ∧ e = .norm ∧ q = s_eqf_43_0 (Nd.avs K') (Nd.avs K) K.length ((i + 1 : Nat) : Int) l')) := by
      obtain ⟨k1, a1, c1, s1, g1, N1, M1, m1, nm1, on1, off1, K1, e1, _, _⟩ := av_form K[i]
      obtain ⟨k2, a2, c2, s2, g2, N2, M2, m2, nm2, on2, off2, K2, e2, _, _⟩ := av_form K'[i]
      rw [e1] at hg hc hn
      rw [e2] at hg' hc hn
      refine l_eqf_43_0 _ _ _ _ _ _ ⟨fun _ => ⟨by simp, _, _, _, _, _, _, _, _, _, _, _, _, hg, by simp, _, _, _, _, _, _, _, _, _, _, _, _, hg', hn, _, _, hc, fun h => .inl ⟨by simpa using h, rfl, rfl⟩, fun h => .inr ⟨by simpa using h, rfl, ?_⟩⟩, fun h => absurd hi (by have := df h; omega)⟩
      rw [next_i hi hk]
    obtain ⟨e', q, hL, h⟩ := step
    rcases h with ⟨rfl, rfl, rfl⟩ | ⟨rfl, rfl, rfl⟩
    · exact ⟨fun _ => ⟨l', Rounds.last (by simp) hL, by omega, by omega⟩, fun h => by cases h⟩
    · have r := eqf_loop hk hl ih d (i + 1) l' (by omega) (by omega) (by omega)
      rw [Bool.true_and]
      refine ⟨fun h => ?_, fun h => ?_⟩
      · obtain ⟨l2, h3, h4, h5⟩ := r.1 h
        exact ⟨l2, Rounds.next hL h3, by omega, by omega⟩
      · obtain ⟨j, l2, h3, h4, h5⟩ := r.2 h
        exact ⟨j, l2, Rounds.next hL h3, by omega, by omega⟩
theorem same_ok : ∀ n : Nd, n.Ok → ∀ m : Nd, ∀ l : Int, (sz n : Int) ≤ l → l ≤ 1000000 → ∃ l' : Int, A 33 [n.av, m.av, .ptr 0 0] [[iv l]] (bv (sameB n m)) [[iv l']] ∧ l - sz n ≤ l' ∧ l' ≤ l := by
  refine Nd.ind fun k a c s g N M m nm on off kids ih hok m2 l h1 h2 => ?_
  obtain ⟨z, hz⟩ : ∃ z, z = sz (.mk k a c s g N M m nm on off kids) := ⟨_, rfl⟩
  rw [← hz] at h1 ⊢
  have hz : z = szs kids + 1 := hz
  have hn2 := np_two (.mk k a c s g N M m nm on off kids) m2
  cases hok with
  | mk hs hk h =>
  cases m2 with
  | mk k' a' c' s' g' N' M' m' nm' on' off' kids' =>
    have hb := bare_ok (k := k) (a := a) (c := c) (s := s) (g := g) (N := N) (M := M) (m := m) (nm := nm) (on := on) (off := off) (kids := kids) (k' := k') (a' := a') (c' := c') (s' := s') (g' := g') (N' := N') (M' := M') (m' := m') (nm' := nm') (on' := on') (off' := off') (kids' := kids') hs
    simp only [sameB]
    generalize bareB k c s g N M m nm on off k' c' s' g' N' M' m' nm' on' off' = b at hb
    have hw : IntKind.wrap .i64 (l - 1) = l - 1 := wrap_id (by omega) (by omega)
    have hn : npL [.sl 12 (Nd.avs kids), .sl 12 (Nd.avs kids'), .fn 44 [.ea [.ptr 0 0]]] = false := by simp [npL, np, np_avs]
    have eq : ∃ l' : Int, A 43 [.sl 12 (Nd.avs kids), .sl 12 (Nd.avs kids'), .fn 44 [.ea [.ptr 0 0]]] [[iv (l - 1)]] (bv (sames kids kids')) [[iv l']] ∧ l - z ≤ l' ∧ l' ≤ l := by
      by_cases hl : kids.length = kids'.length
      · have r := eqf_loop (K := kids) (K' := kids') hk hl (fun n hn m l' h3 h4 => ih n hn (h n hn) m l' h3 h4) kids.length 0 (l - 1) (by omega) (by rw [List.drop_zero]; omega) (by omega)
        rw [List.drop_zero, List.drop_zero] at r
        cases hq : sames kids kids' with
        | false =>
          obtain ⟨l', h3, h4, h5⟩ := r.1 hq
          refine ⟨l', done (w_eqf _ _ _ _ ⟨fun h => ?_, fun _ => ?_⟩), by omega, by omega⟩
          · rw [avs_len, avs_len, hl] at h; simp at h
          · rw [avs_len]; exact .inl ⟨_, h3, rfl, rfl⟩
        | true =>
          obtain ⟨j, l', h3, h4, h5⟩ := r.2 hq
          refine ⟨l', done (w_eqf _ _ _ _ ⟨fun h => ?_, fun _ => ?_⟩), by omega, by omega⟩
          · rw [avs_len, avs_len, hl] at h; simp at h
          · rw [avs_len]; exact .inr ⟨_, _, _, _, _, h3, rfl, rfl⟩
      · have hq : sames kids kids' = false := by
          cases hq : sames kids kids' with
          | false => rfl
          | true => exact absurd (sames_len hq) hl
        rw [hq]
        refine ⟨l - 1, done (w_eqf _ _ _ _ ⟨fun _ => ⟨rfl, rfl⟩, fun h => ?_⟩), by omega, by omega⟩
        rw [avs_len, avs_len] at h; simp at h; omega
    obtain ⟨l', he, b1, b2⟩ := eq
    cases b with
    | false =>
      refine ⟨l - 1, done (w_same _ _ _ _ _ _ _ _ _ _ _ _ _ _ _ _ _ _ _ _ _ _ _ _ _ _ ⟨fun h => ?_, fun _ => ⟨hn2, _, hb, fun h => ?_, fun _ => ?_⟩⟩), by omega, by omega⟩
      · rw [hw] at h; have := dt h; omega
      · cases h
      · rw [hw]; exact ⟨rfl, rfl⟩
    | true =>
      refine ⟨l', done (w_same _ _ _ _ _ _ _ _ _ _ _ _ _ _ _ _ _ _ _ _ _ _ _ _ _ _ ⟨fun h => ?_, fun _ => ⟨hn2, _, hb, fun _ => ⟨hn, _, _, (by rw [hw]; exact he), ?_, rfl⟩, fun h => ?_⟩⟩), by omega, by omega⟩
      · rw [hw] at h; have := dt h; omega
      · simp
      · cases h
theorem Same_ok (n m : Nd) (h : n.Ok) (hs : sz n ≤ 4000) : A 18 [n.av, m.av] [] (bv (sameB n m)) [] := by
  obtain ⟨l', hc, _⟩ := same_ok n h m 4000 (by omega) (by omega)
  have hn : npL [n.av, m.av, .ptr 0 0] = false := by simp [npL, np, np_av]
  generalize sameB n m = b at hc
  cases n with
  | mk k a c s g N M m1 nm on off kids =>
  cases m with
  | mk k' a' c' s' g' N' M' m' nm' on' off' kids' =>
    exact done (w_Same _ _ _ _ _ _ _ _ _ _ _ _ _ _ _ _ _ _ _ _ _ _ _ _ _ ⟨hn, _, _, hc, rfl, rfl⟩)
end Go.Proofs.Ytpnpeeloeifccaa.U
