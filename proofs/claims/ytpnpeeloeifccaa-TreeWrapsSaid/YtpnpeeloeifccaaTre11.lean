/- Trees: the reference's sameness; the law. -/
import Derived.Test.YtpnpeeloeifccaaTre10
namespace Go.Proofs.Ytpnpeeloeifccaa.U
open Go Go.Vai
set_option linter.unusedVariables false
theorem nt {b : Bool} (h : (!b) = true) : b = false := by simpa using h
theorem nf {b : Bool} (h : (!b) = false) : b = true := by simpa using h
section
variable {k a c : Int} {s : List (Int × Int)} {g : Bool} {N M m : Int} {nm : ByteArray} {on off : Int} {K : List AV}
variable {k' a' c' : Int} {s' : List (Int × Int)} {g' : Bool} {N' M' m' : Int} {nm' : ByteArray} {on' off' : Int} {K' : List AV}
theorem rSame0 (hs : s.length ≤ 9223372036854775807) (hl : s.length = s'.length) : ∀ (d i : Nat), i + d = s.length →
    (s.drop i ≠ s'.drop i → R 19 0 (s_rSame_19_0 k a c (s.map rg) g N M m nm on off K k' a' c' (s'.map rg) g' N' M' m' nm' on' off' K' i) (.ret, x_rSame_19_0_0)) ∧
    (s.drop i = s'.drop i → ∃ j : Int, R 19 0 (s_rSame_19_0 k a c (s.map rg) g N M m nm on off K k' a' c' (s'.map rg) g' N' M' m' nm' on' off' K' i) (.exit 0, x_rSame_19_0_1 k a c (s.map rg) g N M m nm on off K k' a' c' (s'.map rg) g' N' M' m' nm' on' off' K' j))
  | 0, i, hd => by
    have : i = s.length := by omega
    subst this
    rw [List.drop_length, hl, List.drop_length]
    exact ⟨fun h => absurd rfl h, fun _ => ⟨_, Rounds.last (by simp) (leads (l_rSame_19_0 _ _ _ _ _ _ _ _ _ _ _ _ _ _ _ _ _ _ _ _ _ _ _ _ _ _ ⟨fun h => absurd (dt h) (by rw [rg_len]; omega), fun _ => ⟨rfl, rfl⟩⟩))⟩⟩
  | d + 1, i, hd => by
    have hi : i < s.length := by omega
    have hi' : i < s'.length := by omega
    rw [drop_at hi, drop_at hi']
    have hg := rg_get s hi
    have hg' := rg_get s' hi'
    have step : ∃ e q, L 19 0 (s_rSame_19_0 k a c (s.map rg) g N M m nm on off K k' a' c' (s'.map rg) g' N' M' m' nm' on' off' K' i) (e, q) ∧ ((s[i] ≠ s'[i] ∧ e = .ret ∧ q = x_rSame_19_0_0) ∨ (s[i] = s'[i] ∧ e = .norm ∧ q = s_rSame_19_0 k a c (s.map rg) g N M m nm on off K k' a' c' (s'.map rg) g' N' M' m' nm' on' off' K' ((i + 1 : Nat) : Int))) := by
      refine l_rSame_19_0 _ _ _ _ _ _ _ _ _ _ _ _ _ _ _ _ _ _ _ _ _ _ _ _ _ _ ⟨fun _ => ⟨by simp, _, _, hg, by simp, _, _, hg', _, rng_neq _ _ _ _ _ _, fun h => .inl ⟨?_, rfl, rfl⟩, fun h => .inr ⟨?_, rfl, ?_⟩⟩, fun h => absurd hi (by have := df h; rw [rg_len] at this; omega)⟩
      · intro h2; rw [h2] at h; simp at h
      · simp only [Bool.not_eq_false', Bool.and_eq_true, beq_iff_eq] at h
        exact Prod.ext h.1 h.2
      · rw [next_i hi hs]
    obtain ⟨e', q, hL, h⟩ := step
    rcases h with ⟨h1, rfl, rfl⟩ | ⟨h1, rfl, rfl⟩
    · exact ⟨fun _ => Rounds.last (by simp) hL, fun h => by injection h with h2; exact absurd h2 h1⟩
    · have r := rSame0 hs hl d (i + 1) (by omega)
      rw [h1]
      refine ⟨fun h => Rounds.next hL (r.1 (fun h2 => h (by rw [h2]))), fun h => ?_⟩
      injection h with _ h
      obtain ⟨j, h2⟩ := r.2 h
      exact ⟨j, Rounds.next hL h2⟩
end
section
variable {k a c : Int} {S : List AV} {g : Bool} {N M m : Int} {nm : ByteArray} {on off : Int}
variable {k' a' c' : Int} {S' : List AV} {g' : Bool} {N' M' m' : Int} {nm' : ByteArray} {on' off' : Int}
theorem rSame1 {K K' : List Nd} (hk : K.length ≤ 9223372036854775807) (hl : K.length = K'.length) (ih : ∀ n ∈ K, ∀ m : Nd, A 19 [n.av, m.av] [] (bv (sameB n m)) []) : ∀ (d i : Nat), i + d = K.length →
    (sames (K.drop i) (K'.drop i) = false → R 19 1 (s_rSame_19_1 k a c S g N M m nm on off (Nd.avs K) k' a' c' S' g' N' M' m' nm' on' off' (Nd.avs K') i) (.ret, x_rSame_19_1_0)) ∧
    (sames (K.drop i) (K'.drop i) = true → ∃ j : Int, R 19 1 (s_rSame_19_1 k a c S g N M m nm on off (Nd.avs K) k' a' c' S' g' N' M' m' nm' on' off' (Nd.avs K') i) (.exit 2, x_rSame_19_1_1 k a c S g N M m nm on off (Nd.avs K) k' a' c' S' g' N' M' m' nm' on' off' (Nd.avs K') j))
  | 0, i, hd => by
    have : i = K.length := by omega
    subst this
    rw [List.drop_length, hl, List.drop_length]
    simp only [sames]
    exact ⟨fun h => (by cases h), fun _ => ⟨_, Rounds.last (by simp) (leads (l_rSame_19_1 _ _ _ _ _ _ _ _ _ _ _ _ _ _ _ _ _ _ _ _ _ _ _ _ _ _ ⟨fun h => absurd (dt h) (by rw [avs_len]; omega), fun _ => ⟨rfl, rfl⟩⟩))⟩⟩
  | d + 1, i, hd => by
    have hi : i < K.length := by omega
    have hi' : i < K'.length := by omega
    rw [drop_at hi, drop_at hi']
    simp only [sames]
    have hc := ih K[i] (List.getElem_mem hi) K'[i]
    have hg := avs_get K hi
    have hg' := avs_get K' hi'
    have hn := np_two K[i] K'[i]
    generalize sameB K[i] K'[i] = b at hc
    have step : ∃ e q, L 19 1 (s_rSame_19_1 k a c S g N M m nm on off (Nd.avs K) k' a' c' S' g' N' M' m' nm' on' off' (Nd.avs K') i) (e, q) ∧ ((b = false ∧ e = .ret ∧ q = x_rSame_19_1_0) ∨ (b = true ∧ e = .norm ∧ q = s_rSame_19_1 k a c S g N M m nm on off (Nd.avs K) k' a' c' S' g' N' M' m' nm' on' off' (Nd.avs K') ((i + 1 : Nat) : Int))) := by
      obtain ⟨k1, a1, c1, s1, g1, N1, M1, m1, nm1, on1, off1, K1, e1, _, _⟩ := av_form K[i]
      obtain ⟨k2, a2, c2, s2, g2, N2, M2, m2, nm2, on2, off2, K2, e2, _, _⟩ := av_form K'[i]
      rw [e1] at hg hc hn
      rw [e2] at hg' hc hn
      refine l_rSame_19_1 _ _ _ _ _ _ _ _ _ _ _ _ _ _ _ _ _ _ _ _ _ _ _ _ _ _ ⟨fun _ => ⟨by simp, _, _, _, _, _, _, _, _, _, _, _, _, hg, by simp, _, _, _, _, _, _, _, _, _, _, _, _, hg', hn, _, hc, fun h => .inl ⟨by simpa using h, rfl, rfl⟩, fun h => .inr ⟨by simpa using h, rfl, ?_⟩⟩, fun h => absurd hi (len_i h)⟩
      rw [next_i hi hk]
    obtain ⟨e', q, hL, h⟩ := step
    rcases h with ⟨rfl, rfl, rfl⟩ | ⟨rfl, rfl, rfl⟩
    · exact ⟨fun _ => Rounds.last (by simp) hL, fun h => by cases h⟩
    · have r := rSame1 hk hl ih d (i + 1) (by omega)
      rw [Bool.true_and]
      refine ⟨fun h => Rounds.next hL (r.1 h), fun h => ?_⟩
      obtain ⟨j, h2⟩ := r.2 h
      exact ⟨j, Rounds.next hL h2⟩
end
theorem rSame_ok : ∀ n : Nd, n.Ok → ∀ m : Nd, A 19 [n.av, m.av] [] (bv (sameB n m)) [] := by
  refine Nd.ind fun k a c s g N M m nm on off kids ih hok m2 => ?_
  cases hok with
  | mk hs hk h =>
  cases m2 with
  | mk k' a' c' s' g' N' M' m' nm' on' off' kids' =>
    obtain ⟨z, hz⟩ : ∃ z, z = sameB (.mk k a c s g N M m nm on off kids) (.mk k' a' c' s' g' N' M' m' nm' on' off' kids') := ⟨_, rfl⟩
    rw [← hz]
    have hb : z = (k == k' && c == c' && g == g' && N == N' && M == M' && m == m' && nm.toList == nm'.toList && on == on' && off == off' && decide (s = s') && sames kids kids') := hz
    clear hz
    have ls : s ≠ s' → decide (s = s') = false := fun h => decide_eq_false h
    have lk : kids.length ≠ kids'.length → sames kids kids' = false := fun h => by
      cases hq : sames kids kids' with
      | false => rfl
      | true => exact absurd (sames_len hq) h
    refine done (w_rSame _ _ _ _ _ _ _ _ _ _ _ _ _ _ _ _ _ _ _ _ _ _ _ _ _ ?_)
    rw [rg_len, rg_len, avs_len, avs_len]
    refine ⟨fun h => ⟨congrArg bv ?_, rfl⟩, fun h1 => ⟨fun h => ⟨congrArg bv ?_, rfl⟩, fun h2 => ⟨fun h => ⟨congrArg bv ?_, rfl⟩, fun h3 => ⟨fun h => ⟨congrArg bv ?_, rfl⟩, fun h4 => ⟨fun h => ⟨congrArg bv ?_, rfl⟩, fun h5 => ⟨fun h => ⟨congrArg bv ?_, rfl⟩, fun h6 => ⟨fun h => ⟨congrArg bv ?_, rfl⟩, fun h7 => ⟨fun h => ⟨congrArg bv ?_, rfl⟩, fun h8 => ⟨fun h => ⟨congrArg bv ?_, rfl⟩, fun h9 => ⟨fun h => ⟨congrArg bv ?_, rfl⟩, fun h10 => ⟨fun h => ⟨congrArg bv ?_, rfl⟩, fun h11 => ?_⟩⟩⟩⟩⟩⟩⟩⟩⟩⟩⟩
    case refine_1 => rw [hb, nt h]; rfl
    case refine_2 => rw [hb, nt h]; simp
    case refine_3 => rw [hb, nt h]; simp
    case refine_4 => rw [hb, nt h]; simp
    case refine_5 => rw [hb, nt h]; simp
    case refine_6 => rw [hb, nt h]; simp
    case refine_7 => rw [hb, nt h]; simp
    case refine_8 => rw [hb, nt h]; simp
    case refine_9 => rw [hb, nt h]; simp
    case refine_10 => rw [hb, ls (fun h2 => by rw [h2] at h; simp at h)]; simp
    case refine_11 => rw [hb, lk (fun h2 => by rw [h2] at h; simp at h)]; simp
    case refine_12 =>
      have hb : z = (decide (s = s') && sames kids kids') := by
        rw [hb, nf h1, nf h2, nf h3, nf h4, nf h5, nf h6, nf h7, nf h8, nf h9]
        simp
      have hl : s.length = s'.length := by simp at h10; omega
      have hl2 : kids.length = kids'.length := by simp at h11; omega
      have r := rSame0 (k := k) (a := a) (c := c) (g := g) (N := N) (M := M) (m := m) (nm := nm) (on := on) (off := off) (K := Nd.avs kids) (k' := k') (a' := a') (c' := c') (g' := g') (N' := N') (M' := M') (m' := m') (nm' := nm') (on' := on') (off' := off') (K' := Nd.avs kids') hs hl s.length 0 (by omega)
      rw [List.drop_zero, List.drop_zero] at r
      by_cases he : s = s'
      · obtain ⟨j, hr⟩ := r.2 he
        have r2 := rSame1 (k := k) (a := a) (c := c) (S := s.map rg) (g := g) (N := N) (M := M) (m := m) (nm := nm) (on := on) (off := off) (k' := k') (a' := a') (c' := c') (S' := s'.map rg) (g' := g') (N' := N') (M' := M') (m' := m') (nm' := nm') (on' := on') (off' := off') hk hl2 (fun n hn m => ih n hn (h n hn) m) kids.length 0 (by omega)
        rw [List.drop_zero, List.drop_zero] at r2
        rw [decide_eq_true he, Bool.true_and] at hb
        refine .inr ⟨_, _, _, _, _, _, _, _, _, _, _, _, _, _, _, _, _, _, _, _, _, _, _, _, _, hr, ?_⟩
        cases hq : sames kids kids' with
        | false => exact .inl ⟨r2.1 hq, by rw [hb, hq], rfl⟩
        | true =>
          obtain ⟨j2, h2⟩ := r2.2 hq
          exact .inr ⟨_, _, _, _, _, _, _, _, _, _, _, _, _, _, _, _, _, _, _, _, _, _, _, _, _, h2, by rw [hb, hq], rfl⟩
      · rw [decide_eq_false he, Bool.false_and] at hb
        exact .inl ⟨r.1 he, by rw [hb], rfl⟩
mutual
theorem same_refl : ∀ n : Nd, sameB n n = true
  | .mk k a c s g N M m nm on off kids => by simp [sameB, bareB, sames_refl kids]
theorem sames_refl : ∀ k : List Nd, sames k k = true
  | [] => rfl
  | n :: r => by simp [sames, same_refl n, sames_refl r]
end
theorem sames_law (n m : Nd) (at' : Int) (h : n.Ok) (h' : m.Ok) : A 5 [n.av, m.av, iv at'] [] (bv true) [] := by
  have h1 := Small_ok n h
  have h2 := Small_ok m h'
  rw [small_sz] at h1 h2
  have h3 := fun hs => Same_ok n m h hs
  have h4 := rSame_ok n h m
  have h6 := fun hs => Same_ok m m h' hs
  rw [same_refl] at h6
  have n1 := np_one n
  have n2 := np_one m
  have n3 := np_two n m
  have n4 := np_two m m
  cases n with
  | mk k a c s g N M m1 nm on off kids =>
    have h5 := fun hs => Same_ok (.mk k a c s g N M m1 nm on off kids) (.mk k at' c s g N M m1 nm on off kids) h hs
    have e : sameB (.mk k a c s g N M m1 nm on off kids) (.mk k at' c s g N M m1 nm on off kids) = true := same_refl (.mk k a c s g N M m1 nm on off kids)
    rw [e] at h5
    have n5 := np_two (.mk k a c s g N M m1 nm on off kids) (.mk k at' c s g N M m1 nm on off kids)
    cases m with
    | mk k' a' c' s' g' N' M' m' nm' on' off' kids' =>
      refine done (w_TreeSame _ _ _ _ _ _ _ _ _ _ _ _ _ _ _ _ _ _ _ _ _ _ _ _ _ _ ⟨awake, n1, _, h1, n2, _, h2, fun h => ⟨rfl, rfl⟩, fun g1 => ⟨fun _ => ⟨rfl, rfl⟩, fun g2 => ?_⟩⟩)
      have g1 := dt (nf g1)
      have g2 := dt (nf g2)
      refine ⟨n3, _, h3 g1, n3, _, h4, fun h => ⟨n5, _, h5 g1, fun _ => ⟨n4, _, h6 g2, rfl, rfl⟩, fun h => ?_⟩, fun h => ?_⟩
      · cases h
      · simp at h
end Go.Proofs.Ytpnpeeloeifccaa.U
