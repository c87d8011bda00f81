/- Trees: groups counted; the law of turns. -/
import Derived.Test.YtpnpeeloeifccaaTre11
namespace Go.Proofs.Ytpnpeeloeifccaa.U
open Go Go.Vai
set_option linter.unusedVariables false
def one14 (k : Int) : Int := if k = 14 then 1 else 0
theorem gr_mk (k a c : Int) (s : List (Int × Int)) (g : Bool) (N M m : Int) (nm : ByteArray) (on off : Int) (kids : List Nd) : ((gr (.mk k a c s g N M m nm on off kids) : Nat) : Int) = one14 k + grs kids := by
  simp only [gr, one14]
  split <;> omega

/-! ### the program's -/
theorem walkK_loop {kids : List Nd} {depth : Int} (hk : kids.length ≤ 9223372036854775807) (h0 : 0 ≤ depth)
    (ih : ∀ n ∈ kids, ∀ l q : Int, (sz n : Int) ≤ l → depth + 1 + l ≤ 1000000 → 0 ≤ q → q + sz n ≤ 1000000 → A 26 [n.av, iv (depth + 1), .ptr 0 0, .fn 35 [.ptr 1 0]] [[iv l], [iv q]] (bv true) [[iv (l - sz n)], [iv (q + gr n)]]) :
    ∀ (d i : Nat) (l q : Int), i + d = kids.length → (szs (kids.drop i) : Int) ≤ l → depth + 1 + l ≤ 1000000 → 0 ≤ q → q + szs (kids.drop i) ≤ 1000000 →
      R 26 0 (s_walkK_26_0 depth (Nd.avs kids) kids.length i l q) (.exit 0, x_walkK_26_0_1 depth (Nd.avs kids) kids.length kids.length (l - szs (kids.drop i)) (q + grs (kids.drop i)))
  | 0, i, l, q, hd, hl, hm, hq, hq2 => by
    have : i = kids.length := by omega
    subst this
    rw [List.drop_length]
    simp only [grs, szs]
    rw [show l - ((0 : Nat) : Int) = l by omega, show q + ((0 : Nat) : Int) = q by omega]
    exact Rounds.last (by simp) (leads (l_walkK_26_0 _ _ _ _ _ _ _ ⟨fun h => absurd (dt h) (by omega), fun _ => ⟨rfl, rfl⟩⟩))
  | d + 1, i, l, q, hd, hl, hm, hq, hq2 => by
    have hi : i < kids.length := by omega
    rw [drop_at hi] at hl hq2 ⊢
    simp only [grs, szs] at hl hq2 ⊢
    have hc := ih kids[i] (List.getElem_mem hi) l q (by omega) (by omega) hq (by omega)
    have hg := avs_get kids hi
    have hp := gr_sz kids[i]
    have hw : IntKind.wrap .i64 (depth + 1) = depth + 1 := wrap_id (by omega) (by omega)
    obtain ⟨k, a, c, s, g, N, M, m, nm, on, off, K, e, n1, n2⟩ := av_form kids[i]
    rw [e] at hg hc
    have r := walkK_loop hk h0 ih d (i + 1) (l - sz kids[i]) (q + gr kids[i]) (by omega) (by omega) (by omega) (by omega) (by omega)
    rw [show l - sz kids[i] - szs (kids.drop (i + 1)) = l - ((sz kids[i] + szs (kids.drop (i + 1)) : Nat) : Int) by omega, show q + gr kids[i] + grs (kids.drop (i + 1)) = q + ((gr kids[i] + grs (kids.drop (i + 1)) : Nat) : Int) by omega] at r
    refine Rounds.next (leads (l_walkK_26_0 _ _ _ _ _ _ _ ⟨fun _ => ⟨by simp, _, _, _, _, _, _, _, _, _, _, _, _, hg, ?_, _, _, _, (by rw [hw]; exact hc), fun h => (by cases h), fun h => ?_⟩, fun h => absurd hi (by have := df h; omega)⟩)) r
    · simp [npL, np, n1, n2]
    · rw [next_i hi hk]; exact ⟨rfl, rfl⟩
theorem walkK_ok : ∀ n : Nd, n.Ok → ∀ d l q : Int, 0 ≤ d → (sz n : Int) ≤ l → d + l ≤ 1000000 → 0 ≤ q → q + sz n ≤ 1000000 → A 26 [n.av, iv d, .ptr 0 0, .fn 35 [.ptr 1 0]] [[iv l], [iv q]] (bv true) [[iv (l - sz n)], [iv (q + gr n)]] := by
  refine Nd.ind fun k a c s g N M m nm on off kids ih hok d l q h0 h1 h2 h3 h4 => ?_
  cases hok with
  | mk hs hk h =>
    obtain ⟨z, hz⟩ : ∃ z, z = sz (.mk k a c s g N M m nm on off kids) := ⟨_, rfl⟩
    rw [← hz] at h1 h4 ⊢
    rw [gr_mk]
    have hz : z = szs kids + 1 := hz
    have hg := grs_szs kids
    have ho : 0 ≤ one14 k ∧ one14 k ≤ 1 := by unfold one14; split <;> omega
    have hw : IntKind.wrap .i64 (l - 1) = l - 1 := wrap_id (by omega) (by omega)
    have r := walkK_loop (kids := kids) (depth := d) hk h0 (fun n hn l' q' g1 g2 g3 g4 => ih n hn (h n hn) (d + 1) l' q' (by omega) g1 g2 g3 g4) kids.length 0 (l - 1) (q + one14 k) (by omega) (by rw [List.drop_zero]; omega) (by omega) (by omega) (by rw [List.drop_zero]; omega)
    rw [List.drop_zero, show l - 1 - szs kids = l - z by omega, show q + one14 k + grs kids = q + (one14 k + grs kids) by omega] at r
    refine done (w_walkK _ _ _ _ _ _ _ _ _ _ _ _ _ _ _ _ ?_)
    rw [hw, avs_len]
    refine ⟨fun h5 => absurd (dt h5) (by omega), fun _ => ⟨fun h6 => .inr ⟨d, Nd.avs kids, kids.length, kids.length, _, _, ?_, rfl, rfl⟩, fun h6 => .inr ⟨d, Nd.avs kids, kids.length, kids.length, _, _, ?_, rfl, rfl⟩⟩⟩
    · have : k = 14 := by simpa using h6
      have e : one14 k = 1 := if_pos this
      rw [wrap_id (by omega) (by omega)]
      rw [e] at r ⊢; exact r
    · have : k ≠ 14 := by simpa using h6
      have e : one14 k = 0 := if_neg this
      rw [e, Int.add_zero] at r
      rw [e]; exact r
theorem Captures_ok (n : Nd) (h : n.Ok) (hs : sz n ≤ 4000) : A 22 [n.av] [] (iv (gr n)) [] := by
  have hc := walkK_ok n h 1 4000 0 (by omega) (by omega) (by omega) (by omega) (by omega)
  rw [Int.zero_add] at hc
  generalize ((gr n : Nat) : Int) = q at hc
  cases n with
  | mk k a c s g N M m nm on off kids =>
    refine done (w_Captures _ _ _ _ _ _ _ _ _ _ _ _ _ ⟨?_, _, _, _, hc, rfl, rfl⟩)
    simp [npL, np, np_rg, np_avs]

/-! ### the reference's -/
section
variable {k a c : Int} {S : List AV} {g : Bool} {N M m : Int} {nm : ByteArray} {on off : Int}
theorem rCap_loop {kids : List Nd} (hk : kids.length ≤ 9223372036854775807) (ih : ∀ n ∈ kids, sz n ≤ 1000000 → A 23 [n.av] [] (iv (gr n)) []) : ∀ (d i : Nat) (q : Int), i + d = kids.length → 0 ≤ q → q + szs (kids.drop i) ≤ 1000000 →
    ∃ j : Int, R 23 0 (s_rCaptures_23_0 k a c S g N M m nm on off (Nd.avs kids) q i) (.exit 0, x_rCaptures_23_0_0 k a c S g N M m nm on off (Nd.avs kids) (q + grs (kids.drop i)) j)
  | 0, i, q, hd, hq, hq2 => by
    have : i = kids.length := by omega
    subst this
    rw [List.drop_length]
    simp only [grs]
    rw [show q + ((0 : Nat) : Int) = q by omega]
    exact ⟨_, Rounds.last (by simp) (leads (l_rCaptures_23_0 _ _ _ _ _ _ _ _ _ _ _ _ _ _ _ ⟨fun h => absurd (dt h) (by rw [avs_len]; omega), fun _ => ⟨rfl, rfl⟩⟩))⟩
  | d + 1, i, q, hd, hq, hq2 => by
    have hi : i < kids.length := by omega
    rw [drop_at hi] at hq2 ⊢
    simp only [grs, szs] at hq2 ⊢
    have hc := ih kids[i] (List.getElem_mem hi) (by omega)
    have hg := avs_get kids hi
    have hp := gr_sz kids[i]
    have hn := np_one kids[i]
    obtain ⟨k', a', c', s', g', N', M', m', nm', on', off', K, e, n1, n2⟩ := av_form kids[i]
    rw [e] at hg hc hn
    obtain ⟨j, r⟩ := rCap_loop hk ih d (i + 1) (q + gr kids[i]) (by omega) (by omega) (by omega)
    rw [show q + gr kids[i] + grs (kids.drop (i + 1)) = q + ((gr kids[i] + grs (kids.drop (i + 1)) : Nat) : Int) by omega] at r
    refine ⟨j, Rounds.next (leads (l_rCaptures_23_0 _ _ _ _ _ _ _ _ _ _ _ _ _ _ _ ⟨fun _ => ⟨by simp, _, _, _, _, _, _, _, _, _, _, _, _, hg, hn, _, hc, ?_⟩, fun h => absurd hi (len_i h)⟩)) r⟩
    rw [next_i hi hk, wrap_id (by omega) (by omega)]; exact ⟨rfl, rfl⟩
end
theorem rCaptures_ok : ∀ n : Nd, n.Ok → sz n ≤ 1000000 → A 23 [n.av] [] (iv (gr n)) [] := by
  refine Nd.ind fun k a c s g N M m nm on off kids ih hok hz => ?_
  cases hok with
  | mk hs hk h =>
    rw [gr_mk]
    have hz : szs kids + 1 ≤ 1000000 := hz
    refine done (w_rCaptures _ _ _ _ _ _ _ _ _ _ _ _ _ ⟨fun h1 => ?_, fun h1 => ?_⟩)
    · have e : one14 k = 1 := if_pos (by simpa using h1)
      obtain ⟨j, r⟩ := rCap_loop (k := k) (a := a) (c := c) (S := s.map rg) (g := g) (N := N) (M := M) (m := m) (nm := nm) (on := on) (off := off) hk (fun n hn => ih n hn (h n hn)) kids.length 0 1 (by omega) (by omega) (by rw [List.drop_zero]; omega)
      rw [List.drop_zero] at r
      rw [e]
      exact ⟨_, _, _, _, _, _, _, _, _, _, _, _, _, _, r, rfl, rfl⟩
    · have e : one14 k = 0 := if_neg (by simpa using h1)
      obtain ⟨j, r⟩ := rCap_loop (k := k) (a := a) (c := c) (S := s.map rg) (g := g) (N := N) (M := M) (m := m) (nm := nm) (on := on) (off := off) hk (fun n hn => ih n hn (h n hn)) kids.length 0 0 (by omega) (by omega) (by rw [List.drop_zero]; omega)
      rw [List.drop_zero] at r
      rw [e]
      exact ⟨_, _, _, _, _, _, _, _, _, _, _, _, _, _, r, rfl, rfl⟩

/-! ### trees that are the same -/
theorem bare_iff {k c : Int} {s : List (Int × Int)} {g : Bool} {N M m : Int} {nm : ByteArray} {on off : Int} {k' c' : Int} {s' : List (Int × Int)} {g' : Bool} {N' M' m' : Int} {nm' : ByteArray} {on' off' : Int} :
    bareB k c s g N M m nm on off k' c' s' g' N' M' m' nm' on' off' = true ↔ (k = k' ∧ c = c' ∧ g = g' ∧ N = N' ∧ M = M' ∧ m = m' ∧ nm.toList = nm'.toList ∧ on = on' ∧ off = off' ∧ s = s') := by
  simp only [bareB, Bool.and_eq_true, beq_iff_eq, decide_eq_true_eq]
  constructor
  · rintro ⟨⟨⟨⟨⟨⟨⟨⟨⟨h1, h2⟩, h3⟩, h4⟩, h5⟩, h6⟩, h7⟩, h8⟩, h9⟩, h10⟩
    exact ⟨h1, h2, h3, h4, h5, h6, h7, h8, h9, h10⟩
  · rintro ⟨h1, h2, h3, h4, h5, h6, h7, h8, h9, h10⟩
    exact ⟨⟨⟨⟨⟨⟨⟨⟨⟨h1, h2⟩, h3⟩, h4⟩, h5⟩, h6⟩, h7⟩, h8⟩, h9⟩, h10⟩
theorem bare_comm (k c : Int) (s : List (Int × Int)) (g : Bool) (N M m : Int) (nm : ByteArray) (on off : Int) (k' c' : Int) (s' : List (Int × Int)) (g' : Bool) (N' M' m' : Int) (nm' : ByteArray) (on' off' : Int) :
    bareB k c s g N M m nm on off k' c' s' g' N' M' m' nm' on' off' = bareB k' c' s' g' N' M' m' nm' on' off' k c s g N M m nm on off := by
  rw [Bool.eq_iff_iff, bare_iff, bare_iff]
  constructor <;> (rintro ⟨h1, h2, h3, h4, h5, h6, h7, h8, h9, h10⟩; exact ⟨h1.symm, h2.symm, h3.symm, h4.symm, h5.symm, h6.symm, h7.symm, h8.symm, h9.symm, h10.symm⟩)
mutual
theorem same_comm : ∀ n m : Nd, sameB n m = sameB m n
  | .mk k a c s g N M m nm on off kids, .mk k' a' c' s' g' N' M' m' nm' on' off' kids' => by
    simp only [sameB]
    rw [bare_comm, sames_comm kids kids']
theorem sames_comm : ∀ k q : List Nd, sames k q = sames q k
  | [], [] => rfl
  | n :: r, m :: q => by simp only [sames]; rw [same_comm n m, sames_comm r q]
  | [], _ :: _ => by simp [sames]
  | _ :: _, [] => by simp [sames]
end
mutual
theorem same_sz : ∀ n m : Nd, sameB n m = true → sz n = sz m ∧ ht n = ht m ∧ gr n = gr m
  | .mk k a c s g N M m nm on off kids, .mk k' a' c' s' g' N' M' m' nm' on' off' kids', h => by
    simp only [sameB, Bool.and_eq_true] at h
    obtain ⟨h1, h2⟩ := h
    have hk := (bare_iff.1 h1).1
    obtain ⟨h3, h4, h5⟩ := sames_sz kids kids' h2
    simp only [sz, ht, gr, h3, h4, h5, hk]
    exact ⟨trivial, trivial, trivial⟩
theorem sames_sz : ∀ k q : List Nd, sames k q = true → szs k = szs q ∧ hts k = hts q ∧ grs k = grs q
  | [], [], _ => ⟨rfl, rfl, rfl⟩
  | n :: r, m :: q, h => by
    simp only [sames, Bool.and_eq_true] at h
    obtain ⟨h1, h2, h3⟩ := same_sz n m h.1
    obtain ⟨h4, h5, h6⟩ := sames_sz r q h.2
    simp only [szs, hts, grs, h1, h2, h3, h4, h5, h6]
    exact ⟨trivial, trivial, trivial⟩
  | [], _ :: _, h => by simp [sames] at h
  | _ :: _, [], h => by simp [sames] at h
end
theorem turns (n m : Nd) (h : n.Ok) (h' : m.Ok) : A 9 [n.av, m.av] [] (bv true) [] := by
  have a1 := Small_ok n h
  have a2 := Small_ok m h'
  rw [small_sz] at a1 a2
  have a3 := fun hs => Same_ok n m h hs
  have a4 := fun hs => Same_ok m n h' hs
  rw [same_comm m n] at a4
  have a5 := Size_ok n h
  have a6 := Size_ok m h'
  have a7 := fun hs => Depth_ok n h hs
  have a8 := fun hs => Depth_ok m h' hs
  have a9 := Check_ok n h
  have a10 := fun hs => Captures_ok n h hs
  have a11 := fun hs => Captures_ok m h' hs
  have n1 := np_one n
  have n2 := np_one m
  have n3 := np_two n m
  have n4 := np_two m n
  have e := same_sz n m
  rw [cnt_sz n 4000 (by omega)] at a5
  rw [cnt_sz m 4000 (by omega)] at a6
  cases n with
  | mk k a c s g N M m1 nm on off kids =>
  cases m with
  | mk k' a' c' s' g' N' M' m' nm' on' off' kids' =>
    refine done (w_TreeTurns _ _ _ _ _ _ _ _ _ _ _ _ _ _ _ _ _ _ _ _ _ _ _ _ _ ⟨awake, n1, _, a1, n2, _, a2, fun h => ⟨rfl, rfl⟩, fun g1 => ⟨fun _ => ⟨rfl, rfl⟩, fun g2 => ?_⟩⟩)
    have g1 := dt (nf g1)
    have g2 := dt (nf g2)
    refine ⟨n3, _, a3 g1, n4, _, a4 g2, fun h => ?_, fun _ => ⟨fun _ => ⟨rfl, rfl⟩, fun hs => ?_⟩⟩
    · simp at h
    · obtain ⟨e1, e2, e3⟩ := e (nf hs)
      refine ⟨n1, _, a5, n2, _, a6, fun _ => ⟨n1, _, a7 g1, n2, _, a8 g2, fun _ => ⟨n1, _, a9, fun _ => ⟨rfl, rfl⟩, fun _ => ⟨n1, _, a10 g1, n2, _, a11 g2, ?_, rfl⟩⟩, fun h => ?_⟩, fun h => ?_⟩
      · rw [e3]; simp
      · rw [e2] at h; simp at h
      · rw [e1] at h; simp at h
end Go.Proofs.Ytpnpeeloeifccaa.U
