/- Trees: the way to the first node of a kind; the law of finds. -/
import Derived.Test.YtpnpeeloeifccaaTre12
namespace Go.Proofs.Ytpnpeeloeifccaa.U
open Go Go.Vai
set_option linter.unusedVariables false
mutual
def fnd (q : Int) : Nd → Option (List Int)
  | .mk k _ _ _ _ _ _ _ _ _ _ kids => if k = q then some [] else fnds q kids 0
def fnds (q : Int) : List Nd → Int → Option (List Int)
  | [], _ => none
  | n :: r, i => match fnd q n with | some p => some (i :: p) | none => fnds q r (i + 1)
end
mutual
theorem fnd_len (q : Int) : ∀ (n : Nd) (p : List Int), fnd q n = some p → p.length < sz n
  | .mk k _ _ _ _ _ _ _ _ _ _ kids, p, h => by
    simp only [fnd] at h
    simp only [sz]
    split at h
    · injection h with h; subst h; simp
    · have := fnds_len q kids 0 p h; omega
theorem fnds_len (q : Int) : ∀ (k : List Nd) (i : Int) (p : List Int), fnds q k i = some p → p.length ≤ szs k
  | [], _, p, h => by simp [fnds] at h
  | n :: r, i, p, h => by
    simp only [fnds] at h
    simp only [szs]
    split at h
    · rename_i p' hp
      injection h with h
      subst h
      have := fnd_len q n p' hp
      simp; omega
    · have := fnds_len q r (i + 1) p h; omega
end
theorem room3 {n m : Nat} (h : n + m ≤ 1000000) : roomD pr 3 n m = true := by
  have e : roomD pr 3 n m = (decide ((n + m) * 8 ≤ 140737488355328) && decide (n + m ≤ 9223372036854775807)) := by kernel_rfl
  rw [e]
  rw [decide_eq_true (by omega), decide_eq_true (by omega)]
  rfl
theorem np_ivs (l : List Int) : npL (l.map iv) = true := by
  induction l with
  | nil => rfl
  | cons x l ih => simp [npL, np, ih]
abbrev ways (o : Option (List Int)) : List AV := (o.getD []).map iv
theorem ffind_loop {kids : List Nd} {q : Int} (hk : kids.length ≤ 9223372036854775807)
    (ih : ∀ n ∈ kids, ∀ (l : Int) (path : List AV), (sz n : Int) ≤ l → l ≤ 1000000 → path.length + sz n ≤ 1000000 → ∃ l' : Int, A 34 [n.av, iv q, .ptr 1 0, .ptr 0 0] [[iv l], [.cap true 3 path]] (bv (fnd q n).isSome) [[iv l'], [.cap true 3 (path ++ ways (fnd q n))]] ∧ l - sz n ≤ l' ∧ l' ≤ l) :
    ∀ (d i : Nat) (l : Int) (path : List AV) (b : Bool), i + d = kids.length → (szs (kids.drop i) : Int) ≤ l → l ≤ 1000000 → path.length + szs (kids.drop i) ≤ 999999 → (i = 0 ∨ True) → 
      ∃ l' : Int, l - szs (kids.drop i) ≤ l' ∧ l' ≤ l ∧
      ((fnds q (kids.drop i) i).isSome = true → ∃ j : Int, R 34 0 (s_ffind_34_0 q b (Nd.avs kids) kids.length i l path) (.exit 0, x_ffind_34_0_0 q true (Nd.avs kids) kids.length j l' (path ++ ways (fnds q (kids.drop i) i)))) ∧
      ((fnds q (kids.drop i) i).isSome = false → ∃ j : Int, ∃ b' : Bool, R 34 0 (s_ffind_34_0 q b (Nd.avs kids) kids.length i l path) (.exit 0, x_ffind_34_0_1 q b' (Nd.avs kids) kids.length j l' path) ∧ ((kids.drop i = [] → b' = b) ∧ (kids.drop i ≠ [] → b' = false)))
  | 0, i, l, path, b, hd, hl, hm, hp, _ => by
    have : i = kids.length := by omega
    subst this
    rw [List.drop_length]
    simp only [fnds, szs]
    refine ⟨l, by omega, by omega, fun h => (by cases h), fun _ => ⟨_, _, Rounds.last (by simp) (leads (l_ffind_34_0 _ _ _ _ _ _ _ _ ⟨fun h => absurd (dt h) (by omega), fun _ => ⟨rfl, rfl⟩⟩)), fun _ => rfl, fun h => absurd rfl h⟩⟩
  | d + 1, i, l, path, b, hd, hl, hm, hp, _ => by
    have hi : i < kids.length := by omega
    rw [drop_at hi] at hl hp ⊢
    simp only [fnds, szs] at hl hp ⊢
    obtain ⟨l1, hc, b1, b2⟩ := ih kids[i] (List.getElem_mem hi) l (path ++ [iv i]) (by omega) hm (by simp; omega)
    have hg := avs_get kids hi
    have hn : npL [kids[i].av, iv q, .ptr 1 0, .ptr 0 0] = false := by simp [npL, np, np_av]
    obtain ⟨k, a, c, s, g, N, M, m, nm, on, off, K, e, n1, n2⟩ := av_form kids[i]
    rw [e] at hg hc hn
    cases hf : fnd q kids[i] with
    | some p =>
      rw [hf] at hc
      simp only []
      refine ⟨l1, by omega, by omega, fun _ => ⟨i, ?_⟩, fun h => (by cases h)⟩
      refine Rounds.last (by simp) (leads (l_ffind_34_0 _ _ _ _ _ _ _ _ ⟨fun _ => ⟨by simp, _, _, _, _, _, _, _, _, _, _, _, _, hg, room3 (by simp; omega), hn, _, _, _, hc, fun _ => ⟨rfl, ?_⟩, fun h => (by cases h)⟩, fun h => absurd hi (by have := df h; omega)⟩))
      simp [ways]
    | none =>
      rw [hf] at hc
      simp only []
      obtain ⟨l', h1, h2, h3, h4⟩ := ffind_loop hk ih d (i + 1) l1 path false (by omega) (by omega) (by omega) (by omega) (.inr trivial)
      have e1 : ((i : Nat) : Int) + 1 = ((i + 1 : Nat) : Int) := by omega
      have n : L 34 0 (s_ffind_34_0 q b (Nd.avs kids) kids.length i l path) (.norm, s_ffind_34_0 q false (Nd.avs kids) kids.length ((i + 1 : Nat) : Int) l1 path) := by
        refine leads (l_ffind_34_0 _ _ _ _ _ _ _ _ ⟨fun _ => ⟨by simp, _, _, _, _, _, _, _, _, _, _, _, _, hg, room3 (by simp; omega), hn, _, _, _, hc, fun h => (by cases h), fun _ => ?_⟩, fun h => absurd hi (by have := df h; omega)⟩)
        have hlen : ((path ++ [iv (i : Int)] ++ ways none).length : Int) = path.length + 1 := by simp [ways]
        rw [hlen, wrap_id (by omega) (by omega), show (path.length : Int) + 1 - 1 = path.length by omega, next_i hi hk]
        refine ⟨by simp, by simp [ways], rfl, ?_⟩
        simp [ways]
      rw [e1]
      refine ⟨l', by omega, by omega, fun h => ?_, fun h => ?_⟩
      · obtain ⟨j, h5⟩ := h3 h
        exact ⟨j, Rounds.next n h5⟩
      · obtain ⟨j, b', h5, h6, h7⟩ := h4 h
        refine ⟨j, b', Rounds.next n h5, fun h => (by cases h), fun _ => ?_⟩
        by_cases h8 : kids.drop (i + 1) = []
        · exact h6 h8
        · exact h7 h8
theorem ffind_ok (q : Int) : ∀ n : Nd, n.Ok → ∀ (l : Int) (path : List AV), (sz n : Int) ≤ l → l ≤ 1000000 → path.length + sz n ≤ 1000000 → ∃ l' : Int, A 34 [n.av, iv q, .ptr 1 0, .ptr 0 0] [[iv l], [.cap true 3 path]] (bv (fnd q n).isSome) [[iv l'], [.cap true 3 (path ++ ways (fnd q n))]] ∧ l - sz n ≤ l' ∧ l' ≤ l := by
  refine Nd.ind fun k a c s g N M m nm on off kids ih hok l path h1 h2 h3 => ?_
  cases hok with
  | mk hs hk h =>
    obtain ⟨z, hz⟩ : ∃ z, z = sz (.mk k a c s g N M m nm on off kids) := ⟨_, rfl⟩
    rw [← hz] at h1 h3 ⊢
    have hz : z = szs kids + 1 := hz
    have hw : IntKind.wrap .i64 (l - 1) = l - 1 := wrap_id (by omega) (by omega)
    obtain ⟨l', b1, b2, r1, r2⟩ := ffind_loop (kids := kids) (q := q) hk (fun n hn l' path' g1 g2 g3 => ih n hn (h n hn) l' path' g1 g2 g3) kids.length 0 (l - 1) path false (by omega) (by rw [List.drop_zero]; omega) (by omega) (by rw [List.drop_zero]; omega) (.inl rfl)
    rw [List.drop_zero] at b1 r1 r2
    by_cases hq : k = q
    · have e : fnd q (.mk k a c s g N M m nm on off kids) = some [] := by simp only [fnd]; rw [if_pos hq]
      rw [e]
      refine ⟨l - 1, done (w_ffind _ _ _ _ _ _ _ _ _ _ _ _ _ _ _ _ ⟨fun h4 => ?_, fun h4 => ⟨fun h5 => ?_, fun h5 => ?_⟩⟩), by omega, by omega⟩
      · rw [hw] at h4; have := dt h4; omega
      · rw [hw, decide_eq_true (by omega)]; simp [ways]
      · simp [hq] at h5
    · have e : fnd q (.mk k a c s g N M m nm on off kids) = fnds q kids 0 := by simp only [fnd]; rw [if_neg hq]
      rw [e]
      have r1 : (fnds q kids 0).isSome = true → _ := r1
      have r2 : (fnds q kids 0).isSome = false → _ := r2
      refine ⟨l', done (w_ffind _ _ _ _ _ _ _ _ _ _ _ _ _ _ _ _ ⟨fun h4 => ?_, fun h4 => ⟨fun h5 => ?_, fun h5 => ?_⟩⟩), by omega, by omega⟩
      · rw [hw] at h4; have := dt h4; omega
      · exact absurd (by simpa using h5) hq
      · rw [hw, avs_len]
        cases hb : (fnds q kids 0).isSome with
        | true =>
          obtain ⟨j, r⟩ := r1 hb
          exact .inl ⟨_, _, _, _, _, _, _, r, rfl, rfl⟩
        | false =>
          obtain ⟨j, b', r, r3, r4⟩ := r2 hb
          have hb' : b' = false := by
            cases kids with
            | nil => exact r3 rfl
            | cons x y => exact r4 (by simp)
          have hn : fnds q kids 0 = none := by simpa using hb
          rw [hn]
          refine .inr ⟨_, _, _, _, _, _, _, r, ?_, ?_⟩
          · rw [hb']
          · simp [ways]
theorem Find_ok (n : Nd) (q : Int) (h : n.Ok) (hs : sz n ≤ 4000) : A 20 [n.av, iv q] [] (.tup [.sl 1 (ways (fnd q n)), bv (fnd q n).isSome]) [] := by
  obtain ⟨l', hc, _⟩ := ffind_ok q n h 4000 [] (by omega) (by omega) (by simp; omega)
  have hn : npL [n.av, iv q, .ptr 1 0, .ptr 0 0] = false := by simp [npL, np, np_av]
  rw [List.nil_append] at hc
  generalize fnd q n = o at hc
  cases n with
  | mk k a c s g N M m nm on off kids =>
    refine done (w_Find _ _ _ _ _ _ _ _ _ _ _ _ _ _ ⟨hn, _, _, _, hc, ?_, rfl, rfl⟩)
    simp [np, npL, np_ivs]

/-! ### the reference's -/
section
variable {k a c : Int} {S : List AV} {g : Bool} {N M m : Int} {nm : ByteArray} {on off : Int}
theorem rFind_loop {kids : List Nd} {q : Int} (hk : kids.length ≤ 9223372036854775807) (hz : szs kids ≤ 900000) (ih : ∀ n ∈ kids, A 21 [n.av, iv q] [] (.tup [.sl 1 (ways (fnd q n)), bv (fnd q n).isSome]) []) : ∀ (d i : Nat), i + d = kids.length → szs (kids.drop i) ≤ 900000 →
    ((fnds q (kids.drop i) i).isSome = true → R 21 0 (s_rFind_21_0 q k a c S g N M m nm on off (Nd.avs kids) i) (.ret, x_rFind_21_0_0 (ways (fnds q (kids.drop i) i)))) ∧
    ((fnds q (kids.drop i) i).isSome = false → ∃ j : Int, R 21 0 (s_rFind_21_0 q k a c S g N M m nm on off (Nd.avs kids) i) (.exit 0, x_rFind_21_0_1 q k a c S g N M m nm on off (Nd.avs kids) j))
  | 0, i, hd, hz2 => by
    have : i = kids.length := by omega
    subst this
    rw [List.drop_length]
    simp only [fnds]
    exact ⟨fun h => (by cases h), fun _ => ⟨_, Rounds.last (by simp) (leads (l_rFind_21_0 _ _ _ _ _ _ _ _ _ _ _ _ _ _ _ ⟨fun h => absurd (dt h) (by rw [avs_len]; omega), fun _ => ⟨rfl, rfl⟩⟩))⟩⟩
  | d + 1, i, hd, hz2 => by
    have hi : i < kids.length := by omega
    rw [drop_at hi] at hz2 ⊢
    simp only [fnds, szs] at hz2 ⊢
    have hc := ih kids[i] (List.getElem_mem hi)
    have hg := avs_get kids hi
    have hn : npL [kids[i].av, iv q] = true := by simp [npL, np, np_av]
    obtain ⟨k', a', c', s', g', N', M', m', nm', on', off', K, e, n1, n2⟩ := av_form kids[i]
    rw [e] at hg hc hn
    cases hf : fnd q kids[i] with
    | some p =>
      have hp := fnd_len q _ _ hf
      rw [hf] at hc
      simp only []
      refine ⟨fun _ => ?_, fun h => (by cases h)⟩
      refine Rounds.last (by simp) (leads (l_rFind_21_0 _ _ _ _ _ _ _ _ _ _ _ _ _ _ _ ⟨fun _ => ⟨by simp, _, _, _, _, _, _, _, _, _, _, _, _, hg, hn, _, _, hc, fun _ => ⟨room3 (by simp [ways]; omega), rfl, rfl⟩, fun h => (by cases h)⟩, fun h => absurd hi (len_i h)⟩))
    | none =>
      rw [hf] at hc
      simp only []
      have e1 : ((i : Nat) : Int) + 1 = ((i + 1 : Nat) : Int) := by omega
      rw [e1]
      obtain ⟨r1, r2⟩ := rFind_loop hk hz ih d (i + 1) (by omega) (by omega)
      have n : L 21 0 (s_rFind_21_0 q k a c S g N M m nm on off (Nd.avs kids) i) (.norm, s_rFind_21_0 q k a c S g N M m nm on off (Nd.avs kids) ((i + 1 : Nat) : Int)) := by
        refine leads (l_rFind_21_0 _ _ _ _ _ _ _ _ _ _ _ _ _ _ _ ⟨fun _ => ⟨by simp, _, _, _, _, _, _, _, _, _, _, _, _, hg, hn, _, _, hc, fun h => (by cases h), fun _ => ?_⟩, fun h => absurd hi (len_i h)⟩)
        rw [next_i hi hk]; exact ⟨rfl, rfl⟩
      refine ⟨fun h => Rounds.next n (r1 h), fun h => ?_⟩
      obtain ⟨j, h5⟩ := r2 h
      exact ⟨j, Rounds.next n h5⟩
end
theorem mem_sz {n : Nd} : ∀ {k : List Nd}, n ∈ k → sz n ≤ szs k
  | x :: r, h => by
    simp only [szs]
    rcases List.mem_cons.1 h with rfl | h
    · omega
    · have := mem_sz h; omega
theorem rFind_ok (q : Int) : ∀ n : Nd, n.Ok → sz n ≤ 900000 → A 21 [n.av, iv q] [] (.tup [.sl 1 (ways (fnd q n)), bv (fnd q n).isSome]) [] := by
  refine Nd.ind fun k a c s g N M m nm on off kids ih hok hz => ?_
  cases hok with
  | mk hs hk h =>
    have hz : szs kids + 1 ≤ 900000 := hz
    obtain ⟨r1, r2⟩ := rFind_loop (k := k) (a := a) (c := c) (S := s.map rg) (g := g) (N := N) (M := M) (m := m) (nm := nm) (on := on) (off := off) (q := q) hk (by omega) (fun n hn => ih n hn (h n hn) (by have := mem_sz hn; omega)) kids.length 0 (by omega) (by rw [List.drop_zero]; omega)
    rw [List.drop_zero] at r1 r2
    have r1 : (fnds q kids 0).isSome = true → _ := r1
    have r2 : (fnds q kids 0).isSome = false → _ := r2
    refine done (w_rFind _ _ _ _ _ _ _ _ _ _ _ _ _ _ ⟨fun h1 => ?_, fun h1 => ?_⟩)
    · have e : fnd q (.mk k a c s g N M m nm on off kids) = some [] := by simp only [fnd]; rw [if_pos (by simpa using h1)]
      rw [e]; exact ⟨rfl, rfl⟩
    · have e : fnd q (.mk k a c s g N M m nm on off kids) = fnds q kids 0 := by simp only [fnd]; rw [if_neg (by simpa using h1)]
      rw [e]
      cases hb : (fnds q kids 0).isSome with
      | true => exact .inl ⟨_, r1 hb, rfl, rfl⟩
      | false =>
        obtain ⟨j, r⟩ := r2 hb
        have hn : fnds q kids 0 = none := by simpa using hb
        rw [hn]
        exact .inr ⟨_, _, _, _, _, _, _, _, _, _, _, _, _, _, r, rfl, rfl⟩
theorem eqn_loop {l : List Int} (hl : l.length ≤ 1000000) : ∀ (d i : Nat), i + d = l.length → ∃ j : Int, R 24 0 (s_eqn_24_0 (l.map iv) (l.map iv) i) (.exit 0, x_eqn_24_0_1 (l.map iv) (l.map iv) j)
  | 0, i, hd => ⟨_, Rounds.last (by simp) (leads (l_eqn_24_0 _ _ _ _ ⟨fun h => absurd (dt h) (by simp; omega), fun _ => ⟨rfl, rfl⟩⟩))⟩
  | d + 1, i, hd => by
    have hi : i < l.length := by omega
    obtain ⟨j, r⟩ := eqn_loop hl d (i + 1) (by omega)
    have hg : (l.map iv)[((i : Nat) : Int).toNat]? = some (iv l[i]) := by simp [hi]
    refine ⟨j, Rounds.next (leads (l_eqn_24_0 _ _ _ _ ⟨fun _ => ⟨by simp, _, hg, by simp, _, hg, fun h => (by simp at h), fun _ => ?_⟩, fun h => ?_⟩)) r⟩
    · rw [next_i hi (by omega)]; exact ⟨rfl, rfl⟩
    · have := df h; simp at this; omega
theorem eqn_ok (l : List Int) (hl : l.length ≤ 1000000) : A 24 [.sl 1 (l.map iv), .sl 1 (l.map iv)] [] (bv true) [] := by
  obtain ⟨j, r⟩ := eqn_loop hl l.length 0 (by omega)
  exact done (w_eqn _ _ _ ⟨fun h => (by simp at h), fun _ => .inr ⟨_, _, _, r, rfl, rfl⟩⟩)
theorem finds (n : Nd) (q : Int) (h : n.Ok) : A 6 [n.av, iv q] [] (bv true) [] := by
  have a1 := Small_ok n h
  rw [small_sz] at a1
  have a2 := rCheck_ok n h
  have a3 := fun hs => Find_ok n q h hs
  have a4 := fun hs => rFind_ok q n h hs
  have a5 := fun hs => Captures_ok n h hs
  have a6 := fun hs => rCaptures_ok n h hs
  have n1 := np_one n
  have n2 : npL [n.av, iv q] = true := by simp [npL, np, np_av]
  have a7 : sz n ≤ 4000 → A 24 [.sl 1 (ways (fnd q n)), .sl 1 (ways (fnd q n))] [] (bv true) [] := fun hs => eqn_ok _ (by
    cases hf : fnd q n with
    | none => simp
    | some p => have := fnd_len q n p hf; simp; omega)
  have n3 : npL [.sl 1 (ways (fnd q n)), .sl 1 (ways (fnd q n))] = true := by simp [npL, np, np_ivs]
  cases n with
  | mk k a c s g N M m nm on off kids =>
    refine done (w_TreeFinds _ _ _ _ _ _ _ _ _ _ _ _ _ _ ⟨awake, n1, _, a1, fun h => ⟨rfl, rfl⟩, fun g1 => ⟨n1, _, a2, fun _ => ⟨rfl, rfl⟩, fun _ => ?_⟩⟩)
    have g1 := dt (nf g1)
    refine ⟨n2, _, _, a3 g1, n2, _, _, a4 (by omega), n1, _, a5 g1, n1, _, a6 (by omega), fun _ => ⟨fun _ => ⟨n3, _, a7 g1, rfl, rfl⟩, fun h => ?_⟩, fun h => ?_⟩
    · simp at h
    · simp at h
end Go.Proofs.Ytpnpeeloeifccaa.U
