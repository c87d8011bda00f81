/- Trees: sizes, depths and groups: the program's walks and the reference's. -/
import Derived.Test.YtpnpeeloeifccaaTre3
namespace Go.Proofs.Ytpnpeeloeifccaa.U
open Go Go.Vai
set_option linter.unusedVariables false
mutual
/-- How many nodes. -/
def sz : Nd → Nat
  | .mk _ _ _ _ _ _ _ _ _ _ _ kids => szs kids + 1
def szs : List Nd → Nat
  | [] => 0
  | n :: r => sz n + szs r
end
mutual
/-- How many lie within one another. -/
def ht : Nd → Nat
  | .mk _ _ _ _ _ _ _ _ _ _ _ kids => hts kids + 1
def hts : List Nd → Nat
  | [] => 0
  | n :: r => max (ht n) (hts r)
end
mutual
/-- How many groups. -/
def gr : Nd → Nat
  | .mk k _ _ _ _ _ _ _ _ _ _ kids => (if k = 14 then 1 else 0) + grs kids
def grs : List Nd → Nat
  | [] => 0
  | n :: r => gr n + grs r
end
theorem sz_pos (n : Nd) : 1 ≤ sz n := by cases n; simp only [sz]; omega
def lft (z l : Int) : Int := if z ≤ l then l - z else -1
theorem lft_pos {z l : Int} (h : z ≤ l) : lft z l = l - z := if_pos h
theorem lft_neg {z l : Int} (h : ¬ z ≤ l) : lft z l = -1 := if_neg h
mutual
theorem cnt_sz : ∀ (n : Nd) (l : Int), 0 ≤ l → cnt n l = lft (sz n) l
  | .mk _ _ _ _ _ _ _ _ _ _ _ kids, l, h => by
    simp only [cnt, sz]
    rw [cnts_sz kids (l - 1) (by omega)]
    by_cases h1 : (szs kids : Int) ≤ l - 1
    · rw [lft_pos h1, lft_pos (by omega)]; omega
    · rw [lft_neg h1, lft_neg (by omega)]
theorem cnts_sz : ∀ (k : List Nd) (l : Int), -1 ≤ l → cnts k l = lft (szs k) l
  | [], l, h => by
    simp only [cnts, szs]
    by_cases h1 : 0 ≤ l
    · rw [lft_pos (by omega)]; omega
    · rw [lft_neg (by omega)]; omega
  | n :: r, l, h => by
    simp only [cnts, szs]
    have := sz_pos n
    by_cases hl : 0 ≤ l
    · rw [if_pos hl, cnt_sz n l hl]
      by_cases h1 : (sz n : Int) ≤ l
      · rw [lft_pos h1, cnts_sz r _ (by omega)]
        by_cases h2 : (szs r : Int) ≤ l - sz n
        · rw [lft_pos h2, lft_pos (by omega)]; omega
        · rw [lft_neg h2, lft_neg (by omega)]
      · rw [lft_neg h1, cnts_neg _ _ (by omega), lft_neg (by omega)]
    · rw [if_neg hl, lft_neg (by omega)]; omega
end
mutual
theorem ht_sz : ∀ n : Nd, ht n ≤ sz n
  | .mk _ _ _ _ _ _ _ _ _ _ _ kids => by simp only [ht, sz]; have := hts_szs kids; omega
theorem hts_szs : ∀ k : List Nd, hts k ≤ szs k
  | [] => Nat.le_refl _
  | n :: r => by simp only [hts, szs]; have := ht_sz n; have := hts_szs r; omega
end
mutual
theorem gr_sz : ∀ n : Nd, gr n ≤ sz n
  | .mk k _ _ _ _ _ _ _ _ _ _ kids => by simp only [gr, sz]; have := grs_szs kids; split <;> omega
theorem grs_szs : ∀ k : List Nd, grs k ≤ szs k
  | [] => Nat.le_refl _
  | n :: r => by simp only [grs, szs]; have := gr_sz n; have := grs_szs r; omega
end
theorem ht_pos (n : Nd) : 1 ≤ ht n := by cases n; simp only [ht]; omega
theorem small_sz (n : Nd) : small n = decide (sz n ≤ 4000) := by
  unfold small
  rw [cnt_sz n 4000 (by omega)]
  by_cases h : (sz n : Int) ≤ 4000
  · rw [lft_pos h]
    rw [decide_eq_true (by omega), decide_eq_true (by omega)]
  · rw [lft_neg h, decide_eq_false (by omega), decide_eq_false (by omega)]
theorem kids_of {kids : List Nd} (h : ∀ n ∈ kids, n.Ok) {i : Nat} (hi : i < kids.length) : (kids[i]).Ok := h _ (List.getElem_mem hi)
theorem len_i {kids : List Nd} {i : Nat} (h : decide ((i : Int) < ((Nd.avs kids).length : Int)) = false) : ¬ i < kids.length := by
  have := df h; rw [avs_len] at this; omega
theorem drop_at {α : Type} {l : List α} {i : Nat} (h : i < l.length) : l.drop i = l[i] :: l.drop (i + 1) := List.drop_eq_getElem_cons h

/-! ### depth, by the reference -/
section
variable {k a c : Int} {s : List AV} {g : Bool} {N M m : Int} {nm : ByteArray} {on off : Int}
def cap (l : Int) (h : Nat) : Int := min (h : Int) l
theorem deep_loop {kids : List Nd} (hk : kids.length ≤ 9223372036854775807) {l : Int} (hl : 1 < l) (hl2 : l ≤ 1000000) (ih : ∀ n ∈ kids, A 32 [n.av, iv (l - 1)] [] (iv (cap (l - 1) (ht n))) []) : ∀ (d i : Nat) (mx : Nat), i + d = kids.length → (mx : Int) ≤ l - 1 →
    ∃ j : Int, R 32 0 (s_deep_32_0 l k a c s g N M m nm on off (Nd.avs kids) mx i) (.exit 0, x_deep_32_0_0 l k a c s g N M m nm on off (Nd.avs kids) (cap (l - 1) (max mx (hts (kids.drop i)))) j)
  | 0, i, mx, hd, hm => by
    have : i = kids.length := by omega
    subst this
    refine ⟨kids.length, ?_⟩
    rw [List.drop_length]
    have e : cap (l - 1) (max mx (hts [])) = mx := by simp only [hts, cap, Nat.max_zero]; omega
    rw [e]
    refine Rounds.last (by simp) (leads (l_deep_32_0 _ _ _ _ _ _ _ _ _ _ _ _ _ _ _ _ ⟨fun h => ?_, fun _ => ⟨rfl, rfl⟩⟩))
    have := dt h; rw [avs_len] at this; omega
  | d + 1, i, mx, hd, hm => by
    have hi : i < kids.length := by omega
    rw [drop_at hi]
    simp only [hts]
    have hc := ih kids[i] (List.getElem_mem hi)
    have hp := ht_pos kids[i]
    have hw : IntKind.wrap .i64 (l - 1) = l - 1 := wrap_id (by omega) (by omega)
    have step : ∀ mx' : Nat, (mx' : Int) = (if cap (l - 1) (ht kids[i]) > mx then cap (l - 1) (ht kids[i]) else mx) → L 32 0 (s_deep_32_0 l k a c s g N M m nm on off (Nd.avs kids) mx i) (.norm, s_deep_32_0 l k a c s g N M m nm on off (Nd.avs kids) mx' ((i + 1 : Nat) : Int)) := fun mx' hmx => by
      refine leads (l_deep_32_0 _ _ _ _ _ _ _ _ _ _ _ _ _ _ _ _ ⟨fun _ => ⟨by simp, ?_⟩, fun h => absurd hi (len_i h)⟩)
      rw [hmx, hw]
      have hg := avs_get kids hi
      revert hg hc
      generalize kids[i] = n
      cases n with
      | mk k a c s g N M m nm on off kids2 =>
        intro hc hg
        refine ⟨_, _, _, _, _, _, _, _, _, _, _, _, hg, ?_, _, hc, fun h => ?_, fun h => ?_⟩
        · simp [npL, np, np_rg, np_avs]
        · rw [next_i hi hk, if_pos (dt h)]; exact ⟨rfl, rfl⟩
        · rw [next_i hi hk, if_neg (df h)]; exact ⟨rfl, rfl⟩
    have hcap : cap (l - 1) (ht kids[i]) ≤ l - 1 ∧ 0 ≤ cap (l - 1) (ht kids[i]) := by unfold cap; omega
    by_cases hgt : cap (l - 1) (ht kids[i]) > mx
    · obtain ⟨j, hj⟩ := deep_loop hk hl hl2 ih d (i + 1) (cap (l - 1) (ht kids[i])).toNat (by omega) (by omega)
      refine ⟨j, ?_⟩
      have e : cap (l - 1) (max mx (max (ht kids[i]) (hts (kids.drop (i + 1))))) = cap (l - 1) (max (cap (l - 1) (ht kids[i])).toNat (hts (kids.drop (i + 1)))) := by
        unfold cap at hgt ⊢
        omega
      rw [e]
      exact Rounds.next (step _ (by rw [if_pos hgt]; omega)) hj
    · obtain ⟨j, hj⟩ := deep_loop hk hl hl2 ih d (i + 1) mx (by omega) hm
      refine ⟨j, ?_⟩
      have e : cap (l - 1) (max mx (max (ht kids[i]) (hts (kids.drop (i + 1))))) = cap (l - 1) (max mx (hts (kids.drop (i + 1)))) := by
        unfold cap at hgt ⊢
        omega
      rw [e]
      exact Rounds.next (step _ (by rw [if_neg hgt])) hj
end
theorem deep_ok : ∀ n : Nd, n.Ok → ∀ l : Int, 1 ≤ l → l ≤ 1000000 → A 32 [n.av, iv l] [] (iv (cap l (ht n))) [] := by
  refine Nd.ind fun k a c s g N M m nm on off kids ih hok l h0 h1 => ?_
  cases hok with
  | mk hs hk h =>
    have hp := ht_pos (.mk k a c s g N M m nm on off kids)
    refine done (w_deep _ _ _ _ _ _ _ _ _ _ _ _ _ _ ⟨fun h2 => ?_, fun h2 => ?_⟩)
    · have : l = 1 := by simpa using h2
      subst this
      have e : cap 1 (ht (.mk k a c s g N M m nm on off kids)) = 1 := by unfold cap; omega
      rw [e]; exact ⟨rfl, rfl⟩
    · have : l ≠ 1 := by simpa using h2
      obtain ⟨j, hj⟩ := deep_loop (k := k) (a := a) (c := c) (s := s.map rg) (g := g) (N := N) (M := M) (m := m) (nm := nm) (on := on) (off := off) hk (l := l) (by omega) h1 (fun n hn => ih n hn (h n hn) (l - 1) (by omega) (by omega)) kids.length 0 0 (by omega) (by omega)
      refine ⟨_, _, _, _, _, _, _, _, _, _, _, _, _, _, _, hj, ?_, rfl⟩
      rw [Nat.zero_max, List.drop_zero]
      have e : IntKind.wrap .i64 (cap (l - 1) (hts kids) + 1) = cap l (ht (.mk k a c s g N M m nm on off kids)) := by
        simp only [ht, cap]
        rw [wrap_id (by omega) (by omega)]
        omega
      rw [e]
theorem rDepth_ok (n : Nd) (h : n.Ok) : A 17 [n.av] [] (iv (cap 301 (ht n))) [] := by
  have hc := deep_ok n h 301 (by omega) (by omega)
  cases n with
  | mk k a c s g N M m nm on off kids =>
    refine done (w_rDepth _ _ _ _ _ _ _ _ _ _ _ _ _ ⟨?_, _, hc, ⟨rfl, rfl⟩⟩)
    simp [npL, np, np_rg, np_avs]
end Go.Proofs.Ytpnpeeloeifccaa.U
