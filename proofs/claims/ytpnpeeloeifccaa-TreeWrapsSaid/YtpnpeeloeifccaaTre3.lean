/- Trees: the reference's counting: nodes, depth, groups. -/
import Derived.Test.YtpnpeeloeifccaaTre2
namespace Go.Proofs.Ytpnpeeloeifccaa.U
open Go Go.Vai
set_option linter.unusedVariables false
theorem next_i {i : Nat} {n : Nat} (h : i < n) (hn : n ≤ 9223372036854775807) : IntKind.wrap .i64 ((i : Int) + 1) = ((i + 1 : Nat) : Int) := by
  rw [wrap_id (by omega) (by omega)]; omega
mutual
/-- What is left of so many nodes. -/
def cnt : Nd → Int → Int
  | .mk _ _ _ _ _ _ _ _ _ _ _ kids, l => cnts kids (l - 1)
def cnts : List Nd → Int → Int
  | [], l => l
  | n :: r, l => if 0 ≤ l then cnts r (cnt n l) else l
end
mutual
theorem cnt_le : ∀ (n : Nd) (l : Int), 0 ≤ l → -1 ≤ cnt n l ∧ cnt n l < l
  | .mk _ _ _ _ _ _ _ _ _ _ _ kids, l, h => by
    simp only [cnt]
    have := cnts_le kids (l - 1) (by omega)
    omega
theorem cnts_le : ∀ (k : List Nd) (l : Int), -1 ≤ l → -1 ≤ cnts k l ∧ cnts k l ≤ l
  | [], l, h => by simp only [cnts]; omega
  | n :: r, l, h => by
    simp only [cnts]
    split
    · have h1 := cnt_le n l ‹_›
      have h2 := cnts_le r (cnt n l) (by omega)
      omega
    · omega
end
theorem cnts_neg (k : List Nd) (l : Int) (h : l < 0) : cnts k l = l := by
  cases k with
  | nil => rfl
  | cons n r => simp only [cnts]; rw [if_neg (by omega)]
section
variable {k a c : Int} {s : List AV} {g : Bool} {N M m : Int} {nm : ByteArray} {on off : Int}
theorem count_loop {kids : List Nd} (hk : kids.length ≤ 9223372036854775807) (ih : ∀ n ∈ kids, ∀ l : Int, 0 ≤ l → l ≤ 1000000 → A 25 [n.av, iv l] [] (iv (cnt n l)) []) : ∀ (d i : Nat) (l : Int), i + d = kids.length → -1 ≤ l → l ≤ 1000000 →
    ∃ j : Int, R 25 0 (s_count_25_0 l k a c s g N M m nm on off (Nd.avs kids) i) (.exit 0, ⟨[], [(1, iv (cnts (kids.drop i) l)), (2, .ea [iv k, iv a, iv c, .sl 2 s, bv g, iv N, iv M, iv m, sv nm, iv on, iv off, .sl 12 (Nd.avs kids)]), (5, iv j), (16, bv false)], [], 0⟩)
  | 0, i, l, hd, h0, h1 => by
    have : i = kids.length := by omega
    subst this
    refine ⟨kids.length, ?_⟩
    rw [List.drop_length]
    refine Rounds.last (by simp) (leads (l_count_25_0 _ _ _ _ _ _ _ _ _ _ _ _ _ _ _ ⟨fun h => ?_, fun _ => ⟨rfl, rfl⟩⟩))
    have := dt h; rw [avs_len] at this; omega
  | d + 1, i, l, hd, h0, h1 => by
    have hi : i < kids.length := by omega
    rw [List.drop_eq_getElem_cons hi]
    by_cases hl : 0 ≤ l
    · obtain ⟨h2, h3⟩ := cnt_le kids[i] l hl
      obtain ⟨j, hj⟩ := count_loop hk ih d (i + 1) (cnt kids[i] l) (by omega) h2 (by omega)
      refine ⟨j, ?_⟩
      simp only [cnts, if_pos hl]
      refine Rounds.next (leads (l_count_25_0 _ _ _ _ _ _ _ _ _ _ _ _ _ _ _ ⟨fun _ => ⟨fun _ => ⟨by simp, ?_⟩, fun h => absurd hl (df h)⟩, fun h => ?_⟩)) hj
      · have hg := avs_get kids hi
        have hc := ih kids[i] (List.getElem_mem hi) l hl (by omega)
        revert hg hc
        generalize kids[i] = n
        cases n with
        | mk k a c s g N M m nm on off kids2 =>
          intro hg hc
          refine ⟨_, _, _, _, _, _, _, _, _, _, _, _, hg, ?_, _, hc, ?_⟩
          · simp [npL, np, np_rg, np_avs]
          · rw [next_i hi hk]; exact ⟨rfl, rfl⟩
      · have := df h; rw [avs_len] at this; omega
    · refine ⟨i, ?_⟩
      simp only [cnts, if_neg hl]
      refine Rounds.last (by simp) (leads (l_count_25_0 _ _ _ _ _ _ _ _ _ _ _ _ _ _ _ ⟨fun _ => ⟨fun h => absurd (dt h) hl, fun _ => ⟨rfl, rfl⟩⟩, fun h => ?_⟩))
      have := df h; rw [avs_len] at this; omega
end
theorem count_ok : ∀ n : Nd, n.Ok → ∀ l : Int, 0 ≤ l → l ≤ 1000000 → A 25 [n.av, iv l] [] (iv (cnt n l)) [] := by
  refine Nd.ind fun k a c s g N M m nm on off kids ih hok l h0 h1 => ?_
  cases hok with
  | mk hs hk h =>
    obtain ⟨j, hj⟩ := count_loop (k := k) (a := a) (c := c) (s := s.map rg) (g := g) (N := N) (M := M) (m := m) (nm := nm) (on := on) (off := off) hk (fun n hn => ih n hn (h n hn)) kids.length 0 (l - 1) (by omega) (by omega) (by omega)
    refine done (w_count _ _ _ _ _ _ _ _ _ _ _ _ _ _ ⟨cnts kids (l - 1), k, a, c, s.map rg, g, N, M, m, nm, on, off, Nd.avs kids, j, ?_, ⟨rfl, rfl⟩⟩)
    rw [wrap_id (by omega) (by omega)]
    exact hj
def small (n : Nd) : Bool := decide (cnt n 4000 ≥ 0)
theorem np_one (n : Nd) : npL [n.av] = true := by simp [npL, np_av]
theorem Small_ok (n : Nd) (h : n.Ok) : A 11 [n.av] [] (bv (small n)) [] := by
  have hc := count_ok n h 4000 (by omega) (by omega)
  cases n with
  | mk k a c s g N M m nm on off kids =>
    refine done (w_Small _ _ _ _ _ _ _ _ _ _ _ _ _ ⟨?_, _, hc, ⟨rfl, rfl⟩⟩)
    simp [npL, np, np_rg, np_avs]
theorem rSize_ok (n : Nd) (h : n.Ok) : A 15 [n.av] [] (iv (4000 - cnt n 4000)) [] := by
  have hc := count_ok n h 4000 (by omega) (by omega)
  have hb := cnt_le n 4000 (by omega)
  cases n with
  | mk k a c s g N M m nm on off kids =>
    refine done (w_rSize _ _ _ _ _ _ _ _ _ _ _ _ _ ⟨?_, _, hc, ?_⟩)
    · simp [npL, np, np_rg, np_avs]
    · rw [wrap_id (by omega) (by omega)]; exact ⟨rfl, rfl⟩
end Go.Proofs.Ytpnpeeloeifccaa.U
