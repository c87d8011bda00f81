/- Trees: may a node by itself be (all kinds). -/
import Derived.Test.YtpnpeeloeifccaaTre7
namespace Go.Proofs.Ytpnpeeloeifccaa.U
open Go Go.Vai
set_option linter.unusedVariables false
/-- The first kid's kind. -/
def kid0 : List Nd → Int
  | [] => 0
  | .mk k _ _ _ _ _ _ _ _ _ _ _ :: _ => k
def condB (N M m l q : Int) : Bool :=
  decide (-1 ≤ m ∧ m ≤ 255 ∧ 0 ≤ M ∧ M ≤ 3) && (if N = 13 then decide ((l = 2 ∨ l = 3) ∧ q = 18) else if N = 12 then decide (l = 1) else decide (9 ≤ N ∧ N ≤ 11 ∧ (l = 1 ∨ l = 2)))
def inner (q : Int) : Bool := q == 4 || q == 5 || q == 9 || q == 10 || q == 11
def mayB (k c N M m l q : Int) (rs : Bool) : Bool :=
  if k = 1 then decide (l = 0 ∧ 0 ≤ c ∧ c ≤ 1114111)
  else if k = 2 then decide (l = 0) && rs
  else if k = 3 ∨ k = 5 ∨ k = 6 ∨ k = 11 then decide (l = 0)
  else if k = 4 then decide (l = 0 ∧ 1 ≤ N ∧ N ≤ 10)
  else if k = 7 ∨ k = 8 then decide (l = 0 ∧ 0 ≤ M ∧ M ≤ 3 ∧ 0 ≤ N ∧ N ≤ 255)
  else if k = 9 then decide (l = 0 ∧ 1 ≤ N ∧ N ≤ 7)
  else if k = 10 then decide (l = 0 ∧ 0 ≤ N ∧ N ≤ 255)
  else if k = 12 then decide (l ≠ 1)
  else if k = 13 then decide (2 ≤ l)
  else if k = 16 then decide (1 ≤ l)
  else if k = 14 ∨ k = 15 ∨ k = 17 then decide (l = 1)
  else if k = 18 then decide (l = 1 ∧ 5 ≤ N ∧ N ≤ 8)
  else if k = 19 then condB N M m l q
  else if k = 20 then decide (l = 1 ∧ 0 ≤ N ∧ N ≤ 255 ∧ (M = -1 ∨ (N ≤ M ∧ M ≤ 255)) ∧ 0 ≤ m ∧ m ≤ 2) && !inner q
  else false
def may : Nd → Bool
  | .mk k _ c s _ N M m _ _ _ kids => mayB k c N M m kids.length (kid0 kids) (rise (-2) s)
theorem contains_ok (q : Int) : A 40 [.sl 1 [iv 4, iv 5, iv 9, iv 10, iv 11], iv q] [] (bv (inner q)) [] := by
  refine done (w_contains q _ ?_)
  repeat' (first | refine ⟨fun h => ?_, fun h => ?_⟩ | fail)
  all_goals (refine ⟨congrArg bv ?_, rfl⟩; unfold inner; grind)
theorem kid0_get (n : Nd) (r : List Nd) : ∃ k a c s g N M m nm on off K, (Nd.avs (n :: r))[0]? = some (nd k a c s g N M m nm on off K) ∧ kid0 (n :: r) = k := by
  cases n with
  | mk k a c s g N M m nm on off kids => exact ⟨k, a, c, _, g, N, M, m, nm, on, off, _, rfl, rfl⟩
theorem np_rgs (s : List (Int × Int)) : npL [.sl 2 (s.map rg)] = true := by simp [npL, np, np_rg]
section
variable {k a c : Int} {s : List (Int × Int)} {g : Bool} {N M m : Int} {nm : ByteArray} {on off : Int} {kids : List Nd}
theorem cond_ok : A 39 [(Nd.mk k a c s g N M m nm on off kids).av] [] (bv (condB N M m kids.length (kid0 kids))) [] := by
  refine done (w_cond _ _ _ _ _ _ _ _ _ _ _ _ _ ?_)
  have hL : ((Nd.avs kids).length : Int) = kids.length := by rw [avs_len]
  cases kids with
  | nil =>
    rw [hL]
    generalize hl : (([] : List Nd).length : Int) = L at *
    have hL0 : L = 0 := by rw [← hl]; rfl
    clear hl hL
    repeat' (first | refine ⟨fun h => ?_, fun h => ?_⟩ | fail)
    all_goals first
      | (refine ⟨congrArg bv ?_, rfl⟩; unfold condB; grind)
      | (exfalso; grind)
  | cons n r =>
    obtain ⟨k0, a0, c0, s0, g0, N0, M0, m0, nm0, on0, off0, K0, h0, e0⟩ := kid0_get n r
    rw [hL, e0]
    generalize ((n :: r).length : Int) = L
    repeat' (first | refine ⟨fun h => ?_, fun h => ?_⟩ | refine ⟨_, _, _, _, _, _, _, _, _, _, _, _, h0, ?_⟩ | fail)
    all_goals (refine ⟨congrArg bv ?_, rfl⟩; unfold condB; grind)
theorem np_node : npL [(Nd.mk k a c s g N M m nm on off kids).av] = true := np_one _
set_option maxHeartbeats 4000000 in
theorem May_ok (hs : s.length ≤ 9223372036854775807) : A 41 [(Nd.mk k a c s g N M m nm on off kids).av] [] (bv (may (.mk k a c s g N M m nm on off kids))) [] := by
  have hr := rises_ok s hs
  have hm : may (.mk k a c s g N M m nm on off kids) = mayB k c N M m kids.length (kid0 kids) (rise (-2) s) := rfl
  rw [hm]
  generalize rise (-2) s = rs at hr
  refine done (w_May _ _ _ _ _ _ _ _ _ _ _ _ _ ?_)
  have hL : ((Nd.avs kids).length : Int) = kids.length := by rw [avs_len]
  cases kids with
  | nil =>
    rw [hL]
    generalize hl : (([] : List Nd).length : Int) = L at *
    have hL0 : L = 0 := by rw [← hl]; rfl
    clear hl hL
    repeat' (first | refine ⟨fun h => ?_, fun h => ?_⟩ | refine ⟨np_rgs s, _, hr, ?_⟩ | fail)
    all_goals first
      | (refine ⟨congrArg bv ?_, rfl⟩; unfold mayB; grind [condB, inner])
      | (exfalso; grind)
  | cons n r =>
    obtain ⟨k0, a0, c0, s0, g0, N0, M0, m0, nm0, on0, off0, K0, h0, e0⟩ := kid0_get n r
    rw [hL, e0]
    generalize hl : ((n :: r).length : Int) = L
    have hL1 : 1 ≤ L := by rw [← hl]; simp; omega
    clear hl hL
    repeat' (first | refine ⟨fun h => ?_, fun h => ?_⟩ | refine ⟨np_rgs s, _, hr, ?_⟩ | refine ⟨_, _, _, _, _, _, _, _, _, _, _, _, h0, ?_⟩ | fail)
    all_goals (clear h0 hr; refine ⟨congrArg bv ?_, rfl⟩; unfold mayB; grind [condB, inner])
set_option maxHeartbeats 4000000 in
theorem may_ok (hs : s.length ≤ 9223372036854775807) : A 28 [(Nd.mk k a c s g N M m nm on off kids).av] [] (bv (may (.mk k a c s g N M m nm on off kids))) [] := by
  have hr := rising_ok s hs
  have hm : may (.mk k a c s g N M m nm on off kids) = mayB k c N M m kids.length (kid0 kids) (rise (-2) s) := rfl
  rw [hm]
  have hc := cond_ok (k := k) (a := a) (c := c) (s := s) (g := g) (N := N) (M := M) (m := m) (nm := nm) (on := on) (off := off) (kids := kids)
  have hn := np_node (k := k) (a := a) (c := c) (s := s) (g := g) (N := N) (M := M) (m := m) (nm := nm) (on := on) (off := off) (kids := kids)
  generalize rise (-2) s = rs at hr
  refine done (w_may _ _ _ _ _ _ _ _ _ _ _ _ _ ?_)
  have hL : ((Nd.avs kids).length : Int) = kids.length := by rw [avs_len]
  cases kids with
  | nil =>
    rw [hL]
    generalize hl : (([] : List Nd).length : Int) = L at *
    have hL0 : L = 0 := by rw [← hl]; rfl
    clear hl hL
    repeat' (first | refine ⟨fun h => ?_, fun h => ?_⟩ | refine ⟨np_rgs s, _, hr, ?_⟩ | refine ⟨hn, _, hc, ?_⟩ | fail)
    all_goals first
      | (clear hr hc hn; refine ⟨congrArg bv ?_, rfl⟩; unfold mayB; grind [inner])
      | (exfalso; clear hr hc hn; grind)
  | cons n r =>
    obtain ⟨k0, a0, c0, s0, g0, N0, M0, m0, nm0, on0, off0, K0, h0, e0⟩ := kid0_get n r
    rw [hL, e0]
    rw [e0] at hc
    generalize hl : ((n :: r).length : Int) = L at hc
    have hL1 : 1 ≤ L := by rw [← hl]; simp; omega
    clear hl hL
    repeat' (first | refine ⟨fun h => ?_, fun h => ?_⟩ | refine ⟨np_rgs s, _, hr, ?_⟩ | refine ⟨hn, _, hc, ?_⟩ | refine ⟨_, _, _, _, _, _, _, _, _, _, _, _, h0, _, contains_ok _, ?_⟩ | fail)
    all_goals (clear h0 hr hc hn; refine ⟨congrArg bv ?_, rfl⟩; unfold mayB; grind [inner])
end
end Go.Proofs.Ytpnpeeloeifccaa.U
