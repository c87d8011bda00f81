/- The interpreter's answers for the table of characters: searching. -/
import Derived.Test.YtbfjpgjeglickaaUcd1
import Derived.Laws.BitsLemmas
namespace Go.Proofs.Ytbfjpgjeglickaa.U
open Go Go.Vai

/-! ### how code is walked -/
def loops : Code → List Code
  | .seq a b => loops a ++ loops b
  | .cond _ a b => loops a ++ loops b
  | .block _ c => loops c
  | .loop c => c :: loops c
  | .scope c => loops c
  | _ => []
noncomputable def loopB (f : FuncId) (k : Nat) : Code := match pr.funcs[f]? with | some fn => (match fn.body with | some c => (loops c).getD k .skip | none => .skip) | none => .skip
noncomputable def nT (f : FuncId) : Nat := match pr.funcs[f]? with | some fn => fn.ntmps | none => 0
abbrev L (f : FuncId) (k : Nat) (s : St) (r : Ex × St) : Prop := Leads (run pr hintsOf ext0) pr hintsOf f (nT f) (loopB f k) s r
abbrev R (f : FuncId) (k : Nat) (s : St) (r : Ex × St) : Prop := Rounds (run pr hintsOf ext0) pr hintsOf f (nT f) (loopB f k) s r
theorem L.of {f : FuncId} {k : Nat} {s : St} {r : Ex × St} (hs : List Hint) (C : Prop) (h : execS A (run pr hintsOf ext0) pr hintsOf f (nT f) (loopB f k) s hs True = some (r, [], C)) (hC : C) : L f k s r :=
  (execS_sound (fun _ _ _ _ _ h => h) h hC).2
theorem A.of {f : FuncId} {args : List AV} {H H' : HH} {r : AV} (hs : List Hint) (C : Prop) (h : bodyS pr hintsOf A (run pr hintsOf ext0) f args H hs = some ((r, H'), [], C)) (hC : C) : A f args H r H' :=
  Ans.body rfl h hC

/-! ### slices.IndexFunc over rows -/
abbrev g28 : AV := .fn 28 [.ptr 0 0]
def s27 (part : List AV) (H : HH) (j : Int) : St := ⟨[], [(0, .sl 5 part), (1, g28), (7, i part.length), (8, i j)], H, 0⟩
theorem l27_hit (part : List AV) (H : HH) (j lo hi oth : Int) (cat scr : ByteArray) (h1 : decide (j < (part.length : Int)) = true) (h2 : decide (0 ≤ j) = true) (h3 : part[j.toNat]? = some (rowAV ⟨lo, hi, cat, scr, oth⟩))
    (h4 : A 28 [rowAV ⟨lo, hi, cat, scr, oth⟩, .ptr 0 0] H (b true) H) : L 27 0 (s27 part H j) (.ret, ⟨[], [(4, i j)], H, 0⟩) :=
  L.of [.ev, .b true, .b true, .ev, .av (rowAV ⟨lo, hi, cat, scr, oth⟩), .res (b true) H, .ev]
    (A 28 [rowAV ⟨lo, hi, cat, scr, oth⟩, .ptr 0 0] H (b true) H ∧ part[j.toNat]? = some (rowAV ⟨lo, hi, cat, scr, oth⟩) ∧ decide (0 ≤ j) = true ∧ decide (j < (part.length : Int)) = true ∧ True) (by kernel_rfl) ⟨h4, h3, h2, h1, trivial⟩
theorem l27_miss (part : List AV) (H : HH) (j lo hi oth : Int) (cat scr : ByteArray) (h1 : decide (j < (part.length : Int)) = true) (h2 : decide (0 ≤ j) = true) (h3 : part[j.toNat]? = some (rowAV ⟨lo, hi, cat, scr, oth⟩))
    (h4 : A 28 [rowAV ⟨lo, hi, cat, scr, oth⟩, .ptr 0 0] H (b false) H) : L 27 0 (s27 part H j) (.norm, s27 part H (IntKind.wrap .i64 (j + 1))) :=
  L.of [.ev, .b true, .b true, .ev, .av (rowAV ⟨lo, hi, cat, scr, oth⟩), .res (b false) H, .ev, .ev]
    (A 28 [rowAV ⟨lo, hi, cat, scr, oth⟩, .ptr 0 0] H (b false) H ∧ part[j.toNat]? = some (rowAV ⟨lo, hi, cat, scr, oth⟩) ∧ decide (0 ≤ j) = true ∧ decide (j < (part.length : Int)) = true ∧ True) (by kernel_rfl) ⟨h4, h3, h2, h1, trivial⟩
def e27 (part : List AV) (H : HH) (j : Int) : St := ⟨[], [(0, .sl 5 part), (1, g28), (7, i part.length), (8, i j), (9, b (decide (j < (part.length : Int))))], H, 0⟩
theorem l27_end (part : List AV) (H : HH) (j : Int) (h1 : decide (j < (part.length : Int)) = false) : L 27 0 (s27 part H j) (.exit 0, e27 part H j) :=
  L.of [.ev, .b false] (decide (j < (part.length : Int)) = false ∧ True) (by kernel_rfl) ⟨h1, trivial⟩
theorem wrap_id {n : Int} (h1 : -9223372036854775808 ≤ n) (h2 : n ≤ 9223372036854775807) : IntKind.wrap .i64 n = n := by
  rw [IntKind.wrap_i64]; omega

def inRow (c : Int) (r : Rw) : Bool := decide (r.lo ≤ c) && decide (c ≤ r.hi)
theorem a28 (c : Int) (r : Rw) : A 28 [rowAV r, .ptr 0 0] [[i c]] (b (inRow c r)) [[i c]] := by
  obtain ⟨lo, hi, cat, scr, oth⟩ := r
  cases h : decide (lo ≤ c) with
  | true =>
    have e : inRow c ⟨lo, hi, cat, scr, oth⟩ = decide (c ≤ hi) := by simp only [inRow, h, Bool.true_and]
    rw [e]
    exact A.of [.ev, .b true, .b true, .b true, .b true, .ev, .b true, .ev] (decide (lo ≤ c) = true ∧ decide (lo ≤ c) = true ∧ decide (lo ≤ c) = true ∧ decide (lo ≤ c) = true ∧ decide (lo ≤ c) = true ∧ True) (by kernel_rfl) ⟨h, h, h, h, h, trivial⟩
  | false =>
    have e : inRow c ⟨lo, hi, cat, scr, oth⟩ = false := by simp only [inRow, h, Bool.false_and]
    rw [e]
    exact A.of [.ev, .b false, .b false, .b false, .b false, .b false, .ev] (decide (lo ≤ c) = false ∧ decide (lo ≤ c) = false ∧ decide (lo ≤ c) = false ∧ decide (lo ≤ c) = false ∧ decide (lo ≤ c) = false ∧ True) (by kernel_rfl) ⟨h, h, h, h, h, trivial⟩

section
variable {part : List Rw} {c : Int}
theorem at27 {j : Nat} (hj : j < part.length) : decide ((j : Int) < ((part.map rowAV).length : Int)) = true ∧ decide (0 ≤ (j : Int)) = true ∧ (part.map rowAV)[((j : Int)).toNat]? = some (rowAV part[j]) := by
  refine ⟨by simp; omega, by simp, ?_⟩
  simp [hj]
variable (hlen : part.length < 1000000)
include hlen
theorem r27_hit {k : Nat} (hk : k < part.length) (hin : inRow c part[k] = true) : ∀ {d j : Nat}, j + d = k → (∀ t (ht : t < part.length), j ≤ t → t < k → inRow c part[t] = false) → R 27 0 (s27 (part.map rowAV) [[i c]] j) (.ret, ⟨[], [(4, i k)], [[i c]], 0⟩)
  | 0, j, hd, _ => by
    have : j = k := by omega
    subst this
    obtain ⟨h1, h2, h3⟩ := at27 hk
    have h4 := a28 c part[j]
    rw [hin] at h4
    exact Rounds.last (by simp) (l27_hit _ _ _ _ _ _ _ _ h1 h2 h3 h4)
  | d + 1, j, hd, hm => by
    have hj : j < part.length := by omega
    obtain ⟨h1, h2, h3⟩ := at27 hj
    have h4 := a28 c part[j]
    rw [hm j hj (Nat.le_refl _) (by omega)] at h4
    have n := l27_miss _ _ _ _ _ _ _ _ h1 h2 h3 h4
    rw [wrap_id (by omega) (by omega)] at n
    exact Rounds.next n (r27_hit hk hin (d := d) (j := j + 1) (by omega) (fun t ht h5 h6 => hm t ht (by omega) h6))
theorem r27_none : ∀ {d j : Nat}, j + d = part.length → (∀ t (ht : t < part.length), j ≤ t → inRow c part[t] = false) →
    R 27 0 (s27 (part.map rowAV) [[i c]] j) (.exit 0, e27 (part.map rowAV) [[i c]] part.length)
  | 0, j, hd, _ => by
    have : j = part.length := by omega
    subst this
    exact Rounds.last (by simp) (l27_end _ _ _ (by simp))
  | d + 1, j, hd, hm => by
    have hj : j < part.length := by omega
    obtain ⟨h1, h2, h3⟩ := at27 hj
    have h4 := a28 c part[j]
    rw [hm j hj (Nat.le_refl _)] at h4
    have n := l27_miss _ _ _ _ _ _ _ _ h1 h2 h3 h4
    rw [wrap_id (by omega) (by omega)] at n
    exact Rounds.next n (r27_none (d := d) (j := j + 1) (by omega) (fun t ht h5 => hm t ht (by omega)))

/-- slices.IndexFunc: the first row that has the number. -/
theorem a27_hit {k : Nat} (hk : k < part.length) (hin : inRow c part[k] = true) (hm : ∀ t (ht : t < part.length), t < k → inRow c part[t] = false) : A 27 [.sl 5 (part.map rowAV), g28] [[i c]] (i k) [[i c]] :=
  A.of [.loop .ret ⟨[], [(4, i k)], [[i c]], 0⟩, .ev] (R 27 0 (s27 (part.map rowAV) [[i c]] (0 : Nat)) (.ret, ⟨[], [(4, i k)], [[i c]], 0⟩) ∧ True) (by kernel_rfl) ⟨r27_hit hlen hk hin (d := k) (j := 0) (by omega) (fun t ht _ h => hm t ht h), trivial⟩
theorem a27_none (hm : ∀ t (ht : t < part.length), inRow c part[t] = false) : A 27 [.sl 5 (part.map rowAV), g28] [[i c]] (i (-1)) [[i c]] :=
  A.of [.loop (.exit 0) (e27 (part.map rowAV) [[i c]] part.length), .ev]
    (R 27 0 (s27 (part.map rowAV) [[i c]] (0 : Nat)) (.exit 0, e27 (part.map rowAV) [[i c]] part.length) ∧ True) (by kernel_rfl) ⟨r27_none hlen (d := part.length) (j := 0) (by omega) (fun t ht _ => hm t ht), trivial⟩
end
end Go.Proofs.Ytbfjpgjeglickaa.U
