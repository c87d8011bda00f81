/- Other cases: the texts of the seat 'ucd', with this seat's numbers. -/
import Derived.Test.YtkocppnbipjiiaaSet1
import Derived.Test.YtkocppnbipjiiaaVaiZ
namespace Go.Proofs.Ytkocppnbipjiiaa.U.O
open Go Go.Vai Go.Proofs.Ytkocppnbipjiiaa.U
set_option linter.unusedVariables false
abbrev i (n : Int) : AV := .sc (.int .i64 n)
abbrev b (t : Bool) : AV := .sc (.bool t)
abbrev st (s : ByteArray) : AV := .sc (.string s)
structure Rw where
  lo : Int
  hi : Int
  cat : ByteArray
  scr : ByteArray
  oth : Int
def rowAV (r : Rw) : AV := .agg [i r.lo, i r.hi, st r.cat, st r.scr, i r.oth]
def rows : List Rw := [⟨0, 31, bs [67, 99], bs [67, 111, 109, 109, 111, 110], 0⟩,
  ⟨32, 32, bs [90, 115], bs [67, 111, 109, 109, 111, 110], 0⟩,
  ⟨33, 35, bs [80, 111], bs [67, 111, 109, 109, 111, 110], 0⟩,
  ⟨36, 36, bs [83, 99], bs [67, 111, 109, 109, 111, 110], 0⟩,
  ⟨37, 39, bs [80, 111], bs [67, 111, 109, 109, 111, 110], 0⟩,
  ⟨40, 40, bs [80, 115], bs [67, 111, 109, 109, 111, 110], 0⟩,
  ⟨41, 41, bs [80, 101], bs [67, 111, 109, 109, 111, 110], 0⟩,
  ⟨42, 42, bs [80, 111], bs [67, 111, 109, 109, 111, 110], 0⟩,
  ⟨43, 43, bs [83, 109], bs [67, 111, 109, 109, 111, 110], 0⟩,
  ⟨44, 44, bs [80, 111], bs [67, 111, 109, 109, 111, 110], 0⟩,
  ⟨45, 45, bs [80, 100], bs [67, 111, 109, 109, 111, 110], 0⟩,
  ⟨46, 47, bs [80, 111], bs [67, 111, 109, 109, 111, 110], 0⟩,
  ⟨48, 57, bs [78, 100], bs [67, 111, 109, 109, 111, 110], 0⟩,
  ⟨58, 59, bs [80, 111], bs [67, 111, 109, 109, 111, 110], 0⟩,
  ⟨60, 62, bs [83, 109], bs [67, 111, 109, 109, 111, 110], 0⟩,
  ⟨63, 64, bs [80, 111], bs [67, 111, 109, 109, 111, 110], 0⟩,
  ⟨65, 90, bs [76, 117], bs [76, 97, 116, 105, 110], 32⟩,
  ⟨91, 91, bs [80, 115], bs [67, 111, 109, 109, 111, 110], 0⟩,
  ⟨92, 92, bs [80, 111], bs [67, 111, 109, 109, 111, 110], 0⟩,
  ⟨93, 93, bs [80, 101], bs [67, 111, 109, 109, 111, 110], 0⟩,
  ⟨94, 94, bs [83, 107], bs [67, 111, 109, 109, 111, 110], 0⟩,
  ⟨95, 95, bs [80, 99], bs [67, 111, 109, 109, 111, 110], 0⟩,
  ⟨96, 96, bs [83, 107], bs [67, 111, 109, 109, 111, 110], 0⟩,
  ⟨97, 122, bs [76, 108], bs [76, 97, 116, 105, 110], -32⟩,
  ⟨123, 123, bs [80, 115], bs [67, 111, 109, 109, 111, 110], 0⟩,
  ⟨124, 124, bs [83, 109], bs [67, 111, 109, 109, 111, 110], 0⟩,
  ⟨125, 125, bs [80, 101], bs [67, 111, 109, 109, 111, 110], 0⟩,
  ⟨126, 126, bs [83, 109], bs [67, 111, 109, 109, 111, 110], 0⟩,
  ⟨127, 159, bs [67, 99], bs [67, 111, 109, 109, 111, 110], 0⟩,
  ⟨160, 160, bs [90, 115], bs [67, 111, 109, 109, 111, 110], 0⟩,
  ⟨161, 161, bs [80, 111], bs [67, 111, 109, 109, 111, 110], 0⟩,
  ⟨162, 165, bs [83, 99], bs [67, 111, 109, 109, 111, 110], 0⟩,
  ⟨166, 166, bs [83, 111], bs [67, 111, 109, 109, 111, 110], 0⟩,
  ⟨167, 167, bs [80, 111], bs [67, 111, 109, 109, 111, 110], 0⟩,
  ⟨168, 168, bs [83, 107], bs [67, 111, 109, 109, 111, 110], 0⟩,
  ⟨169, 169, bs [83, 111], bs [67, 111, 109, 109, 111, 110], 0⟩,
  ⟨170, 170, bs [76, 111], bs [76, 97, 116, 105, 110], 0⟩,
  ⟨171, 171, bs [80, 105], bs [67, 111, 109, 109, 111, 110], 0⟩,
  ⟨172, 172, bs [83, 109], bs [67, 111, 109, 109, 111, 110], 0⟩,
  ⟨173, 173, bs [67, 102], bs [67, 111, 109, 109, 111, 110], 0⟩,
  ⟨174, 174, bs [83, 111], bs [67, 111, 109, 109, 111, 110], 0⟩,
  ⟨175, 175, bs [83, 107], bs [67, 111, 109, 109, 111, 110], 0⟩,
  ⟨176, 176, bs [83, 111], bs [67, 111, 109, 109, 111, 110], 0⟩,
  ⟨177, 177, bs [83, 109], bs [67, 111, 109, 109, 111, 110], 0⟩,
  ⟨178, 179, bs [78, 111], bs [67, 111, 109, 109, 111, 110], 0⟩,
  ⟨180, 180, bs [83, 107], bs [67, 111, 109, 109, 111, 110], 0⟩,
  ⟨181, 181, bs [76, 108], bs [67, 111, 109, 109, 111, 110], 0⟩,
  ⟨182, 183, bs [80, 111], bs [67, 111, 109, 109, 111, 110], 0⟩,
  ⟨184, 184, bs [83, 107], bs [67, 111, 109, 109, 111, 110], 0⟩,
  ⟨185, 185, bs [78, 111], bs [67, 111, 109, 109, 111, 110], 0⟩,
  ⟨186, 186, bs [76, 111], bs [76, 97, 116, 105, 110], 0⟩,
  ⟨187, 187, bs [80, 102], bs [67, 111, 109, 109, 111, 110], 0⟩,
  ⟨188, 190, bs [78, 111], bs [67, 111, 109, 109, 111, 110], 0⟩,
  ⟨191, 191, bs [80, 111], bs [67, 111, 109, 109, 111, 110], 0⟩,
  ⟨192, 214, bs [76, 117], bs [76, 97, 116, 105, 110], 32⟩,
  ⟨215, 215, bs [83, 109], bs [67, 111, 109, 109, 111, 110], 0⟩,
  ⟨216, 222, bs [76, 117], bs [76, 97, 116, 105, 110], 32⟩,
  ⟨223, 223, bs [76, 108], bs [76, 97, 116, 105, 110], 0⟩,
  ⟨224, 246, bs [76, 108], bs [76, 97, 116, 105, 110], -32⟩,
  ⟨247, 247, bs [83, 109], bs [67, 111, 109, 109, 111, 110], 0⟩,
  ⟨248, 254, bs [76, 108], bs [76, 97, 116, 105, 110], -32⟩,
  ⟨255, 255, bs [76, 108], bs [76, 97, 116, 105, 110], 0⟩,
  ⟨383, 383, bs [76, 108], bs [76, 97, 116, 105, 110], 0⟩,
  ⟨768, 879, bs [77, 110], bs [73, 110, 104, 101, 114, 105, 116, 101, 100], 0⟩,
  ⟨913, 929, bs [76, 117], bs [71, 114, 101, 101, 107], 32⟩,
  ⟨931, 939, bs [76, 117], bs [71, 114, 101, 101, 107], 32⟩,
  ⟨945, 961, bs [76, 108], bs [71, 114, 101, 101, 107], -32⟩,
  ⟨962, 962, bs [76, 108], bs [71, 114, 101, 101, 107], 0⟩,
  ⟨963, 971, bs [76, 108], bs [71, 114, 101, 101, 107], -32⟩,
  ⟨1040, 1071, bs [76, 117], bs [67, 121, 114, 105, 108, 108, 105, 99], 32⟩,
  ⟨1072, 1103, bs [76, 108], bs [67, 121, 114, 105, 108, 108, 105, 99], -32⟩,
  ⟨1488, 1514, bs [76, 111], bs [72, 101, 98, 114, 101, 119], 0⟩,
  ⟨1632, 1641, bs [78, 100], bs [65, 114, 97, 98, 105, 99], 0⟩,
  ⟨8192, 8202, bs [90, 115], bs [67, 111, 109, 109, 111, 110], 0⟩,
  ⟨8232, 8232, bs [90, 108], bs [67, 111, 109, 109, 111, 110], 0⟩,
  ⟨8233, 8233, bs [90, 112], bs [67, 111, 109, 109, 111, 110], 0⟩,
  ⟨8364, 8364, bs [83, 99], bs [67, 111, 109, 109, 111, 110], 0⟩,
  ⟨8490, 8490, bs [76, 117], bs [76, 97, 116, 105, 110], 0⟩,
  ⟨12353, 12438, bs [76, 111], bs [72, 105, 114, 97, 103, 97, 110, 97], 0⟩,
  ⟨19968, 40959, bs [76, 111], bs [72, 97, 110], 0⟩,
  ⟨127744, 128511, bs [83, 111], bs [67, 111, 109, 109, 111, 110], 0⟩]
def rowsAV : List AV := rows.map rowAV
def blocks : List AV := [0, 62, 62, 63, 63, 63, 63, 69, 69, 71, 71, 81].map i

theorem own_rows : A 54 [] [] (.sl 5 rowsAV) [] := Ans.at 60 (by kernel_rfl)
theorem ref_rows : A 58 [] [] (.sl 5 rowsAV) [] := Ans.at 60 (by kernel_rfl)
theorem own_stages : A 55 [.sl 5 rowsAV] [] (.agg blocks) [] := Ans.at 120 (by kernel_rfl)


/-! ### how code is walked -/
def loops : Code → List Code
  | .seq a b => loops a ++ loops b
  | .cond _ a b => loops a ++ loops b
  | .block _ c => loops c
  | .loop c => c :: loops c
  | .scope c => loops c
  | _ => []
noncomputable def loopB (f : FuncId) (k : Nat) : Code := match pr.funcs[f]? with | some fn => (match fn.body with | some c => (loops c).getD k .skip | none => .skip) | none => .skip
noncomputable def nT (f : FuncId) : Nat := match pr.funcs[f]? with | some fn => fn.ntmps | none => 0
abbrev L (f : FuncId) (k : Nat) (s : St) (r : Ex × St) : Prop := Leads (run pr hintsOf ext0) pr hintsOf f (nT f) (loopB f k) s r
abbrev R (f : FuncId) (k : Nat) (s : St) (r : Ex × St) : Prop := Rounds (run pr hintsOf ext0) pr hintsOf f (nT f) (loopB f k) s r
theorem L.of {f : FuncId} {k : Nat} {s : St} {r : Ex × St} (hs : List Hint) (C : Prop) (h : execS A (run pr hintsOf ext0) pr hintsOf f (nT f) (loopB f k) s hs True = some (r, [], C)) (hC : C) : L f k s r :=
  (execS_sound (fun _ _ _ _ _ h => h) h hC).2
theorem A.of {f : FuncId} {args : List AV} {H H' : HH} {r : AV} (hs : List Hint) (C : Prop) (h : bodyS pr hintsOf A (run pr hintsOf ext0) f args H hs = some ((r, H'), [], C)) (hC : C) (hx : ext0 f = none := by kernel_rfl) : A f args H r H' :=
  Ans.body hx h hC

/-! ### slices.IndexFunc over rows -/
abbrev g28 : AV := .fn 57 [.ptr 0 0]
def s27 (part : List AV) (H : HH) (j : Int) : St := ⟨[], [(0, .sl 5 part), (1, g28), (7, i part.length), (8, i j)], H, 0⟩
theorem l27_hit (part : List AV) (H : HH) (j lo hi oth : Int) (cat scr : ByteArray) (h1 : decide (j < (part.length : Int)) = true) (h2 : decide (0 ≤ j) = true) (h3 : part[j.toNat]? = some (rowAV ⟨lo, hi, cat, scr, oth⟩))
    (h4 : A 57 [rowAV ⟨lo, hi, cat, scr, oth⟩, .ptr 0 0] H (b true) H) : L 56 0 (s27 part H j) (.ret, ⟨[], [(4, i j)], H, 0⟩) :=
  L.of [.ev, .b true, .b true, .ev, .av (rowAV ⟨lo, hi, cat, scr, oth⟩), .res (b true) H, .ev]
    (A 57 [rowAV ⟨lo, hi, cat, scr, oth⟩, .ptr 0 0] H (b true) H ∧ part[j.toNat]? = some (rowAV ⟨lo, hi, cat, scr, oth⟩) ∧ decide (0 ≤ j) = true ∧ decide (j < (part.length : Int)) = true ∧ True) (by kernel_rfl) ⟨h4, h3, h2, h1, trivial⟩
theorem l27_miss (part : List AV) (H : HH) (j lo hi oth : Int) (cat scr : ByteArray) (h1 : decide (j < (part.length : Int)) = true) (h2 : decide (0 ≤ j) = true) (h3 : part[j.toNat]? = some (rowAV ⟨lo, hi, cat, scr, oth⟩))
    (h4 : A 57 [rowAV ⟨lo, hi, cat, scr, oth⟩, .ptr 0 0] H (b false) H) : L 56 0 (s27 part H j) (.norm, s27 part H (IntKind.wrap .i64 (j + 1))) :=
  L.of [.ev, .b true, .b true, .ev, .av (rowAV ⟨lo, hi, cat, scr, oth⟩), .res (b false) H, .ev, .ev]
    (A 57 [rowAV ⟨lo, hi, cat, scr, oth⟩, .ptr 0 0] H (b false) H ∧ part[j.toNat]? = some (rowAV ⟨lo, hi, cat, scr, oth⟩) ∧ decide (0 ≤ j) = true ∧ decide (j < (part.length : Int)) = true ∧ True) (by kernel_rfl) ⟨h4, h3, h2, h1, trivial⟩
def e27 (part : List AV) (H : HH) (j : Int) : St := ⟨[], [(0, .sl 5 part), (1, g28), (7, i part.length), (8, i j), (9, b (decide (j < (part.length : Int))))], H, 0⟩
theorem l27_end (part : List AV) (H : HH) (j : Int) (h1 : decide (j < (part.length : Int)) = false) : L 56 0 (s27 part H j) (.exit 0, e27 part H j) :=
  L.of [.ev, .b false] (decide (j < (part.length : Int)) = false ∧ True) (by kernel_rfl) ⟨h1, trivial⟩
def inRow (c : Int) (r : Rw) : Bool := decide (r.lo ≤ c) && decide (c ≤ r.hi)
theorem a28 (c : Int) (r : Rw) : A 57 [rowAV r, .ptr 0 0] [[i c]] (b (inRow c r)) [[i c]] := by
  obtain ⟨lo, hi, cat, scr, oth⟩ := r
  cases h : decide (lo ≤ c) with
  | true =>
    have e : inRow c ⟨lo, hi, cat, scr, oth⟩ = decide (c ≤ hi) := by simp only [inRow, h, Bool.true_and]
    rw [e]
    exact A.of [.ev, .b true, .b true, .b true, .b true, .ev, .b true, .ev] (decide (lo ≤ c) = true ∧ decide (lo ≤ c) = true ∧ decide (lo ≤ c) = true ∧ decide (lo ≤ c) = true ∧ decide (lo ≤ c) = true ∧ True) (by kernel_rfl) ⟨h, h, h, h, h, trivial⟩
  | false =>
    have e : inRow c ⟨lo, hi, cat, scr, oth⟩ = false := by simp only [inRow, h, Bool.false_and]
    rw [e]
    exact A.of [.ev, .b false, .b false, .b false, .b false, .b false, .ev] (decide (lo ≤ c) = false ∧ decide (lo ≤ c) = false ∧ decide (lo ≤ c) = false ∧ decide (lo ≤ c) = false ∧ decide (lo ≤ c) = false ∧ True) (by kernel_rfl) ⟨h, h, h, h, h, trivial⟩

section
variable {part : List Rw} {c : Int}
theorem at27 {j : Nat} (hj : j < part.length) : decide ((j : Int) < ((part.map rowAV).length : Int)) = true ∧ decide (0 ≤ (j : Int)) = true ∧ (part.map rowAV)[((j : Int)).toNat]? = some (rowAV part[j]) := by
  refine ⟨by simp; omega, by simp, ?_⟩
  simp [hj]
variable (hlen : part.length < 1000000)
include hlen
theorem r27_hit {k : Nat} (hk : k < part.length) (hin : inRow c part[k] = true) : ∀ {d j : Nat}, j + d = k → (∀ t (ht : t < part.length), j ≤ t → t < k → inRow c part[t] = false) → R 56 0 (s27 (part.map rowAV) [[i c]] j) (.ret, ⟨[], [(4, i k)], [[i c]], 0⟩)
  | 0, j, hd, _ => by
    have : j = k := by omega
    subst this
    obtain ⟨h1, h2, h3⟩ := at27 hk
    have h4 := a28 c part[j]
    rw [hin] at h4
    exact Rounds.last (by simp) (l27_hit _ _ _ _ _ _ _ _ h1 h2 h3 h4)
  | d + 1, j, hd, hm => by
    have hj : j < part.length := by omega
    obtain ⟨h1, h2, h3⟩ := at27 hj
    have h4 := a28 c part[j]
    rw [hm j hj (Nat.le_refl _) (by omega)] at h4
    have n := l27_miss _ _ _ _ _ _ _ _ h1 h2 h3 h4
    rw [wrap_id (by omega) (by omega)] at n
    exact Rounds.next n (r27_hit hk hin (d := d) (j := j + 1) (by omega) (fun t ht h5 h6 => hm t ht (by omega) h6))
theorem r27_none : ∀ {d j : Nat}, j + d = part.length → (∀ t (ht : t < part.length), j ≤ t → inRow c part[t] = false) →
    R 56 0 (s27 (part.map rowAV) [[i c]] j) (.exit 0, e27 (part.map rowAV) [[i c]] part.length)
  | 0, j, hd, _ => by
    have : j = part.length := by omega
    subst this
    exact Rounds.last (by simp) (l27_end _ _ _ (by simp))
  | d + 1, j, hd, hm => by
    have hj : j < part.length := by omega
    obtain ⟨h1, h2, h3⟩ := at27 hj
    have h4 := a28 c part[j]
    rw [hm j hj (Nat.le_refl _)] at h4
    have n := l27_miss _ _ _ _ _ _ _ _ h1 h2 h3 h4
    rw [wrap_id (by omega) (by omega)] at n
    exact Rounds.next n (r27_none (d := d) (j := j + 1) (by omega) (fun t ht h5 => hm t ht (by omega)))

/-- slices.IndexFunc: the first row that has the number. -/
theorem a27_hit {k : Nat} (hk : k < part.length) (hin : inRow c part[k] = true) (hm : ∀ t (ht : t < part.length), t < k → inRow c part[t] = false) : A 56 [.sl 5 (part.map rowAV), g28] [[i c]] (i k) [[i c]] :=
  A.of [.loop .ret ⟨[], [(4, i k)], [[i c]], 0⟩, .ev] (R 56 0 (s27 (part.map rowAV) [[i c]] (0 : Nat)) (.ret, ⟨[], [(4, i k)], [[i c]], 0⟩) ∧ True) (by kernel_rfl) ⟨r27_hit hlen hk hin (d := k) (j := 0) (by omega) (fun t ht _ h => hm t ht h), trivial⟩
theorem a27_none (hm : ∀ t (ht : t < part.length), inRow c part[t] = false) : A 56 [.sl 5 (part.map rowAV), g28] [[i c]] (i (-1)) [[i c]] :=
  A.of [.loop (.exit 0) (e27 (part.map rowAV) [[i c]] part.length), .ev]
    (R 56 0 (s27 (part.map rowAV) [[i c]] (0 : Nat)) (.exit 0, e27 (part.map rowAV) [[i c]] part.length) ∧ True) (by kernel_rfl) ⟨r27_none hlen (d := part.length) (j := 0) (by omega) (fun t ht _ => hm t ht), trivial⟩
end


def ix (c : Int) : Int := if 5 < c.fdiv 256 then 5 else c.fdiv 256
def cut (lo hi : Nat) : List Rw := (rows.take hi).drop lo
def zeroRw : Rw := ⟨0, 0, bs [], bs [], 0⟩
def noRw (c : Int) : Rw := ⟨c, c, bs [67, 110], bs [85, 110, 107, 110, 111, 119, 110], 0⟩

theorem f18_low (c : Int) (h : decide (c < 0) = true) : A 45 [i c] [] (rowAV zeroRw) [] :=
  A.of [.ev, .b true, .b true, .b true, .ev, .ev, .ev] (decide (c < 0) = true ∧ decide (c < 0) = true ∧ decide (c < 0) = true ∧ True) (by kernel_rfl) ⟨h, h, h, trivial⟩
theorem f18_high (c : Int) (h : decide (c < 0) = false) (h2 : decide (c > 1114111) = true) : A 45 [i c] [] (rowAV zeroRw) [] :=
  A.of [.ev, .b false, .b false, .ev, .b false, .b true, .ev, .ev] (decide (c > 1114111) = true ∧ decide (c < 0) = false ∧ decide (c < 0) = false ∧ decide (c < 0) = false ∧ True) (by kernel_rfl) ⟨h2, h, h, h, trivial⟩
theorem f18_hit0 (c k : Int) (r : Rw) (h : decide (c < 0) = false) (h2 : decide (c > 1114111) = false) (h3 : decide (0 ≤ ix c) = true) (h4 : (ix c).toNat = 0) (h5 : A 56 [.sl 5 ((cut 0 62).map rowAV), g28] [[i c]] (i k) [[i c]]) (h6 : decide (k ≥ 0) = true) (h7 : ((cut 0 62).map rowAV)[k.toNat]? = some (rowAV r)) : A 45 [i c] [] (rowAV r) [] :=
  A.of [.ev, .b false, .b false, .ev, .b false, .b false, .ev, .res (.sl 5 rowsAV) [], .ev, .res (.agg blocks) [], .ev, .ev, .b true, .num 0, .ev, .ev, .ev, .ev, .ev, .ev, .ev, .ev, .ev, .ev, .ev, .ev, .ev, .ev, .res (i k) [[i c]], .ev, .b true, .b true, .ev, .av (rowAV r), .ev, .ev]
    (((cut 0 62).map rowAV)[k.toNat]? = some (rowAV r) ∧ decide (0 ≤ k) = true ∧ decide (k ≥ 0) = true ∧ A 56 [.sl 5 ((cut 0 62).map rowAV), g28] [[i c]] (i k) [[i c]] ∧ (ix c).toNat = 0 ∧ decide (0 ≤ ix c) = true ∧ A 55 [.sl 5 rowsAV] [] (.agg blocks) [] ∧ A 54 [] [] (.sl 5 rowsAV) [] ∧ decide (c > 1114111) = false ∧ decide (c < 0) = false ∧ decide (c < 0) = false ∧ decide (c < 0) = false ∧ True) (by kernel_rfl) ⟨h7, h6, h6, h5, h4, h3, own_stages, own_rows, h2, h, h, h, trivial⟩
theorem f18_none0 (c : Int) (h : decide (c < 0) = false) (h2 : decide (c > 1114111) = false) (h3 : decide (0 ≤ ix c) = true) (h4 : (ix c).toNat = 0) (h5 : A 56 [.sl 5 ((cut 0 62).map rowAV), g28] [[i c]] (i (-1)) [[i c]]) : A 45 [i c] [] (rowAV (noRw c)) [] :=
  A.of [.ev, .b false, .b false, .ev, .b false, .b false, .ev, .res (.sl 5 rowsAV) [], .ev, .res (.agg blocks) [], .ev, .ev, .b true, .num 0, .ev, .ev, .ev, .ev, .ev, .ev, .ev, .ev, .ev, .ev, .ev, .ev, .ev, .ev, .res (i (-1)) [[i c]], .ev, .ev, .ev, .ev]
    (A 56 [.sl 5 ((cut 0 62).map rowAV), g28] [[i c]] (i (-1)) [[i c]] ∧ (ix c).toNat = 0 ∧ decide (0 ≤ ix c) = true ∧ A 55 [.sl 5 rowsAV] [] (.agg blocks) [] ∧ A 54 [] [] (.sl 5 rowsAV) [] ∧ decide (c > 1114111) = false ∧ decide (c < 0) = false ∧ decide (c < 0) = false ∧ decide (c < 0) = false ∧ True) (by kernel_rfl) ⟨h5, h4, h3, own_stages, own_rows, h2, h, h, h, trivial⟩
theorem f18_hit1 (c k : Int) (r : Rw) (h : decide (c < 0) = false) (h2 : decide (c > 1114111) = false) (h3 : decide (0 ≤ ix c) = true) (h4 : (ix c).toNat = 1) (h5 : A 56 [.sl 5 ((cut 62 63).map rowAV), g28] [[i c]] (i k) [[i c]]) (h6 : decide (k ≥ 0) = true) (h7 : ((cut 62 63).map rowAV)[k.toNat]? = some (rowAV r)) : A 45 [i c] [] (rowAV r) [] :=
  A.of [.ev, .b false, .b false, .ev, .b false, .b false, .ev, .res (.sl 5 rowsAV) [], .ev, .res (.agg blocks) [], .ev, .ev, .b true, .num 1, .ev, .ev, .ev, .ev, .ev, .ev, .ev, .ev, .ev, .ev, .ev, .ev, .ev, .ev, .res (i k) [[i c]], .ev, .b true, .b true, .ev, .av (rowAV r), .ev, .ev]
    (((cut 62 63).map rowAV)[k.toNat]? = some (rowAV r) ∧ decide (0 ≤ k) = true ∧ decide (k ≥ 0) = true ∧ A 56 [.sl 5 ((cut 62 63).map rowAV), g28] [[i c]] (i k) [[i c]] ∧ (ix c).toNat = 1 ∧ decide (0 ≤ ix c) = true ∧ A 55 [.sl 5 rowsAV] [] (.agg blocks) [] ∧ A 54 [] [] (.sl 5 rowsAV) [] ∧ decide (c > 1114111) = false ∧ decide (c < 0) = false ∧ decide (c < 0) = false ∧ decide (c < 0) = false ∧ True) (by kernel_rfl) ⟨h7, h6, h6, h5, h4, h3, own_stages, own_rows, h2, h, h, h, trivial⟩
theorem f18_none1 (c : Int) (h : decide (c < 0) = false) (h2 : decide (c > 1114111) = false) (h3 : decide (0 ≤ ix c) = true) (h4 : (ix c).toNat = 1) (h5 : A 56 [.sl 5 ((cut 62 63).map rowAV), g28] [[i c]] (i (-1)) [[i c]]) : A 45 [i c] [] (rowAV (noRw c)) [] :=
  A.of [.ev, .b false, .b false, .ev, .b false, .b false, .ev, .res (.sl 5 rowsAV) [], .ev, .res (.agg blocks) [], .ev, .ev, .b true, .num 1, .ev, .ev, .ev, .ev, .ev, .ev, .ev, .ev, .ev, .ev, .ev, .ev, .ev, .ev, .res (i (-1)) [[i c]], .ev, .ev, .ev, .ev]
    (A 56 [.sl 5 ((cut 62 63).map rowAV), g28] [[i c]] (i (-1)) [[i c]] ∧ (ix c).toNat = 1 ∧ decide (0 ≤ ix c) = true ∧ A 55 [.sl 5 rowsAV] [] (.agg blocks) [] ∧ A 54 [] [] (.sl 5 rowsAV) [] ∧ decide (c > 1114111) = false ∧ decide (c < 0) = false ∧ decide (c < 0) = false ∧ decide (c < 0) = false ∧ True) (by kernel_rfl) ⟨h5, h4, h3, own_stages, own_rows, h2, h, h, h, trivial⟩
theorem f18_hit2 (c k : Int) (r : Rw) (h : decide (c < 0) = false) (h2 : decide (c > 1114111) = false) (h3 : decide (0 ≤ ix c) = true) (h4 : (ix c).toNat = 2) (h5 : A 56 [.sl 5 ((cut 63 63).map rowAV), g28] [[i c]] (i k) [[i c]]) (h6 : decide (k ≥ 0) = true) (h7 : ((cut 63 63).map rowAV)[k.toNat]? = some (rowAV r)) : A 45 [i c] [] (rowAV r) [] :=
  A.of [.ev, .b false, .b false, .ev, .b false, .b false, .ev, .res (.sl 5 rowsAV) [], .ev, .res (.agg blocks) [], .ev, .ev, .b true, .num 2, .ev, .ev, .ev, .ev, .ev, .ev, .ev, .ev, .ev, .ev, .ev, .ev, .ev, .ev, .res (i k) [[i c]], .ev, .b true, .b true, .ev, .av (rowAV r), .ev, .ev]
    (((cut 63 63).map rowAV)[k.toNat]? = some (rowAV r) ∧ decide (0 ≤ k) = true ∧ decide (k ≥ 0) = true ∧ A 56 [.sl 5 ((cut 63 63).map rowAV), g28] [[i c]] (i k) [[i c]] ∧ (ix c).toNat = 2 ∧ decide (0 ≤ ix c) = true ∧ A 55 [.sl 5 rowsAV] [] (.agg blocks) [] ∧ A 54 [] [] (.sl 5 rowsAV) [] ∧ decide (c > 1114111) = false ∧ decide (c < 0) = false ∧ decide (c < 0) = false ∧ decide (c < 0) = false ∧ True) (by kernel_rfl) ⟨h7, h6, h6, h5, h4, h3, own_stages, own_rows, h2, h, h, h, trivial⟩
theorem f18_none2 (c : Int) (h : decide (c < 0) = false) (h2 : decide (c > 1114111) = false) (h3 : decide (0 ≤ ix c) = true) (h4 : (ix c).toNat = 2) (h5 : A 56 [.sl 5 ((cut 63 63).map rowAV), g28] [[i c]] (i (-1)) [[i c]]) : A 45 [i c] [] (rowAV (noRw c)) [] :=
  A.of [.ev, .b false, .b false, .ev, .b false, .b false, .ev, .res (.sl 5 rowsAV) [], .ev, .res (.agg blocks) [], .ev, .ev, .b true, .num 2, .ev, .ev, .ev, .ev, .ev, .ev, .ev, .ev, .ev, .ev, .ev, .ev, .ev, .ev, .res (i (-1)) [[i c]], .ev, .ev, .ev, .ev]
    (A 56 [.sl 5 ((cut 63 63).map rowAV), g28] [[i c]] (i (-1)) [[i c]] ∧ (ix c).toNat = 2 ∧ decide (0 ≤ ix c) = true ∧ A 55 [.sl 5 rowsAV] [] (.agg blocks) [] ∧ A 54 [] [] (.sl 5 rowsAV) [] ∧ decide (c > 1114111) = false ∧ decide (c < 0) = false ∧ decide (c < 0) = false ∧ decide (c < 0) = false ∧ True) (by kernel_rfl) ⟨h5, h4, h3, own_stages, own_rows, h2, h, h, h, trivial⟩
theorem f18_hit3 (c k : Int) (r : Rw) (h : decide (c < 0) = false) (h2 : decide (c > 1114111) = false) (h3 : decide (0 ≤ ix c) = true) (h4 : (ix c).toNat = 3) (h5 : A 56 [.sl 5 ((cut 63 69).map rowAV), g28] [[i c]] (i k) [[i c]]) (h6 : decide (k ≥ 0) = true) (h7 : ((cut 63 69).map rowAV)[k.toNat]? = some (rowAV r)) : A 45 [i c] [] (rowAV r) [] :=
  A.of [.ev, .b false, .b false, .ev, .b false, .b false, .ev, .res (.sl 5 rowsAV) [], .ev, .res (.agg blocks) [], .ev, .ev, .b true, .num 3, .ev, .ev, .ev, .ev, .ev, .ev, .ev, .ev, .ev, .ev, .ev, .ev, .ev, .ev, .res (i k) [[i c]], .ev, .b true, .b true, .ev, .av (rowAV r), .ev, .ev]
    (((cut 63 69).map rowAV)[k.toNat]? = some (rowAV r) ∧ decide (0 ≤ k) = true ∧ decide (k ≥ 0) = true ∧ A 56 [.sl 5 ((cut 63 69).map rowAV), g28] [[i c]] (i k) [[i c]] ∧ (ix c).toNat = 3 ∧ decide (0 ≤ ix c) = true ∧ A 55 [.sl 5 rowsAV] [] (.agg blocks) [] ∧ A 54 [] [] (.sl 5 rowsAV) [] ∧ decide (c > 1114111) = false ∧ decide (c < 0) = false ∧ decide (c < 0) = false ∧ decide (c < 0) = false ∧ True) (by kernel_rfl) ⟨h7, h6, h6, h5, h4, h3, own_stages, own_rows, h2, h, h, h, trivial⟩
theorem f18_none3 (c : Int) (h : decide (c < 0) = false) (h2 : decide (c > 1114111) = false) (h3 : decide (0 ≤ ix c) = true) (h4 : (ix c).toNat = 3) (h5 : A 56 [.sl 5 ((cut 63 69).map rowAV), g28] [[i c]] (i (-1)) [[i c]]) : A 45 [i c] [] (rowAV (noRw c)) [] :=
  A.of [.ev, .b false, .b false, .ev, .b false, .b false, .ev, .res (.sl 5 rowsAV) [], .ev, .res (.agg blocks) [], .ev, .ev, .b true, .num 3, .ev, .ev, .ev, .ev, .ev, .ev, .ev, .ev, .ev, .ev, .ev, .ev, .ev, .ev, .res (i (-1)) [[i c]], .ev, .ev, .ev, .ev]
    (A 56 [.sl 5 ((cut 63 69).map rowAV), g28] [[i c]] (i (-1)) [[i c]] ∧ (ix c).toNat = 3 ∧ decide (0 ≤ ix c) = true ∧ A 55 [.sl 5 rowsAV] [] (.agg blocks) [] ∧ A 54 [] [] (.sl 5 rowsAV) [] ∧ decide (c > 1114111) = false ∧ decide (c < 0) = false ∧ decide (c < 0) = false ∧ decide (c < 0) = false ∧ True) (by kernel_rfl) ⟨h5, h4, h3, own_stages, own_rows, h2, h, h, h, trivial⟩
theorem f18_hit4 (c k : Int) (r : Rw) (h : decide (c < 0) = false) (h2 : decide (c > 1114111) = false) (h3 : decide (0 ≤ ix c) = true) (h4 : (ix c).toNat = 4) (h5 : A 56 [.sl 5 ((cut 69 71).map rowAV), g28] [[i c]] (i k) [[i c]]) (h6 : decide (k ≥ 0) = true) (h7 : ((cut 69 71).map rowAV)[k.toNat]? = some (rowAV r)) : A 45 [i c] [] (rowAV r) [] :=
  A.of [.ev, .b false, .b false, .ev, .b false, .b false, .ev, .res (.sl 5 rowsAV) [], .ev, .res (.agg blocks) [], .ev, .ev, .b true, .num 4, .ev, .ev, .ev, .ev, .ev, .ev, .ev, .ev, .ev, .ev, .ev, .ev, .ev, .ev, .res (i k) [[i c]], .ev, .b true, .b true, .ev, .av (rowAV r), .ev, .ev]
    (((cut 69 71).map rowAV)[k.toNat]? = some (rowAV r) ∧ decide (0 ≤ k) = true ∧ decide (k ≥ 0) = true ∧ A 56 [.sl 5 ((cut 69 71).map rowAV), g28] [[i c]] (i k) [[i c]] ∧ (ix c).toNat = 4 ∧ decide (0 ≤ ix c) = true ∧ A 55 [.sl 5 rowsAV] [] (.agg blocks) [] ∧ A 54 [] [] (.sl 5 rowsAV) [] ∧ decide (c > 1114111) = false ∧ decide (c < 0) = false ∧ decide (c < 0) = false ∧ decide (c < 0) = false ∧ True) (by kernel_rfl) ⟨h7, h6, h6, h5, h4, h3, own_stages, own_rows, h2, h, h, h, trivial⟩
theorem f18_none4 (c : Int) (h : decide (c < 0) = false) (h2 : decide (c > 1114111) = false) (h3 : decide (0 ≤ ix c) = true) (h4 : (ix c).toNat = 4) (h5 : A 56 [.sl 5 ((cut 69 71).map rowAV), g28] [[i c]] (i (-1)) [[i c]]) : A 45 [i c] [] (rowAV (noRw c)) [] :=
  A.of [.ev, .b false, .b false, .ev, .b false, .b false, .ev, .res (.sl 5 rowsAV) [], .ev, .res (.agg blocks) [], .ev, .ev, .b true, .num 4, .ev, .ev, .ev, .ev, .ev, .ev, .ev, .ev, .ev, .ev, .ev, .ev, .ev, .ev, .res (i (-1)) [[i c]], .ev, .ev, .ev, .ev]
    (A 56 [.sl 5 ((cut 69 71).map rowAV), g28] [[i c]] (i (-1)) [[i c]] ∧ (ix c).toNat = 4 ∧ decide (0 ≤ ix c) = true ∧ A 55 [.sl 5 rowsAV] [] (.agg blocks) [] ∧ A 54 [] [] (.sl 5 rowsAV) [] ∧ decide (c > 1114111) = false ∧ decide (c < 0) = false ∧ decide (c < 0) = false ∧ decide (c < 0) = false ∧ True) (by kernel_rfl) ⟨h5, h4, h3, own_stages, own_rows, h2, h, h, h, trivial⟩
theorem f18_hit5 (c k : Int) (r : Rw) (h : decide (c < 0) = false) (h2 : decide (c > 1114111) = false) (h3 : decide (0 ≤ ix c) = true) (h4 : (ix c).toNat = 5) (h5 : A 56 [.sl 5 ((cut 71 81).map rowAV), g28] [[i c]] (i k) [[i c]]) (h6 : decide (k ≥ 0) = true) (h7 : ((cut 71 81).map rowAV)[k.toNat]? = some (rowAV r)) : A 45 [i c] [] (rowAV r) [] :=
  A.of [.ev, .b false, .b false, .ev, .b false, .b false, .ev, .res (.sl 5 rowsAV) [], .ev, .res (.agg blocks) [], .ev, .ev, .b true, .num 5, .ev, .ev, .ev, .ev, .ev, .ev, .ev, .ev, .ev, .ev, .ev, .ev, .ev, .ev, .res (i k) [[i c]], .ev, .b true, .b true, .ev, .av (rowAV r), .ev, .ev]
    (((cut 71 81).map rowAV)[k.toNat]? = some (rowAV r) ∧ decide (0 ≤ k) = true ∧ decide (k ≥ 0) = true ∧ A 56 [.sl 5 ((cut 71 81).map rowAV), g28] [[i c]] (i k) [[i c]] ∧ (ix c).toNat = 5 ∧ decide (0 ≤ ix c) = true ∧ A 55 [.sl 5 rowsAV] [] (.agg blocks) [] ∧ A 54 [] [] (.sl 5 rowsAV) [] ∧ decide (c > 1114111) = false ∧ decide (c < 0) = false ∧ decide (c < 0) = false ∧ decide (c < 0) = false ∧ True) (by kernel_rfl) ⟨h7, h6, h6, h5, h4, h3, own_stages, own_rows, h2, h, h, h, trivial⟩
theorem f18_none5 (c : Int) (h : decide (c < 0) = false) (h2 : decide (c > 1114111) = false) (h3 : decide (0 ≤ ix c) = true) (h4 : (ix c).toNat = 5) (h5 : A 56 [.sl 5 ((cut 71 81).map rowAV), g28] [[i c]] (i (-1)) [[i c]]) : A 45 [i c] [] (rowAV (noRw c)) [] :=
  A.of [.ev, .b false, .b false, .ev, .b false, .b false, .ev, .res (.sl 5 rowsAV) [], .ev, .res (.agg blocks) [], .ev, .ev, .b true, .num 5, .ev, .ev, .ev, .ev, .ev, .ev, .ev, .ev, .ev, .ev, .ev, .ev, .ev, .ev, .res (i (-1)) [[i c]], .ev, .ev, .ev, .ev]
    (A 56 [.sl 5 ((cut 71 81).map rowAV), g28] [[i c]] (i (-1)) [[i c]] ∧ (ix c).toNat = 5 ∧ decide (0 ≤ ix c) = true ∧ A 55 [.sl 5 rowsAV] [] (.agg blocks) [] ∧ A 54 [] [] (.sl 5 rowsAV) [] ∧ decide (c > 1114111) = false ∧ decide (c < 0) = false ∧ decide (c < 0) = false ∧ decide (c < 0) = false ∧ True) (by kernel_rfl) ⟨h5, h4, h3, own_stages, own_rows, h2, h, h, h, trivial⟩


theorem find_cases {α : Type} (p : α → Bool) : ∀ (l : List α), (∃ k, ∃ hk : k < l.length, p l[k] = true ∧ (∀ t (ht : t < l.length), t < k → p l[t] = false) ∧ l.find? p = some l[k]) ∨ ((∀ t (ht : t < l.length), p l[t] = false) ∧ l.find? p = none)
  | [] => .inr ⟨fun t ht => by simp at ht, rfl⟩
  | x :: l => by
    cases hx : p x with
    | true => exact .inl ⟨0, by simp, by simpa using hx, fun t ht h => by omega, by simp [List.find?, hx]⟩
    | false =>
      rcases find_cases p l with ⟨k, hk, h1, h2, h3⟩ | ⟨h1, h2⟩
      · refine .inl ⟨k + 1, by simpa using hk, by simpa using h1, fun t ht h => ?_, by simp [List.find?, hx, h3]⟩
        cases t with
        | zero => simpa using hx
        | succ t => simpa using h2 t (by simpa using ht) (by omega)
      · refine .inr ⟨fun t ht => ?_, by simp [List.find?, hx, h2]⟩
        cases t with
        | zero => simpa using hx
        | succ t => simpa using h1 t (by simpa using ht)

theorem rows_cut (a b : Nat) (hab : a ≤ b) (c : Int) (h1 : ∀ r ∈ rows.take a, inRow c r = false) (h2 : ∀ r ∈ rows.drop b, inRow c r = false) : rows.find? (inRow c) = (cut a b).find? (inRow c) := by
  have e : rows = rows.take a ++ (cut a b ++ rows.drop b) := by
    unfold cut
    have : (rows.take b).drop a ++ rows.drop b = rows.drop a := by
      have h := List.take_append_drop (b - a) (rows.drop a)
      rw [List.drop_drop] at h
      rw [List.drop_take, show a + (b - a) = b by omega] at *
      exact h
    rw [this, List.take_append_drop]
  have n1 : (rows.take a).find? (inRow c) = none := List.find?_eq_none.2 (fun r hr => by rw [h1 r hr]; simp)
  have n2 : (rows.drop b).find? (inRow c) = none := List.find?_eq_none.2 (fun r hr => by rw [h2 r hr]; simp)
  conv => lhs; rw [e]
  rw [List.find?_append, List.find?_append, n1, n2]
  simp
/-- The row of a code point. -/
def ofR (c : Int) : Rw := if c < 0 ∨ c > 1114111 then zeroRw else (rows.find? (inRow c)).getD (noRw c)
theorem low_out {c : Int} {a : Nat} {m : Int} (h : (rows.take a).all (fun r => decide (r.hi < m)) = true) (hc : m ≤ c) : ∀ r ∈ rows.take a, inRow c r = false := fun r hr => by
  have := of_decide_eq_true (List.all_eq_true.1 h r hr)
  simp only [inRow, Bool.and_eq_false_iff, decide_eq_false_iff_not]
  right; omega
theorem high_out {c : Int} {b : Nat} {m : Int} (h : (rows.drop b).all (fun r => decide (m ≤ r.lo)) = true) (hc : c < m) : ∀ r ∈ rows.drop b, inRow c r = false := fun r hr => by
  have := of_decide_eq_true (List.all_eq_true.1 h r hr)
  simp only [inRow, Bool.and_eq_false_iff, decide_eq_false_iff_not]
  left; omega
theorem drop81 (c : Int) : ∀ r ∈ rows.drop 81, inRow c r = false := fun r hr => by
  have : rows.drop 81 = [] := List.drop_eq_nil_of_le (by decide +kernel)
  rw [this] at hr
  cases hr
theorem cut_len (a b : Nat) : (cut a b).length < 1000000 := by
  unfold cut
  have : rows.length = 81 := by decide +kernel
  rw [List.length_drop, List.length_take]
  omega
theorem find0 (c : Int) (h : decide (c < 0) = false) (h2 : decide (c > 1114111) = false) (h3 : decide (0 ≤ ix c) = true) (h4 : (ix c).toNat = 0) (hr : 256 * 0 ≤ c ∧ c < 256) : A 45 [i c] [] (rowAV ((rows.find? (inRow c)).getD (noRw c))) [] := by
  rw [rows_cut 0 62 (by decide) c (low_out (m := 0) (by decide +kernel) (by omega)) (high_out (m := 256) (by decide +kernel) (by omega))]
  rcases find_cases (inRow c) (cut 0 62) with ⟨k, hk, q1, q2, q3⟩ | ⟨q1, q2⟩
  · rw [q3]
    exact f18_hit0 c k _ h h2 h3 h4 (a27_hit (cut_len 0 62) hk q1 q2) (by simp) (by simp [hk])
  · rw [q2]
    exact f18_none0 c h h2 h3 h4 (a27_none (cut_len 0 62) q1)
theorem find1 (c : Int) (h : decide (c < 0) = false) (h2 : decide (c > 1114111) = false) (h3 : decide (0 ≤ ix c) = true) (h4 : (ix c).toNat = 1) (hr : 256 * 1 ≤ c ∧ c < 512) : A 45 [i c] [] (rowAV ((rows.find? (inRow c)).getD (noRw c))) [] := by
  rw [rows_cut 62 63 (by decide) c (low_out (m := 256) (by decide +kernel) (by omega)) (high_out (m := 512) (by decide +kernel) (by omega))]
  rcases find_cases (inRow c) (cut 62 63) with ⟨k, hk, q1, q2, q3⟩ | ⟨q1, q2⟩
  · rw [q3]
    exact f18_hit1 c k _ h h2 h3 h4 (a27_hit (cut_len 62 63) hk q1 q2) (by simp) (by simp [hk])
  · rw [q2]
    exact f18_none1 c h h2 h3 h4 (a27_none (cut_len 62 63) q1)
theorem find2 (c : Int) (h : decide (c < 0) = false) (h2 : decide (c > 1114111) = false) (h3 : decide (0 ≤ ix c) = true) (h4 : (ix c).toNat = 2) (hr : 256 * 2 ≤ c ∧ c < 768) : A 45 [i c] [] (rowAV ((rows.find? (inRow c)).getD (noRw c))) [] := by
  rw [rows_cut 63 63 (by decide) c (low_out (m := 512) (by decide +kernel) (by omega)) (high_out (m := 768) (by decide +kernel) (by omega))]
  rcases find_cases (inRow c) (cut 63 63) with ⟨k, hk, q1, q2, q3⟩ | ⟨q1, q2⟩
  · rw [q3]
    exact f18_hit2 c k _ h h2 h3 h4 (a27_hit (cut_len 63 63) hk q1 q2) (by simp) (by simp [hk])
  · rw [q2]
    exact f18_none2 c h h2 h3 h4 (a27_none (cut_len 63 63) q1)
theorem find3 (c : Int) (h : decide (c < 0) = false) (h2 : decide (c > 1114111) = false) (h3 : decide (0 ≤ ix c) = true) (h4 : (ix c).toNat = 3) (hr : 256 * 3 ≤ c ∧ c < 1024) : A 45 [i c] [] (rowAV ((rows.find? (inRow c)).getD (noRw c))) [] := by
  rw [rows_cut 63 69 (by decide) c (low_out (m := 768) (by decide +kernel) (by omega)) (high_out (m := 1024) (by decide +kernel) (by omega))]
  rcases find_cases (inRow c) (cut 63 69) with ⟨k, hk, q1, q2, q3⟩ | ⟨q1, q2⟩
  · rw [q3]
    exact f18_hit3 c k _ h h2 h3 h4 (a27_hit (cut_len 63 69) hk q1 q2) (by simp) (by simp [hk])
  · rw [q2]
    exact f18_none3 c h h2 h3 h4 (a27_none (cut_len 63 69) q1)
theorem find4 (c : Int) (h : decide (c < 0) = false) (h2 : decide (c > 1114111) = false) (h3 : decide (0 ≤ ix c) = true) (h4 : (ix c).toNat = 4) (hr : 256 * 4 ≤ c ∧ c < 1280) : A 45 [i c] [] (rowAV ((rows.find? (inRow c)).getD (noRw c))) [] := by
  rw [rows_cut 69 71 (by decide) c (low_out (m := 1024) (by decide +kernel) (by omega)) (high_out (m := 1280) (by decide +kernel) (by omega))]
  rcases find_cases (inRow c) (cut 69 71) with ⟨k, hk, q1, q2, q3⟩ | ⟨q1, q2⟩
  · rw [q3]
    exact f18_hit4 c k _ h h2 h3 h4 (a27_hit (cut_len 69 71) hk q1 q2) (by simp) (by simp [hk])
  · rw [q2]
    exact f18_none4 c h h2 h3 h4 (a27_none (cut_len 69 71) q1)
theorem find5 (c : Int) (h : decide (c < 0) = false) (h2 : decide (c > 1114111) = false) (h3 : decide (0 ≤ ix c) = true) (h4 : (ix c).toNat = 5) (hr : 1280 ≤ c) : A 45 [i c] [] (rowAV ((rows.find? (inRow c)).getD (noRw c))) [] := by
  rw [rows_cut 71 81 (by decide) c (low_out (m := 1280) (by decide +kernel) (by omega)) (drop81 c)]
  rcases find_cases (inRow c) (cut 71 81) with ⟨k, hk, q1, q2, q3⟩ | ⟨q1, q2⟩
  · rw [q3]
    exact f18_hit5 c k _ h h2 h3 h4 (a27_hit (cut_len 71 81) hk q1 q2) (by simp) (by simp [hk])
  · rw [q2]
    exact f18_none5 c h h2 h3 h4 (a27_none (cut_len 71 81) q1)

theorem find_ok (c : Int) : A 45 [i c] [] (rowAV (ofR c)) [] := by
  unfold ofR
  by_cases hl : c < 0
  · rw [if_pos (.inl hl)]
    exact f18_low c (by simpa using hl)
  · have h : decide (c < 0) = false := by simpa using hl
    by_cases hh : c > 1114111
    · rw [if_pos (.inr hh)]
      exact f18_high c h (by simpa using hh)
    · have h2 : decide (c > 1114111) = false := by simpa using hh
      rw [if_neg (by omega)]
      have e : c.fdiv 256 = c / 256 := Int.fdiv_eq_ediv_of_nonneg _ (by decide)
      have h3 : decide (0 ≤ ix c) = true := by
        simp only [ix, e, decide_eq_true_eq]
        split <;> omega
      have hx : ix c = if 5 < c / 256 then 5 else c / 256 := by simp only [ix, e]
      by_cases c0 : c < 256
      · exact find0 c h h2 h3 (by rw [hx, if_neg (by omega)]; omega) (by omega)
      by_cases c1 : c < 512
      · exact find1 c h h2 h3 (by rw [hx, if_neg (by omega)]; omega) (by omega)
      by_cases c2 : c < 768
      · exact find2 c h h2 h3 (by rw [hx, if_neg (by omega)]; omega) (by omega)
      by_cases c3 : c < 1024
      · exact find3 c h h2 h3 (by rw [hx, if_neg (by omega)]; omega) (by omega)
      by_cases c4 : c < 1280
      · exact find4 c h h2 h3 (by rw [hx, if_neg (by omega)]; omega) (by omega)
      · refine find5 c h h2 h3 ?_ (by omega)
        rw [hx]
        split <;> omega

def bx : AV := .box [i 0, i 0, st (bs []), st (bs []), i 0]
def s19 (c : Int) (l : List AV) (j : Int) : St := ⟨[], [(0, i c), (2, bx), (3, .sl 5 l), (4, i j)], [], 0⟩
theorem l19_0 (c : Int) (j : Int) (lo : Int) (hi : Int) (oth : Int) (cat : ByteArray) (scr : ByteArray) (l : List AV) (h0 : (decide (j < ↑l.length)) = true) (h1 : (decide (0 ≤ j)) = true) (h2 : (l[j.toNat]?) = some (.agg [(.sc (.int Go.IntKind.i64 (lo))), (.sc (.int Go.IntKind.i64 (hi))), (.sc (.string (cat))), (.sc (.string (scr))), (.sc (.int Go.IntKind.i64 (oth)))])) (h3 : (decide (lo ≤ c)) = true) (h4 : (decide (c ≤ hi)) = true) : L 46 0 (s19 c l j) (Go.Vai.Ex.ret, ⟨[], [(2, (.box [(.sc (.int Go.IntKind.i64 (lo))), (.sc (.int Go.IntKind.i64 (hi))), (.sc (.string (cat))), (.sc (.string (scr))), (.sc (.int Go.IntKind.i64 (oth)))]))], [], 0⟩) :=
  L.of [.ev, (.b true), (.b true), .ev, (.av (.agg [(.sc (.int Go.IntKind.i64 (lo))), (.sc (.int Go.IntKind.i64 (hi))), (.sc (.string (cat))), (.sc (.string (scr))), (.sc (.int Go.IntKind.i64 (oth)))])), .ev, (.b true), (.b true), (.b true), (.b true), (.b true), .ev, (.av (.agg [(.sc (.int Go.IntKind.i64 (lo))), (.sc (.int Go.IntKind.i64 (hi))), (.sc (.string (cat))), (.sc (.string (scr))), (.sc (.int Go.IntKind.i64 (oth)))])), (.b true), (.b true), (.b true), .ev, (.b true), (.b true), (.b true), .ev, (.av (.agg [(.sc (.int Go.IntKind.i64 (lo))), (.sc (.int Go.IntKind.i64 (hi))), (.sc (.string (cat))), (.sc (.string (scr))), (.sc (.int Go.IntKind.i64 (oth)))]))] (((l[j.toNat]?) = some (.agg [(.sc (.int Go.IntKind.i64 (lo))), (.sc (.int Go.IntKind.i64 (hi))), (.sc (.string (cat))), (.sc (.string (scr))), (.sc (.int Go.IntKind.i64 (oth)))])) ∧ ((decide (0 ≤ j)) = true) ∧ ((decide (c ≤ hi)) = true) ∧ ((decide (lo ≤ c)) = true) ∧ ((decide (lo ≤ c)) = true) ∧ ((decide (lo ≤ c)) = true) ∧ ((decide (lo ≤ c)) = true) ∧ ((l[j.toNat]?) = some (.agg [(.sc (.int Go.IntKind.i64 (lo))), (.sc (.int Go.IntKind.i64 (hi))), (.sc (.string (cat))), (.sc (.string (scr))), (.sc (.int Go.IntKind.i64 (oth)))])) ∧ ((decide (0 ≤ j)) = true) ∧ ((decide (lo ≤ c)) = true) ∧ ((decide (lo ≤ c)) = true) ∧ ((decide (lo ≤ c)) = true) ∧ ((decide (lo ≤ c)) = true) ∧ ((l[j.toNat]?) = some (.agg [(.sc (.int Go.IntKind.i64 (lo))), (.sc (.int Go.IntKind.i64 (hi))), (.sc (.string (cat))), (.sc (.string (scr))), (.sc (.int Go.IntKind.i64 (oth)))])) ∧ ((decide (0 ≤ j)) = true) ∧ ((decide (j < ↑l.length)) = true) ∧ True) (by kernel_rfl) ⟨h2, h1, h4, h3, h3, h3, h3, h2, h1, h3, h3, h3, h3, h2, h1, h0, trivial⟩
theorem l19_1 (c : Int) (j : Int) (lo : Int) (hi : Int) (oth : Int) (cat : ByteArray) (scr : ByteArray) (l : List AV) (h0 : (decide (j < ↑l.length)) = true) (h1 : (decide (0 ≤ j)) = true) (h2 : (l[j.toNat]?) = some (.agg [(.sc (.int Go.IntKind.i64 (lo))), (.sc (.int Go.IntKind.i64 (hi))), (.sc (.string (cat))), (.sc (.string (scr))), (.sc (.int Go.IntKind.i64 (oth)))])) (h3 : (decide (lo ≤ c)) = true) (h4 : (decide (c ≤ hi)) = false) : L 46 0 (s19 c l j) (Go.Vai.Ex.norm, ⟨[], [(0, (.sc (.int Go.IntKind.i64 (c)))), (2, (.box [(.sc (.int Go.IntKind.i64 0)), (.sc (.int Go.IntKind.i64 0)), (.sc (.string (bs []))), (.sc (.string (bs []))), (.sc (.int Go.IntKind.i64 0))])), (3, (.sl 5 (l))), (4, (.sc (.int Go.IntKind.i64 (IntKind.i64.wrap (j + 1)))))], [], 0⟩) :=
  L.of [.ev, (.b true), (.b true), .ev, (.av (.agg [(.sc (.int Go.IntKind.i64 (lo))), (.sc (.int Go.IntKind.i64 (hi))), (.sc (.string (cat))), (.sc (.string (scr))), (.sc (.int Go.IntKind.i64 (oth)))])), .ev, (.b true), (.b true), (.b true), (.b true), (.b true), .ev, (.av (.agg [(.sc (.int Go.IntKind.i64 (lo))), (.sc (.int Go.IntKind.i64 (hi))), (.sc (.string (cat))), (.sc (.string (scr))), (.sc (.int Go.IntKind.i64 (oth)))])), (.b true), (.b true), (.b true), .ev, (.b true), (.b false), .ev] (((decide (c ≤ hi)) = false) ∧ ((decide (lo ≤ c)) = true) ∧ ((decide (lo ≤ c)) = true) ∧ ((decide (lo ≤ c)) = true) ∧ ((decide (lo ≤ c)) = true) ∧ ((l[j.toNat]?) = some (.agg [(.sc (.int Go.IntKind.i64 (lo))), (.sc (.int Go.IntKind.i64 (hi))), (.sc (.string (cat))), (.sc (.string (scr))), (.sc (.int Go.IntKind.i64 (oth)))])) ∧ ((decide (0 ≤ j)) = true) ∧ ((decide (lo ≤ c)) = true) ∧ ((decide (lo ≤ c)) = true) ∧ ((decide (lo ≤ c)) = true) ∧ ((decide (lo ≤ c)) = true) ∧ ((l[j.toNat]?) = some (.agg [(.sc (.int Go.IntKind.i64 (lo))), (.sc (.int Go.IntKind.i64 (hi))), (.sc (.string (cat))), (.sc (.string (scr))), (.sc (.int Go.IntKind.i64 (oth)))])) ∧ ((decide (0 ≤ j)) = true) ∧ ((decide (j < ↑l.length)) = true) ∧ True) (by kernel_rfl) ⟨h4, h3, h3, h3, h3, h2, h1, h3, h3, h3, h3, h2, h1, h0, trivial⟩
theorem l19_2 (c : Int) (j : Int) (lo : Int) (hi : Int) (oth : Int) (cat : ByteArray) (scr : ByteArray) (l : List AV) (h0 : (decide (j < ↑l.length)) = true) (h1 : (decide (0 ≤ j)) = true) (h2 : (l[j.toNat]?) = some (.agg [(.sc (.int Go.IntKind.i64 (lo))), (.sc (.int Go.IntKind.i64 (hi))), (.sc (.string (cat))), (.sc (.string (scr))), (.sc (.int Go.IntKind.i64 (oth)))])) (h3 : (decide (lo ≤ c)) = false) : L 46 0 (s19 c l j) (Go.Vai.Ex.norm, ⟨[], [(0, (.sc (.int Go.IntKind.i64 (c)))), (2, (.box [(.sc (.int Go.IntKind.i64 0)), (.sc (.int Go.IntKind.i64 0)), (.sc (.string (bs []))), (.sc (.string (bs []))), (.sc (.int Go.IntKind.i64 0))])), (3, (.sl 5 (l))), (4, (.sc (.int Go.IntKind.i64 (IntKind.i64.wrap (j + 1)))))], [], 0⟩) :=
  L.of [.ev, (.b true), (.b true), .ev, (.av (.agg [(.sc (.int Go.IntKind.i64 (lo))), (.sc (.int Go.IntKind.i64 (hi))), (.sc (.string (cat))), (.sc (.string (scr))), (.sc (.int Go.IntKind.i64 (oth)))])), .ev, (.b false), (.b false), (.b false), (.b false), (.b false), (.b false), (.b false), (.b false), .ev, .ev] (((decide (lo ≤ c)) = false) ∧ ((decide (lo ≤ c)) = false) ∧ ((decide (lo ≤ c)) = false) ∧ ((decide (lo ≤ c)) = false) ∧ ((decide (lo ≤ c)) = false) ∧ ((decide (lo ≤ c)) = false) ∧ ((decide (lo ≤ c)) = false) ∧ ((decide (lo ≤ c)) = false) ∧ ((l[j.toNat]?) = some (.agg [(.sc (.int Go.IntKind.i64 (lo))), (.sc (.int Go.IntKind.i64 (hi))), (.sc (.string (cat))), (.sc (.string (scr))), (.sc (.int Go.IntKind.i64 (oth)))])) ∧ ((decide (0 ≤ j)) = true) ∧ ((decide (j < ↑l.length)) = true) ∧ True) (by kernel_rfl) ⟨h3, h3, h3, h3, h3, h3, h3, h3, h2, h1, h0, trivial⟩
theorem l19_3 (c : Int) (j : Int) (lo : Int) (hi : Int) (oth : Int) (cat : ByteArray) (scr : ByteArray) (l : List AV) (h0 : (decide (j < ↑l.length)) = false) : L 46 0 (s19 c l j) ((Go.Vai.Ex.exit 0), ⟨[], [(0, (.sc (.int Go.IntKind.i64 (c)))), (2, (.box [(.sc (.int Go.IntKind.i64 0)), (.sc (.int Go.IntKind.i64 0)), (.sc (.string (bs []))), (.sc (.string (bs []))), (.sc (.int Go.IntKind.i64 0))])), (3, (.sl 5 (l))), (4, (.sc (.int Go.IntKind.i64 (j)))), (16, (.sc (.bool (decide (j < ↑l.length)))))], [], 0⟩) :=
  L.of [.ev, (.b false)] (((decide (j < ↑l.length)) = false) ∧ True) (by kernel_rfl) ⟨h0, trivial⟩

section
variable {part : List Rw} {c : Int}
def x19 (r : Rw) : St := ⟨[], [(2, .box [i r.lo, i r.hi, st r.cat, st r.scr, i r.oth])], [], 0⟩
def e19 (c : Int) (l : List AV) (j : Int) : St := ⟨[], [(0, i c), (2, bx), (3, .sl 5 l), (4, i j), (16, b (decide (j < (l.length : Int))))], [], 0⟩
theorem m19 {j : Nat} (hj : j < part.length) (hb : j < 1000000) (hin : inRow c part[j] = false) : L 46 0 (s19 c (part.map rowAV) j) (.norm, s19 c (part.map rowAV) ((j + 1 : Nat) : Int)) := by
  obtain ⟨h1, h2, h3⟩ := at27 hj
  have w : IntKind.wrap .i64 ((j : Int) + 1) = ((j + 1 : Nat) : Int) := by rw [wrap_id (by omega) (by omega)]; omega
  rw [← w]
  simp only [inRow] at hin
  cases hlo : decide (part[j].lo ≤ c) with
  | true =>
    rw [hlo, Bool.true_and] at hin
    exact l19_1 c j part[j].lo part[j].hi part[j].oth part[j].cat part[j].scr (part.map rowAV) h1 h2 h3 hlo hin
  | false => exact l19_2 c j part[j].lo part[j].hi part[j].oth part[j].cat part[j].scr (part.map rowAV) h1 h2 h3 hlo
variable (hlen : part.length < 1000000)
include hlen
theorem r19_hit {k : Nat} (hk : k < part.length) (hin : inRow c part[k] = true) : ∀ {d j : Nat}, j + d = k → (∀ t (ht : t < part.length), j ≤ t → t < k → inRow c part[t] = false) → R 46 0 (s19 c (part.map rowAV) j) (.ret, x19 part[k])
  | 0, j, hd, _ => by
    have : j = k := by omega
    subst this
    obtain ⟨h1, h2, h3⟩ := at27 hk
    simp only [inRow, Bool.and_eq_true] at hin
    exact Rounds.last (by simp) (l19_0 c j part[j].lo part[j].hi part[j].oth part[j].cat part[j].scr (part.map rowAV) h1 h2 h3 hin.1 hin.2)
  | d + 1, j, hd, hm => by
    have hj : j < part.length := by omega
    exact Rounds.next (m19 hj (by omega) (hm j hj (Nat.le_refl _) (by omega))) (r19_hit hk hin (d := d) (j := j + 1) (by omega) (fun t ht h5 h6 => hm t ht (by omega) h6))
theorem r19_none : ∀ {d j : Nat}, j + d = part.length → (∀ t (ht : t < part.length), j ≤ t → inRow c part[t] = false) → R 46 0 (s19 c (part.map rowAV) j) (.exit 0, e19 c (part.map rowAV) part.length)
  | 0, j, hd, _ => by
    have : j = part.length := by omega
    subst this
    exact Rounds.last (by simp) (l19_3 c _ 0 0 0 (bs []) (bs []) _ (by simp))
  | d + 1, j, hd, hm => by
    have hj : j < part.length := by omega
    exact Rounds.next (m19 hj (by omega) (hm j hj (Nat.le_refl _))) (r19_none (d := d) (j := j + 1) (by omega) (fun t ht h5 => hm t ht (by omega)))
end
theorem f19_low (c : Int) (h : decide (c < 0) = true) : A 46 [i c] [] (rowAV zeroRw) [] :=
  A.of [.ev, .b true, .b true, .b true, .ev, .ev] (decide (c < 0) = true ∧ decide (c < 0) = true ∧ decide (c < 0) = true ∧ True) (by kernel_rfl) ⟨h, h, h, trivial⟩
theorem f19_high (c : Int) (h : decide (c < 0) = false) (h2 : decide (c > 1114111) = true) : A 46 [i c] [] (rowAV zeroRw) [] :=
  A.of [.ev, .b false, .b false, .ev, .b false, .b true, .ev] (decide (c > 1114111) = true ∧ decide (c < 0) = false ∧ decide (c < 0) = false ∧ decide (c < 0) = false ∧ True) (by kernel_rfl) ⟨h2, h, h, h, trivial⟩
theorem f19_hit (c : Int) (r : Rw) (h : decide (c < 0) = false) (h2 : decide (c > 1114111) = false) (h3 : R 46 0 (s19 c rowsAV (0 : Nat)) (.ret, x19 r)) : A 46 [i c] [] (rowAV r) [] :=
  A.of [.ev, .b false, .b false, .ev, .b false, .b false, .ev, .res (.sl 5 rowsAV) [], .loop .ret (x19 r), .ev] (R 46 0 (s19 c rowsAV (0 : Nat)) (.ret, x19 r) ∧ A 58 [] [] (.sl 5 rowsAV) [] ∧ decide (c > 1114111) = false ∧ decide (c < 0) = false ∧ decide (c < 0) = false ∧ decide (c < 0) = false ∧ True) (by kernel_rfl) ⟨h3, ref_rows, h2, h, h, h, trivial⟩
theorem f19_none (c : Int) (h : decide (c < 0) = false) (h2 : decide (c > 1114111) = false) (h3 : R 46 0 (s19 c rowsAV (0 : Nat)) (.exit 0, e19 c rowsAV rows.length)) : A 46 [i c] [] (rowAV (noRw c)) [] :=
  A.of [.ev, .b false, .b false, .ev, .b false, .b false, .ev, .res (.sl 5 rowsAV) [], .loop (.exit 0) (e19 c rowsAV rows.length), .ev] (R 46 0 (s19 c rowsAV (0 : Nat)) (.exit 0, e19 c rowsAV rows.length) ∧ A 58 [] [] (.sl 5 rowsAV) [] ∧ decide (c > 1114111) = false ∧ decide (c < 0) = false ∧ decide (c < 0) = false ∧ decide (c < 0) = false ∧ True) (by kernel_rfl) ⟨h3, ref_rows, h2, h, h, h, trivial⟩
theorem rows_len : rows.length < 1000000 := by have : rows.length = 81 := by decide +kernel
                                               omega
theorem of_ok (c : Int) : A 46 [i c] [] (rowAV (ofR c)) [] := by
  unfold ofR
  by_cases hl : c < 0
  · rw [if_pos (.inl hl)]
    exact f19_low c (by simpa using hl)
  · have h : decide (c < 0) = false := by simpa using hl
    by_cases hh : c > 1114111
    · rw [if_pos (.inr hh)]
      exact f19_high c h (by simpa using hh)
    · have h2 : decide (c > 1114111) = false := by simpa using hh
      rw [if_neg (by omega)]
      rcases find_cases (inRow c) rows with ⟨k, hk, q1, q2, q3⟩ | ⟨q1, q2⟩
      · rw [q3]
        exact f19_hit c _ h h2 (r19_hit rows_len hk q1 (d := k) (j := 0) (by omega) (fun t ht _ h => q2 t ht h))
      · rw [q2]
        exact f19_none c h h2 (r19_none rows_len (d := rows.length) (j := 0) (by omega) (fun t ht _ => q1 t ht))

theorem w_f15t (c : Int) (Q : AV → HH → Prop) (h : (((c == 75) = true → (((75 == c) = true → (((!107 == c) = true → (((!8490 == c) = true → Q (.sl 1 [(iv 107), (iv 8490)]) []) ∧ ((!8490 == c) = false → Q (.sl 1 [(iv 107)]) []))) ∧ ((!107 == c) = false → (((!8490 == c) = true → Q (.sl 1 [(iv 8490)]) []) ∧ ((!8490 == c) = false → Q (.sl 1 []) []))))) ∧ ((75 == c) = false → (((107 == c) = true → (((!8490 == c) = true → Q (.sl 1 [(iv 75), (iv 8490)]) []) ∧ ((!8490 == c) = false → Q (.sl 1 [(iv 75)]) []))) ∧ ((107 == c) = false → (((8490 == c) = true → Q (.sl 1 [(iv 75), (iv 107)]) []) ∧ ((8490 == c) = false → Q (.sl 1 [(iv 75), (iv 107), (iv 8490)]) []))))))) ∧ ((c == 75) = false → (((c == 107) = true → (((75 == c) = true → (((!107 == c) = true → (((!8490 == c) = true → Q (.sl 1 [(iv 107), (iv 8490)]) []) ∧ ((!8490 == c) = false → Q (.sl 1 [(iv 107)]) []))) ∧ ((!107 == c) = false → (((!8490 == c) = true → Q (.sl 1 [(iv 8490)]) []) ∧ ((!8490 == c) = false → Q (.sl 1 []) []))))) ∧ ((75 == c) = false → (((107 == c) = true → (((!8490 == c) = true → Q (.sl 1 [(iv 75), (iv 8490)]) []) ∧ ((!8490 == c) = false → Q (.sl 1 [(iv 75)]) []))) ∧ ((107 == c) = false → (((8490 == c) = true → Q (.sl 1 [(iv 75), (iv 107)]) []) ∧ ((8490 == c) = false → Q (.sl 1 [(iv 75), (iv 107), (iv 8490)]) []))))))) ∧ ((c == 107) = false → (((c == 8490) = true → (((75 == c) = true → (((!107 == c) = true → (((!8490 == c) = true → Q (.sl 1 [(iv 107), (iv 8490)]) []) ∧ ((!8490 == c) = false → Q (.sl 1 [(iv 107)]) []))) ∧ ((!107 == c) = false → (((!8490 == c) = true → Q (.sl 1 [(iv 8490)]) []) ∧ ((!8490 == c) = false → Q (.sl 1 []) []))))) ∧ ((75 == c) = false → (((107 == c) = true → (((!8490 == c) = true → Q (.sl 1 [(iv 75), (iv 8490)]) []) ∧ ((!8490 == c) = false → Q (.sl 1 [(iv 75)]) []))) ∧ ((107 == c) = false → (((8490 == c) = true → Q (.sl 1 [(iv 75), (iv 107)]) []) ∧ ((8490 == c) = false → Q (.sl 1 [(iv 75), (iv 107), (iv 8490)]) []))))))) ∧ ((c == 8490) = false → (((c == 83) = true → (((83 == c) = true → (((!115 == c) = true → (((!383 == c) = true → Q (.sl 1 [(iv 115), (iv 383)]) []) ∧ ((!383 == c) = false → Q (.sl 1 [(iv 115)]) []))) ∧ ((!115 == c) = false → (((!383 == c) = true → Q (.sl 1 [(iv 383)]) []) ∧ ((!383 == c) = false → Q (.sl 1 []) []))))) ∧ ((83 == c) = false → (((115 == c) = true → (((!383 == c) = true → Q (.sl 1 [(iv 83), (iv 383)]) []) ∧ ((!383 == c) = false → Q (.sl 1 [(iv 83)]) []))) ∧ ((115 == c) = false → (((383 == c) = true → Q (.sl 1 [(iv 83), (iv 115)]) []) ∧ ((383 == c) = false → Q (.sl 1 [(iv 83), (iv 115), (iv 383)]) []))))))) ∧ ((c == 83) = false → (((c == 115) = true → (((83 == c) = true → (((!115 == c) = true → (((!383 == c) = true → Q (.sl 1 [(iv 115), (iv 383)]) []) ∧ ((!383 == c) = false → Q (.sl 1 [(iv 115)]) []))) ∧ ((!115 == c) = false → (((!383 == c) = true → Q (.sl 1 [(iv 383)]) []) ∧ ((!383 == c) = false → Q (.sl 1 []) []))))) ∧ ((83 == c) = false → (((115 == c) = true → (((!383 == c) = true → Q (.sl 1 [(iv 83), (iv 383)]) []) ∧ ((!383 == c) = false → Q (.sl 1 [(iv 83)]) []))) ∧ ((115 == c) = false → (((383 == c) = true → Q (.sl 1 [(iv 83), (iv 115)]) []) ∧ ((383 == c) = false → Q (.sl 1 [(iv 83), (iv 115), (iv 383)]) []))))))) ∧ ((c == 115) = false → (((c == 383) = true → (((83 == c) = true → (((!115 == c) = true → (((!383 == c) = true → Q (.sl 1 [(iv 115), (iv 383)]) []) ∧ ((!383 == c) = false → Q (.sl 1 [(iv 115)]) []))) ∧ ((!115 == c) = false → (((!383 == c) = true → Q (.sl 1 [(iv 383)]) []) ∧ ((!383 == c) = false → Q (.sl 1 []) []))))) ∧ ((83 == c) = false → (((115 == c) = true → (((!383 == c) = true → Q (.sl 1 [(iv 83), (iv 383)]) []) ∧ ((!383 == c) = false → Q (.sl 1 [(iv 83)]) []))) ∧ ((115 == c) = false → (((383 == c) = true → Q (.sl 1 [(iv 83), (iv 115)]) []) ∧ ((383 == c) = false → Q (.sl 1 [(iv 83), (iv 115), (iv 383)]) []))))))) ∧ ((c == 383) = false → (((c == 181) = true → (((181 == c) = true → (((!924 == c) = true → (((!956 == c) = true → Q (.sl 1 [(iv 924), (iv 956)]) []) ∧ ((!956 == c) = false → Q (.sl 1 [(iv 924)]) []))) ∧ ((!924 == c) = false → (((!956 == c) = true → Q (.sl 1 [(iv 956)]) []) ∧ ((!956 == c) = false → Q (.sl 1 []) []))))) ∧ ((181 == c) = false → (((924 == c) = true → (((!956 == c) = true → Q (.sl 1 [(iv 181), (iv 956)]) []) ∧ ((!956 == c) = false → Q (.sl 1 [(iv 181)]) []))) ∧ ((924 == c) = false → (((956 == c) = true → Q (.sl 1 [(iv 181), (iv 924)]) []) ∧ ((956 == c) = false → Q (.sl 1 [(iv 181), (iv 924), (iv 956)]) []))))))) ∧ ((c == 181) = false → (((c == 924) = true → (((181 == c) = true → (((!924 == c) = true → (((!956 == c) = true → Q (.sl 1 [(iv 924), (iv 956)]) []) ∧ ((!956 == c) = false → Q (.sl 1 [(iv 924)]) []))) ∧ ((!924 == c) = false → (((!956 == c) = true → Q (.sl 1 [(iv 956)]) []) ∧ ((!956 == c) = false → Q (.sl 1 []) []))))) ∧ ((181 == c) = false → (((924 == c) = true → (((!956 == c) = true → Q (.sl 1 [(iv 181), (iv 956)]) []) ∧ ((!956 == c) = false → Q (.sl 1 [(iv 181)]) []))) ∧ ((924 == c) = false → (((956 == c) = true → Q (.sl 1 [(iv 181), (iv 924)]) []) ∧ ((956 == c) = false → Q (.sl 1 [(iv 181), (iv 924), (iv 956)]) []))))))) ∧ ((c == 924) = false → (((c == 956) = true → (((181 == c) = true → (((!924 == c) = true → (((!956 == c) = true → Q (.sl 1 [(iv 924), (iv 956)]) []) ∧ ((!956 == c) = false → Q (.sl 1 [(iv 924)]) []))) ∧ ((!924 == c) = false → (((!956 == c) = true → Q (.sl 1 [(iv 956)]) []) ∧ ((!956 == c) = false → Q (.sl 1 []) []))))) ∧ ((181 == c) = false → (((924 == c) = true → (((!956 == c) = true → Q (.sl 1 [(iv 181), (iv 956)]) []) ∧ ((!956 == c) = false → Q (.sl 1 [(iv 181)]) []))) ∧ ((924 == c) = false → (((956 == c) = true → Q (.sl 1 [(iv 181), (iv 924)]) []) ∧ ((956 == c) = false → Q (.sl 1 [(iv 181), (iv 924), (iv 956)]) []))))))) ∧ ((c == 956) = false → (((c == 931) = true → (((931 == c) = true → (((!962 == c) = true → (((!963 == c) = true → Q (.sl 1 [(iv 962), (iv 963)]) []) ∧ ((!963 == c) = false → Q (.sl 1 [(iv 962)]) []))) ∧ ((!962 == c) = false → (((!963 == c) = true → Q (.sl 1 [(iv 963)]) []) ∧ ((!963 == c) = false → Q (.sl 1 []) []))))) ∧ ((931 == c) = false → (((962 == c) = true → (((!963 == c) = true → Q (.sl 1 [(iv 931), (iv 963)]) []) ∧ ((!963 == c) = false → Q (.sl 1 [(iv 931)]) []))) ∧ ((962 == c) = false → (((963 == c) = true → Q (.sl 1 [(iv 931), (iv 962)]) []) ∧ ((963 == c) = false → Q (.sl 1 [(iv 931), (iv 962), (iv 963)]) []))))))) ∧ ((c == 931) = false → (((c == 962) = true → (((931 == c) = true → (((!962 == c) = true → (((!963 == c) = true → Q (.sl 1 [(iv 962), (iv 963)]) []) ∧ ((!963 == c) = false → Q (.sl 1 [(iv 962)]) []))) ∧ ((!962 == c) = false → (((!963 == c) = true → Q (.sl 1 [(iv 963)]) []) ∧ ((!963 == c) = false → Q (.sl 1 []) []))))) ∧ ((931 == c) = false → (((962 == c) = true → (((!963 == c) = true → Q (.sl 1 [(iv 931), (iv 963)]) []) ∧ ((!963 == c) = false → Q (.sl 1 [(iv 931)]) []))) ∧ ((962 == c) = false → (((963 == c) = true → Q (.sl 1 [(iv 931), (iv 962)]) []) ∧ ((963 == c) = false → Q (.sl 1 [(iv 931), (iv 962), (iv 963)]) []))))))) ∧ ((c == 962) = false → (((c == 963) = true → (((931 == c) = true → (((!962 == c) = true → (((!963 == c) = true → Q (.sl 1 [(iv 962), (iv 963)]) []) ∧ ((!963 == c) = false → Q (.sl 1 [(iv 962)]) []))) ∧ ((!962 == c) = false → (((!963 == c) = true → Q (.sl 1 [(iv 963)]) []) ∧ ((!963 == c) = false → Q (.sl 1 []) []))))) ∧ ((931 == c) = false → (((962 == c) = true → (((!963 == c) = true → Q (.sl 1 [(iv 931), (iv 963)]) []) ∧ ((!963 == c) = false → Q (.sl 1 [(iv 931)]) []))) ∧ ((962 == c) = false → (((963 == c) = true → Q (.sl 1 [(iv 931), (iv 962)]) []) ∧ ((963 == c) = false → Q (.sl 1 [(iv 931), (iv 962), (iv 963)]) []))))))) ∧ ((c == 963) = false → (∃ x0 : Int, ∃ x1 : Int, ∃ x2 : ByteArray, ∃ x3 : ByteArray, ∃ x4 : Int, A 45 [(iv (c))] [] (.agg [(iv (x0)), (iv (x1)), (sv (x2)), (sv (x3)), (iv (x4))]) [] ∧ (((!x4 == 0) = true → Q (.sl 1 [(iv (IntKind.i64.wrap (c + x4)))]) []) ∧ ((!x4 == 0) = false → Q (.sl 1 []) [])))))))))))))))))))))))))))) : ∃ r H', A 31 [(iv (c)), (bv true)] [] r H' ∧ Q r H' :=
  Ans.wp rfl (.ev 21 (.split (.ev 18 (.split (.ev 14 (.split (.ev 15 (.split (.ev 16 (.stop)) (.ev 12 (.stop)))) (.ev 11 (.split (.ev 16 (.stop)) (.ev 12 (.stop)))))) (.ev 10 (.split (.ev 14 (.split (.ev 16 (.stop)) (.ev 12 (.stop)))) (.ev 10 (.split (.ev 15 (.stop)) (.ev 9 (.stop)))))))) (.ev 8 (.split (.ev 18 (.split (.ev 14 (.split (.ev 15 (.split (.ev 16 (.stop)) (.ev 12 (.stop)))) (.ev 11 (.split (.ev 16 (.stop)) (.ev 12 (.stop)))))) (.ev 10 (.split (.ev 14 (.split (.ev 16 (.stop)) (.ev 12 (.stop)))) (.ev 10 (.split (.ev 15 (.stop)) (.ev 9 (.stop)))))))) (.ev 8 (.split (.ev 18 (.split (.ev 14 (.split (.ev 15 (.split (.ev 16 (.stop)) (.ev 12 (.stop)))) (.ev 11 (.split (.ev 16 (.stop)) (.ev 12 (.stop)))))) (.ev 10 (.split (.ev 14 (.split (.ev 16 (.stop)) (.ev 12 (.stop)))) (.ev 10 (.split (.ev 15 (.stop)) (.ev 9 (.stop)))))))) (.ev 31 (.split (.ev 18 (.split (.ev 14 (.split (.ev 15 (.split (.ev 16 (.stop)) (.ev 12 (.stop)))) (.ev 11 (.split (.ev 16 (.stop)) (.ev 12 (.stop)))))) (.ev 10 (.split (.ev 14 (.split (.ev 16 (.stop)) (.ev 12 (.stop)))) (.ev 10 (.split (.ev 15 (.stop)) (.ev 9 (.stop)))))))) (.ev 8 (.split (.ev 18 (.split (.ev 14 (.split (.ev 15 (.split (.ev 16 (.stop)) (.ev 12 (.stop)))) (.ev 11 (.split (.ev 16 (.stop)) (.ev 12 (.stop)))))) (.ev 10 (.split (.ev 14 (.split (.ev 16 (.stop)) (.ev 12 (.stop)))) (.ev 10 (.split (.ev 15 (.stop)) (.ev 9 (.stop)))))))) (.ev 8 (.split (.ev 18 (.split (.ev 14 (.split (.ev 15 (.split (.ev 16 (.stop)) (.ev 12 (.stop)))) (.ev 11 (.split (.ev 16 (.stop)) (.ev 12 (.stop)))))) (.ev 10 (.split (.ev 14 (.split (.ev 16 (.stop)) (.ev 12 (.stop)))) (.ev 10 (.split (.ev 15 (.stop)) (.ev 9 (.stop)))))))) (.ev 31 (.split (.ev 18 (.split (.ev 14 (.split (.ev 15 (.split (.ev 16 (.stop)) (.ev 12 (.stop)))) (.ev 11 (.split (.ev 16 (.stop)) (.ev 12 (.stop)))))) (.ev 10 (.split (.ev 14 (.split (.ev 16 (.stop)) (.ev 12 (.stop)))) (.ev 10 (.split (.ev 15 (.stop)) (.ev 9 (.stop)))))))) (.ev 8 (.split (.ev 18 (.split (.ev 14 (.split (.ev 15 (.split (.ev 16 (.stop)) (.ev 12 (.stop)))) (.ev 11 (.split (.ev 16 (.stop)) (.ev 12 (.stop)))))) (.ev 10 (.split (.ev 14 (.split (.ev 16 (.stop)) (.ev 12 (.stop)))) (.ev 10 (.split (.ev 15 (.stop)) (.ev 9 (.stop)))))))) (.ev 8 (.split (.ev 18 (.split (.ev 14 (.split (.ev 15 (.split (.ev 16 (.stop)) (.ev 12 (.stop)))) (.ev 11 (.split (.ev 16 (.stop)) (.ev 12 (.stop)))))) (.ev 10 (.split (.ev 14 (.split (.ev 16 (.stop)) (.ev 12 (.stop)))) (.ev 10 (.split (.ev 15 (.stop)) (.ev 9 (.stop)))))))) (.ev 31 (.split (.ev 18 (.split (.ev 14 (.split (.ev 15 (.split (.ev 16 (.stop)) (.ev 12 (.stop)))) (.ev 11 (.split (.ev 16 (.stop)) (.ev 12 (.stop)))))) (.ev 10 (.split (.ev 14 (.split (.ev 16 (.stop)) (.ev 12 (.stop)))) (.ev 10 (.split (.ev 15 (.stop)) (.ev 9 (.stop)))))))) (.ev 8 (.split (.ev 18 (.split (.ev 14 (.split (.ev 15 (.split (.ev 16 (.stop)) (.ev 12 (.stop)))) (.ev 11 (.split (.ev 16 (.stop)) (.ev 12 (.stop)))))) (.ev 10 (.split (.ev 14 (.split (.ev 16 (.stop)) (.ev 12 (.stop)))) (.ev 10 (.split (.ev 15 (.stop)) (.ev 9 (.stop)))))))) (.ev 8 (.split (.ev 18 (.split (.ev 14 (.split (.ev 15 (.split (.ev 16 (.stop)) (.ev 12 (.stop)))) (.ev 11 (.split (.ev 16 (.stop)) (.ev 12 (.stop)))))) (.ev 10 (.split (.ev 14 (.split (.ev 16 (.stop)) (.ev 12 (.stop)))) (.ev 10 (.split (.ev 15 (.stop)) (.ev 9 (.stop)))))))) (.ev 14 (.res (.ex Int fun x0 => .ex Int fun x1 => .ex ByteArray fun x2 => .ex ByteArray fun x3 => .ex Int fun x4 => .done ((.agg [(iv (x0)), (iv (x1)), (sv (x2)), (sv (x3)), (iv (x4))]), [])) (.ev 1 (.split (.ev 11 (.stop)) (.ev 6 (.stop)))))))))))))))))))))))))))))) (by kernel_rfl) h

theorem w_f15f (c : Int) (Q : AV → HH → Prop) (h : (∃ x0 : Int, ∃ x1 : Int, ∃ x2 : ByteArray, ∃ x3 : ByteArray, ∃ x4 : Int, A 45 [(iv (c))] [] (.agg [(iv (x0)), (iv (x1)), (sv (x2)), (sv (x3)), (iv (x4))]) [] ∧ (((!x4 == 0) = true → (((decide (c < 128)) = true → Q (.sl 1 [(iv (IntKind.i64.wrap (c + x4)))]) []) ∧ ((decide (c < 128)) = false → Q (.sl 1 []) []))) ∧ ((!x4 == 0) = false → Q (.sl 1 []) [])))) : ∃ r H', A 31 [(iv (c)), (bv false)] [] r H' ∧ Q r H' :=
  Ans.wp rfl (.ev 56 (.res (.ex Int fun x0 => .ex Int fun x1 => .ex ByteArray fun x2 => .ex ByteArray fun x3 => .ex Int fun x4 => .done ((.agg [(iv (x0)), (iv (x1)), (sv (x2)), (sv (x3)), (iv (x4))]), [])) (.ev 1 (.split (.ev 7 (.split (.ev 4 (.stop)) (.ev 2 (.stop)))) (.ev 6 (.stop)))))) (by kernel_rfl) h

theorem w_f16 (x0 : Int) (x1 : Bool) (Q : AV → HH → Prop) (h : (((!x1) = true → (((decide (x0 ≥ 65)) = true → (((decide (x0 ≤ 90)) = true → Q (.sl 1 [(iv (IntKind.i64.wrap (x0 + 32)))]) []) ∧ ((decide (x0 ≤ 90)) = false → (((decide (x0 ≥ 97)) = true → (((decide (x0 ≤ 122)) = true → Q (.sl 1 [(iv (IntKind.i64.wrap (x0 - 32)))]) []) ∧ ((decide (x0 ≤ 122)) = false → Q (.sl 1 []) []))) ∧ ((decide (x0 ≥ 97)) = false → Q (.sl 1 []) []))))) ∧ ((decide (x0 ≥ 65)) = false → (((decide (x0 ≥ 97)) = true → (((decide (x0 ≤ 122)) = true → Q (.sl 1 [(iv (IntKind.i64.wrap (x0 - 32)))]) []) ∧ ((decide (x0 ≤ 122)) = false → Q (.sl 1 []) []))) ∧ ((decide (x0 ≥ 97)) = false → Q (.sl 1 []) []))))) ∧ ((!x1) = false → (((x0 == 75) = true → Q (.sl 1 [(iv 107), (iv 8490)]) []) ∧ ((x0 == 75) = false → (((x0 == 107) = true → Q (.sl 1 [(iv 75), (iv 8490)]) []) ∧ ((x0 == 107) = false → (((x0 == 8490) = true → Q (.sl 1 [(iv 75), (iv 107)]) []) ∧ ((x0 == 8490) = false → (((x0 == 83) = true → Q (.sl 1 [(iv 115), (iv 383)]) []) ∧ ((x0 == 83) = false → (((x0 == 115) = true → Q (.sl 1 [(iv 83), (iv 383)]) []) ∧ ((x0 == 115) = false → (((x0 == 383) = true → Q (.sl 1 [(iv 83), (iv 115)]) []) ∧ ((x0 == 383) = false → (((x0 == 181) = true → Q (.sl 1 [(iv 924), (iv 956)]) []) ∧ ((x0 == 181) = false → (((x0 == 924) = true → Q (.sl 1 [(iv 181), (iv 956)]) []) ∧ ((x0 == 924) = false → (((x0 == 956) = true → Q (.sl 1 [(iv 181), (iv 924)]) []) ∧ ((x0 == 956) = false → (((x0 == 931) = true → Q (.sl 1 [(iv 962), (iv 963)]) []) ∧ ((x0 == 931) = false → (((x0 == 962) = true → Q (.sl 1 [(iv 931), (iv 963)]) []) ∧ ((x0 == 962) = false → (((x0 == 963) = true → Q (.sl 1 [(iv 931), (iv 962)]) []) ∧ ((x0 == 963) = false → (∃ x2 : Int, ∃ x3 : Int, ∃ x4 : ByteArray, ∃ x5 : ByteArray, ∃ x6 : Int, A 46 [(iv (x0))] [] (.agg [(iv (x2)), (iv (x3)), (sv (x4)), (sv (x5)), (iv (x6))]) [] ∧ (((!x6 == 0) = true → Q (.sl 1 [(iv (IntKind.i64.wrap (x0 + x6)))]) []) ∧ ((!x6 == 0) = false → Q (.sl 1 []) [])))))))))))))))))))))))))))))) : ∃ r H', A 33 [(iv (x0)), (bv (x1))] [] r H' ∧ Q r H' :=
  Ans.wp rfl (.ev 1 (.split (.ev 1 (.split (.ev 3 (.split (.ev 2 (.stop)) (.ev 1 (.split (.ev 3 (.split (.ev 2 (.stop)) (.ev 1 (.stop)))) (.ev 4 (.stop)))))) (.ev 4 (.split (.ev 3 (.split (.ev 2 (.stop)) (.ev 1 (.stop)))) (.ev 4 (.stop)))))) (.ev 1 (.split (.ev 1 (.stop)) (.ev 1 (.split (.ev 1 (.stop)) (.ev 1 (.split (.ev 1 (.stop)) (.ev 1 (.split (.ev 1 (.stop)) (.ev 1 (.split (.ev 1 (.stop)) (.ev 1 (.split (.ev 1 (.stop)) (.ev 1 (.split (.ev 1 (.stop)) (.ev 1 (.split (.ev 1 (.stop)) (.ev 1 (.split (.ev 1 (.stop)) (.ev 1 (.split (.ev 1 (.stop)) (.ev 1 (.split (.ev 1 (.stop)) (.ev 1 (.split (.ev 1 (.stop)) (.ev 1 (.res (.ex Int fun x2 => .ex Int fun x3 => .ex ByteArray fun x4 => .ex ByteArray fun x5 => .ex Int fun x6 => .done ((.agg [(iv (x2)), (iv (x3)), (sv (x4)), (sv (x5)), (iv (x6))]), [])) (.ev 1 (.split (.ev 2 (.stop)) (.ev 1 (.stop)))))))))))))))))))))))))))))))) (by kernel_rfl) h


def othL (c : Int) (utf : Bool) : List Int :=
  if utf = false then (if 65 ≤ c ∧ c ≤ 90 then [c + 32] else if 97 ≤ c ∧ c ≤ 122 then [c - 32] else [])
  else if c = 75 then [107, 8490] else if c = 107 then [75, 8490] else if c = 8490 then [75, 107]
  else if c = 83 then [115, 383] else if c = 115 then [83, 383] else if c = 383 then [83, 115]
  else if c = 181 then [924, 956] else if c = 924 then [181, 956] else if c = 956 then [181, 924]
  else if c = 931 then [962, 963] else if c = 962 then [931, 963] else if c = 963 then [931, 962]
  else if (ofR c).oth = 0 then [] else [c + (ofR c).oth]
theorem ite_h {α : Type} {p : α → Prop} {c : Prop} [Decidable c] {a b : α} (ha : c → p a) (hb : ¬ c → p b) : p (if c then a else b) := by
  split
  · exact ha ‹_›
  · exact hb ‹_›
def othAV (c : Int) (utf : Bool) : AV := .sl 1 ((othL c utf).map iv)
theorem oth_bounds (c : Int) (h : (ofR c).oth ≠ 0) : 65 ≤ c ∧ c ≤ 1103 ∧ -100 ≤ (ofR c).oth ∧ (ofR c).oth ≤ 100 := by
  unfold ofR at h ⊢
  split at h
  · exact absurd rfl h
  · rename_i hc
    rw [if_neg hc] at *
    cases hf : rows.find? (inRow c) with
    | none => rw [hf] at h; exact absurd rfl h
    | some r =>
      rw [hf] at h
      simp only [Option.getD_some] at h ⊢
      have h1 := List.find?_some hf
      have h2 := List.mem_of_find?_eq_some hf
      have h3 : rows.all (fun r => r.oth == 0 || (decide (65 ≤ r.lo) && decide (r.hi ≤ 1103) && decide (-100 ≤ r.oth) && decide (r.oth ≤ 100))) = true := by decide +kernel
      have h4 := List.all_eq_true.1 h3 r h2
      simp only [inRow, Bool.and_eq_true, Bool.or_eq_true, beq_iff_eq, decide_eq_true_eq] at h1 h4
      omega
theorem low_all (n : Nat) (p : Int → Bool) (h : (List.range n).all (fun k => p (k : Int)) = true) (c : Int) (h0 : 0 ≤ c) (h1 : c < n) : p c = true := by
  have := List.all_eq_true.1 h c.toNat (by simp; omega)
  simpa [Int.toNat_of_nonneg h0] using this
theorem oth_ascii (c : Int) (h : c < 128) : (ofR c).oth = if 65 ≤ c ∧ c ≤ 90 then 32 else if 97 ≤ c ∧ c ≤ 122 then -32 else 0 := by
  by_cases h0 : 0 ≤ c
  · have := low_all 128 (fun c => (ofR c).oth == if 65 ≤ c ∧ c ≤ 90 then 32 else if 97 ≤ c ∧ c ≤ 122 then -32 else 0) (by decide +kernel) c h0 h
    simpa using this
  · have : ofR c = zeroRw := by unfold ofR; rw [if_pos (by omega)]
    rw [this]
    rw [if_neg (by omega), if_neg (by omega)]
    rfl
theorem oth_find (c x : Int) (hx : x = (ofR c).oth) : IntKind.wrap .i64 (c + x) = c + (ofR c).oth ∨ (!x == 0) = false := by
  by_cases h : (ofR c).oth = 0
  · right; simp [hx, h]
  · left
    have := oth_bounds c h
    rw [hx, wrap_id (by omega) (by omega)]
theorem ref_oth (c : Int) (utf : Bool) : A 33 [iv c, bv utf] [] (othAV c utf) [] := by
  refine done (w_f16 c utf (fun r H => r = othAV c utf ∧ H = []) ?_)
  have hw1 : 65 ≤ c → c ≤ 90 → IntKind.wrap .i64 (c + 32) = c + 32 := fun _ _ => wrap_id (by omega) (by omega)
  have hw2 : 97 ≤ c → c ≤ 122 → IntKind.wrap .i64 (c - 32) = c - 32 := fun _ _ => wrap_id (by omega) (by omega)
  cases utf with
  | false =>
    refine ⟨fun _ => ?_, fun h => by simp at h⟩
    simp only [decide_eq_true_eq, decide_eq_false_iff_not]
    refine ⟨fun h1 => ⟨fun h2 => ?_, fun h2 => ⟨fun h3 => ⟨fun h4 => ?_, fun h4 => ?_⟩, fun h3 => ?_⟩⟩, fun h1 => ⟨fun h3 => ⟨fun h4 => ?_, fun h4 => ?_⟩, fun h3 => ?_⟩⟩
    · rw [hw1 (by omega) (by omega)]; simp only [othAV, othL, if_true]; rw [if_pos (by omega)]; simp
    · rw [hw2 (by omega) (by omega)]; simp only [othAV, othL, if_true]; rw [if_neg (by omega), if_pos (by omega)]; simp
    · simp only [othAV, othL, if_true]; rw [if_neg (by omega), if_neg (by omega)]; simp
    · simp only [othAV, othL, if_true]; rw [if_neg (by omega), if_neg (by omega)]; simp
    · omega
    · omega
    · simp only [othAV, othL, if_true]; rw [if_neg (by omega), if_neg (by omega)]; simp
  | true =>
    refine ⟨fun h => by simp at h, fun _ => ?_⟩
    repeat' (first
      | (refine ⟨fun h => ?_, fun h => ?_⟩; · (have := eq_of_beq h; subst this; exact ⟨rfl, rfl⟩)))
    have e : othL c true = if (ofR c).oth = 0 then [] else [c + (ofR c).oth] := by
      simp only [beq_eq_false_iff_ne, ne_eq] at *
      unfold othL
      simp only [*, if_false, Bool.true_eq_false]
    refine ⟨_, _, _, _, _, of_ok c, fun h => ?_, fun h => ?_⟩
    · rcases oth_find c _ rfl with h1 | h1
      · have h2 : (ofR c).oth ≠ 0 := by simpa using h
        simp only [othAV, e, h1, if_neg h2]
        exact ⟨rfl, by trivial⟩
      · rw [h] at h1; cases h1
    · have h2 : (ofR c).oth = 0 := by simpa using h
      simp only [othAV, e, if_pos h2]
      exact ⟨rfl, by trivial⟩
theorem own_oth (c : Int) (utf : Bool) : A 31 [iv c, bv utf] [] (othAV c utf) [] := by
  cases utf with
  | false =>
    refine done (w_f15f c (fun r H => r = othAV c false ∧ H = []) ⟨_, _, _, _, _, find_ok c, fun h => ⟨fun h3 => ?_, fun h3 => ?_⟩, fun h => ?_⟩)
    all_goals simp only [decide_eq_true_eq, decide_eq_false_iff_not, ne_eq, Bool.not_eq_true', Bool.not_eq_false', beq_iff_eq, beq_eq_false_iff_ne] at *
    · have h1 := oth_ascii c h3
      have h2 := oth_bounds c h
      rw [wrap_id (by omega) (by omega)]
      refine ⟨?_, by trivial⟩
      simp only [othAV, othL, if_true]
      rw [h1] at h ⊢
      split at h <;> rename_i h4
      · rw [if_pos h4, if_pos h4]; rfl
      · split at h <;> rename_i h5
        · rw [if_neg h4, if_neg h4, if_pos h5, if_pos h5]; rfl
        · exact absurd rfl h
    · refine ⟨?_, by trivial⟩
      simp only [othAV, othL, if_true]
      rw [if_neg (by omega), if_neg (by omega)]
      rfl
    · refine ⟨?_, by trivial⟩
      simp only [othAV, othL, if_true]
      have h1 : ¬ (65 ≤ c ∧ c ≤ 90) ∧ ¬ (97 ≤ c ∧ c ≤ 122) := by
        by_cases h3 : c < 128
        · have h1 := oth_ascii c h3
          rw [h] at h1
          refine ⟨fun h4 => ?_, fun h4 => ?_⟩
          · rw [if_pos h4] at h1; omega
          · rw [if_neg (by omega), if_pos h4] at h1; omega
        · omega
      rw [if_neg h1.1, if_neg h1.2]
      rfl
  | true =>
    refine done (w_f15t c (fun r H => r = othAV c true ∧ H = []) ?_)
    repeat' (first
      | (refine ⟨fun h => ?_, fun h => ?_⟩; · (have := eq_of_beq h; subst this; simp [othAV, othL])))
    have e : othL c true = if (ofR c).oth = 0 then [] else [c + (ofR c).oth] := by
      simp only [beq_eq_false_iff_ne, ne_eq] at *
      unfold othL
      simp only [*, if_false, Bool.true_eq_false]
    refine ⟨_, _, _, _, _, find_ok c, fun h => ?_, fun h => ?_⟩
    · rcases oth_find c _ rfl with h1 | h1
      · have h2 : (ofR c).oth ≠ 0 := by simpa using h
        simp only [othAV, e, h1, if_neg h2]
        exact ⟨rfl, by trivial⟩
      · rw [h] at h1; cases h1
    · have h2 : (ofR c).oth = 0 := by simpa using h
      simp only [othAV, e, if_pos h2]
      exact ⟨rfl, by trivial⟩
theorem np_iv (l : List Int) : npL (l.map iv) = true := by
  induction l with
  | nil => rfl
  | cons x l ih => simp [npL, np, ih]
theorem oth_len (c : Int) (utf : Bool) : (othL c utf).length < 1000000 := by
  unfold othL
  repeat' (refine ite_h (p := fun l : List Int => l.length < 1000000) (fun _ => ?_) (fun _ => ?_))
  all_goals simp
/-- UcdSays. -/
theorem out_ok (c : Int) (h : c < 0 ∨ c > 1114111) : ofR c = zeroRw := by unfold ofR; rw [if_pos h]
theorem oth_out (c : Int) (utf : Bool) (h : c < 0 ∨ c > 1114111) : othL c utf = [] := by
  have h1 := out_ok c h
  unfold othL
  rw [h1]
  repeat' (refine ite_h (p := fun l : List Int => l = []) (fun _ => ?_) (fun _ => ?_))
  all_goals first | rfl | omega | exact absurd rfl ‹¬ zeroRw.oth = 0›
theorem oth_high (c : Int) (h : c > 127) : othL c false = [] := by
  unfold othL
  rw [if_pos rfl, if_neg (by omega), if_neg (by omega)]
/-- UcdBeyond. -/
theorem oth_where (c : Int) (utf : Bool) (h : othL c utf ≠ []) : (0 ≤ c ∧ c < 1104) ∨ c = 8490 := by
  by_cases hb : (0 ≤ c ∧ c < 1104) ∨ c = 8490
  · exact hb
  · refine absurd ?_ h
    unfold othL
    repeat' (refine ite_h (p := fun l : List Int => l = []) (fun _ => ?_) (fun _ => ?_))
    all_goals first | rfl | omega | (have := oth_bounds c ‹_›; omega)

end Go.Proofs.Ytkocppnbipjiiaa.U.O
