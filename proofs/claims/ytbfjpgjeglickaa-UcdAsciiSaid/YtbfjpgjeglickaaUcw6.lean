/- The table of characters: the law of ASCII. -/
import Derived.Test.YtbfjpgjeglickaaUcw4
namespace Go.Proofs.Ytbfjpgjeglickaa.U
open Go Go.Vai
def asciiOk (c : Int) : Bool :=
  ((ofR c).cat.toList == (bs [76, 117]).toList) == (decide (65 ≤ c) && decide (c ≤ 90)) && ((ofR c).cat.toList == (bs [76, 108]).toList) == (decide (97 ≤ c) && decide (c ≤ 122)) &&
  ((ofR c).cat.toList == (bs [78, 100]).toList) == (decide (48 ≤ c) && decide (c ≤ 57)) && ((ofR c).cat.toList == (bs [67, 99]).toList) == (decide (c < 32) || c == 127) &&
  ((ofR c).cat.toList == (bs [90, 115]).toList) == (c == 32) && ((ofR c).scr.toList == (bs [76, 97, 116, 105, 110]).toList) == (decide (65 ≤ c) && decide (c ≤ 90) || decide (97 ≤ c) && decide (c ≤ 122)) &&
  ((((othL c false).length : Int) == 1) == (decide (65 ≤ c) && decide (c ≤ 90) || decide (97 ≤ c) && decide (c ≤ 122))) &&
  (match othL c false with | [] => true | x :: _ => x == IntKind.wrap .i64 (((c % 18446744073709551616).toNat ^^^ 32 : Nat) : Int))
set_option maxHeartbeats 2000000 in
/-- UcdAscii. -/
theorem ascii (c : Int) : A 7 [iv c] [] (bv true) [] := by
  refine done (w_f7 c (fun r H => r = bv true ∧ H = []) ⟨awake, fun _ => ⟨rfl, rfl⟩, fun h0 => ⟨fun _ => ⟨rfl, rfl⟩, fun h1 => ⟨_, own_cat c, ?_⟩⟩⟩)
  have h0 := df h0
  have h1 := df h1
  have ok : asciiOk c = true := low_all 128 asciiOk (by decide +kernel) c (by omega) (by omega)
  simp only [asciiOk, Bool.and_eq_true] at ok
  obtain ⟨⟨⟨⟨⟨⟨⟨e1, e2⟩, e3⟩, e4⟩, e5⟩, e6⟩, e7⟩, e8⟩ := ok
  rw [beq_iff_eq] at e1 e2 e3 e4 e5 e6 e7
  have e7' : (((List.map iv (othL c false)).length : Int) == 1) = (decide (65 ≤ c) && decide (c ≤ 90) || decide (97 ≤ c) && decide (c ≤ 122)) := by rw [List.length_map]; exact e7
  have e9 : (((List.map iv (othL c false)).length : Int) == 1) = true → ∃ x : Int, (List.map iv (othL c false))[0]? = some (iv x) ∧ bv (x == IntKind.wrap .i64 (((c % 18446744073709551616).toNat ^^^ 32 : Nat) : Int)) = bv true ∧ ([] : HH) = [] := fun h => by
    cases hl : othL c false with
    | nil => rw [hl] at h; simp at h
    | cons x l => rw [hl] at e8; exact ⟨x, rfl, congrArg bv e8, rfl⟩
  simp only [e1, e2, e3, e4, e5]
  repeat' (first
    | exact ⟨rfl, rfl⟩
    | exact ⟨congrArg bv h, rfl⟩
    | exact ⟨congrArg bv h, trivial⟩
    | exact trivial
    | refine ⟨_, own_oth c false, ?_⟩
    | refine ⟨_, own_scr c, ?_⟩
    | refine ⟨fun h => ?_, fun h => ?_⟩
    | refine e9 ?_
    | refine (e9 ?_).imp fun _ h => ⟨h.1, h.2.1, trivial⟩
    | fail)
  all_goals try (exfalso; (first | (simp only [e6, e7'] at *; clear e8 e7 e6 e5 e4 e3 e1 e2; grind) | (simp only [e7'] at *; clear e8 e7 e6 e5 e4 e3 e1 e2; grind)| (clear e8 e7 e6 e5 e4 e3 e1 e2; grind)))
  all_goals try simp only [e6] at h
  all_goals try simp only [e7'] at *
  all_goals (clear e8 e7 e6 e5 e4 e3 e1 e2; grind)
end Go.Proofs.Ytbfjpgjeglickaa.U
