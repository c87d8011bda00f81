/- The table of characters: the laws of ASCII and of the table's rows. -/
import Derived.Test.YtbfjpgjeglickaaUcw4
namespace Go.Proofs.Ytbfjpgjeglickaa.U
open Go Go.Vai
theorem rows_at (k : Int) (h0 : 0 ≤ k) (h1 : k < 81) : ∃ r : Rw, rowsAV[k.toNat]? = some (rowAV r) := by
  have hl : rows.length = 81 := by decide +kernel
  refine ⟨rows[k.toNat]'(by omega), ?_⟩
  simp only [rowsAV, List.getElem?_map]
  rw [List.getElem?_eq_getElem (by omega)]
  rfl
theorem nb {l : List UInt8} {p : Prop} (h : (l == l) = false) : p := by simp at h
/-- UcdRows. -/
theorem rows_law (a d : Int) (utf : Bool) (h0 : -9223372036854775808 ≤ a) (h1 : a ≤ 9223372036854775807) (_ : -9223372036854775808 ≤ d) (_ : d ≤ 9223372036854775807) : A 4 [iv a, iv d, bv utf] [] (bv true) [] := by
  refine done (w_f4 a d utf (fun r H => r = bv true ∧ H = []) ⟨awake, ref_rows, fun h => ?_, fun h => ?_⟩)
  · have hn : a < 0 := dt h
    have hw : IntKind.wrap .i64 (0 - IntKind.wrap .i64 (a + 1)) = -(a + 1) := by rw [wrap_id (n := a + 1) (by omega) (by omega), wrap_id (by omega) (by omega)]; omega
    rw [hw]
    have hr : 0 ≤ (-(a + 1)).tmod 81 ∧ (-(a + 1)).tmod 81 < 81 := by
      rw [Int.tmod_eq_emod_of_nonneg (by omega)]; omega
    obtain ⟨r, hr2⟩ := rows_at _ hr.1 hr.2
    clear h
    refine ⟨decide_eq_true (Int.tmod_nonneg _ (by omega)), _, _, _, _, _, hr2, ?_⟩
    repeat' (first
      | exact ⟨rfl, rfl⟩
      | refine ⟨_, own_cat _, _, ref_cat _, ?_⟩
      | refine ⟨_, own_scr _, _, ref_scr _, ?_⟩
      | refine ⟨_, own_oth _ _, _, ref_oth _ _, (by simp [npL, np, np_iv]), _, same_ok (oth_len _ _), ?_⟩
      | exact nb h
      | exact Bool.noConfusion h
      | refine ⟨fun h => ?_, fun h => ?_⟩)
  · have hn : ¬ a < 0 := df h
    have hr : 0 ≤ a.tmod 81 ∧ a.tmod 81 < 81 := by
      rw [Int.tmod_eq_emod_of_nonneg (by omega)]; omega
    obtain ⟨r, hr2⟩ := rows_at _ hr.1 hr.2
    clear h
    refine ⟨decide_eq_true (Int.tmod_nonneg _ (by omega)), _, _, _, _, _, hr2, ?_⟩
    repeat' (first
      | exact ⟨rfl, rfl⟩
      | refine ⟨_, own_cat _, _, ref_cat _, ?_⟩
      | refine ⟨_, own_scr _, _, ref_scr _, ?_⟩
      | refine ⟨_, own_oth _ _, _, ref_oth _ _, (by simp [npL, np, np_iv]), _, same_ok (oth_len _ _), ?_⟩
      | exact nb h
      | exact Bool.noConfusion h
      | refine ⟨fun h => ?_, fun h => ?_⟩)
end Go.Proofs.Ytbfjpgjeglickaa.U
