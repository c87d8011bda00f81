/- Sets: arguments in memory. -/
import Derived.Test.YtkocppnbipjiiaaSetZ
import Derived.Test.YtkocppnbipjiiaaVaiWa
namespace Go.Proofs.Ytkocppnbipjiiaa.U
open Go Go.Vai
set_option maxRecDepth 100000
section
variable {H : Type} {enc : TypeId × Value → H} {w : World}
theorem size3 : Try.prog.cellsOf 3 = 1 := by kernel_rfl
theorem size35 : Try.prog.cellsOf 35 = 2 := by kernel_rfl
theorem fld {n t off i : Nat} {c : Value} {cs r : List Value} {xs : List (DataW H × List MemPlace)} (hs : Try.prog.cellsOf t = 1) (h : DataW.trod enc Try.prog w 0 (fun _ => true) true n t (List.take (Try.prog.cellsOf t) (List.drop off cs)) = xs[i]?) (hc : cs.drop off = c :: r) (hi : i < xs.length) :
    DataW.trod enc Try.prog w 0 (fun _ => true) true n t [c] = some xs[i] := by
  rw [hs, hc, List.getElem?_eq_getElem hi] at h
  exact h
theorem range_open {fuel : Nat} {cs : List Value} {y : DataW H × List MemPlace} (hy : DataW.trod enc Try.prog w 0 (fun _ => true) true fuel 35 cs = some y) : ∃ a : AV, (∃ x y : Int, a = .agg [iv x, iv y]) ∧ itemR w (frameOf w) id 0 a cs := by
  obtain ⟨xs, n, _, _, hl, hx, hf⟩ := DataW.trod_struct Try.underlying35 hy
  rw [size35] at hl
  match cs, hl with
  | [c0, c1], _ =>
    have hx : xs.length = 2 := hx
    have h0 := fld (t := 3) (off := 0) size3 (hf 0 _ rfl) rfl (by omega)
    have h1 := fld (t := 3) (off := 1) size3 (hf 1 _ rfl) rfl (by omega)
    obtain ⟨a, e0, _, _⟩ := DataW.trod_int Try.underlying3 h0
    obtain ⟨b, e1, _, _⟩ := DataW.trod_int Try.underlying3 h1
    injection e0 with e0
    injection e1 with e1
    subst e0 e1
    exact ⟨.agg [iv a, iv b], ⟨_, _, rfl⟩, by simp [itemR, cellsR, relF, leaf, isSc]⟩
theorem int_open {fuel : Nat} {cs : List Value} {y : DataW H × List MemPlace} (hl : cs.length = Try.prog.cellsOf 3) (hy : DataW.trod enc Try.prog w 0 (fun _ => true) true fuel 3 cs = some y) : ∃ a : AV, (∃ x : Int, a = iv x) ∧ itemR w (frameOf w) id 0 a cs := by
  rw [size3] at hl
  match cs, hl with
  | [c0], _ =>
    obtain ⟨a, e0, _, _⟩ := DataW.trod_int Try.underlying3 hy
    injection e0 with e0
    subst e0
    exact ⟨iv a, ⟨_, rfl⟩, by simp [itemR, isSc]⟩
theorem maxLen_le {n : Nat} (h : n ≤ maxLen) : n ≤ 9223372036854775807 := by unfold maxLen at h; omega
theorem rgs_arg {v : Value} {d : DataW H} {p : List MemPlace} (hv : ∃ a len cap, v = .slice a len cap) (h : DataW.Trod enc Try.prog w 0 (fun _ => true) true 22 v d p) : ∃ l : List AV, (Rs l ∧ l.length ≤ 9223372036854775807) ∧ relF w (frameOf w) id 0 (.sl 2 l) v := by
  obtain ⟨a, len, cap, rfl⟩ := hv
  obtain ⟨fuel, h⟩ := h
  obtain ⟨l, A, c, e, hT, hr, hb⟩ := slice_open (β := id) (h := 0) Try.underlying22 (fun a => ∃ x y : Int, a = .agg [iv x, iv y]) (fun n cs y _ _ h => range_open h) h
  injection e with e
  rw [e]
  rw [size35] at hr
  exact ⟨l, ⟨hT, maxLen_le hb⟩, hr⟩
theorem ints_arg {v : Value} {d : DataW H} {p : List MemPlace} (hv : ∃ a len cap, v = .slice a len cap) (h : DataW.Trod enc Try.prog w 0 (fun _ => true) true 39 v d p) : ∃ l : List AV, (Is l ∧ l.length ≤ 9223372036854775807) ∧ relF w (frameOf w) id 0 (.sl 1 l) v := by
  obtain ⟨a, len, cap, rfl⟩ := hv
  obtain ⟨fuel, h⟩ := h
  obtain ⟨l, A, c, e, hT, hr, hb⟩ := slice_open (β := id) (h := 0) Try.underlying39 (fun a => ∃ x : Int, a = iv x) (fun n cs y _ hl h => int_open hl h) h
  injection e with e
  rw [e]
  rw [size3] at hr
  exact ⟨l, ⟨hT, maxLen_le hb⟩, hr⟩
end
/-- Arguments that are written no more. -/
theorem entry_args {P : Program} {w : World} {F β : Nat → Nat} {vs : List AV} {us : List Value} (hl : us.length = vs.length) (h : ∀ (i : Nat) (v : AV) (u : Value), vs[i]? = some v → us[i]? = some u → relF w F β 0 v u) : Entry P w F β (fun _ => none) vs us [] := by
  refine ⟨hl, fun i v u hv hu => ?_, fun b l hl => by simp at hl, fun g q hq => by cases hq⟩
  have := h i v u hv hu
  cases v with
  | cap o e l => simp only [relF] at this
  | _ => exact this
theorem rel_int {w : World} {F β : Nat → Nat} {n : Int} : relF w F β 0 (iv n) (.int .i64 n) := by simp [relF, isSc]
theorem rel_bool {w : World} {F β : Nat → Nat} {n : Bool} : relF w F β 0 (bv n) (.bool n) := by simp [relF, isSc]
end Go.Proofs.Ytkocppnbipjiiaa.U
