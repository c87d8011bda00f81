/- Widths: arguments in memory: bytes. -/
import Derived.Test.YtcjcdammcmjbnaaGreatWdL2
import Derived.Test.YtcjcdammcmjbnaaGreatFeU
import Derived.Test.YtcjcdammcmjbnaaGreatVaiWa
namespace Go.Proofs.YtcjcdammcmjbnaaGreat.U
open Go Go.Vai
set_option maxRecDepth 100000
section
variable {H : Type} {enc : TypeId × Value → H} {w : World}
theorem size5 : Tryz.prog.cellsOf 5 = 1 := by kernel_rfl
theorem byte_open {fuel : Nat} {cs : List Value} {y : DataW H × List MemPlace} (hl : cs.length = Tryz.prog.cellsOf 5) (hy : DataW.trod enc Tryz.prog w 0 (fun _ => true) true fuel 5 cs = some y) : ∃ a : AV, (∃ n : Int, 0 ≤ n ∧ n < 256 ∧ a = .sc (.int .u8 n)) ∧ itemR w (frameOf w) id 0 a cs := by
 rw [size5] at hl
 match cs, hl with
 | [c0], _ =>
  obtain ⟨a, e0, e1, e2⟩ := DataW.trod_int Tryz.underlying5 hy
  injection e0 with e0
  subst e0
  refine ⟨.sc (.int .u8 a), ⟨_, ?_, ?_, rfl⟩, by simp [itemR, isSc]⟩
  all_goals
   simp [Lit.wf, IntKind.min, IntKind.max, IntKind.signed, IntKind.bits] at *
   omega
theorem bytes_arg {v : Value} {d : DataW H} {p : List MemPlace} (hv : ∃ a len cap, v = .slice a len cap) (h : DataW.Trod enc Tryz.prog w 0 (fun _ => true) true 22 v d p) : ∃ l : List AV, (Bs l ∧ l.length ≤ 9223372036854775807) ∧ relF w (frameOf w) id 0 (.sl 1 l) v := by
 obtain ⟨a, len, cap, rfl⟩ := hv
 obtain ⟨fuel, h⟩ := h
 obtain ⟨l, A, c, e, hT, hr, hb⟩ := slice_open (β := id) (h := 0) Tryz.underlying22 (fun a => ∃ n : Int, 0 ≤ n ∧ n < 256 ∧ a = .sc (.int .u8 n)) (fun n cs y _ hl h => byte_open hl h) h
 injection e with e
 rw [e]
 rw [size5] at hr
 exact ⟨l, ⟨hT, by unfold maxLen at hb; omega⟩, hr⟩
end
theorem entry_args {P : Program} {w : World} {F β : Nat → Nat} {vs : List AV} {us : List Value} (hl : us.length = vs.length) (h : ∀ (i : Nat) (v : AV) (u : Value), vs[i]? = some v → us[i]? = some u → relF w F β 0 v u) : Entry P w F β (fun _ => none) vs us [] := by
 refine ⟨hl, fun i v u hv hu => ?_, fun b l hl => by simp at hl, fun g q hq => by cases hq⟩
 have := h i v u hv hu
 cases v with
 | cap o e l => simp only [relF] at this
 | _ => exact this
theorem rel_int {w : World} {F β : Nat → Nat} {n : Int} : relF w F β 0 (iv n) (.int .i64 n) := by simp [relF, isSc]
theorem checks_yes (b : List AV) (o : Int) (h : Bs b ∧ b.length ≤ 9223372036854775807) : A 3 [.sl 1 b, iv o] [] (bv true) [] := by
 obtain ⟨r, rfl, ha⟩ := c_WidthsChecks h
 exact ha
end Go.Proofs.YtcjcdammcmjbnaaGreat.U
