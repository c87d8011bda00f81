/- The Go function WidthsSums answers true, whatever its arguments; nothing that was there is turned. No conditions. -/
import Derived.Test.YtcjcdammcmjbnaaRows
import Derived.Test.YtcjcdammcmjbnaaWidZU
import Derived.WalkKit
import Derived.ProofKit
import Derived.OpenShut
import Derived.ShutString
import Derived.ChangeOld
import Derived.Below
import Derived.SizedLaws
namespace Go.Proofs.Ytcjcdammcmjbnaa.widthsSums
open Go.ChangeShapes Go.WideShapes Go.ChangeAt Go.RowKit
open Go.ChangeMaps (open_string shut_string)
set_option linter.unusedVariables false
theorem own : ownKnob Try.prog.godebug = none := by kernel_rfl
theorem laidOut : laidOutB Try.prog = true := by kernel_rfl
theorem walk (W : World) (a0 : List Go.Vai.AV) (a1 : List Go.Vai.AV) (a2 : Int) (w0 : U.Bs a0 ∧ a0.length ≤ 9223372036854775807) (v0 : Value) (r0 : Go.Vai.relF W (Go.Vai.frameOf W) id 0 (.sl 1 a0) v0) (w1 : U.Bs a1 ∧ a1.length ≤ 9223372036854775807) (v1 : Value) (r1 : Go.Vai.relF W (Go.Vai.frameOf W) id 0 (.sl 1 a1) v1) (w2 : (Lit.int .i64 a2).wf = true) : Calls Try.prog 4 #[v0, v1, .int .i64 a2] W fun e W' => e = .returned (.bool true) ∧ Below W.heap.size W W' := by
 have b2 : -9223372036854775808 ≤ a2 ∧ a2 ≤ 9223372036854775807 := by simp [Lit.wf, IntKind.min, IntKind.max, IntKind.signed, IntKind.bits] at w2; omega
 refine Go.Vai.law_calls (F := Go.Vai.frameOf W) (β := id) (by decide) (fun g c h => by cases h) (vs := [(.sl 1 a0), (.sl 1 a1), U.iv a2]) (us := [v0, v1, .int .i64 a2]) (U.sums_yes a0 a1 a2 w0 w1 b2.1 b2.2) (U.entry_args rfl fun i v u hv hu => ?_)
 match i, hv, hu with
 | 0, rfl, rfl => exact r0
 | 1, rfl, rfl => exact r1
 | 2, rfl, rfl => exact U.rel_int
 | _ + 3, hv, _ => simp at hv
set_option maxRecDepth 100000 in
theorem lifted (os : Os) (started : os.Started) (H : Type) (enc : TypeId × Value → H) :
  ReturnsInHanded {} Try.checked os 4 .any (Rows.widthsSumsSpec.pre6 enc Try.prog Try.f4 Rows.widthsSumsRow.domain false) (Rows.widthsSumsSpec.post enc Try.prog Try.f4 false true false false) := by
 refine returnsInHanded_of_change_sized (C := Try.checked) own started (by kernel_rfl) Try.func4
  (ChangeSpec.witness6 (enc := enc) (C := Try.checked) false ⟨#[], #[.slice none 0 0, .slice none 0 0, .int .i64 0], []⟩ 8 (by kernel_rfl) (by kernel_rfl) (by kernel_rfl) (by kernel_rfl)) ?_
 intro W base args ds gs before hval0 hW hcnd hsz0 _
 have hval : ∀ (j : Nat) t v, Try.f4.params[j]? = some t → args[j]? = some v → Value.okWide Try.prog W .any base t v := hval0
 have hW' := hW
 obtain ⟨p, q, hA0, hV, rfl, hfz, hnd⟩ := hW
 have hA : DataW.TrodAll enc Try.prog W 0 (fun _ => true) true Try.f4.params.toList args.toList ds p := hA0
 rw [Try.params4] at hA hval
 obtain ⟨v0, vs0, d0, ds0, p0, q0, hargs, rfl, rfl, h0, r0⟩ := trodAll_cons hA
 obtain ⟨v1, vs1, d1, ds1, p1, q1, rfl, rfl, rfl, h1, r1⟩ := trodAll_cons r0
 obtain ⟨v2, vs2, d2, ds2, p2, q2, rfl, rfl, rfl, h2, r2⟩ := trodAll_cons r1
 obtain ⟨rfl, rfl, rfl⟩ := trodAll_nil r2
 obtain rfl : args = #[v0, v1, v2] := by cases args; simp_all
 obtain ⟨rfl, rfl⟩ := trodVars_none hV
 have k0 := h0
 have lt0 : ∀ x ∈ p0, x.block < W.heap.size := by obtain ⟨m, hm⟩ := k0; exact DataW.trod_lt m _ _ _ hm
 obtain ⟨a0, w0, e0⟩ := U.bytes_arg (Go.WideShapes.okWide_slice Try.underlying22 (hval 0 22 v0 rfl rfl)) h0
 have k1 := h1
 have lt1 : ∀ x ∈ p1, x.block < W.heap.size := by obtain ⟨m, hm⟩ := k1; exact DataW.trod_lt m _ _ _ hm
 obtain ⟨a1, w1, e1⟩ := U.bytes_arg (Go.WideShapes.okWide_slice Try.underlying22 (hval 1 22 v1 rfl rfl)) h1
 obtain ⟨a2, rfl, rfl, rfl, w2⟩ := open_int Try.underlying3 (hval 2 3 v2 rfl rfl) h2
 clear hA0 hval0 hsz0
 refine (walk W a0 a1 a2 w0 _ e0 w1 _ e1 w2).mono fun e W' ⟨he, bel⟩ => ?_
 subst he
 exact ⟨_, rfl, _, _, _, [], _, [], hW', trodAll_mk1 (shut_bool Try.underlying4 _), (trodAll_cons_mk (Below.trod laidOut (by kernel_rfl) (of_decide_eq_true (by kernel_rfl)) k0 bel lt0) (trodAll_cons_mk (Below.trod laidOut (by kernel_rfl) (of_decide_eq_true (by kernel_rfl)) k1 bel lt1) (trodAll_cons_mk (shut_int Try.underlying3 w2) trodAll_mk0))), rfl, bel.frame _, fun h => by cases h⟩
theorem over : Rows.widthsSumsRow.holds Try.pinned (OpenSpec.ofChange Rows.widthsSumsSpec) :=
 OpenClaim.holds_of_wide 4 Try.f4 rfl rfl rfl rfl rfl rfl rfl ⟨rfl, rfl, rfl, rfl, rfl⟩ rfl rfl rfl rfl rfl (by kernel_rfl) Try.func4 (by kernel_rfl)
  (of_decide_eq_true (by kernel_rfl)) (by unfold Func.isWrapper; first | (rw [if_pos (by decide +kernel)]; kernel_rfl) | (rw [if_neg (by decide +kernel)]; exact ⟨rfl, rfl⟩))
  (fun os started H enc _ => lifted os started H enc)
theorem proved : Rows.WidthsSumsSaid := over
#print axioms proved
end Go.Proofs.Ytcjcdammcmjbnaa.widthsSums
namespace Go.Proofs.Ytcjcdammcmjbnaa
theorem widthsSums_holds : Rows.WidthsSumsSaid := widthsSums.proved
end Go.Proofs.Ytcjcdammcmjbnaa
