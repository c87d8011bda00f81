/- The Go function WidthsChecks answers true, whatever its arguments; nothing that was there is turned. No conditions. -/
import Derived.Test.YtcjcdammcmjbnaaGreatRows
import Derived.Test.YtcjcdammcmjbnaaGreatWidR
import Derived.WalkKit
import Derived.ProofKit
import Derived.OpenShut
import Derived.ShutString
import Derived.ChangeOld
import Derived.Below
import Derived.SizedLaws
namespace Go.Proofs.YtcjcdammcmjbnaaGreat.widthsChecks
open Go.ChangeShapes Go.WideShapes Go.ChangeAt Go.RowKit
open Go.ChangeMaps (open_string shut_string)
set_option linter.unusedVariables false
theorem own : ownKnob Tryz.prog.godebug = none := by kernel_rfl
theorem laidOut : laidOutB Tryz.prog = true := by kernel_rfl
theorem walk (W : World) (a0 : List Go.Vai.AV) (a1 : Int) (w0 : U.Bs a0 ∧ a0.length ≤ 9223372036854775807) (v0 : Value) (r0 : Go.Vai.relF W (Go.Vai.frameOf W) id 0 (.sl 1 a0) v0) (w1 : (Lit.int .i64 a1).wf = true) : Calls Tryz.prog 3 #[v0, .int .i64 a1] W fun e W' => e = .returned (.bool true) ∧ Below W.heap.size W W' := by
 refine Go.Vai.law_calls (F := Go.Vai.frameOf W) (β := id) (by decide) (fun g c h => by cases h) (vs := [(.sl 1 a0), U.iv a1]) (us := [v0, .int .i64 a1]) (U.checks_yes a0 a1 w0) (U.entry_args rfl fun i v u hv hu => ?_)
 match i, hv, hu with
 | 0, rfl, rfl => exact r0
 | 1, rfl, rfl => exact U.rel_int
 | _ + 2, hv, _ => simp at hv
set_option maxRecDepth 100000 in
theorem lifted (os : Os) (started : os.Started) (H : Type) (enc : TypeId × Value → H) :
  ReturnsInHanded {} Tryz.checked os 3 .any (Rows.widthsChecksSpec.pre6 enc Tryz.prog Tryz.f3 Rows.widthsChecksRow.domain false) (Rows.widthsChecksSpec.post enc Tryz.prog Tryz.f3 false true false false) := by
 refine returnsInHanded_of_change_sized (C := Tryz.checked) own started (by kernel_rfl) Tryz.func3
  (ChangeSpec.witness6 (enc := enc) (C := Tryz.checked) false ⟨#[], #[.slice none 0 0, .int .i64 0], []⟩ 8 (by kernel_rfl) (by kernel_rfl) (by kernel_rfl) (by kernel_rfl)) ?_
 intro W base args ds gs before hval0 hW hcnd hsz0 _
 have hval : ∀ (j : Nat) t v, Tryz.f3.params[j]? = some t → args[j]? = some v → Value.okWide Tryz.prog W .any base t v := hval0
 have hW' := hW
 obtain ⟨p, q, hA0, hV, rfl, hfz, hnd⟩ := hW
 have hA : DataW.TrodAll enc Tryz.prog W 0 (fun _ => true) true Tryz.f3.params.toList args.toList ds p := hA0
 rw [Tryz.params3] at hA hval
 obtain ⟨v0, vs0, d0, ds0, p0, q0, hargs, rfl, rfl, h0, r0⟩ := trodAll_cons hA
 obtain ⟨v1, vs1, d1, ds1, p1, q1, rfl, rfl, rfl, h1, r1⟩ := trodAll_cons r0
 obtain ⟨rfl, rfl, rfl⟩ := trodAll_nil r1
 obtain rfl : args = #[v0, v1] := by cases args; simp_all
 obtain ⟨rfl, rfl⟩ := trodVars_none hV
 have k0 := h0
 have lt0 : ∀ x ∈ p0, x.block < W.heap.size := by obtain ⟨m, hm⟩ := k0; exact DataW.trod_lt m _ _ _ hm
 obtain ⟨a0, w0, e0⟩ := U.bytes_arg (Go.WideShapes.okWide_slice Tryz.underlying22 (hval 0 22 v0 rfl rfl)) h0
 obtain ⟨a1, rfl, rfl, rfl, w1⟩ := open_int Tryz.underlying3 (hval 1 3 v1 rfl rfl) h1
 clear hA0 hval0 hsz0
 refine (walk W a0 a1 w0 _ e0 w1).mono fun e W' ⟨he, bel⟩ => ?_
 subst he
 exact ⟨_, rfl, _, _, _, [], _, [], hW', trodAll_mk1 (shut_bool Tryz.underlying4 _), (trodAll_cons_mk (Below.trod laidOut (by kernel_rfl) (of_decide_eq_true (by kernel_rfl)) k0 bel lt0) (trodAll_cons_mk (shut_int Tryz.underlying3 w1) trodAll_mk0)), rfl, bel.frame _, fun h => by cases h⟩
theorem over : Rows.widthsChecksRow.holds Tryz.pinned (OpenSpec.ofChange Rows.widthsChecksSpec) :=
 OpenClaim.holds_of_wide 3 Tryz.f3 rfl rfl rfl rfl rfl rfl rfl ⟨rfl, rfl, rfl, rfl, rfl⟩ rfl rfl rfl rfl rfl (by kernel_rfl) Tryz.func3 (by kernel_rfl)
  (of_decide_eq_true (by kernel_rfl)) (by unfold Func.isWrapper; first | (rw [if_pos (by decide +kernel)]; kernel_rfl) | (rw [if_neg (by decide +kernel)]; exact ⟨rfl, rfl⟩))
  (fun os started H enc _ => lifted os started H enc)
theorem proved : Rows.WidthsChecksSaid := over
#print axioms proved
end Go.Proofs.YtcjcdammcmjbnaaGreat.widthsChecks
namespace Go.Proofs.YtcjcdammcmjbnaaGreat
theorem widthsChecks_holds : Rows.WidthsChecksSaid := widthsChecks.proved
end Go.Proofs.YtcjcdammcmjbnaaGreat
