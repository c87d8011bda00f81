/- The Go function SetsCases answers true, whatever its arguments; nothing that was there is turned. No conditions. -/
import Derived.Test.YtkocppnbipjiiaaRows
import Derived.Test.YtkocppnbipjiiaaSetFCases
import Derived.WalkKit
import Derived.ProofKit
import Derived.OpenShut
import Derived.ShutString
import Derived.ChangeOld
import Derived.Below
import Derived.SizedLaws
namespace Go.Proofs.Ytkocppnbipjiiaa.setsCases
open Go.ChangeShapes Go.WideShapes Go.ChangeAt Go.RowKit
open Go.ChangeMaps (open_string shut_string)
set_option linter.unusedVariables false
theorem own : ownKnob Try.prog.godebug = none := by kernel_rfl
theorem laidOut : laidOutB Try.prog = true := by kernel_rfl
theorem walk (W : World) (a0 : List Go.Vai.AV) (a1 : Bool) (w0 : U.Rs a0 ∧ a0.length ≤ 9223372036854775807) (v0 : Value) (r0 : Go.Vai.relF W (Go.Vai.frameOf W) id 0 (.sl 2 a0) v0) : Calls Try.prog 3 #[v0, .bool a1] W fun e W' => e = .returned (.bool true) ∧ Below W.heap.size W W' := by
  refine Go.Vai.law_calls (F := Go.Vai.frameOf W) (β := id) (by decide) U.ext_good (vs := [(.sl 2 a0), U.bv a1]) (us := [v0, .bool a1]) (U.law_SetsCases a0 a1 w0) (U.entry_args rfl fun i v u hv hu => ?_)
  match i, hv, hu with
  | 0, rfl, rfl => exact r0
  | 1, rfl, rfl => exact U.rel_bool
  | _ + 2, hv, _ => simp at hv
set_option maxRecDepth 100000 in
theorem lifted (os : Os) (started : os.Started) (H : Type) (enc : TypeId × Value → H) :
    ReturnsInHanded {} Try.checked os 3 .any (Rows.setsCasesSpec.pre6 enc Try.prog Try.f3 Rows.setsCasesRow.domain false) (Rows.setsCasesSpec.post enc Try.prog Try.f3 false true false false) := by
  refine returnsInHanded_of_change_sized (C := Try.checked) own started (by kernel_rfl) Try.func3
    (ChangeSpec.witness6 (enc := enc) (C := Try.checked) false ⟨#[], #[.slice none 0 0, .bool false], []⟩ 8 (by kernel_rfl) (by kernel_rfl) (by kernel_rfl) (by kernel_rfl)) ?_
  intro W base args ds gs before hval0 hW hcnd hsz0 _
  have hval : ∀ (j : Nat) t v, Try.f3.params[j]? = some t → args[j]? = some v → Value.okWide Try.prog W .any base t v := hval0
  have hW' := hW
  obtain ⟨p, q, hA0, hV, rfl, hfz, hnd⟩ := hW
  have hA : DataW.TrodAll enc Try.prog W 0 (fun _ => true) true Try.f3.params.toList args.toList ds p := hA0
  rw [Try.params3] at hA hval
  obtain ⟨v0, vs0, d0, ds0, p0, q0, hargs, rfl, rfl, h0, r0⟩ := trodAll_cons hA
  obtain ⟨v1, vs1, d1, ds1, p1, q1, rfl, rfl, rfl, h1, r1⟩ := trodAll_cons r0
  obtain ⟨rfl, rfl, rfl⟩ := trodAll_nil r1
  obtain rfl : args = #[v0, v1] := by cases args; simp_all
  obtain ⟨rfl, rfl⟩ := trodVars_none hV
  have k0 := h0
  have lt0 : ∀ x ∈ p0, x.block < W.heap.size := by obtain ⟨m, hm⟩ := k0; exact DataW.trod_lt m _ _ _ hm
  obtain ⟨a0, w0, e0⟩ := U.rgs_arg (Go.WideShapes.okWide_slice Try.underlying22 (hval 0 22 v0 rfl rfl)) h0
  obtain ⟨a1, rfl, rfl, rfl⟩ := open_bool Try.underlying4 (hval 1 4 v1 rfl rfl) h1
  clear hA0 hval0 hsz0
  refine (walk W a0 a1 w0 _ e0).mono fun e W' ⟨he, bel⟩ => ?_
  subst he
  exact ⟨_, rfl, _, _, _, [], _, [], hW', trodAll_mk1 (shut_bool Try.underlying4 _), (trodAll_cons_mk (Below.trod laidOut (by kernel_rfl) (of_decide_eq_true (by kernel_rfl)) k0 bel lt0) (trodAll_cons_mk (shut_bool Try.underlying4 _) trodAll_mk0)), rfl, bel.frame _, fun h => by cases h⟩
theorem over : Rows.setsCasesRow.holds Try.pinned (OpenSpec.ofChange Rows.setsCasesSpec) :=
  OpenClaim.holds_of_wide 3 Try.f3 rfl rfl rfl rfl rfl rfl rfl ⟨rfl, rfl, rfl, rfl, rfl⟩ rfl rfl rfl rfl rfl (by kernel_rfl) Try.func3 (by kernel_rfl)
    (of_decide_eq_true (by kernel_rfl)) (by unfold Func.isWrapper; first | (rw [if_pos (by decide +kernel)]; kernel_rfl) | (rw [if_neg (by decide +kernel)]; exact ⟨rfl, rfl⟩))
    (fun os started H enc _ => lifted os started H enc)
theorem proved : Rows.SetsCasesSaid := over
#print axioms proved
end Go.Proofs.Ytkocppnbipjiiaa.setsCases
namespace Go.Proofs.Ytkocppnbipjiiaa
/-- The row, under a short name, for the claim. -/
theorem setsCases_holds : Rows.SetsCasesSaid := setsCases.proved
end Go.Proofs.Ytkocppnbipjiiaa
