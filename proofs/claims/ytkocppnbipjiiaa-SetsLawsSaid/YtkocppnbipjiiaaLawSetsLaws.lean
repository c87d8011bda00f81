/- The Go function SetsLaws answers true, whatever its arguments; nothing that was there is turned. No conditions. -/
import Derived.Test.YtkocppnbipjiiaaRows
import Derived.Test.YtkocppnbipjiiaaSetFLaws
import Derived.WalkKit
import Derived.ProofKit
import Derived.OpenShut
import Derived.ShutString
import Derived.ChangeOld
import Derived.Below
import Derived.SizedLaws
namespace Go.Proofs.Ytkocppnbipjiiaa.setsLaws
open Go.ChangeShapes Go.WideShapes Go.ChangeAt Go.RowKit
open Go.ChangeMaps (open_string shut_string)
set_option linter.unusedVariables false
theorem own : ownKnob Try.prog.godebug = none := by kernel_rfl
theorem laidOut : laidOutB Try.prog = true := by kernel_rfl
theorem walk (W : World) (a0 : List Go.Vai.AV) (a1 : List Go.Vai.AV) (a2 : Int) (a3 : Bool) (w0 : U.Rs a0 ∧ a0.length ≤ 9223372036854775807) (v0 : Value) (r0 : Go.Vai.relF W (Go.Vai.frameOf W) id 0 (.sl 2 a0) v0) (w1 : U.Rs a1 ∧ a1.length ≤ 9223372036854775807) (v1 : Value) (r1 : Go.Vai.relF W (Go.Vai.frameOf W) id 0 (.sl 2 a1) v1) (w2 : (Lit.int .i64 a2).wf = true) : Calls Try.prog 8 #[v0, v1, .int .i64 a2, .bool a3] W fun e W' => e = .returned (.bool true) ∧ Below W.heap.size W W' := by
  refine Go.Vai.law_calls (F := Go.Vai.frameOf W) (β := id) (by decide) U.ext_good (vs := [(.sl 2 a0), (.sl 2 a1), U.iv a2, U.bv a3]) (us := [v0, v1, .int .i64 a2, .bool a3]) (U.law_SetsLaws a0 a1 a2 a3 w0 w1) (U.entry_args rfl fun i v u hv hu => ?_)
  match i, hv, hu with
  | 0, rfl, rfl => exact r0
  | 1, rfl, rfl => exact r1
  | 2, rfl, rfl => exact U.rel_int
  | 3, rfl, rfl => exact U.rel_bool
  | _ + 4, hv, _ => simp at hv
set_option maxRecDepth 100000 in
theorem lifted (os : Os) (started : os.Started) (H : Type) (enc : TypeId × Value → H) :
    ReturnsInHanded {} Try.checked os 8 .any (Rows.setsLawsSpec.pre6 enc Try.prog Try.f8 Rows.setsLawsRow.domain false) (Rows.setsLawsSpec.post enc Try.prog Try.f8 false true false false) := by
  refine returnsInHanded_of_change_sized (C := Try.checked) own started (by kernel_rfl) Try.func8
    (ChangeSpec.witness6 (enc := enc) (C := Try.checked) false ⟨#[], #[.slice none 0 0, .slice none 0 0, .int .i64 0, .bool false], []⟩ 8 (by kernel_rfl) (by kernel_rfl) (by kernel_rfl) (by kernel_rfl)) ?_
  intro W base args ds gs before hval0 hW hcnd hsz0 _
  have hval : ∀ (j : Nat) t v, Try.f8.params[j]? = some t → args[j]? = some v → Value.okWide Try.prog W .any base t v := hval0
  have hW' := hW
  obtain ⟨p, q, hA0, hV, rfl, hfz, hnd⟩ := hW
  have hA : DataW.TrodAll enc Try.prog W 0 (fun _ => true) true Try.f8.params.toList args.toList ds p := hA0
  rw [Try.params8] at hA hval
  obtain ⟨v0, vs0, d0, ds0, p0, q0, hargs, rfl, rfl, h0, r0⟩ := trodAll_cons hA
  obtain ⟨v1, vs1, d1, ds1, p1, q1, rfl, rfl, rfl, h1, r1⟩ := trodAll_cons r0
  obtain ⟨v2, vs2, d2, ds2, p2, q2, rfl, rfl, rfl, h2, r2⟩ := trodAll_cons r1
  obtain ⟨v3, vs3, d3, ds3, p3, q3, rfl, rfl, rfl, h3, r3⟩ := trodAll_cons r2
  obtain ⟨rfl, rfl, rfl⟩ := trodAll_nil r3
  obtain rfl : args = #[v0, v1, v2, v3] := by cases args; simp_all
  obtain ⟨rfl, rfl⟩ := trodVars_none hV
  have k0 := h0
  have lt0 : ∀ x ∈ p0, x.block < W.heap.size := by obtain ⟨m, hm⟩ := k0; exact DataW.trod_lt m _ _ _ hm
  obtain ⟨a0, w0, e0⟩ := U.rgs_arg (Go.WideShapes.okWide_slice Try.underlying22 (hval 0 22 v0 rfl rfl)) h0
  have k1 := h1
  have lt1 : ∀ x ∈ p1, x.block < W.heap.size := by obtain ⟨m, hm⟩ := k1; exact DataW.trod_lt m _ _ _ hm
  obtain ⟨a1, w1, e1⟩ := U.rgs_arg (Go.WideShapes.okWide_slice Try.underlying22 (hval 1 22 v1 rfl rfl)) h1
  obtain ⟨a2, rfl, rfl, rfl, w2⟩ := open_int Try.underlying3 (hval 2 3 v2 rfl rfl) h2
  obtain ⟨a3, rfl, rfl, rfl⟩ := open_bool Try.underlying4 (hval 3 4 v3 rfl rfl) h3
  clear hA0 hval0 hsz0
  refine (walk W a0 a1 a2 a3 w0 _ e0 w1 _ e1 w2).mono fun e W' ⟨he, bel⟩ => ?_
  subst he
  exact ⟨_, rfl, _, _, _, [], _, [], hW', trodAll_mk1 (shut_bool Try.underlying4 _), (trodAll_cons_mk (Below.trod laidOut (by kernel_rfl) (of_decide_eq_true (by kernel_rfl)) k0 bel lt0) (trodAll_cons_mk (Below.trod laidOut (by kernel_rfl) (of_decide_eq_true (by kernel_rfl)) k1 bel lt1) (trodAll_cons_mk (shut_int Try.underlying3 w2) (trodAll_cons_mk (shut_bool Try.underlying4 _) trodAll_mk0)))), rfl, bel.frame _, fun h => by cases h⟩
theorem over : Rows.setsLawsRow.holds Try.pinned (OpenSpec.ofChange Rows.setsLawsSpec) :=
  OpenClaim.holds_of_wide 8 Try.f8 rfl rfl rfl rfl rfl rfl rfl ⟨rfl, rfl, rfl, rfl, rfl⟩ rfl rfl rfl rfl rfl (by kernel_rfl) Try.func8 (by kernel_rfl)
    (of_decide_eq_true (by kernel_rfl)) (by unfold Func.isWrapper; first | (rw [if_pos (by decide +kernel)]; kernel_rfl) | (rw [if_neg (by decide +kernel)]; exact ⟨rfl, rfl⟩))
    (fun os started H enc _ => lifted os started H enc)
theorem proved : Rows.SetsLawsSaid := over
#print axioms proved
end Go.Proofs.Ytkocppnbipjiiaa.setsLaws
namespace Go.Proofs.Ytkocppnbipjiiaa
/-- The row, under a short name, for the claim. -/
theorem setsLaws_holds : Rows.SetsLawsSaid := setsLaws.proved
end Go.Proofs.Ytkocppnbipjiiaa
