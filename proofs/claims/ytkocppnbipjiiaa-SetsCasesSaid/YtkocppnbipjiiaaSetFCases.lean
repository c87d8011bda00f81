/- The walk of the law SetsCases: it answers true; no conditions but those of its words. -/
import Derived.Test.YtkocppnbipjiiaaSetB1
import Derived.Test.YtkocppnbipjiiaaSetB3
import Derived.Test.YtkocppnbipjiiaaSetB4
import Derived.Test.YtkocppnbipjiiaaSetB5
import Derived.Test.YtkocppnbipjiiaaSetR
namespace Go.Proofs.Ytkocppnbipjiiaa.U
open Go Go.Vai Go.Flo
set_option linter.unusedVariables false
set_option linter.unusedSimpArgs false
set_option maxRecDepth 100000
set_option maxHeartbeats 8000000
attribute [local irreducible] IntKind.wrap Rs Is Cs isF toI InS mergeG joinF edgesL putL cntR
theorem w_SetsCases (x0 : List AV) (x1 : Bool) (Q : AV → HH → Prop) (h : ((∃ x3 : Bool, post_awake x3 ∧ A 10 [] [] (bv (x3)) []) ∧ (∀ x3 : Bool, post_awake x3 → (((!x3) = true → Q (bv false) []) ∧ ((!x3) = false → (((decide ((↑x0.length : Int) > 50)) = true → Q (bv true) []) ∧ ((decide ((↑x0.length : Int) > 50)) = false → ((npL [(.sl 2 (x0)), (iv 1114111)]) = true ∧ ((∃ x5 : List AV, post_New (x0) 1114111 x5 ∧ A 11 [(.sl 2 (x0)), (iv 1114111)] [] (.agg [(.sl 1 (x5))]) []) ∧ (∀ x5 : List AV, post_New (x0) 1114111 x5 → ((npL [(.agg [(.sl 1 (x5))]), (bv (x1))]) = true ∧ ((∃ x7 : List AV, post_Caseless (x5) (x1) x7 ∧ A 12 [(.agg [(.sl 1 (x5))]), (bv (x1))] [] (.agg [(.sl 1 (x7))]) []) ∧ (∀ x7 : List AV, post_Caseless (x5) (x1) x7 → ((npL [(.agg [(.sl 1 (x7))])]) = true ∧ ((∃ x9 : List AV, post_Ranges (x7) x9 ∧ A 14 [(.agg [(.sl 1 (x7))])] [] (.cap true 35 (x9)) []) ∧ (∀ x9 : List AV, post_Ranges (x7) x9 → ((npL [(.sl 2 (x0)), (iv 1114111)]) = true ∧ ((∃ x11 : List AV, post_RNew (x0) 1114111 x11 ∧ A 16 [(.sl 2 (x0)), (iv 1114111)] [] (.sl 2 (x11)) []) ∧ (∀ x11 : List AV, post_RNew (x0) 1114111 x11 → ((npL [(.sl 2 (x11)), (bv (x1))]) = true ∧ ((∃ x13 : List AV, post_RCaseless (x11) (x1) x13 ∧ A 15 [(.sl 2 (x11)), (bv (x1))] [] (.sl 2 (x13)) []) ∧ (∀ x13 : List AV, post_RCaseless (x11) (x1) x13 → ((npL [(.sl 2 (x9)), (.sl 2 (x13))]) = true ∧ ((∃ x15 : Bool, post_RSame (x9) (x13) x15 ∧ A 13 [(.sl 2 (x9)), (.sl 2 (x13))] [] (bv (x15)) []) ∧ (∀ x15 : Bool, post_RSame (x9) (x13) x15 → Q (bv (x15)) []))))))))))))))))))))))))) : ∃ r H', A 3 [(.sl 2 (x0)), (bv (x1))] [] r H' ∧ Q r H' :=
  Ans.wq rfl (.ev 1 (.ask (.ex Bool fun x3 => .done (.res (bv (x3)) [] (post_awake x3)) (.ev 1 (.split (.ev 1 (.stop)) (.ev 1 (.split (.ev 1 (.stop)) (.one true (.ask (.ex (List AV) fun x5 => .done (.res (.agg [(.sl 1 (x5))]) [] (post_New (x0) 1114111 x5)) (.one true (.ask (.ex (List AV) fun x7 => .done (.res (.agg [(.sl 1 (x7))]) [] (post_Caseless (x5) (x1) x7)) (.one true (.ask (.ex (List AV) fun x9 => .done (.res (.cap true 35 (x9)) [] (post_Ranges (x7) x9)) (.one true (.ask (.ex (List AV) fun x11 => .done (.res (.sl 2 (x11)) [] (post_RNew (x0) 1114111 x11)) (.one true (.ask (.ex (List AV) fun x13 => .done (.res (.sl 2 (x13)) [] (post_RCaseless (x11) (x1) x13)) (.one true (.ask (.ex Bool fun x15 => .done (.res (bv (x15)) [] (post_RSame (x9) (x13) x15)) (.ev 1 (.stop))))))))))))))))))))))))))) (by kernel_rfl) h
theorem c_SetsCases (x0 : List AV) (x1 : Bool) (hp : pre_SetsCases (x0) (x1)) : ∃ x2 : Bool, post_SetsCases (x0) (x1) x2 ∧ A 3 [(.sl 2 (x0)), (bv (x1))] [] (bv (x2)) [] := by
  obtain ⟨_, _, ha, x2, hq, rfl, rfl⟩ := w_SetsCases (x0) (x1) (fun r H' => ∃ x2 : Bool, post_SetsCases (x0) (x1) x2 ∧ r = (bv (x2)) ∧ H' = []) (by
    have hp_0 := hp
    unfold pre_SetsCases at hp_0
    try simp (disch := omega) only [wrap_id, wrapu_id, fdiv2, Option.getD_some, Option.getD_none, List.length_cons, List.length_nil, List.length_append, List.length_set, List.length_take, List.length_drop, List.length_replicate, Int.toNat_natCast, beq_iff_eq, beq_eq_false_iff_ne, ne_eq, Bool.not_eq_true', Bool.not_eq_false', Bool.not_not, Bool.not_eq_true, Bool.not_eq_false, decide_eq_true_eq, decide_eq_false_iff_not] at hp_0
    refine ⟨c_awake (by first | trivial), fun x3 p4 => ?_⟩
    have p4_0 := p4
    unfold post_awake at p4_0
    try simp (disch := omega) only [wrap_id, wrapu_id, fdiv2, Option.getD_some, Option.getD_none, List.length_cons, List.length_nil, List.length_append, List.length_set, List.length_take, List.length_drop, List.length_replicate, Int.toNat_natCast, beq_iff_eq, beq_eq_false_iff_ne, ne_eq, Bool.not_eq_true', Bool.not_eq_false', Bool.not_not, Bool.not_eq_true, Bool.not_eq_false, decide_eq_true_eq, decide_eq_false_iff_not] at p4_0
    refine ⟨fun h18 => ?_, fun h18 => ?_⟩
    · try simp (disch := omega) only [wrap_id, wrapu_id, fdiv2, Option.getD_some, Option.getD_none, List.length_cons, List.length_nil, List.length_append, List.length_set, List.length_take, List.length_drop, List.length_replicate, Int.toNat_natCast, beq_iff_eq, beq_eq_false_iff_ne, ne_eq, Bool.not_eq_true', Bool.not_eq_false', Bool.not_not, Bool.not_eq_true, Bool.not_eq_false, decide_eq_true_eq, decide_eq_false_iff_not] at h18
      exact ⟨false, by show post_SetsCases (x0) (x1) false; first | rfl | (exfalso; simp_all; done) | (exact (by assumption : _ ↔ _).2 (law_cases (by assumption) (by assumption) (by assumption) (by assumption) (by assumption))), rfl, rfl⟩
    · try simp (disch := omega) only [wrap_id, wrapu_id, fdiv2, Option.getD_some, Option.getD_none, List.length_cons, List.length_nil, List.length_append, List.length_set, List.length_take, List.length_drop, List.length_replicate, Int.toNat_natCast, beq_iff_eq, beq_eq_false_iff_ne, ne_eq, Bool.not_eq_true', Bool.not_eq_false', Bool.not_not, Bool.not_eq_true, Bool.not_eq_false, decide_eq_true_eq, decide_eq_false_iff_not] at h18
      refine ⟨fun h17 => ?_, fun h17 => ?_⟩
      · replace h17 := dt h17
        try simp (disch := omega) only [wrap_id, wrapu_id, fdiv2, Option.getD_some, Option.getD_none, List.length_cons, List.length_nil, List.length_append, List.length_set, List.length_take, List.length_drop, List.length_replicate, Int.toNat_natCast, beq_iff_eq, beq_eq_false_iff_ne, ne_eq, Bool.not_eq_true', Bool.not_eq_false', Bool.not_not, Bool.not_eq_true, Bool.not_eq_false, decide_eq_true_eq, decide_eq_false_iff_not] at h17
        exact ⟨true, by show post_SetsCases (x0) (x1) true; first | rfl | (exfalso; simp_all; done) | (exact (by assumption : _ ↔ _).2 (law_cases (by assumption) (by assumption) (by assumption) (by assumption) (by assumption))), rfl, rfl⟩
      · replace h17 := df h17
        try simp (disch := omega) only [wrap_id, wrapu_id, fdiv2, Option.getD_some, Option.getD_none, List.length_cons, List.length_nil, List.length_append, List.length_set, List.length_take, List.length_drop, List.length_replicate, Int.toNat_natCast, beq_iff_eq, beq_eq_false_iff_ne, ne_eq, Bool.not_eq_true', Bool.not_eq_false', Bool.not_not, Bool.not_eq_true, Bool.not_eq_false, decide_eq_true_eq, decide_eq_false_iff_not] at h17
        refine ⟨by simp only [npL, np, Bool.and_self, Bool.and_true, Bool.and_eq_true]; first | done | ((repeat' apply And.intro) <;> (first | exact Cs.np (SetP.cs (by assumption)) | exact Rs.np (RSetP.rs (by assumption)) | exact Rs.np (by assumption) | exact Is.np (by assumption) | exact Cs.np (by assumption) | exact Cs.np (ASet.cs (by assumption)) | rfl)), ?_⟩
        refine ⟨c_New (x0) 1114111 (by first | exact preNW (by assumption) _ | exact preNL (by first | assumption | exact Rs.one _ _ | exact Rs.cons (Rs.cons (Rs.one _ _))) (by (try simp only [List.length_cons, List.length_nil]); omega) _), fun x5 p6 => ?_⟩
        have p6_0 := p6
        unfold post_New at p6_0
        try simp (disch := omega) only [wrap_id, wrapu_id, fdiv2, Option.getD_some, Option.getD_none, List.length_cons, List.length_nil, List.length_append, List.length_set, List.length_take, List.length_drop, List.length_replicate, Int.toNat_natCast, beq_iff_eq, beq_eq_false_iff_ne, ne_eq, Bool.not_eq_true', Bool.not_eq_false', Bool.not_not, Bool.not_eq_true, Bool.not_eq_false, decide_eq_true_eq, decide_eq_false_iff_not] at p6_0
        refine ⟨by simp only [npL, np, Bool.and_self, Bool.and_true, Bool.and_eq_true]; first | done | ((repeat' apply And.intro) <;> (first | exact Cs.np (SetP.cs (by assumption)) | exact Rs.np (RSetP.rs (by assumption)) | exact Rs.np (by assumption) | exact Is.np (by assumption) | exact Cs.np (by assumption) | exact Cs.np (ASet.cs (by assumption)) | rfl)), ?_⟩
        refine ⟨c_Caseless (x5) (x1) (by first | exact preC (by assumption) _), fun x7 p8 => ?_⟩
        have p8_0 := p8
        unfold post_Caseless at p8_0
        try simp (disch := omega) only [wrap_id, wrapu_id, fdiv2, Option.getD_some, Option.getD_none, List.length_cons, List.length_nil, List.length_append, List.length_set, List.length_take, List.length_drop, List.length_replicate, Int.toNat_natCast, beq_iff_eq, beq_eq_false_iff_ne, ne_eq, Bool.not_eq_true', Bool.not_eq_false', Bool.not_not, Bool.not_eq_true, Bool.not_eq_false, decide_eq_true_eq, decide_eq_false_iff_not] at p8_0
        refine ⟨by simp only [npL, np, Bool.and_self, Bool.and_true, Bool.and_eq_true]; first | done | ((repeat' apply And.intro) <;> (first | exact Cs.np (SetP.cs (by assumption)) | exact Rs.np (RSetP.rs (by assumption)) | exact Rs.np (by assumption) | exact Is.np (by assumption) | exact Cs.np (by assumption) | exact Cs.np (ASet.cs (by assumption)) | rfl)), ?_⟩
        refine ⟨c_Ranges (x7) (by first | exact preR (by assumption)), fun x9 p10 => ?_⟩
        obtain ⟨p10_0, p10_1⟩ := p10
        try simp (disch := omega) only [wrap_id, wrapu_id, fdiv2, Option.getD_some, Option.getD_none, List.length_cons, List.length_nil, List.length_append, List.length_set, List.length_take, List.length_drop, List.length_replicate, Int.toNat_natCast, beq_iff_eq, beq_eq_false_iff_ne, ne_eq, Bool.not_eq_true', Bool.not_eq_false', Bool.not_not, Bool.not_eq_true, Bool.not_eq_false, decide_eq_true_eq, decide_eq_false_iff_not] at p10_0 p10_1
        refine ⟨by simp only [npL, np, Bool.and_self, Bool.and_true, Bool.and_eq_true]; first | done | ((repeat' apply And.intro) <;> (first | exact Cs.np (SetP.cs (by assumption)) | exact Rs.np (RSetP.rs (by assumption)) | exact Rs.np (by assumption) | exact Is.np (by assumption) | exact Cs.np (by assumption) | exact Cs.np (ASet.cs (by assumption)) | rfl)), ?_⟩
        refine ⟨c_RNew (x0) 1114111 (by first | exact preRNL (by assumption) (by omega) _), fun x11 p12 => ?_⟩
        have p12_0 := p12
        unfold post_RNew at p12_0
        try simp (disch := omega) only [wrap_id, wrapu_id, fdiv2, Option.getD_some, Option.getD_none, List.length_cons, List.length_nil, List.length_append, List.length_set, List.length_take, List.length_drop, List.length_replicate, Int.toNat_natCast, beq_iff_eq, beq_eq_false_iff_ne, ne_eq, Bool.not_eq_true', Bool.not_eq_false', Bool.not_not, Bool.not_eq_true, Bool.not_eq_false, decide_eq_true_eq, decide_eq_false_iff_not] at p12_0
        refine ⟨by simp only [npL, np, Bool.and_self, Bool.and_true, Bool.and_eq_true]; first | done | ((repeat' apply And.intro) <;> (first | exact Cs.np (SetP.cs (by assumption)) | exact Rs.np (RSetP.rs (by assumption)) | exact Rs.np (by assumption) | exact Is.np (by assumption) | exact Cs.np (by assumption) | exact Cs.np (ASet.cs (by assumption)) | rfl)), ?_⟩
        refine ⟨c_RCaseless (x11) (x1) (by first | exact preRC (by assumption) _), fun x13 p14 => ?_⟩
        have p14_0 := p14
        unfold post_RCaseless at p14_0
        try simp (disch := omega) only [wrap_id, wrapu_id, fdiv2, Option.getD_some, Option.getD_none, List.length_cons, List.length_nil, List.length_append, List.length_set, List.length_take, List.length_drop, List.length_replicate, Int.toNat_natCast, beq_iff_eq, beq_eq_false_iff_ne, ne_eq, Bool.not_eq_true', Bool.not_eq_false', Bool.not_not, Bool.not_eq_true, Bool.not_eq_false, decide_eq_true_eq, decide_eq_false_iff_not] at p14_0
        refine ⟨by simp only [npL, np, Bool.and_self, Bool.and_true, Bool.and_eq_true]; first | done | ((repeat' apply And.intro) <;> (first | exact Cs.np (SetP.cs (by assumption)) | exact Rs.np (RSetP.rs (by assumption)) | exact Rs.np (by assumption) | exact Is.np (by assumption) | exact Cs.np (by assumption) | exact Cs.np (ASet.cs (by assumption)) | rfl)), ?_⟩
        refine ⟨c_RSame (x9) (x13) (by first | exact preRS (by assumption) (by assumption) (by assumption) (by assumption) | exact preRR (by assumption) (by assumption) (by assumption) (by assumption)), fun x15 p16 => ?_⟩
        have p16_0 := p16
        unfold post_RSame at p16_0
        try simp (disch := omega) only [wrap_id, wrapu_id, fdiv2, Option.getD_some, Option.getD_none, List.length_cons, List.length_nil, List.length_append, List.length_set, List.length_take, List.length_drop, List.length_replicate, Int.toNat_natCast, beq_iff_eq, beq_eq_false_iff_ne, ne_eq, Bool.not_eq_true', Bool.not_eq_false', Bool.not_not, Bool.not_eq_true, Bool.not_eq_false, decide_eq_true_eq, decide_eq_false_iff_not] at p16_0
        exact ⟨(x15), by show post_SetsCases (x0) (x1) (x15); first | rfl | (exfalso; simp_all; done) | (exact (by assumption : _ ↔ _).2 (law_cases (by assumption) (by assumption) (by assumption) (by assumption) (by assumption))), rfl, rfl⟩)
  exact ⟨x2, hq, ha⟩
theorem law_SetsCases (a0 : List AV) (a1 : Bool) (w0 : Rs a0 ∧ a0.length ≤ 9223372036854775807) : A 3 [.sl 2 a0, bv a1] [] (bv true) [] := by
  obtain ⟨r, h, k⟩ := c_SetsCases a0 a1 w0.1
  have h : r = true := h
  subst h
  exact k
end Go.Proofs.Ytkocppnbipjiiaa.U
