/- Sets: words for the laws. -/
import Derived.Test.YtkocppnbipjiiaaSetS
import Derived.Test.YtkocppnbipjiiaaCan5
namespace Go.Proofs.Ytkocppnbipjiiaa.U
open Go Go.Vai Go.Flo
set_option linter.unusedVariables false
/-! ### what is asked -/
section
variable {s t : List AV} {P Q : Int → Prop}
theorem preC (h : SetP s P) (u : Bool) : pre_Caseless s u := ⟨h.a, h.len⟩
theorem preR (h : SetP s P) : pre_Ranges s := ⟨h.cs, by have := h.len; omega⟩
theorem preH (h : SetP s P) (c : Int) : pre_Has s c := ⟨h.cs, by have := h.len; omega, h.can⟩
theorem preK (h : SetP s P) : pre_Count s := ⟨h.cs, h.ok, by have := h.len; omega⟩
theorem preU (h : SetP s P) (k : SetP t Q) : pre_Union s t := ⟨h.a, k.a, h.len, k.len⟩
theorem preM (h : SetP s P) (k : SetP t Q) : pre_Meet s t := ⟨h.a, k.a⟩
theorem preN (h : SetP s P) (m : Int) : pre_Not s m := h.a
theorem preS (h : SetP s P) (k : SetP t Q) : pre_Same s t := ⟨h.cs, k.cs, by have := h.len; omega⟩
theorem preRC (h : RSetP s P) (u : Bool) : pre_RCaseless s u := ⟨h.rs, by have := h.len; omega⟩
theorem preRK (h : RSetP s P) : pre_RCount s := ⟨h.rs, h.ok, by have := h.len; omega⟩
theorem preI (h : RSetP s P) (c : Int) : pre_In s c := ⟨h.rs, by have := h.len; omega⟩
theorem preNW (h : RSetP s P) (m : Int) : pre_New s m := ⟨h.rs, by have := h.len; omega⟩
theorem preRS {x : List AV} (h : Rs x) (e : RS x = CS s) (hs : SetP s P) (k : RSetP t Q) : pre_RSame x t := ⟨h, k.rs, by
  have h1 := hs.len
  have h2 := congrArg List.length e
  rw [RS_len, CS_len] at h2
  omega⟩
theorem preRR {x y : List AV} (h : Rs x) (e : RS x = CS s) (hs : SetP s P) (k : Rs y) : pre_RSame x y := ⟨h, k, by
  have h1 := hs.len
  have h2 := congrArg List.length e
  rw [RS_len, CS_len] at h2
  omega⟩
end
theorem Rs.cons {a b : Int} {l : List AV} (h : Rs l) : Rs (.agg [iv a, iv b] :: l) := fun v hv => by
  rcases List.mem_cons.1 hv with rfl | hv
  · exact ⟨a, b, rfl⟩
  · exact h v hv
theorem preNL {l : List AV} (h : Rs l) (k : l.length ≤ 100000000000) (m : Int) : pre_New l m := ⟨h, k⟩
theorem preRNL {l : List AV} (h : Rs l) (k : l.length ≤ 40000000000) (m : Int) : pre_RNew l m := ⟨h, k⟩
theorem preJ {a b : List AV} (h : Rs a) (k : Rs b) (h1 : a.length ≤ 40000000000) (h2 : b.length ≤ 40000000000) (kd m : Int) : pre_Join kd a b m := ⟨h, k, h1, h2⟩
/-! ### awake -/
abbrev pre_awake : Prop := True
abbrev post_awake (r : Bool) : Prop := r = true
theorem awk1 {x : List AV} (h : SetP x (fun c => InS (RS [.agg [iv 5, iv 7], .agg [iv 1, iv 3], .agg [iv 4, iv 4]]) c ∧ inB 6 c)) : CS x = [(1, 6)] := by
  refine Vai.Can.eq h.can (b := -1) ⟨by decide, by decide, trivial⟩ fun c => ?_
  rw [h.has, InS_one]
  have e : RS [.agg [iv 5, iv 7], .agg [iv 1, iv 3], .agg [iv 4, iv 4]] = [(5, 7), (1, 3), (4, 4)] := rfl
  rw [e, InS_cons, InS_cons, InS_one]
  unfold inB
  simp only
  omega
theorem awk2 {x y : List AV} (h : SetP x (fun c => InS (RS [.agg [iv 107, iv 107]]) c ∧ inB 255 c)) (k : SetP y (casP (InS (CS x)) true)) : CS y = [(75, 75), (107, 107), (8490, 8490)] := by
  refine Vai.Can.eq k.can (b := -1) ⟨by decide, by decide, by decide, by decide, by decide, by decide, trivial⟩ fun c => ?_
  have hx : ∀ c, InS (CS x) c ↔ c = 107 := fun c => by
    rw [h.has, show RS [.agg [iv 107, iv 107]] = [(107, 107)] from rfl, InS_one]
    unfold inB
    simp only
    omega
  rw [k.has, InS_cons, InS_cons, InS_one]
  unfold casP
  constructor
  · rintro (g | ⟨e, g1, g2⟩)
    · rw [hx] at g
      exact .inr (.inl (by simp only; omega))
    · rw [hx] at g1
      subst g1
      have : O.othL 107 true = [75, 8490] := rfl
      rw [this] at g2
      simp at g2
      rcases g2 with rfl | rfl
      · exact .inl (by simp)
      · exact .inr (.inr (by simp))
  · intro g
    simp only at g
    by_cases h1 : c = 107
    · exact .inl ((hx c).2 h1)
    · refine .inr ⟨107, (hx 107).2 rfl, ?_⟩
      have : O.othL 107 true = [75, 8490] := rfl
      rw [this]
      simp
      omega
theorem awk_false {x1 x3 x5 x7 : List AV} (p2 : SetP x1 (fun c => InS (RS [.agg [iv 5, iv 7], .agg [iv 1, iv 3], .agg [iv 4, iv 4]]) c ∧ inB 6 c)) (p4 : RS x3 = CS x1) (p6 : SetP x5 (fun c => InS (RS [.agg [iv 107, iv 107]]) c ∧ inB 255 c)) (p8 : SetP x7 (casP (InS (CS x5)) true)) :
    x3.length = 1 ∧ (RS x3)[0]? = some (1, 6) ∧ InS (CS x1) 6 ∧ ¬ InS (CS x1) 7 ∧ cntR (CS x7) = 3 ∧ InS (CS x7) 8490 := by
  have a1 := awk1 p2
  have a2 := awk2 p6 p8
  rw [← RS_len, p4, a1, a2]
  refine ⟨rfl, rfl, ?_, ?_, rfl, ?_⟩
  · exact InS_one.2 (by decide)
  · exact fun h => absurd (InS_one.1 h) (by decide)
  · exact InS_iff.2 ⟨(8490, 8490), by simp, by decide, by decide⟩
/-! ### the laws -/
abbrev pre_SetsCases (l : List AV) (u : Bool) : Prop := Rs l
abbrev post_SetsCases (l : List AV) (u : Bool) (r : Bool) : Prop := r = true
theorem inB_top (c : Int) : inB 1114111 c ↔ 0 ≤ c ∧ c ≤ 1114111 := by unfold inB; omega
theorem casP_in {S : Int → Prop} {u : Bool} {d : Int} (hS : ∀ c, S c → 0 ≤ c ∧ c ≤ 1114111) (h : casP S u d) : 0 ≤ d ∧ d ≤ 1114111 := by
  rcases h with h | ⟨e, _, h⟩
  · exact hS d h
  · exact oth_vals e u d h
theorem casP_congr {S T : Int → Prop} {u : Bool} (h : ∀ c, S c ↔ T c) (d : Int) : casP S u d ↔ casP T u d := by
  have : S = T := funext fun c => propext (h c)
  rw [this]
theorem law_cases {l s c x w v : List AV} {u : Bool} (h1 : SetP s (fun d => InS (RS l) d ∧ inB 1114111 d)) (h2 : SetP c (casP (InS (CS s)) u)) (h3 : RS x = CS c) (h4 : RSetP w (fun d => inB 1114111 d ∧ InS (RS l) d)) (h5 : RSetP v (fun d => inB 1114111 d ∧ casP (InS (RS w)) u d)) : RS x = RS v := by
  rw [h3]
  have hs : ∀ d, InS (CS s) d ↔ InS (RS w) d := fun d => by rw [h1.has, h4.has, and_comm]
  refine h2.uniqR h5 fun d => ?_
  rw [casP_congr hs d]
  refine ⟨fun g => ⟨?_, g⟩, fun g => g.2⟩
  rw [inB_top]
  exact casP_in (fun c hc => h4.ok.inB hc) g
abbrev pre_SetsMakes (l : List AV) (most : Int) (asks : List AV) : Prop := Rs l ∧ Is asks ∧ asks.length ≤ 9223372036854775807
abbrev post_SetsMakes (l : List AV) (most : Int) (asks : List AV) (r : Bool) : Prop := r = true
abbrev inv_SetsMakes_0 (x18 x19 x20 : List AV) (x21o x21 : Int) : Prop := Is x18 ∧ x18.length ≤ 9223372036854775807 ∧ 0 ≤ x21 ∧ x21 ≤ x18.length ∧ ASet x19 ∧ Rs x20 ∧ x20.length ≤ 1114112 ∧ (∀ c, InS (CS x19) c ↔ InS (RS x20) c)
abbrev mu_SetsMakes_0 (x18 x19 x20 : List AV) (x21 : Int) : Nat := (x18.length - x21).toNat
def Never : Prop := False
theorem Never.elim {p : Prop} (h : Never) : p := False.elim h
abbrev out_SetsMakes_0_0 (x18 x19 x20 : List AV) (x21o : Int) : Prop := Never
abbrev out_SetsMakes_0_1 (x18 x19 x20 : List AV) (x21o y3 : Int) : Prop := True
theorem makes1 {l s x w : List AV} {most : Int} (h1 : SetP s (fun d => InS (RS l) d ∧ inB most d)) (h3 : RS x = CS s) (h4 : RSetP w (fun d => inB most d ∧ InS (RS l) d)) : RS x = RS w := by
  rw [h3]
  exact h1.uniqR h4 fun d => and_comm
theorem makes2 {l s w : List AV} {most : Int} (h1 : SetP s (fun d => InS (RS l) d ∧ inB most d)) (h4 : RSetP w (fun d => inB most d ∧ InS (RS l) d)) : CS s = RS w := h1.uniqR h4 fun d => and_comm
theorem makes3 {l s w t : List AV} {most : Int} (h1 : SetP s (fun d => InS (RS l) d ∧ inB most d)) (h4 : RSetP w (fun d => inB most d ∧ InS (RS l) d)) (h5 : SetP t (fun d => InS (RS w) d ∧ inB 1114111 d)) : CS s = CS t := by
  refine congrArg CS (h1.uniq h5 fun d => ?_)
  rw [h4.has]
  unfold inB
  constructor
  · rintro ⟨g1, g2⟩
    exact ⟨⟨g2, g1⟩, by omega⟩
  · rintro ⟨⟨g1, g2⟩, _⟩
    exact ⟨g2, g1⟩
theorem bool_same {a b : Bool} {p q : Prop} (h : a = true ↔ p) (k : b = true ↔ q) (e : p ↔ q) : a = b := by
  rw [Bool.eq_iff_iff, h, k, e]
abbrev pre_SetsJoins (a b : List AV) (most : Int) : Prop := Rs a ∧ Rs b
abbrev post_SetsJoins (a b : List AV) (most : Int) (r : Bool) : Prop := r = true
theorem join_u {a b s t u x w : List AV} (h1 : SetP s (fun d => InS (RS a) d ∧ inB 1114111 d)) (h2 : SetP t (fun d => InS (RS b) d ∧ inB 1114111 d)) (h3 : SetP u (fun c => InS (CS s) c ∨ InS (CS t) c)) (h4 : RS x = CS u) (h5 : RSetP w (fun c => inB 1114111 c ∧ jf 0 (RS a) (RS b) c = true)) : RS x = RS w := by
  rw [h4]
  refine h3.uniqR h5 fun c => ?_
  rw [h1.has, h2.has, jf_union]
  constructor
  · rintro (g | g)
    · exact ⟨g.2, .inl g.1⟩
    · exact ⟨g.2, .inr g.1⟩
  · rintro ⟨g, k | k⟩
    · exact .inl ⟨k, g⟩
    · exact .inr ⟨k, g⟩
theorem join_m {a b s t u x w : List AV} (h1 : SetP s (fun d => InS (RS a) d ∧ inB 1114111 d)) (h2 : SetP t (fun d => InS (RS b) d ∧ inB 1114111 d)) (h3 : SetP u (fun c => InS (CS s) c ∧ InS (CS t) c)) (h4 : RS x = CS u) (h5 : RSetP w (fun c => inB 1114111 c ∧ jf 1 (RS a) (RS b) c = true)) : RS x = RS w := by
  rw [h4]
  refine h3.uniqR h5 fun c => ?_
  rw [h1.has, h2.has, jf_meet]
  constructor
  · rintro ⟨g, k⟩
    exact ⟨g.2, g.1, k.1⟩
  · rintro ⟨g, k, m⟩
    exact ⟨⟨k, g⟩, m, g⟩
theorem join_n {a b s u x w : List AV} {most : Int} (h1 : SetP s (fun d => InS (RS a) d ∧ inB 1114111 d)) (h3 : SetP u (fun c => inB most c ∧ ¬ InS (CS s) c)) (h4 : RS x = CS u) (h5 : RSetP w (fun c => inB most c ∧ jf 2 (RS a) (RS b) c = true)) : RS x = RS w := by
  rw [h4]
  refine h3.uniqR h5 fun c => and_congr_right fun g => ?_
  rw [h1.has, jf_not]
  have : inB 1114111 c := by unfold inB at *; omega
  exact ⟨fun k m => k ⟨m, this⟩, fun k m => k m.1⟩
theorem same_same {s t x y : List AV} (h : RS x = CS s) (k : RS y = CS t) : CS s = CS t ↔ RS x = RS y := by rw [h, k]
abbrev pre_SetsHas (l : List AV) (most c : Int) : Prop := Rs l
abbrev post_SetsHas (l : List AV) (most c : Int) (r : Bool) : Prop := r = true
abbrev inv_SetsHas_0 (x10 x11 : Int) (x12 x13 : List AV) (x14o : Bool) (x15o : Int) (x14 : Bool) (x15 : Int) : Prop := Rs x13 ∧ x13.length ≤ 1114112 ∧ 0 ≤ x15 ∧ x15 ≤ x13.length ∧ (x14 = true ↔ InS ((RS x13).take x15.toNat) x11)
abbrev mu_SetsHas_0 (x10 x11 : Int) (x12 x13 : List AV) (x14 : Bool) (x15 : Int) : Nat := (x13.length - x15).toNat
abbrev out_SetsHas_0_0 (x10 x11 : Int) (x12 x13 : List AV) (x14o : Bool) (x15o : Int) (y4 : Bool) (y5 : Int) : Prop := y4 = true ↔ InS (RS x13) x11
theorem has_yes {l : List Rg} {i : Nat} {c a b : Int} (hi : l[i]? = some (a, b)) (h : InS (l.take i) c ∨ (a ≤ c ∧ c ≤ b)) : true = true ↔ InS (l.take (i + 1)) c := ⟨fun _ => (InS_take hi).2 h, fun _ => rfl⟩
theorem has_no {l : List Rg} {i : Nat} {c a b : Int} (hi : l[i]? = some (a, b)) (h : ¬ InS (l.take i) c) (k : ¬ (a ≤ c ∧ c ≤ b)) : false = true ↔ InS (l.take (i + 1)) c := iff_no (not_step h hi k)
theorem has_zero {l : List Rg} {c : Int} : false = true ↔ InS (l.take 0) c := iff_no not_zero
theorem iff_full {l : List Rg} {x c : Int} {p : Prop} (h : p ↔ InS (l.take x.toNat) c) (k : (l.length : Int) ≤ x) : p ↔ InS l c := by rwa [full k] at h
/-- A set of one number at most. -/
theorem count_one {m : List AV} {c : Int} {p : Prop} (h : SetP m (fun d => d = c ∧ p)) : (cntR (CS m) = 1 ↔ p) := by
  by_cases hp : p
  · have e : CS m = [(c, c)] := by
      refine Vai.Can.eq h.can (b := c - 1) ⟨by simp; omega, Int.le_refl _, trivial⟩ fun d => ?_
      rw [h.has, InS_one]
      simp only [hp, and_true]
      omega
    rw [e]
    simp [cntR, hp]
  · have e : CS m = [] := by
      refine Vai.Can.eq h.can (b := 0) trivial fun d => ?_
      rw [h.has, InS_nil]
      simp [hp]
    rw [e]
    simp [cntR, hp]
theorem has_count {l s t m : List AV} {most c : Int} (h1 : SetP s (fun d => InS (RS l) d ∧ inB most d)) (h2 : SetP t (fun d => InS (RS [.agg [iv c, iv c]]) d ∧ inB most d)) (h3 : SetP m (fun d => InS (CS s) d ∧ InS (CS t) d)) : (cntR (CS m) = 1 ↔ InS (CS s) c) := by
  refine count_one (c := c) (h3.to fun d => ?_)
  rw [h2.has, show RS [.agg [iv c, iv c]] = [(c, c)] from rfl, InS_one]
  constructor
  · rintro ⟨g, k, _⟩
    have : d = c := Int.le_antisymm k.2 k.1
    subst this
    exact ⟨rfl, g⟩
  · rintro ⟨rfl, g⟩
    exact ⟨g, ⟨Int.le_refl _, Int.le_refl _⟩, ((h1.has _).1 g).2⟩
abbrev pre_SetsLaws (a b : List AV) (most : Int) (u : Bool) : Prop := Rs a ∧ Rs b
abbrev post_SetsLaws (a b : List AV) (most : Int) (u : Bool) (r : Bool) : Prop := r = true
/-- Other cases of other cases. -/
theorem oth_two {e d x : Int} {u : Bool} (h : d ∈ O.othL e u) (k : x ∈ O.othL d u) : x = e ∨ x ∈ O.othL e u := by
  have key : ∀ u : Bool, ∀ c : Int, ((0 ≤ c ∧ c < 1104) ∨ c = 8490) → (O.othL c u).all (fun d => (O.othL d u).all fun x => x == c || (O.othL c u).contains x) = true := fun u c hc => by
    rcases hc with ⟨h0, h1⟩ | rfl
    · cases u with
      | false => exact O.low_all 1104 (fun c => (O.othL c false).all (fun d => (O.othL d false).all fun x => x == c || (O.othL c false).contains x)) (by decide +kernel) c h0 (by omega)
      | true => exact O.low_all 1104 (fun c => (O.othL c true).all (fun d => (O.othL d true).all fun x => x == c || (O.othL c true).contains x)) (by decide +kernel) c h0 (by omega)
    · cases u <;> decide +kernel
  have := List.all_eq_true.1 (List.all_eq_true.1 (key u e (oth_in h)) d h) x k
  simpa using this
theorem casP_two {S : Int → Prop} {u : Bool} (d : Int) : casP (casP S u) u d ↔ casP S u d := by
  constructor
  · rintro (g | ⟨e, g | ⟨e', g1, g2⟩, k⟩)
    · exact g
    · exact .inr ⟨e, g, k⟩
    · rcases oth_two g2 k with g | g
      · subst g
        exact .inl g1
      · exact .inr ⟨e', g1, g⟩
  · exact .inl
theorem casP_or {S T : Int → Prop} {u : Bool} (d : Int) : casP (fun c => S c ∨ T c) u d ↔ casP S u d ∨ casP T u d := by
  unfold casP
  constructor
  · rintro ((g | g) | ⟨e, g | g, k⟩)
    · exact .inl (.inl g)
    · exact .inr (.inl g)
    · exact .inl (.inr ⟨e, g, k⟩)
    · exact .inr (.inr ⟨e, g, k⟩)
  · rintro ((g | ⟨e, g, k⟩) | (g | ⟨e, g, k⟩))
    · exact .inl (.inl g)
    · exact .inr ⟨e, .inl g, k⟩
    · exact .inl (.inr g)
    · exact .inr ⟨e, .inr g, k⟩
section
variable {a b s t n n2 u v w c d e f g all y z : List AV} {most : Int} {o : Bool} {P1 P2 : Int → Prop}
theorem laws_nn (h1 : SetP s (fun d => InS (RS a) d ∧ inB most d)) (h2 : SetP n (fun c => inB most c ∧ ¬ InS (CS s) c)) (h3 : SetP n2 (fun c => inB most c ∧ ¬ InS (CS n) c)) : CS s = CS n2 := congrArg CS (h1.self.uniq h3 fun c => by
  rw [h2.has]
  constructor
  · intro g
    exact ⟨((h1.has c).1 g).2, fun k => k.2 g⟩
  · rintro ⟨g, k⟩
    exact Classical.byContradiction fun m => k ⟨g, m⟩)
theorem laws_vw (h1 : SetP s P1) (h2 : SetP t P2) (hn : SetP n (fun c => inB most c ∧ ¬ InS (CS s) c)) (hu : SetP u (fun c => InS (CS s) c ∨ InS (CS t) c)) (hv : SetP v (fun c => inB most c ∧ ¬ InS (CS u) c)) (hn2 : SetP n2 (fun c => inB most c ∧ ¬ InS (CS t) c)) (hw : SetP w (fun c => InS (CS n) c ∧ InS (CS n2) c)) : CS v = CS w := congrArg CS (hv.uniq hw fun c => by
  rw [hu.has, hn.has, hn2.has]
  constructor
  · rintro ⟨g, k⟩
    exact ⟨⟨g, fun m => k (.inl m)⟩, g, fun m => k (.inr m)⟩
  · rintro ⟨⟨g, k⟩, _, m⟩
    exact ⟨g, fun q => q.elim k m⟩)
theorem laws_cd (hu : SetP u (fun c => InS (CS s) c ∨ InS (CS t) c)) (hc : SetP c (casP (InS (CS u)) o)) (hd : SetP d (casP (InS (CS s)) o)) (he : SetP e (casP (InS (CS t)) o)) (hf : SetP f (fun c => InS (CS d) c ∨ InS (CS e) c)) : CS c = CS f := congrArg CS (hc.uniq hf fun x => by
  rw [hd.has, he.has, casP_congr hu.has, casP_or])
theorem laws_cc (hc : SetP c (casP (InS (CS u)) o)) (hd : SetP d (casP (InS (CS c)) o)) : CS c = CS d := congrArg CS (hc.uniq hd fun x => by
  rw [casP_congr hc.has, casP_two])
theorem laws_e (hn : SetP n (fun c => inB most c ∧ ¬ InS (CS s) c)) (he : SetP e (fun c => InS (CS s) c ∧ InS (CS n) c)) : cntR (CS e) = 0 := by
  have : CS e = [] := by
    refine Vai.Can.eq he.can (b := 0) trivial fun c => ?_
    rw [he.has, InS_nil, hn.has]
    simp only [iff_false]
    rintro ⟨g, _, k⟩
    exact k g
  rw [this]
  rfl
theorem laws_f (h1 : SetP s (fun d => InS (RS a) d ∧ inB most d)) (hn : SetP n (fun c => inB most c ∧ ¬ InS (CS s) c)) (hf : SetP f (fun c => InS (CS s) c ∨ InS (CS n) c)) (hall : SetP all (fun d => InS (RS [.agg [iv 0, iv 1114111]]) d ∧ inB most d)) : CS f = CS all := congrArg CS (hf.uniq hall fun c => by
  rw [hn.has, show RS [.agg [iv 0, iv 1114111]] = [(0, 1114111)] from rfl, InS_one]
  constructor
  · rintro (g | g)
    · have := ((h1.has c).1 g).2
      unfold inB at *
      simp only
      omega
    · have := g.1
      unfold inB at *
      simp only
      omega
  · rintro ⟨g, k⟩
    by_cases m : InS (CS s) c
    · exact .inl m
    · exact .inr ⟨k, m⟩)
end
abbrev pre_SetsParts (a b : List AV) : Prop := Rs a ∧ Rs b
abbrev post_SetsParts (a b : List AV) (r : Bool) : Prop := r = true
theorem parts_u {s t both n only u : List AV} {P1 : Int → Prop} (h1 : SetP s P1) (hb : SetP both (fun c => InS (CS s) c ∧ InS (CS t) c)) (hn : SetP n (fun c => inB 1114111 c ∧ ¬ InS (CS t) c)) (ho : SetP only (fun c => InS (CS s) c ∧ InS (CS n) c)) (hu : SetP u (fun c => InS (CS both) c ∨ InS (CS only) c)) : CS u = CS s := congrArg CS (hu.uniq h1.self fun c => by
  rw [hb.has, ho.has, hn.has]
  constructor
  · rintro (g | g)
    · exact g.1
    · exact g.1
  · intro g
    by_cases k : InS (CS t) c
    · exact .inl ⟨g, k⟩
    · exact .inr ⟨g, by rw [inB_top]; exact h1.ok.inB g, k⟩)
theorem parts_m {s t both n only m : List AV} (hb : SetP both (fun c => InS (CS s) c ∧ InS (CS t) c)) (hn : SetP n (fun c => inB 1114111 c ∧ ¬ InS (CS t) c)) (ho : SetP only (fun c => InS (CS s) c ∧ InS (CS n) c)) (hm : SetP m (fun c => InS (CS both) c ∧ InS (CS only) c)) : cntR (CS m) = 0 := by
  have : CS m = [] := by
    refine Vai.Can.eq hm.can (b := 0) trivial fun c => ?_
    rw [hm.has, InS_nil, hb.has, ho.has, hn.has]
    simp only [iff_false]
    rintro ⟨⟨_, g⟩, _, _, k⟩
    exact k g
  rw [this]
  rfl
theorem SetP.cnt {x : List AV} {P : Int → Prop} (h : SetP x P) {n : Nat} (hn : (n : Int) = 1114112) : cntR (CS x) = cnt (inR (CS x)) n := (cnt_row h.can (Int.le_refl _) (fun p hp => by have := (h.ok p hp).2.2; omega)).symm
theorem cnt_uv {s t u m : List AV} {P1 P2 : Int → Prop} (h1 : SetP s P1) (h2 : SetP t P2) (hu : SetP u (fun c => InS (CS s) c ∨ InS (CS t) c)) (hm : SetP m (fun c => InS (CS s) c ∧ InS (CS t) c)) : cntR (CS u) + cntR (CS m) = cntR (CS s) + cntR (CS t) := by
  obtain ⟨n, hn⟩ : ∃ n : Nat, (n : Int) = 1114112 := ⟨1114112, rfl⟩
  rw [hu.cnt hn, hm.cnt hn, h1.cnt hn, h2.cnt hn]
  have e1 : cnt (inR (CS u)) n = cnt (fun c => inR (CS s) c || inR (CS t) c) n := cnt_congr (fun c => by
    rw [Bool.eq_iff_iff, Bool.or_eq_true]
    exact hu.has c) n
  have e2 : cnt (inR (CS m)) n = cnt (fun c => inR (CS s) c && inR (CS t) c) n := cnt_congr (fun c => by
    rw [Bool.eq_iff_iff, Bool.and_eq_true]
    exact hm.has c) n
  rw [e1, e2]
  exact cnt_or _ _ n
theorem SetP.cnt_le {x : List AV} {P : Int → Prop} (h : SetP x P) : 0 ≤ cntR (CS x) ∧ cntR (CS x) ≤ 1241245548544 := by
  obtain ⟨h1, h2⟩ := cntR_bounds (N := 1114111) h.ok
  have := h.len
  rw [CS_len] at h2
  refine ⟨h1, ?_⟩
  have h3 : (x.length : Int) * (1114111 + 1) ≤ 1114112 * (1114111 + 1) := Int.mul_le_mul_of_nonneg_right (by omega) (by decide)
  omega
abbrev pre_SetsFew (l : List AV) (most : Int) : Prop := Rs l
abbrev post_SetsFew (l : List AV) (most : Int) (r : Bool) : Prop := r = true
abbrev inv_SetsFew_0 (x9 : Int) (x10 x11 : List AV) (x12o x13o x12 x13 : Int) : Prop := ASet x10 ∧ x10.length ≤ 1114112 ∧ (∀ c, InS (CS x10) c → inB x9 c) ∧ Rs x11 ∧ x11.length = x10.length ∧ RS x11 = CS x10 ∧ OkP (RS x11) ∧ 0 ≤ x13 ∧ x13 ≤ x11.length ∧ x12 = cntR ((RS x11).take x13.toNat) ∧ 0 ≤ x12 ∧ x12 ≤ x13 * 1114112
abbrev mu_SetsFew_0 (x9 : Int) (x10 x11 : List AV) (x12 x13 : Int) : Nat := (x11.length - x13).toNat
abbrev out_SetsFew_0_0 (x9 : Int) (x10 x11 : List AV) (x12o x13o : Int) : Prop := Never
abbrev out_SetsFew_0_1 (x9 : Int) (x10 x11 : List AV) (x12o x13o y3 y4 : Int) : Prop := y3 = cntR (RS x11)
theorem len_of {x s : List AV} {P : Int → Prop} (h : SetP s P) (e : RS x = CS s) : x.length = s.length := by
  have := congrArg List.length e
  rwa [RS_len, CS_len] at this
theorem len_le {x s : List AV} {P : Int → Prop} (h : SetP s P) (e : RS x = CS s) : x.length ≤ 1114112 := by
  rw [len_of h e]
  exact h.len
theorem has_more {l : List Rg} {i : Nat} {c : Int} (h : InS (l.take i) c) : InS (l.take (i + 1)) c := by
  obtain ⟨r, hr, g⟩ := InS_iff.1 h
  exact InS_iff.2 ⟨r, (List.take_prefix_take_left (Nat.le_succ i)).subset hr, g⟩
theorem nil_len {x : List AV} (e : RS x = CS []) : ((x.length : Int) == 0) = true := by
  have := congrArg List.length e
  rw [RS_len] at this
  rw [beq_iff_eq, this]
  rfl
theorem count_nil {x : Int} (h : x = cntR (CS [])) : x = 0 := h
theorem none_set : SetP [] (fun _ => False) := ⟨Cs.nil, trivial, OkP.nil, fun c => InS_nil⟩
end Go.Proofs.Ytkocppnbipjiiaa.U
