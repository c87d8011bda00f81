/- Trees: a node set into another; the law of wraps. -/
import Derived.Test.YtpnpeeloeifccaaTre14
namespace Go.Proofs.Ytpnpeeloeifccaa.U
open Go Go.Vai
set_option linter.unusedVariables false
/-- A node about another. -/
def wrN (k : Int) (n : Nd) : Nd := .mk k 0 0 [] false 0 0 0 (bs []) 0 0 [n]
def anyN : Nd := .mk 3 0 0 [] false 0 0 0 (bs []) 0 0 []
def twoN (k : Int) (n : Nd) : Nd := .mk 12 0 0 [] false 0 0 0 (bs []) 0 0 [wrN k n, anyN]
def kindAt (t : Int) : Int := if t = 0 then 14 else if t = 1 then 15 else if t = 2 then 17 else 16
def Wk (k : Int) : Prop := k = 14 ∨ k = 15 ∨ k = 16 ∨ k = 17
theorem kindAt_wk (t : Int) : Wk (kindAt t) := by
  unfold kindAt Wk
  split
  · exact .inl rfl
  · split
    · exact .inr (.inl rfl)
    · split
      · exact .inr (.inr (.inr rfl))
      · exact .inr (.inr (.inl rfl))
theorem kindAt_get {t : Int} (h0 : 0 ≤ t) (h4 : t < 4) : [AV.sc (Value.int IntKind.i64 14), AV.sc (Value.int IntKind.i64 15), AV.sc (Value.int IntKind.i64 17), AV.sc (Value.int IntKind.i64 16)][t.toNat]? = some (iv (kindAt t)) := by
  obtain h | h | h | h : t = 0 ∨ t = 1 ∨ t = 2 ∨ t = 3 := by omega
  all_goals (subst h; rfl)
theorem kindAt_14 {t : Int} : one14 (kindAt t) = if t = 0 then 1 else 0 := by
  unfold one14 kindAt
  split
  · rfl
  · split
    · rfl
    · split <;> rfl
theorem mod4 {x : Int} (h : 0 ≤ x) : 0 ≤ x.tmod 4 ∧ x.tmod 4 < 4 := ⟨Int.tmod_nonneg _ h, Int.tmod_lt_of_pos _ (by omega)⟩
theorem neg_pos {x : Int} (h1 : -9223372036854775808 ≤ x) (h : x < 0) : 0 ≤ IntKind.i64.wrap (0 - IntKind.i64.wrap (x + 1)) := by
  rw [wrap_id (n := x + 1) (by omega) (by omega), wrap_id (by omega) (by omega)]; omega
theorem ok_wr {k : Int} {n : Nd} (h : n.Ok) : (wrN k n).Ok := .mk (by simp) (by simp) (fun m hm => by simp at hm; rw [hm]; exact h)
theorem ok_any : anyN.Ok := .mk (by simp) (by simp) (fun m hm => by simp at hm)
theorem ok_two {k : Int} {n : Nd} (h : n.Ok) : (twoN k n).Ok := .mk (by simp) (by simp) (fun m hm => by
  simp at hm
  rcases hm with rfl | rfl
  · exact ok_wr h
  · exact ok_any)
theorem sz_wr (k : Int) (n : Nd) : sz (wrN k n) = sz n + 1 := rfl
theorem sz_two (k : Int) (n : Nd) : sz (twoN k n) = sz n + 3 := by
  show sz n + 0 + 1 + (0 + 1 + 0) + 1 = _; omega
theorem ht_wr (k : Int) (n : Nd) : ht (wrN k n) = ht n + 1 := by
  show max (ht n) 0 + 1 = _; omega
theorem ht_two (k : Int) (n : Nd) : ht (twoN k n) = ht n + 2 := by
  show max (ht (wrN k n)) (max (ht anyN) 0) + 1 = _
  rw [ht_wr]
  have : ht anyN = 1 := rfl
  omega
theorem gr_wr (k : Int) (n : Nd) : ((gr (wrN k n) : Nat) : Int) = one14 k + gr n := gr_mk ..
theorem may_wr {k : Int} (h : Wk k) (n : Nd) : may (wrN k n) = true := by
  show mayB k 0 0 0 0 ([n].length : Nat) (kid0 [n]) true = true
  generalize kid0 [n] = q
  rcases h with rfl | rfl | rfl | rfl <;> simp [mayB]
theorem may_seq (n : Nd) : may (wrN 12 n) = false := by
  show mayB 12 0 0 0 0 ([n].length : Nat) (kid0 [n]) true = false
  generalize kid0 [n] = q
  simp [mayB]
theorem may_two (k : Int) (n : Nd) : may (twoN k n) = true := by
  show mayB 12 0 0 0 0 ([wrN k n, anyN].length : Nat) (kid0 [wrN k n, anyN]) true = true
  generalize kid0 _ = q
  simp [mayB]
theorem all_wr {k : Int} (h : Wk k) (n : Nd) : allB (wrN k n) = allB n := by
  show (may (wrN k n) && (allB n && true)) = _
  rw [may_wr h]; simp
theorem all_seq (n : Nd) : allB (wrN 12 n) = false := by
  show (may (wrN 12 n) && (allB n && true)) = _
  rw [may_seq]; rfl
theorem all_two {k : Int} (h : Wk k) (n : Nd) : allB (twoN k n) = allB n := by
  show (may (twoN k n) && (allB (wrN k n) && (allB anyN && true))) = _
  rw [may_two, all_wr h]
  have : allB anyN = true := by
    show (may anyN && true) = true
    have : may anyN = true := by
      show mayB 3 0 0 0 0 (([] : List Nd).length : Nat) (kid0 []) true = true
      simp [mayB]
    rw [this]; rfl
  rw [this]; simp
theorem size_of {n : Nd} (h : n.Ok) (hs : sz n ≤ 4000) : A 14 [n.av] [] (iv (sz n)) [] := by
  have := Size_ok n h
  rw [cnt_sz n 4000 (by omega), lft_pos (by omega), show (4000 : Int) - (4000 - sz n) = sz n by omega] at this
  exact this
theorem depth_of {n : Nd} (h : n.Ok) (hs : sz n ≤ 4000) (hd : ht n ≤ 301) : A 16 [n.av] [] (iv (ht n)) [] := by
  have := Depth_ok n h hs
  rw [show cap 301 (ht n) = ht n by unfold cap; omega] at this
  exact this
theorem check_of {n : Nd} (h : n.Ok) (hs : sz n ≤ 4000) (hd : ht n ≤ 300) : A 12 [n.av] [] (bv (allB n)) [] := by
  have := Check_ok n h
  rw [chk_all n 1, le3_t (by omega), Bool.true_and, decide_eq_true hs, Bool.and_true] at this
  exact this
theorem beq_wrap {x y : Int} (h : x = y) (h1 : -9223372036854775808 ≤ y) (h2 : y ≤ 9223372036854775807) : (x == IntKind.i64.wrap y) = true := by
  rw [wrap_id h1 h2, h]; simp
theorem wrap_facts {n : Nd} (h : n.Ok) (hs : sz n ≤ 3990) (hd : ht n ≤ 290) (hc : allB n = true) {k : Int} (hk : Wk k) :
    A 12 [(wrN k n).av] [] (bv true) [] ∧ A 12 [(wrN 12 n).av] [] (bv false) [] ∧ A 12 [(twoN k n).av] [] (bv true) [] ∧ A 14 [(wrN k n).av] [] (iv (sz n + 1)) [] ∧ A 14 [n.av] [] (iv (sz n)) [] ∧ A 16 [(wrN k n).av] [] (iv (ht n + 1)) [] ∧ A 16 [n.av] [] (iv (ht n)) [] ∧ A 14 [(twoN k n).av] [] (iv (sz n + 3)) [] ∧ A 22 [(wrN k n).av] [] (iv (one14 k + gr n)) [] ∧ A 22 [n.av] [] (iv (gr n)) [] := by
  have s1 := sz_wr k n
  have s2 := sz_wr 12 n
  have s3 := sz_two k n
  have t1 := ht_wr k n
  have t2 := ht_wr 12 n
  have t3 := ht_two k n
  have c1 := check_of (ok_wr (k := k) h) (by omega) (by omega)
  have c2 := check_of (ok_wr (k := 12) h) (by omega) (by omega)
  have c3 := check_of (ok_two (k := k) h) (by omega) (by omega)
  rw [all_wr hk, hc] at c1
  rw [all_seq] at c2
  rw [all_two hk, hc] at c3
  have z1 := size_of (ok_wr (k := k) h) (by omega)
  have z3 := size_of (ok_two (k := k) h) (by omega)
  rw [s1] at z1
  rw [s3] at z3
  have d1 := depth_of (ok_wr (k := k) h) (by omega) (by omega)
  rw [t1] at d1
  have g1 := Captures_ok (wrN k n) (ok_wr h) (by omega)
  rw [gr_wr] at g1
  exact ⟨c1, c2, c3, z1, size_of h (by omega), d1, depth_of h (by omega) (by omega), z3, g1, Captures_ok n h (by omega)⟩
theorem blt4 {t : Int} (h0 : 0 ≤ t) (h4 : t < 4) : t.toNat.blt 4 = true := by
  have : t.toNat < 4 := by omega
  simp [Nat.blt]; omega
theorem wraps (n : Nd) (q : Int) (h : n.Ok) (hq1 : -9223372036854775808 ≤ q) (hq2 : q ≤ 9223372036854775807) : A 7 [n.av, iv q] [] (bv true) [] := by
  have a1 := Small_ok n h
  rw [small_sz] at a1
  have a2 := Check_ok n h
  have a3 := fun hs => size_of h hs
  have a4 := fun hs => Depth_ok n h hs
  have n1 := np_one n
  have m1 := fun k => np_one (wrN k n)
  have m2 := fun k => np_one (twoN k n)
  have g1 := gr_sz n
  have e := chk_all n 1
  have wf := fun (hs : sz n ≤ 3990) (hd : ht n ≤ 290) (hc : allB n = true) (k : Int) (hk : Wk k) => wrap_facts h hs hd hc hk
  obtain ⟨z, hz⟩ : ∃ z, z = sz n := ⟨_, rfl⟩
  obtain ⟨t, ht'⟩ : ∃ t, t = ht n := ⟨_, rfl⟩
  obtain ⟨g, hg⟩ : ∃ g, g = gr n := ⟨_, rfl⟩
  obtain ⟨c, hc⟩ : ∃ c, c = allB n := ⟨_, rfl⟩
  obtain ⟨ck, hck⟩ : ∃ c, c = chk n 1 := ⟨_, rfl⟩
  rw [← hz] at a1 a2 a3 g1 wf
  rw [← ht'] at a4 e wf
  rw [← hc] at e wf
  rw [← hck] at a2 e
  rw [← hz] at a4
  rw [← hg] at g1 wf
  clear hz ht' hg hc hck h
  cases n with
  | mk k a c' s g' N M m nm on off kids =>
    refine done (w_TreeWraps _ _ _ _ _ _ _ _ _ _ _ _ _ _ ⟨awake, n1, _, a1, fun h => ⟨rfl, rfl⟩, fun f1 => ⟨n1, _, a2, fun _ => ⟨rfl, rfl⟩, fun f2 => ?_⟩⟩)
    have f1 := dt (nf f1)
    have f2 : (ck && decide (z ≤ 4000)) = true := nf f2
    rw [Bool.and_eq_true] at f2
    refine ⟨n1, _, a3 f1, fun _ => ⟨rfl, rfl⟩, fun f3 => ⟨n1, _, a4 f1, fun _ => ⟨rfl, rfl⟩, fun f4 => ?_⟩⟩
    have f3 := df f3
    have f4 := df f4
    have f4 : t ≤ 290 := by unfold cap at f4; omega
    have f5 : c = true := by
      rw [f2.1] at e
      cases c with
      | true => rfl
      | false => simp at e
    have wf := fun k hk => wf (by omega) f4 f5 k hk
    clear a1 a2 a3 a4 e
    refine ⟨fun hn => ?_, fun hn => ?_⟩
    · obtain ⟨b0, b4⟩ := mod4 (x := IntKind.i64.wrap (0 - IntKind.i64.wrap (q + 1))) (neg_pos hq1 (dt hn))
      have gk := kindAt_get b0 b4
      have e14 := kindAt_14 (t := (IntKind.i64.wrap (0 - IntKind.i64.wrap (q + 1))).tmod 4)
      obtain ⟨w1, w2, w3, w4, w5, w6, w7, w8, w9, w10⟩ := wf _ (kindAt_wk ((IntKind.i64.wrap (0 - IntKind.i64.wrap (q + 1))).tmod 4))
      generalize hm : (IntKind.i64.wrap (0 - IntKind.i64.wrap (q + 1))).tmod 4 = mm at *
      refine ⟨decide_eq_true b0, blt4 b0 b4, _, gk, fun hz => ?_, fun hz => ?_⟩
      · have h0 : one14 (kindAt mm) = 1 := by rw [e14]; exact if_pos (by simpa using hz)
        rw [h0] at w9
        refine ⟨m1 _, _, w1, fun _ => ⟨m1 12, _, w2, fun _ => ⟨m2 _, _, w3, fun _ => ⟨m1 _, _, w4, n1, _, w5, fun _ => ⟨m1 _, _, w6, n1, _, w7, fun _ => ⟨m2 _, _, w8, n1, _, w5, fun _ => ⟨m1 _, _, w9, n1, _, w10, ?_, rfl⟩, fun h => ?_⟩, fun h => ?_⟩, fun h => ?_⟩, fun h => (by cases h)⟩, fun h => (by cases h)⟩, fun h => (by cases h)⟩
        · rw [beq_wrap (by omega) (by omega) (by omega)]
        · rw [beq_wrap (by omega) (by omega) (by omega)] at h; cases h
        · rw [beq_wrap (by omega) (by omega) (by omega)] at h; cases h
        · rw [beq_wrap (by omega) (by omega) (by omega)] at h; cases h
      · have h0 : one14 (kindAt mm) = 0 := by rw [e14]; exact if_neg (by simpa using hz)
        rw [h0] at w9
        refine ⟨m1 _, _, w1, fun _ => ⟨m1 12, _, w2, fun _ => ⟨m2 _, _, w3, fun _ => ⟨m1 _, _, w4, n1, _, w5, fun _ => ⟨m1 _, _, w6, n1, _, w7, fun _ => ⟨m2 _, _, w8, n1, _, w5, fun _ => ⟨m1 _, _, w9, n1, _, w10, ?_, rfl⟩, fun h => ?_⟩, fun h => ?_⟩, fun h => ?_⟩, fun h => (by cases h)⟩, fun h => (by cases h)⟩, fun h => (by cases h)⟩
        · rw [beq_wrap (by omega) (by omega) (by omega)]
        · rw [beq_wrap (by omega) (by omega) (by omega)] at h; cases h
        · rw [beq_wrap (by omega) (by omega) (by omega)] at h; cases h
        · rw [beq_wrap (by omega) (by omega) (by omega)] at h; cases h
    · obtain ⟨b0, b4⟩ := mod4 (x := q) (by have := df hn; omega)
      have gk := kindAt_get b0 b4
      have e14 := kindAt_14 (t := (q).tmod 4)
      obtain ⟨w1, w2, w3, w4, w5, w6, w7, w8, w9, w10⟩ := wf _ (kindAt_wk ((q).tmod 4))
      generalize hm : (q).tmod 4 = mm at *
      refine ⟨decide_eq_true b0, blt4 b0 b4, _, gk, fun hz => ?_, fun hz => ?_⟩
      · have h0 : one14 (kindAt mm) = 1 := by rw [e14]; exact if_pos (by simpa using hz)
        rw [h0] at w9
        refine ⟨m1 _, _, w1, fun _ => ⟨m1 12, _, w2, fun _ => ⟨m2 _, _, w3, fun _ => ⟨m1 _, _, w4, n1, _, w5, fun _ => ⟨m1 _, _, w6, n1, _, w7, fun _ => ⟨m2 _, _, w8, n1, _, w5, fun _ => ⟨m1 _, _, w9, n1, _, w10, ?_, rfl⟩, fun h => ?_⟩, fun h => ?_⟩, fun h => ?_⟩, fun h => (by cases h)⟩, fun h => (by cases h)⟩, fun h => (by cases h)⟩
        · rw [beq_wrap (by omega) (by omega) (by omega)]
        · rw [beq_wrap (by omega) (by omega) (by omega)] at h; cases h
        · rw [beq_wrap (by omega) (by omega) (by omega)] at h; cases h
        · rw [beq_wrap (by omega) (by omega) (by omega)] at h; cases h
      · have h0 : one14 (kindAt mm) = 0 := by rw [e14]; exact if_neg (by simpa using hz)
        rw [h0] at w9
        refine ⟨m1 _, _, w1, fun _ => ⟨m1 12, _, w2, fun _ => ⟨m2 _, _, w3, fun _ => ⟨m1 _, _, w4, n1, _, w5, fun _ => ⟨m1 _, _, w6, n1, _, w7, fun _ => ⟨m2 _, _, w8, n1, _, w5, fun _ => ⟨m1 _, _, w9, n1, _, w10, ?_, rfl⟩, fun h => ?_⟩, fun h => ?_⟩, fun h => ?_⟩, fun h => (by cases h)⟩, fun h => (by cases h)⟩, fun h => (by cases h)⟩
        · rw [beq_wrap (by omega) (by omega) (by omega)]
        · rw [beq_wrap (by omega) (by omega) (by omega)] at h; cases h
        · rw [beq_wrap (by omega) (by omega) (by omega)] at h; cases h
        · rw [beq_wrap (by omega) (by omega) (by omega)] at h; cases h
end Go.Proofs.Ytpnpeeloeifccaa.U
