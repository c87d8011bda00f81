/- Sets: Clone and Grow do what is told of them. -/
import Derived.Test.YtkocppnbipjiiaaSetX
import Derived.Shelf.SlicesE.Clone
import Derived.Shelf.Spec.SlicesGrow
namespace Go.Proofs.Ytkocppnbipjiiaa.U
open Go Go.Vai Go.Flo Go.Proofs Go.Shelf Go.RowKit Go.Lib
set_option linter.unusedVariables false
theorem info49 : (pr.info? 49).map (fun i => (i.zero, i.size, i.bytes)) = some (some (Value.complex .f64 0 0), 1, 16) := by kernel_rfl
theorem parts49 : ∃ i0, pr.info? 49 = some i0 ∧ i0.zero = some (Value.complex .f64 0 0) ∧ i0.size = 1 ∧ i0.bytes = 16 := by
  have h := info49
  cases hi : pr.info? 49 with
  | none => rw [hi] at h; cases h
  | some i0 =>
    rw [hi] at h
    simp only [Option.map_some, Option.some.injEq, Prod.mk.injEq] at h
    exact ⟨i0, rfl, h.1, h.2.1, h.2.2⟩
theorem size49 : sizeT pr 49 = 1 := by kernel_rfl
theorem below_drew (w : World) : Below w.heap.size w w.drew := ⟨rfl, rfl, rfl, Nat.le_refl _, fun _ _ => rfl⟩
/-- A new slice is given back. -/
theorem back_new {w w' : World} {F β : Nat → Nat} {O : Nat → Option Own} {l : List AV} {inner : List Value} {v : Value} (hB : Below w.heap.size w w') (hown : w'.ownsRow w.heap.size 49 1 v l.length inner) (hr : rowsR w F β 0 1 l inner) (olt : ∀ g q, O g = some q → g < w.heap.size) :
    ∃ F' O', Back pr w F β O [] (.cap true 49 l) [] v w' F' O' := by
  have hlt := hown.lt
  have hx : Ext w F w' (fun b => if b < w.heap.size then F b else 0) := by
    refine ⟨fun b o u hob hcl => ?_, fun b hb' => ?_⟩
    · have hbl := cell_lt hcl
      have := hB.block b hbl
      unfold World.cell? at hcl ⊢
      rwa [this]
    · (try simp only)
      rw [if_pos hb']
      exact Nat.le_refl _
  refine ⟨fun b => if b < w.heap.size then F b else 0, fun g => if v.ownBlock = some g then some (.pl (.slot 0)) else O g, rfl, ⟨0, ⟨inner, by rw [size49]; exact ⟨hown.1, by
    rcases hown.2 with h | ⟨g, cap, cur, h1, h2, h3⟩
    · exact .inl h
    · exact .inr ⟨g, cap, cur, h1, Nat.zero_le _, h3⟩⟩, by rw [size49]; exact rowsR.ext hx (fun _ _ => rfl) (Nat.le_refl _) 1 l inner hr, fun g hg => ⟨by (try simp only); rw [if_pos hg], by
      have := (hlt g hg).1
      (try simp only)
      rw [if_neg (by omega)]
      simp⟩⟩⟩, fun b l h => by simp at h, fun g q hq => ?_, ⟨hB.os, hB.tape, hB.output, hB.size, fun b hb hM => ⟨hB.block b hb, by (try simp only); rw [if_pos hb]⟩, hx⟩, fun g hg => ?_⟩
  · (try simp only at hq)
    split at hq
    · rename_i h
      exact (hlt g h).2
    · exact Nat.lt_of_lt_of_le (olt g q hq) hB.size
  · (try simp only at hg)
    split at hg
    · rename_i h
      exact .inr (hlt g h).1
    · exact .inl hg
set_option maxHeartbeats 2000000 in
set_option maxRecDepth 100000 in
theorem clone_zeroE {P : Program} {ρ : Ren} (L : SlLaysE0.n41 P ρ) (i0 : TypeInfo) (z : Value) (size bytes : Nat) (hi : P.info? (ρ.t 23) = some i0) (hz0 : i0.zero = some z) (hz1 : i0.size = size) (hz2 : i0.bytes = bytes) (hzs : z.cells.size = size) (hsz : 0 < size) (z23 : ∀ w, (Go.sizeOf (ρ.t 23)).run P w = .ok size w) (a : Addr) (c : Nat) (w : World) :
    Calls P (ρ.f 41) #[.slice (some a) 0 c] w fun e w' => ∃ v', e = .returned v' ∧ w'.ownsRow w.heap.size (ρ.t 23) size v' 0 [] ∧ Below w.heap.size w w' := by
  have mixed := L.mixed; have t4 := L.t4; have a4 := L.a4; have z4 := L.z4; have v4 := L.v4; have t22 := L.t22; have a22 := L.a22; have z22 := L.z22; have v22 := L.v22
  have q22 : ∀ (w : World) (a : Option Addr) (n c n' c' : Nat), (binOp .eql (ρ.t 22) (.slice a n c) (.slice none n' c')).run P w = .ok (.bool a.isNone) w := fun w a n c n' c' => Lib.run_eql_slice_nil w _ _ a n c n' c' L.t22
  have u22 : ∀ w, Sem.run P (underlying (ρ.t 22)) w = .ok (TypeDesc.slice (ρ.t 23)) w := run_underlying t22
  obtain ⟨_, _, FG⟩ := L.f41
  go_enter FG, SlBodyN.n41_ntmps ρ
  go_wp2_with (at_builtin; refine wpList_append_own _ rfl _ _ (ρ.t 22) rfl w.heap.size (ρ.t 23) i0 z size bytes t22 hi hz0 hz1 hz2 hzs hsz _ _ _ rfl (World.ownsRow_made w #[] 0 (Nat.le_refl _) (Nat.zero_le _) (by simp)) a 0 c [] rfl ?qc1 ?qc2 ?qc3 ?qc4 ?qc5 ?qc6 ?_)
  case qc1 => simp
  case qc2 => intro j u hj; simp at hj
  case qc3 => intro u hu; cases hu
  case qc4 => unfold maxLen; omega
  case qc5 => simp
  case qc6 => simp
  intro v' w1 hown hgrow hnil
  go_wp2
  go_ret
  refine ⟨v', rfl, by simpa using hown, ?_⟩
  exact ((Below.refl _ w).alloc (Nat.le_refl _) _).grown hgrow (by simp) (by intro k hk; simp [Value.ownBlock] at hk; omega)
theorem clone_zero (a : Addr) (c : Nat) (w : World) :
    Calls pr 28 #[.slice (some a) 0 c] w fun e w' => ∃ v', e = .returned v' ∧ w'.ownsRow w.heap.size 49 1 v' 0 [] ∧ Below w.heap.size w w' := by
  obtain ⟨i0, hi, hz0, hz1, hz2⟩ := parts49
  exact clone_zeroE lay41 i0 (.complex .f64 0 0) 1 16 hi hz0 hz1 hz2 rfl (by decide) (fun w => by kernel_rfl) a c w
theorem clone_good : GoodF pr 28 cloneX := by
  refine ⟨fun {vs H r} _ => ⟨_, Try.func28, by kernel_rfl, by kernel_rfl⟩, fun {vs H r H'} hc {w F β O us} E => ?_⟩
  unfold cloneX at hc
  split at hc
  · rename_i l
    split at hc
    · rename_i hb
      rw [Bool.and_eq_true, Nat.ble_eq] at hb
      simp only [Option.some.injEq, Prod.mk.injEq] at hc
      obtain ⟨rfl, rfl⟩ := hc
      have hl := E.len
      match us, hl with
      | [u], _ =>
      have hr : relF w F β 0 (.sl 1 l) u := E.args 0 _ u rfl rfl
      simp only [relF] at hr
      obtain ⟨A, c, inner, rfl, hlc, hr, hm⟩ := hr
      have hlen := rowsR_length hr
      rw [Nat.mul_one] at hlen
      have fin : ∀ {e : Ending} {w' : World}, (∃ v', e = .returned v' ∧ w'.ownsRow w.heap.size 49 1 v' l.length inner ∧ Below w.heap.size w w') → ∃ v F' O', e = .returned v ∧ Back pr w F β O [] (.cap true 49 l) [] v w' F' O' := fun {e w'} ⟨v', he, h1, h2⟩ => by
        obtain ⟨F', O', h⟩ := back_new h2 h1 hr E.olt
        exact ⟨v', F', O', he, h⟩
      have zero : inner = [] → l = [] := fun h => by
        rw [h] at hlen
        exact List.length_eq_zero_iff.1 hlen.symm
      show Calls pr 28 #[_] w _
      cases A with
      | none =>
        have hin : inner = [] := by
          rcases hm with h | ⟨_, _, h, _⟩
          · exact h
          · cases h
        have hl0 := zero hin
        subst hin
        subst hl0
        have hc := AnyE.slices_Clone_nil lay41 0 c w
        change Calls pr 28 _ w _ at hc
        refine hc.mono ?_
        rintro e w' ⟨rfl, rfl⟩
        exact fin ⟨_, rfl, World.ownsRow_nil _ _ _ _, Below.refl _ _⟩
      | some a =>
        by_cases hin : inner = []
        · have hl0 := zero hin
          subst hin
          subst hl0
          refine (clone_zero a c w).mono ?_
          rintro e w' ⟨v', rfl, h1, h2⟩
          exact fin ⟨_, rfl, h1, h2⟩
        · rcases hm with h | ⟨b, o, h, hcell⟩
          · exact absurd h hin
          · cases h
            obtain ⟨i0, hi, hz0, hz1, hz2⟩ := parts49
            have hc := AnyE.slices_Clone lay41 i0 (.complex .f64 0 0) 1 16 hi hz0 hz1 hz2 rfl (by decide) (fun w => by kernel_rfl) b o l.length c inner w (by rw [hlen, Nat.mul_one]) (by unfold maxLen; omega) (by omega) (fun j u hj => (hcell j u hj).1) (rowsR_one hr)
            change Calls pr 28 _ w _ at hc
            refine hc.mono ?_
            rintro e w' ⟨v', rfl, h1, _, h2⟩
            exact fin ⟨_, rfl, h1, h2⟩
    · cases hc
  · cases hc
theorem grow_good : GoodF pr 47 growX := by
  refine ⟨fun {vs H r} _ => ⟨_, Try.func47, by kernel_rfl, by kernel_rfl⟩, fun {vs H r H'} hc {w F β O us} E => ?_⟩
  unfold growX at hc
  split at hc
  · rename_i e l n
    split at hc
    · rename_i hb
      rw [Bool.and_eq_true, Bool.and_eq_true, decide_eq_true_iff, decide_eq_true_iff, Nat.beq_eq] at hb
      obtain ⟨⟨rfl, h0⟩, hle⟩ := hb
      simp only [Option.some.injEq, Prod.mk.injEq] at hc
      obtain ⟨rfl, rfl⟩ := hc
      obtain ⟨n, rfl⟩ := Int.eq_ofNat_of_zero_le h0
      have hl := E.len
      match us, hl with
      | [u, u2], _ =>
      have hr : relCap pr w F β 0 O (.slot 0) true 49 l u := E.args 0 _ u rfl rfl
      have hr2 : relF w F β 0 (.sc (.int .i64 n)) u2 := E.args 1 _ u2 rfl rfl
      simp only [relF] at hr2
      obtain ⟨rfl, _⟩ := hr2
      have same : Back pr w F β O [] (.cap true 49 l) [] u w F O := ⟨rfl, ⟨0, hr⟩, E.heap, E.olt, Step.refl _ _ _, fun g hg => .inl hg⟩
      obtain ⟨inner, hown, hrow, ho⟩ := hr
      rw [size49] at hown hrow
      obtain ⟨i0, hi, hz0, hz1, hz2⟩ := parts49
      show Calls pr 47 #[_, _] w _
      have go : ∀ (base : Option Addr) (c : Nat) (cs : List Value), u = .slice base l.length c → l.length ≤ c → c ≤ maxLen → cs.length = c → (base = none → c = 0) → (∀ a, base = some a → ∀ j v, cs[j]? = some v → w.cell? (a.add j) = some v) → cs.take l.length = inner →
          Calls pr 47 #[u, .int .i64 n] w fun e w' => ∃ v F' O', e = .returned v ∧ Back pr w F β O [] (.cap true 49 l) [] v w' F' O' := fun base c cs hu hlc hcm hcl hnil hcs htk => by
        subst hu
        unfold maxLen at hcm
        by_cases hroom : l.length + n ≤ c
        · have hc := Any8.slices_Grow_room lay4 base l.length c n w hlc (by omega) (by omega) hroom
          change Calls pr 47 _ w _ at hc
          refine hc.mono ?_
          rintro e w' ⟨rfl, rfl⟩
          exact ⟨_, F, O, rfl, same⟩
        · have hc := Any8.slices_Grow_grow lay4 i0 (.complex .f64 0 0) hi hz0 (by omega) base l.length c n cs w hlc (by omega) (by rw [hz2]; omega) (by omega) (by rw [hcl, hz1, Nat.mul_one]) hnil hcs
          change Calls pr 47 _ w _ at hc
          refine hc.mono ?_
          rintro e w' ⟨rfl, rfl⟩
          have hG : l.length + n ≤ grownCap w (l.length + n) c (ρ_lay4.t 25) := grownCap_ge w _ _ _
          have hGm := grownCap_le_maxLen w (l.length + n) c (ρ_lay4.t 25) (by unfold maxLen; omega)
          generalize grownCap w (l.length + n) c (ρ_lay4.t 25) = G at *
          have h2 : Below w.heap.size w (w.drew.alloc (.cells (cs.toArray ++ Builtin.zeroCells (Value.complex .f64 0 0).cells (l.length + n - c) ++ Builtin.zeroCells (Value.complex .f64 0 0).cells (G - (l.length + n))) (ρ_lay4.t 25))) := (below_drew w).alloc (Nat.le_refl _) _
          obtain ⟨F', O', h⟩ := back_new (l := l) (inner := inner) (v := .slice (some ⟨w.heap.size, 0, none⟩) l.length G) h2 ⟨by rw [← htk, List.length_take, hcl]; omega, .inr ⟨w.heap.size, G, _, rfl, Nat.le_refl _, heap_alloc_new w.drew _, by omega, hGm, by simp [Builtin.zeroCells, hcl, Value.cells]; omega, by
            rw [← htk, Nat.mul_one]
            simp [List.take_append, hcl, show l.length - c = 0 by omega]⟩⟩ hrow E.olt
          exact ⟨_, F', O', rfl, h⟩
      rcases hown.2 with ⟨rfl, h0⟩ | ⟨g, cap, cur, rfl, _, hbk, h1, h2, h3, h4⟩
      · refine go none 0 [] (by rw [h0]) (by omega) (Nat.zero_le _) rfl (fun _ => rfl) (fun a ha => by cases ha) ?_
        have := hown.1
        rw [h0] at this ⊢
        exact (List.length_eq_zero_iff.1 (by simpa using this)).symm
      · refine go _ cap cur.toList rfl h1 h2 (by rw [Array.length_toList, h3, Nat.mul_one]) (fun h => by cases h) (fun a ha j v hj => ?_) (by rw [← h4, Nat.mul_one])
        cases ha
        rw [Addr.add_lit]
        simp only [World.cell?, hbk, Nat.zero_add]
        simpa using hj
    · cases hc
  · cases hc
theorem ext_good : GoodX pr ext0 := fun g c hg => by
  unfold ext0 at hg
  split at hg
  · rename_i h
    have hge := Nat.eq_of_beq_eq_true h
    subst hge
    cases hg
    exact ⟨fun _ => clone_good, fun g0 h0 => by have h0 : (28 : Nat) = g0 + 1000000 := h0; omega⟩
  · split at hg
    · rename_i h
      have hge := Nat.eq_of_beq_eq_true h
      subst hge
      cases hg
      exact ⟨fun _ => grow_good, fun g0 h0 => by have h0 : (47 : Nat) = g0 + 1000000 := h0; omega⟩
    · split at hg
      · rename_i h
        have hge := Nat.eq_of_beq_eq_true h
        subst hge
        cases hg
        refine ⟨fun h => by have h : (1000039 : Nat) < 1000000 := h; omega, fun g0 h0 hs {e l k e' l' H'} hc => ?_⟩
        have hg0 : g0 = 39 := Nat.add_right_cancel (show g0 + 1000000 = 39 + 1000000 from h0.symm)
        subst hg0
        replace hc : (if Nat.beq e 49 && Nat.beq k 40 && Nat.ble l.length 1000000000000 then (match decP l with | some d => some (AV.cap true e ((sortP d).map fun p => cz p.1), ([] : HH)) | none => none) else none) = some (AV.cap true e' l', H') := hc
        split at hc
        · rename_i hb
          rw [Bool.and_eq_true, Bool.and_eq_true, Nat.beq_eq, Nat.beq_eq, Nat.ble_eq] at hb
          obtain ⟨⟨rfl, rfl⟩, hle⟩ := hb
          split at hc
          · rename_i d hd
            simp only [Option.some.injEq, Prod.mk.injEq, AV.cap.injEq] at hc
            obtain ⟨⟨_, rfl, rfl⟩, rfl⟩ := hc
            unfold decP at hd
            split at hd
            · rename_i hex
              have hsp := Classical.choose_spec hex
              cases hd
              have h2 := congrArg List.length hsp
              rw [List.length_map] at h2
              have h3 := sort_ok (Classical.choose hex) (by omega)
              rw [← hsp] at h3
              exact h3
            · cases hd
          · cases hc
        · cases hc
      · cases hg
end Go.Proofs.Ytkocppnbipjiiaa.U
