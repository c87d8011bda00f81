/- Functions: bodies, the program. -/
import Derived.Test.YtcjcdammcmjbnaaGreatVaiR
namespace Go.Vai
section
variable {P : Program} {w w' : World} {F F' : Nat → Nat} {β β' : Nat → Nat} {O O' : Nat → Option Own} {n h h' : Nat} {s : St} {a : Act} {fh : FuncId → FH} {f : FuncId}
theorem resAll_sound (hc : (fh f).capRes = false) : ∀ {rs : List ResultVar} {s s' : St} {F : Nat → Nat} {O : Nat → Option Own} {vs : List AV}, Sim P n s a w F β O → resAll P fh f s rs = some (vs, s') →
  ∃ us F' O', us.length = rs.length ∧ (∀ (i : Nat) (x : ResultVar) (y : Value), rs[i]? = some x → us[i]? = some y → (resRun a.tmps x).run P w = .ok y w) ∧ Sim P n s' a w F' β O' ∧ Step w F w F' (fun g => (O g).isSome) ∧ (∀ g, (O' g).isSome → (O g).isSome) ∧ s'.H.length = s.H.length ∧ listR w F' β s.H.length vs us
 | [], s, s', F, O, vs, S, h => by
  simp only [resAll] at h
  injection h with h
  injection h with h1 h2
  subst h1
  subst h2
  exact ⟨[], F, O, rfl, fun i x y hx => by simp at hx, S, Step.refl _ _ _, fun _ h => h, rfl, by simp only [listR]⟩
 | r :: rs, s, s', F, O, vs, S, h => by
  simp only [resAll] at h
  cases h1 : resA P fh f s r with
  | none => rw [h1] at h; cases h
  | some p =>
   obtain ⟨v, s1⟩ := p
   rw [h1] at h
   simp only [] at h
   cases h2 : resAll P fh f s1 rs with
   | none => rw [h2] at h; cases h
   | some q =>
    obtain ⟨vs', s2⟩ := q
    rw [h2] at h
    injection h with h
    injection h with e1 e2
    subst e1
    subst e2
    obtain ⟨u, F1, O1, t, q1, S1, t1, n1, l1, _, hr⟩ := res_sound S h1
    obtain ⟨us, F2, O2, g1, g2, S2, t2, n2, l2, hrs⟩ := resAll_sound hc S1 h2
    refine ⟨u :: us, F2, O2, by simp [g1], fun i x y hx hy => ?_, S2, t1.trans t2 (fun b _ hb => n1 b hb), fun g hg => n1 g (n2 g hg), l2.trans l1, ?_⟩
    ·cases i with
     | zero => simp at hx hy; subst hx; subst hy; exact q1
     | succ i => exact g2 i x y (by simpa using hx) (by simpa using hy)
    ·rw [l1] at hrs
     simp only [listR]
     exact ⟨u, us, rfl, relF.ext t2.ext (fun _ _ => rfl) (Nat.le_refl _) _ _ (hr hc), hrs⟩
theorem relCell.np {p : Pl} {x : AV} {v : Value} (hn : Go.Vai.np x = true) (r : relCell P w F β h O p x v) : relCell P w F β' h' O p x v := by
 cases x with
 | cap o e l => exact relCap.np (by simpa only [Go.Vai.np] using hn) r
 | undef => trivial
 | _ => exact ⟨r.1, relF.np (β := β) (h := h) _ _ hn r.2⟩
theorem chunk_length {sz : Nat} : ∀ {k : Nat} {l : List AV}, (chunk sz k l).length = k
 | 0, _ => rfl
 | k + 1, l => by simp only [chunk, List.length_cons, chunk_length]
theorem chunk_rows {sz : Nat} (hs : 1 ≤ sz) : ∀ {k : Nat} {l : List AV} {cs : List Value}, cellsR w F β h l cs → k * sz ≤ l.length → rowsR w F β h sz (chunk sz k l) (cs.take (k * sz))
 | 0, l, cs, r, _ => by simp [chunk, rowsR]
 | k + 1, l, cs, r, hl => by
  have hl' : sz + k * sz ≤ l.length := by rw [Nat.add_mul] at hl; omega
  have hlen := cellsR_length r
  simp only [chunk, rowsR]
  refine ⟨cs.take sz, (cs.drop sz).take (k * sz), ?_, by rw [List.length_take]; omega, ?_, chunk_rows hs (cellsR_drop r sz) (by rw [List.length_drop]; omega)⟩
  ·rw [show (k + 1) * sz = sz + k * sz by rw [Nat.add_mul]; omega, List.take_add]
  ·have ht := cellsR_take r sz
   have htl : (l.take sz).length = sz := by rw [List.length_take]; omega
   revert ht htl
   generalize l.take sz = c
   generalize cs.take sz = d
   intro ht htl
   match c, ht, htl with
   | [], _, htl => simp at htl; omega
   | [x], ht, _ =>
    simp only [cellsR] at ht
    obtain ⟨u, c2, rfl, hx, hu, rfl⟩ := ht
    exact (item_leaf hx).2 ⟨u, rfl, hu⟩
   | x :: y :: c, ht, _ => simp only [itemOf, itemR]; exact ht
theorem leave_sound {s' : St} {H H' : HH} {r v : AV} (S : Sim P n s' a w F β O) (hl : H.length ≤ s'.H.length) (hβ : ∀ b, b < H.length → β b = β' b) (h : leaveA H r s'.H = some (v, H')) {t : Nat} {u : Value} (hr : argR P w F β s'.H.length O (.slot t) r u) :
  ∃ F', Step w F w F' (fun g => (O g).isSome) ∧ H'.length = H.length ∧ argR P w F' β' H.length O (.slot t) v u ∧ heapR P w F' β' O H' := by
 unfold leaveA at h
 split at h
 ·rename_i he
  have he := beq_eq he
  injection h with h
  injection h with e1 e2
  subst e1
  subst e2
  have hβ' : ∀ b, b < H.length → β' b = β b := fun b hb => (hβ b hb).symm
  refine ⟨F, Step.refl _ _ _, he, ?_, fun b l hb => ?_⟩
  ·rw [he] at hr
   cases r with
   | cap o e l => exact relCap.keep hr (Ext.refl _ _) hβ' (Nat.le_refl _) (fun _ _ => ⟨rfl, rfl, rfl⟩)
   | _ => exact relF.ext (Ext.refl _ _) hβ' (Nat.le_refl _) _ _ hr
  ·have hlt : b < H.length := by rw [← he]; exact (List.getElem?_eq_some_iff.1 hb).1
   have := S.heap b l hb
   rw [he] at this ⊢
   rw [← hβ b hlt]
   exact this.keep (Ext.refl _ _) hβ' (Nat.le_refl _) ⟨rfl, rfl, rfl⟩ (fun _ _ _ => ⟨rfl, rfl, rfl⟩)
 ·
  have kept : ∀ (F' : Nat → Nat), Ext w F w F' → (∀ g q, O g = some q → (∀ b, q = .hb b → b < H.length) → F' g = F g) → (s'.H.take H.length).all npL = true → Nat.ble H.length s'.H.length = true → (s'.H.take H.length).length = H.length ∧ heapR P w F' β' O (s'.H.take H.length) := fun F' e hF b2 b3 => by
   have hlen : (s'.H.take H.length).length = H.length := by rw [List.length_take]; have := Nat.le_of_ble_eq_true b3; omega
   refine ⟨hlen, fun b l hb => ?_⟩
   rw [hlen]
   have hlt : b < H.length := by rw [← hlen]; exact (List.getElem?_eq_some_iff.1 hb).1
   have hb' : s'.H[b]? = some l := by
    rw [List.getElem?_take] at hb
    rw [if_pos hlt] at hb
    exact hb
   have hnl : npL l = true := List.all_eq_true.1 b2 l (List.mem_of_getElem? hb)
   have hbox := S.heap b l hb'
   have hbox' := hbox.keep e (fun _ _ => rfl) (Nat.le_refl _) ⟨rfl, hF _ _ hbox.own (fun b' hb' => by injection hb' with hb'; omega), rfl⟩ (fun j g hg => ⟨rfl, hF g _ hg (fun b' hb' => by cases hb'), rfl⟩)
   obtain ⟨cs, T, h1, h2, h3, h4, h5⟩ := hbox'
   rw [← hβ b hlt]
   exact ⟨cs, T, h1, h2, h3, h4, fun j x u hx hu => (h5 j x u hx hu).np (npL_get hnl hx)⟩
  have plain : (if np r && (s'.H.take H.length).all npL && Nat.ble H.length s'.H.length then some (r, s'.H.take H.length) else none) = some (v, H') → ∃ F', Step w F w F' (fun g => (O g).isSome) ∧ H'.length = H.length ∧ argR P w F' β' H.length O (.slot t) v u ∧ heapR P w F' β' O H' := fun h => by
   split at h
   ·rename_i hb
    simp only [Bool.and_eq_true] at hb
    obtain ⟨⟨b1, b2⟩, b3⟩ := hb
    injection h with h
    injection h with e1 e2
    subst e1
    subst e2
    obtain ⟨q1, q2⟩ := kept F (Ext.refl _ _) (fun _ _ _ _ => rfl) b2 b3
    exact ⟨F, Step.refl _ _ _, q1, hr.np b1, q2⟩
   ·cases h
  split at h
  ·rename_i b off sz len cap
   split at h
   ·rename_i l hbl
    split at h
    ·rename_i hb
     simp only [Bool.and_eq_true] at hb
     obtain ⟨⟨⟨⟨⟨⟨⟨b1, b2⟩, b3⟩, b4⟩, b5⟩, b6⟩, b7⟩, b8⟩ := hb
     injection h with h
     injection h with e1 e2
     subst e1
     subst e2
     have hr' : b < s'.H.length ∧ u = .slice (some ⟨β b, off, none⟩) len cap := by
      have : relF w F β s'.H.length (.hsl b off sz len cap) u := hr
      simp only [relF] at this
      exact this
     obtain ⟨_, rfl⟩ := hr'
     obtain ⟨cs, T, g1, g2, g3, g4, g5⟩ := S.heap b l hbl
     have hHb := Nat.le_of_ble_eq_true b1
     have hoff := Nat.le_of_ble_eq_true b7
     obtain ⟨F', hF'⟩ : ∃ F' : Nat → Nat, ∀ g, F' g = if g = β b then off + len * sz else F g := ⟨_, fun _ => rfl⟩
     have hext : Ext w F w F' := ⟨fun _ _ _ _ h => h, fun g _ => by
      rw [hF']
      split
      ·rename_i h; rw [h, g2]; exact Nat.zero_le _
      ·exact Nat.le_refl _⟩
     obtain ⟨q1, q2⟩ := kept F' hext (fun g q hq hlt => by
      rw [hF', if_neg]
      intro hg
      subst hg
      rw [g3] at hq
      injection hq with hq
      have := hlt b hq.symm
      omega) b3 b2
     have hcells : cellsR w F' β' H.length l cs.toList := cellsR_of (by simpa using g4) (fun j x y hx hy => by
      have hlf := List.all_eq_true.1 b8 x (List.mem_of_getElem? hx)
      have hnp := npL_get b4 hx
      have := g5 j x y hx (by simpa using hy)
      refine ⟨hlf, relF.np (β := β) (h := s'.H.length) _ _ hnp (relF.ext hext (fun _ _ => rfl) (Nat.le_refl _) _ _ ?_)⟩
      cases x <;> first | exact this.2 | cases hlf)
     refine ⟨F', ⟨rfl, rfl, rfl, Nat.le_refl _, fun g _ hg => ⟨rfl, ?_⟩, hext⟩, q1, ?_, q2⟩
     ·rw [hF', if_neg]
      intro h
      subst h
      exact hg (by rw [g3]; rfl)
     ·show relF _ _ _ _ _ _
      simp only [relF]
      refine ⟨_, cap, (cs.toList.drop off).take (len * sz), by rw [chunk_length], by rw [chunk_length]; exact Nat.le_of_ble_eq_true b5, chunk_rows (Nat.le_of_ble_eq_true b6) (cellsR_drop hcells off) (by rw [List.length_drop]; omega), .inr ⟨β b, off, rfl, fun j y hj => ?_⟩⟩
      rw [List.getElem?_take] at hj
      split at hj
      ·rename_i hjl
       rw [List.getElem?_drop] at hj
       rw [cell_of_row w _ _ cs T (0, 0) g1]
       refine ⟨by simpa using hj, ?_⟩
       rw [hF', if_pos rfl]
       omega
      ·cases hj
    ·cases h
   ·cases h
  ·exact plain h
theorem entry_sim {vs : List AV} {us : List Value} {H : HH} {nt : Nat} {keep : List Nat} (E : Entry P w F β O vs us H) (h1 : vs.length ≤ nt) :
  Sim P nt ⟨[], keep.map fun n => (n, vs.getD n .undef), H, 0⟩ { tmps := us.toArray ++ Array.replicate (nt - us.toArray.size) undef, defers := [] } w F β O := by
 have hget : ∀ i, (⟨[], keep.map fun n => (n, vs.getD n .undef), H, 0⟩ : St).get i = (vs.getD i .undef, 0) ∨ (⟨[], keep.map fun n => (n, vs.getD n .undef), H, 0⟩ : St).get i = (.undef, 0) := fun i => by
  have : (⟨[], keep.map fun n => (n, vs.getD n .undef), H, 0⟩ : St).get i = (lookV i (keep.map fun n => (n, vs.getD n .undef)), 0) := rfl
  rw [this]
  rcases lookV_map (g := fun n => vs.getD n .undef) (i := i) (l := keep) with h | h
  ·exact .inl (by rw [h])
  ·exact .inr (by rw [h])
 have hlen := E.len
 refine ⟨by simp; omega, rfl, fun i hi => ?_, fun i u hu => ?_, E.heap, E.olt⟩
 ·rcases hget i with h | h
  ·rw [h]
   simp only [List.getD_eq_getElem?_getD]
   rw [List.getElem?_eq_none (by omega)]
   rfl
  ·rw [h]
 ·rcases hget i with h | h
  ·rw [h]
   show relS P w F β H.length O _ _ i (vs.getD i .undef) u
   by_cases hi : i < vs.length
   ·have hv : vs[i]? = some vs[i] := List.getElem?_eq_getElem hi
    have huu : us[i]? = some u := by
     rw [Array.getElem?_append_left (by simp; omega)] at hu
     simpa using hu
    have hgd : vs.getD i .undef = vs[i] := by rw [List.getD_eq_getElem?_getD, hv]; rfl
    rw [hgd]
    have r := E.args i _ u hv huu
    revert r
    cases vs[i] with
    | cap o e l => exact fun r => r
    | _ => exact fun r => relS_F r
   ·have : vs.getD i .undef = .undef := by rw [List.getD_eq_getElem?_getD, List.getElem?_eq_none (by omega)]; rfl
    rw [this]
    simp only [relS, relF]
  ·rw [h]
   simp only [relS, relF]
structure GoodF (P : Program) (g : FuncId) (call : List AV → HH → Option (AV × HH)) : Prop where
 runs : ∀ {vs H r}, call vs H = some r → ∃ fn, P.funcs[g]? = some fn ∧ (fn.name == "runtime.NumGoroutine") = false ∧ fn.body.isNone = false
 does : ∀ {vs H r H'}, call vs H = some (r, H') → ∀ {w F β O us}, Entry P w F β O vs us H → Calls P g us.toArray w fun e w' => ∃ v F' O', e = .returned v ∧ Back P w F β O H r H' v w' F' O'
def GoodS (P : Program) (g : FuncId) (call : List AV → HH → Option (AV × HH)) : Prop :=
 P.funcs.size ≤ 1000000 → ∀ {e l k e' l' H'}, call [.cap true e l, .fn k []] [] = some (.cap true e' l', H') → SortOk P g e l k l'
theorem Good.of {call : FuncId → List AV → HH → Option (AV × HH)} (h : ∀ g, g < 1000000 → GoodF P g (call g)) (h2 : ∀ g, GoodS P g (call (sortId g))) : Good P call := ⟨fun hs {g _ _ _ _ _ _} hc => h2 g hs hc, fun {g _ _ _} hg hc => (h g hg).runs hc, fun {g _ _ _ _} hg hc => (h g hg).does hc⟩
theorem body_sound {call : FuncId → List AV → HH → Option (AV × HH)} (hG : Good P call) {k : Nat} : GoodF P f (bodyA P fh k call f) := by
 refine ⟨fun {vs H r} h => ?_, fun {vs H r H'} h {w F β O us} E => ?_⟩
 ·unfold bodyA at h
  cases hf : P.funcs[f]? with
  | none => rw [hf] at h; cases h
  | some fn =>
   rw [hf] at h
   simp only [] at h
   cases hb : fn.body with
   | none => rw [hb] at h; cases h
   | some c =>
    rw [hb] at h
    simp only [] at h
    split at h
    ·rename_i hc
     simp only [Bool.and_eq_true] at hc
     exact ⟨fn, rfl, by simpa using hc.2, by rw [hb]; rfl⟩
    ·cases h
 ·unfold bodyA at h
  cases hf : P.funcs[f]? with
  | none => rw [hf] at h; cases h
  | some fn =>
   rw [hf] at h
   simp only [] at h
   cases hb : fn.body with
   | none => rw [hb] at h; cases h
   | some c =>
    rw [hb] at h
    simp only [] at h
    split at h
    ·rename_i hc
     simp only [Bool.and_eq_true, Nat.ble_eq] at hc
     obtain ⟨⟨⟨c1, c2⟩, c3⟩, c4⟩ := hc
     have S := entry_sim (nt := fn.ntmps) (keep := (fh f).keep) E c2
     refine calls_of_wp hf hb ?_
     cases hx : exec P fh f call fn.ntmps k c ⟨[], (fh f).keep.map fun n => (n, vs.getD n .undef), H, 0⟩ with
     | none => rw [hx] at h; cases h
     | some r1 =>
      rw [hx] at h
      refine wp_mono (exec_sound hG c _ r1 _ w F β O hx S) ?_
      rintro e a1 w1 ⟨he, F1, β1, O1, S1, t1, n1, b1, l1⟩
      obtain ⟨e1, s1⟩ := r1
      simp only [] at S1 l1
      have fin : (match fn.results.toList with
        | [x] => (match resA P fh f s1 x with | some (v, s) => leaveA H v s.H | none => none)
        | rs => (match resAll P (fun g => { fh g with capRes := false }) f s1 rs with | some (vs, s) => leaveA H (.tup vs) s.H | none => none)) = some (r, H') →
        ∃ v, (results fn a1.tmps).run P w1 = .ok v w1 ∧ ∃ u F' O', Ending.returned v = .returned u ∧ Back P w F β O H r H' u w1 F' O' := fun h => by
       have close : ∀ {F2 : Nat → Nat} {O2 : Nat → Option Own} {s2 : St} {y : AV} {u : Value} {t : Nat}, Sim P fn.ntmps s2 a1 w1 F2 β1 O2 → Step w1 F1 w1 F2 (fun g => (O1 g).isSome) → (∀ g, (O2 g).isSome → (O1 g).isSome) → s2.H.length = s1.H.length → argR P w1 F2 β1 s1.H.length O2 (.slot t) y u → leaveA H y s2.H = some (r, H') → ∃ u' F' O', Ending.returned u = .returned u' ∧ Back P w F β O H r H' u' w1 F' O' := fun {F2 O2 s2 y u t} S2 t2 n2 l2 hr hlv => by
        obtain ⟨F3, t3, q1, q2, q3⟩ := leave_sound S2 (by rw [l2]; exact l1) b1 hlv (t := t) (u := u) (by rw [l2]; exact hr)
        refine ⟨u, F3, O2, rfl, q1, ⟨t, q2⟩, q3, S2.olt, (t1.trans t2 (fun b hb hs => ?_)).trans t3 (fun b hb hs => ?_), fun g hg => n1 g (n2 g hg)⟩
        ·rcases n1 b hs with h | h
         ·exact h
         ·omega
        ·rcases n1 b (n2 b hs) with h | h
         ·exact h
         ·omega
       split at h
       ·rename_i x hrs
        cases hx : resA P fh f s1 x with
        | none => rw [hx] at h; cases h
        | some p =>
         obtain ⟨y, s2⟩ := p
         rw [hx] at h
         simp only [] at h
         obtain ⟨u, F2, O2, t, q1, S2, t2, n2, l2, hr, _⟩ := res_sound S1 hx
         refine ⟨u, ?_, close S2 t2 n2 l2 hr h⟩
         exact results_run (vs := [u]) (by rw [hrs]; rfl) (fun i x' y' hx' hy' => by
          rw [hrs] at hx'
          cases i with
          | zero => simp at hx' hy'; subst hx'; subst hy'; exact q1
          | succ i => simp at hx')
       ·rename_i hne
        cases hx : resAll P (fun g => { fh g with capRes := false }) f s1 fn.results.toList with
        | none => rw [hx] at h; cases h
        | some p =>
         obtain ⟨ys, s2⟩ := p
         rw [hx] at h
         simp only [] at h
         obtain ⟨us', F2, O2, q1, q2, S2, t2, n2, l2, hr⟩ := resAll_sound (fh := fun g => { fh g with capRes := false }) rfl S1 hx
         have hp : packed us' = .tuple us'.toArray := by
          unfold packed
          split
          ·rename_i v0
           cases hrs : fn.results.toList with
           | nil => rw [hrs] at q1; simp at q1
           | cons x0 rs0 =>
            cases rs0 with
            | nil => exact (hne x0 hrs).elim
            | cons _ _ => rw [hrs] at q1; simp at q1
          ·rfl
         refine ⟨_, results_run (vs := us') q1.symm q2, ?_⟩
         rw [hp]
         exact close (t := 0) S2 t2 n2 l2 (by show relF _ _ _ _ _ _; simp only [relF]; exact ⟨us', rfl, hr⟩) h
      cases e1 with
      | exit id => cases h
      | norm =>
       simp only [exOf] at he
       subst he
       exact ⟨S1.defers, fin h⟩
      | ret =>
       simp only [exOf] at he
       subst he
       exact ⟨S1.defers, fin h⟩
    ·cases h
theorem sortId_ge (g : FuncId) : 1000000 ≤ sortId g := by
 unfold sortId
 generalize 1000000 = k
 exact Nat.le_add_left _ _
def GoodX (P : Program) (ext : FuncId → Option (List AV → HH → Option (AV × HH))) : Prop := ∀ g c, ext g = some c → (g < 1000000 → GoodF P g c) ∧ (∀ g0, g = sortId g0 → GoodS P g0 c)
theorem run_next {ext : FuncId → Option (List AV → HH → Option (AV × HH))} (hext : GoodX P ext) (k : Nat) (ih : Good P (run P fh ext k)) (g : FuncId) : (g < 1000000 → GoodF P g (run P fh ext (k + 1) g)) ∧ (P.funcs.size ≤ g → ∀ args H, ext g = none → run P fh ext (k + 1) g args H = none) := by
 refine ⟨fun hg => ?_, fun hg args H he => ?_⟩
 ·cases he : ext g with
  | some c =>
   have : run P fh ext (k + 1) g = c := by funext args H; simp only [run, he]
   rw [this]
   exact (hext g c he).1 hg
  | none =>
   have : run P fh ext (k + 1) g = bodyA P fh k (run P fh ext k) g := by funext args H; simp only [run, he]
   rw [this]
   exact body_sound ih
 ·simp only [run, he]
  unfold bodyA
  rw [Array.getElem?_eq_none hg]
theorem run_sorts {ext : FuncId → Option (List AV → HH → Option (AV × HH))} (hext : GoodX P ext) (k : Nat) (h1 : ∀ g, P.funcs.size ≤ g → ∀ args H, ext g = none → run P fh ext (k + 1) g args H = none) (g g0 : FuncId) (h0 : 1000000 ≤ g) (hg : g = sortId g0) : GoodS P g0 (run P fh ext (k + 1) g) := by
 cases he : ext g with
 | some c =>
  have : run P fh ext (k + 1) g = c := by funext args H; simp only [run, he]
  rw [this]
  exact (hext _ c he).2 g0 hg
 | none =>
  intro hs e l k' e' l' H' h
  rw [h1 g (Nat.le_trans hs h0) _ _ he] at h
  cases h
theorem run_sound {ext : FuncId → Option (List AV → HH → Option (AV × HH))} (hext : GoodX P ext) : ∀ k, Good P (run P fh ext k)
 | 0 => Good.of (fun g _ => ⟨fun h => (by cases h), fun h => (by cases h)⟩) (fun g => by
  generalize sortId g = x
  intro _ e l k e' l' H' h
  cases h)
 | k + 1 => Good.of (fun g hg => (run_next hext k (run_sound hext k) g).1 hg) (fun g => run_sorts hext k (fun g => (run_next hext k (run_sound hext k) g).2) _ g (sortId_ge g) rfl)
end
end Go.Vai
