/- Calls: the operation. -/
import Derived.Test.YtcjcdammcmjbnaaGreatVaiN
namespace Go.Vai
section
variable {P : Program} {w w' : World} {F F' : Nat → Nat} {β β' : Nat → Nat} {O O' : Nat → Option Own} {n h h' : Nat} {s : St} {a : Act} {o : Oper} {ws : List W}
theorem apply_append (s : St) (x y : List W) : s.apply (x ++ y) = (s.apply x).apply y := by
 induction x generalizing s with
 | nil => rfl
 | cons w x ih => exact ih _
def ofHeap : Own → Bool
 | .hb _ | .pl (.hcell _ _) => true
 | _ => false
theorem Sim.swap (S : Sim P n s a w F β O) {H' : HH} (hl : H'.length = s.H.length) (e : Ext w F w' F') (hb : ∀ g q, O g = some q → s.held q → ofHeap q = false → w'.heap[g]? = w.heap[g]? ∧ F' g = F g ∧ O' g = some q)
  (hH : heapR P w' F' β O' H') (ho : ∀ g q, O' g = some q → g < w'.heap.size) : Sim P n (s.one (.heap H')) a w' F' β O' := by
 have hO : ∀ g q, O g = some q → s.held q → ofHeap q = false → w'.heap[g]? = w.heap[g]? ∧ F' g = F g ∧ O' g = O g := fun g q hq hh hne => by
  obtain ⟨h1, h2, h3⟩ := hb g q hq hh hne
  exact ⟨h1, h2, h3.trans hq.symm⟩
 have hcell : ∀ (p : Pl) (x : AV) (u : Value), ofHeap (.pl p) = false → (∀ o e m, x = .cap o e m → s.held (.pl p)) → relCell P w F β s.H.length O p x u → relCell P w' F' β s.H.length O' p x u := fun p x u hp0 hp r => by
  cases x with
  | cap o e' m => exact relCap.keep r e (fun _ _ => rfl) (Nat.le_refl _) (fun g hg => hO g _ hg (hp o e' m rfl) hp0)
  | undef => trivial
  | _ => exact ⟨r.1, relF.ext e (fun _ _ => rfl) (Nat.le_refl _) _ _ r.2⟩
 have hlen : (s.one (.heap H')).H.length = s.H.length := hl
 have hle : ∀ p ver, s.le p ver → (s.one (.heap H')).le p ver := fun p ver h => by
  cases p with
  | hcell b off => exact Nat.le_succ_of_le h
  | slot m => exact h
  | lcell m off => exact h
 have hval : ∀ p ver, s.le p ver → (s.one (.heap H')).valid p ver → s.valid p ver ∧ (s.capped p → (s.one (.heap H')).capped p ∧ valAt a w' β p = valAt a w β p) := fun p ver h h' => by
  cases p with
  | hcell b off => simp only [St.le, St.valid, St.one] at h h'; omega
  | slot m => exact ⟨h', fun hc => ⟨hc, rfl⟩⟩
  | lcell m off =>
   refine ⟨h', fun hc => ⟨hc, ?_⟩⟩
   obtain ⟨o, e', l0, hp⟩ := hc
   simp only [valAt]
   simp only [St.av] at hp
   split
   ·rename_i ad hu
    have := S.slots m _ hu
    revert this hp
    cases hv : (s.get m).1 with
    | box l =>
     intro _ r
     obtain ⟨b2, he, r⟩ := r
     injection he with he
     injection he with he
     subst he
     exact cell_block (hb _ _ r.own (.inr ⟨l, hv⟩) rfl).1
    | _ => intro h _; cases h
   ·rfl
 refine ⟨S.size, S.defers, S.out, fun i u hu => ?_, by exact hH, ho⟩
 have r := S.slots i u hu
 show relS P w' F' β (s.one (.heap H')).H.length O' _ a i (s.get i).1 u
 rw [hlen]
 revert r
 cases hv : (s.get i).1 with
 | cap o e' l => exact fun r => relCap.keep r e (fun _ _ => rfl) (Nat.le_refl _) (fun g hg => hO g _ hg (.inl ⟨o, e', l, hv⟩) rfl)
 | box l =>
  rintro ⟨b2, rfl, cs, T, h1, h2, h3, h4, h5⟩
  obtain ⟨h6, h7, h8⟩ := hO b2 _ h3 (.inr ⟨l, hv⟩) rfl
  exact ⟨b2, rfl, cs, T, h6.trans h1, h7.trans h2, h8.trans h3, h4, fun j x u hx hu => hcell _ _ _ rfl (fun o e' m he => box_capped hv (by rw [← he]; exact hx)) (h5 j x u hx hu)⟩
 | ref p ver =>
  rintro ⟨h1, h2⟩
  refine ⟨hle p ver h1, fun hv' => ?_⟩
  obtain ⟨h3, h4⟩ := hval p ver h1 hv'
  obtain ⟨h5, h6⟩ := h2 h3
  exact ⟨(h4 h5).1, (h4 h5).2.trans h6⟩
 | lptr m ver off => exact fun r => r
 | eaddr p ver sz j off =>
  rintro ⟨h1, h2⟩
  refine ⟨hle p ver h1, fun hv' => ?_⟩
  obtain ⟨h3, h4⟩ := hval p ver h1 hv'
  obtain ⟨h5, g, m, c, h6, h7⟩ := h2 h3
  exact ⟨(h4 h5).1, g, m, c, (h4 h5).2.trans h6, h7⟩
 | _ => exact fun r => relF.ext e (fun _ _ => rfl) (Nat.le_refl _) _ _ r
def callO (on : Bool) (n : Nat) (O : Nat → Option Own) (g : Nat) : Option Own :=
 match O g with
 | some (.pl (.slot k)) => if n ≤ k then some (.pl (.slot (k - n))) else none
 | some (.hb b) => if on then some (.hb b) else none
 | some (.pl (.hcell b j)) => if on then some (.pl (.hcell b j)) else none
 | _ => none
def backO (on : Bool) (n t d : Nat) (w : World) (O O' : Nat → Option Own) (g : Nat) : Option Own :=
 if g < w.heap.size ∧ callO on n O g = none then O g
 else match O' g with
  | some (.pl (.slot k)) => if k = t then some (.pl (.slot d)) else none
  | some (.hb b) => if on then some (.hb b) else none
  | some (.pl (.hcell b j)) => if on then some (.pl (.hcell b j)) else none
  | _ => none
theorem argR.to {p q : Pl} {v : AV} {u : Value} (r : argR P w F β h O p v u) (hO : ∀ g, O g = some (.pl p) → O' g = some (.pl q)) : argR P w F β h O' q v u := by
 cases v <;> first | exact relCap.to r (fun g _ hg => hO g hg) | exact r
theorem argR.np {p : Pl} {v : AV} {u : Value} (hn : Go.Vai.np v = true) (r : argR P w F β h O p v u) : argR P w F β' h' O p v u := by
 cases v <;> first | exact relCap.np (by simpa only [Go.Vai.np] using hn) r | exact relF.np (β := β) (h := h) _ _ hn r
theorem call_run {c : Call} {gx : Operand} {g : FuncId} {cv : List Value} (ho : o.op = .call c) (hc : c.callee = .value gx) (hg : a.eval gx = .func (.func g) #[] cv.toArray) {fn : Func} (h1 : P.funcs[g]? = some fn) (h2 : (fn.name == "runtime.NumGoroutine") = false) (h3 : fn.body.isNone = false) :
  (execOp a.eval o).run P w = .ok (.enter g (c.args.toList.map a.eval ++ cv).toArray) w := by
 have e : c.args.map a.eval ++ cv.toArray = (c.args.toList.map a.eval ++ cv).toArray := by
  apply Array.ext'
  simp
 simp only [execOp, ho, resolve, hc, hg, Deferred.ofValue, Sem.run_bind, Sem.run_pure, Result.andThen_ok, invoke, Array.empty_append, e]
 have h2' : ¬ fn.name = "runtime.NumGoroutine" := fun h => by rw [h] at h2; simp at h2
 have h3' : ¬ fn.body = none := fun h => by rw [h] at h3; cases h3
 simp [callFunc, h1, h2', h3']
theorem npL_get {l : List AV} (hn : npL l = true) {i : Nat} {x : AV} (hx : l[i]? = some x) : np x = true := by
 induction l generalizing i with
 | nil => simp at hx
 | cons y l ih =>
  simp only [npL, Bool.and_eq_true] at hn
  cases i with
  | zero => simp at hx; subst hx; exact hn.1
  | succ i => simp at hx; exact ih hn.2 hx
theorem ok_call (S : Sim P n s a w F β O) (hd : ∀ d, o.dst = some d → d < n) {fh : FuncId → FH} {call : FuncId → List AV → HH → Option (AV × HH)} (hG : Good P call) {c : Call} {gx : Operand} (ho : o.op = .call c) (hc : c.callee = .value gx)
  {g : FuncId} {cs : List AV} (h1 : (valO P 0 gx).run s = some (.fn g cs)) (k1 : (callE P fh call o c g cs).run s = some ws) : OpOk P n s a w F β O o ws := by
 ·obtain ⟨cv, hg, hcv⟩ := relS_fn ((valO_sound S h1).2 0)
  unfold callE at k1
  obtain ⟨⟨vs, w1⟩, h2, k2⟩ := Q.bind_some k1
  clear k1
  simp only [] at k2
  split at k2
  ·rename_i hb
   simp only [Bool.and_eq_true, Nat.ble_eq] at hb
   obtain ⟨⟨⟨b1, b2⟩, b3⟩, b4⟩ := hb
   have b3 := beq_eq b3
   have b4 : g < 1000000 := by simpa [Nat.blt_eq] using b4
   obtain ⟨F1, O1, S1, g3, g4, g5, _, hlen, hargs⟩ := args_sound S h2 b1
   obtain ⟨eH, eV⟩ := leaves_H b2 s
   have hzl : (c.argTypes.toList.zip c.args.toList).length = c.args.toList.length := by simp [b3]
   have hz2 : ∀ (j : Nat) (p : TypeId × Operand), (c.argTypes.toList.zip c.args.toList)[j]? = some p → (c.args.toList.map a.eval)[j]? = some (a.eval p.2) := fun j p hp => by
    have := List.getElem?_zip_eq_some.1 hp
    rw [List.getElem?_map, this.2]
    rfl
   have harg : ∀ i v u, vs[i]? = some v → (c.args.toList.map a.eval)[i]? = some u → argR P w F1 β s.H.length O1 (.slot (n + i)) v u := fun i v u hv hu => by
    have hi : i < (c.argTypes.toList.zip c.args.toList).length := by rw [← hlen]; exact (List.getElem?_eq_some_iff.1 hv).1
    have hp := List.getElem?_eq_getElem hi
    have := hargs i v _ hv hp
    rw [hz2 i _ hp] at hu
    injection hu with hu
    rw [← hu, show n + i = n + (0 + i) by omega]
    exact this
   have hslot : ∀ (on : Bool) i g, O1 g = some (.pl (.slot (n + i))) → callO on n O1 g = some (.pl (.slot i)) := fun on i g hg => by
    unfold callO
    rw [hg]
    simp
   have holt : ∀ (on : Bool) g q, callO on n O1 g = some q → g < w.heap.size := fun on g q hq => by
    unfold callO at hq
    cases hx : O1 g with
    | none => rw [hx] at hq; cases hq
    | some q' => exact S1.olt g q' hx
   have hmono : ∀ (on : Bool) g, (callO on n O1 g).isSome → (O1 g).isSome := fun on g hq => by
    unfold callO at hq
    cases hx : O1 g with
    | none => rw [hx] at hq; cases hq
    | some q' => rfl
   have hheld : ∀ (on : Bool) g q, O1 g = some q → (s.apply w1).held q → (on = true → ofHeap q = false) → callO on n O1 g = none := fun on g q hq hh hn => by
    unfold callO
    rw [hq]
    cases q with
    | hb b => cases on with
     | true => cases hn rfl
     | false => rfl
    | pl p =>
     cases p with
     | slot k =>
      simp only []
      rw [if_neg]
      intro hk
      have := S1.out k hk
      simp only [St.held, this] at hh
      rcases hh with ⟨_, _, _, h⟩ | ⟨_, h⟩ <;> cases h
     | lcell k off => rfl
     | hcell b j => cases on with
      | true => cases hn rfl
      | false => rfl
   have behind : ∀ (on : Bool) (H H' : HH) (r : AV) (s2 : St) (h0 : Nat), H.length = h0 → h0 ≤ s.H.length → one o.dst r = one o.dst r → (∀ v w' F' O', Back P w F1 β (callO on n O1) H r H' v w' F' O' →
      (∀ t d, Sim P n s2 a w' F' β (backO on n t d w O1 O'))) → s2.H.length = s.H.length → ws = w1 ++ (if on then [W.heap H'] else []) ++ dstW o.dst r → s2 = (s.apply w1).apply (if on then [W.heap H'] else []) →
     ∀ (next : Act → World → Prop) (R : Exit → Act → World → Prop), (∀ a' w', Nxt P n s w F β O (s.apply ws) a' w' → next a' w') →
     ∀ e w', (∃ v F' O', e = Ending.returned v ∧ Back P w F1 β (callO on n O1) H r H' v w' F' O') → ∃ v, e = .returned v ∧ next (a.put o.dst v) w' := by
    intro on H H' r s2 h0 hH0 h0le _ hS2 hH2 hws hs2 next R hn e w' hB
    obtain ⟨v, F', O', rfl, B⟩ := hB
    refine ⟨v, rfl, hn _ _ ?_⟩
    obtain ⟨t, hr⟩ := B.res
    have hfin : s.apply ws = s2.apply (dstW o.dst r) := by rw [hws, apply_append, apply_append, hs2]
    rw [hfin]
    refine Nxt.after g3 g4 g5 ?_
    have hstep : Step w F1 w' F' (fun g => (O1 g).isSome) := B.step.mono (fun g _ hg => hmono on g hg)
    have hnew : ∀ d g, (backO on n t d w O1 O' g).isSome → (O1 g).isSome ∨ w.heap.size ≤ g := fun d g hg => by
     unfold backO at hg
     split at hg
     ·exact .inl hg
     ·have hso : (O' g).isSome := by
       cases hx : O' g with
       | none => rw [hx] at hg; cases hg
       | some q => rfl
      rcases B.new g hso with h | h
      ·exact .inl (hmono on g h)
      ·exact .inr h
    cases hdst : o.dst with
    | none => exact ⟨F', β, _, hS2 v w' F' O' B t 0, hstep, hnew 0, fun _ _ => rfl, by rw [g5, ← hH2]; exact Nat.le_refl _⟩
    | some d =>
     have hdn := hd d hdst
     have T := hS2 v w' F' O' B t d
     refine ⟨F', β, _, T.slot hdn (v := r) (u := v) ?_, hstep, hnew d, fun _ _ => rfl, by rw [g5, ← hH2]; exact Nat.le_refl _⟩
     rw [hH2]
     have hsl : ∀ g, O' g = some (.pl (.slot t)) → backO on n t d w O1 O' g = some (.pl (.slot d)) := fun g hg => by
      unfold backO
      rw [if_neg]
      ·rw [hg]; simp
      ·rintro ⟨h4, h5⟩
       rcases B.new g (by rw [hg]; rfl) with h | h
       ·rw [h5] at h; cases h
       ·omega
     have hr2 := hr.to hsl
     rw [hH0] at hr2
     cases r with
     | cap o e l => exact relCap.keep hr2 (Ext.refl _ _) (fun _ _ => rfl) h0le (fun _ _ => ⟨rfl, rfl, rfl⟩)
     | _ => exact relS_F (relF.ext (Ext.refl _ _) (fun _ _ => rfl) h0le _ _ hr2)
   have hbolt : ∀ (on : Bool) H H' r v w' F' O' t d, Back P w F1 β (callO on n O1) H r H' v w' F' O' → ∀ g q, backO on n t d w O1 O' g = some q → g < w'.heap.size := fun on H H' r v w' F' O' t d B g q hq => by
    unfold backO at hq
    split at hq
    ·exact Nat.lt_of_lt_of_le (S1.olt g q hq) B.step.size
    ·cases hx : O' g with
     | none => rw [hx] at hq; cases hq
     | some q' => exact B.olt g q' hx
   have hbkeep : ∀ (on : Bool) H H' r v w' F' O' t d, Back P w F1 β (callO on n O1) H r H' v w' F' O' → ∀ g q, O1 g = some q → (s.apply w1).held q → (on = true → ofHeap q = false) → w'.heap[g]? = w.heap[g]? ∧ F' g = F1 g ∧ backO on n t d w O1 O' g = some q := fun on H H' r v w' F' O' t d B g q hq hh hne => by
    have hn := hheld on g q hq hh hne
    have hlt := S1.olt g q hq
    obtain ⟨h4, h5⟩ := B.step.block g hlt (by rw [hn]; simp)
    refine ⟨h4, h5, ?_⟩
    unfold backO
    rw [if_pos ⟨hlt, hn⟩]
    exact hq
   split at k2
   ·rename_i hpure
    simp only [Bool.and_eq_true, List.isEmpty_iff] at hpure
    obtain ⟨hce, hnp⟩ := hpure
    subst hce
    have hcv0 : cv = [] := by simpa only [listR] using hcv
    subst hcv0
    split at k2
    ·rename_i r hcall
     obtain ⟨fn, f1, f2, f3⟩ := hG.runs b4 hcall
     have hE : Entry P w F1 β (callO false n O1) vs (c.args.toList.map a.eval ++ []) [] := by
      refine ⟨by rw [List.append_nil, List.length_map, hlen, hzl], fun i v u hv hu => ?_, fun b l hl => by simp at hl, holt false⟩
      rw [List.append_nil] at hu
      exact argR.np (npL_get hnp hv) ((harg i v u hv hu).to (hslot false i))
     intro next R hn
     unfold Oper.wp
     rw [call_run ho hc hg f1 f2 f3]
     rw [Oper.upon_enter]
     refine Calls.mono (hG.does b4 hcall hE) (fun e w' hB => ?_)
     obtain ⟨v, rfl, hq⟩ := behind false [] [] r (s.apply w1) 0 rfl (Nat.zero_le _) rfl (fun v w' F' O' B t d => S1.world B.step.ext (fun g q hq hh => hbkeep false _ _ _ _ _ _ _ t d B g q hq hh (by simp)) (fun _ _ => rfl) (hbolt false _ _ _ _ _ _ _ t d B)) g5 (by rw [one_some k2]; simp) rfl next R hn e w' hB
     exact hq
    ·cases k2
   ·simp only [Q.run] at k2
    split at k2
    ·rename_i r H' hcall
     obtain ⟨fn, f1, f2, f3⟩ := hG.runs b4 hcall
     have hcvl := listR_length hcv
     have hE : Entry P w F1 β (callO true n O1) (vs ++ cs) (c.args.toList.map a.eval ++ cv) s.H := by
      have hl2 : (c.args.toList.map a.eval).length = vs.length := by rw [List.length_map, hlen, hzl]
      refine ⟨by rw [List.length_append, List.length_append, hl2, hcvl], fun i v u hv hu => ?_, fun b l hl => ?_, holt true⟩
      ·by_cases hi : i < vs.length
       ·rw [List.getElem?_append_left hi] at hv
        rw [List.getElem?_append_left (by omega)] at hu
        exact (harg i v u hv hu).to (hslot true i)
       ·rw [List.getElem?_append_right (by omega)] at hv hu
        rw [hl2] at hu
        obtain ⟨u', hu', hr⟩ := listR_get hcv hv
        rw [hu] at hu'
        injection hu' with hu'
        subst hu'
        have := relF.ext g3.ext (fun _ _ => rfl) (Nat.le_refl s.H.length) _ _ hr (β' := β)
        cases v <;> first | exact this | (simp only [relF] at this)
      ·have := S1.heap b l (by rw [eH]; exact hl)
       rw [g5] at this
       have hO2 : ∀ g q, O1 g = some q → ofHeap q = true → callO true n O1 g = O1 g := fun g q hq hh => by
        unfold callO
        rw [hq]
        cases q with
        | hb b => rfl
        | pl p => cases p <;> first | rfl | cases hh
       exact this.keep (Ext.refl _ _) (fun _ _ => rfl) (Nat.le_refl _) ⟨rfl, rfl, hO2 _ _ this.own rfl⟩ (fun j g hg => ⟨rfl, rfl, hO2 g _ hg rfl⟩)
     intro next R hn
     unfold Oper.wp
     rw [call_run ho hc hg f1 f2 f3]
     rw [Oper.upon_enter]
     refine Calls.mono (hG.does b4 hcall hE) (fun e w' hB => ?_)
     have hHl : H'.length = s.H.length := by obtain ⟨v, F', O', _, B⟩ := hB; exact B.len
     obtain ⟨v, rfl, hq⟩ := behind true s.H H' r ((s.apply w1).one (.heap H')) s.H.length rfl (Nat.le_refl _) rfl (fun v w' F' O' B t d => S1.swap (by rw [g5]; exact B.len) B.step.ext (fun g q hq hh hne => hbkeep true _ _ _ _ _ _ _ t d B g q hq hh (fun _ => hne)) (fun b l hl => by
       have := B.heap b l hl
       rw [B.len] at this ⊢
       have hO2 : ∀ g q, O' g = some q → ofHeap q = true → backO true n t d w O1 O' g = O' g := fun g q hq hh => by
        unfold backO
        rw [if_neg]
        ·rw [hq]
         cases q with
         | hb b => rfl
         | pl p => cases p <;> first | rfl | cases hh
        ·rintro ⟨h4, h5⟩
         rcases B.new g (by rw [hq]; rfl) with h | h
         ·rw [h5] at h; cases h
         ·omega
       exact this.keep (Ext.refl _ _) (fun _ _ => rfl) (Nat.le_refl _) ⟨rfl, rfl, hO2 _ _ this.own rfl⟩ (fun j g hg => ⟨rfl, rfl, hO2 g _ hg rfl⟩)) (hbolt true _ _ _ _ _ _ _ t d B)) hHl (by rw [one_some k2]; simp) rfl next R hn e w' hB
     exact hq
    ·cases k2
  ·cases k2
theorem ok_sort (S : Sim P n s a w F β O) (hd : ∀ d, o.dst = some d → d < n) {call : FuncId → List AV → HH → Option (AV × HH)} (hG : Good P call) {c : Call} {gx : Operand} (ho : o.op = .call c) (hc : c.callee = .value gx)
  {g : FuncId} (h1 : (valO P 0 gx).run s = some (.fn g [])) (k1 : (sortE P call o c g).run s = some ws) : OpOk P n s a w F β O o ws := by
 obtain ⟨cv, hg, hcv⟩ := relS_fn ((valO_sound S h1).2 0)
 have hcv0 : cv = [] := by simpa only [listR] using hcv
 subst hcv0
 unfold sortE at k1
 split at k1
 ·rename_i t u x y hts hxs
  split at k1
  ·rename_i hsz
   have hsz := Nat.le_of_ble_eq_true hsz
   obtain ⟨va, h2, k2⟩ := Q.bind_some k1
   obtain ⟨vk, h3, k3⟩ := Q.bind_some k2
   clear k1 k2
   split at k3
   ·rename_i m ver k
    obtain ⟨⟨own, e, l⟩, h4, k4⟩ := Q.bind_some k3
    clear k3
    obtain ⟨h5, h6⟩ := capAt_run h4
    simp only [] at h6 k4
    split at k4
    ·rename_i hown
     subst hown
     split at k4
     ·rename_i e' l' hcall
      split at k4
      ·rename_i hee
       have hee := beq_eq hee
       subst hee
       obtain ⟨⟨fn, f1, f2, f3⟩, hdo⟩ := hG.sorts hsz hcall
       obtain ⟨_, h7⟩ := (valO_sound S h2).2 0
       obtain ⟨_, h8⟩ := h7 h5
       obtain ⟨uv, h9, h10⟩ := cap_at S h6
       rw [h8] at h9
       injection h9 with h9
       obtain ⟨hk, _, _⟩ := shareO_sound S h3
       have hk' : a.eval y = .func (.func k) #[] #[] := by
        simp only [relF] at hk
        obtain ⟨vs, e1, e2⟩ := hk
        simp only [listR] at e2
        rw [e1, e2]
       have hm : a.tmps[m]? = some uv := by rw [← h9]; exact h8
       have hm' : m < n := by
        rcases Nat.lt_or_ge m n with h | h
        ·exact h
        ·simp only [St.av] at h6; rw [S.out m h] at h6; cases h6
       intro next R hn
       unfold Oper.wp
       rw [call_run ho hc (by simpa using hg) f1 f2 f3]
       rw [Oper.upon_enter]
       have hargs : (c.args.toList.map a.eval ++ []).toArray = #[uv, .func (.func k) #[] #[]] := by
        rw [hxs]
        simp only [List.map_cons, List.map_nil, List.append_nil, hk', h9]
       rw [hargs]
       refine Calls.mono (hdo h10 S.olt) (fun r w' hB => ?_)
       obtain ⟨rfl, F', hr, hst, hF⟩ := hB
       refine hn _ _ ?_
       rw [one_some k4]
       have hown : ∀ b q, O b = some q → q ≠ .pl (.slot m) → w'.heap[b]? = w.heap[b]? ∧ F' b = F b := fun b q hq hne => hst.block b (S.olt b q hq) (fun hb => by
        obtain ⟨inner, _, _, hO⟩ := h10
        rw [(hO b hb).1] at hq
        injection hq with hq
        exact hne hq.symm)
       have T : Sim P n (s.one (.slot m (.cap true e l'))) a w' F' β O := by
        have := S.slotW hm' (v := .cap true e l') (u := uv) hst.ext (fun b q hq _ hn => ⟨(hown b q hq (fun h => hn (by rw [h]; rfl))).1, (hown b q hq (fun h => hn (by rw [h]; rfl))).2, hq⟩) (fun _ _ => rfl) (fun b q hq => Nat.lt_of_lt_of_le (S.olt b q hq) hst.size) hr
        rw [put_same hm] at this
        exact this
       have hstep : Step w F w' F' (fun g => (O g).isSome) := hst.mono (fun b _ hb => by
        obtain ⟨inner, _, _, hO⟩ := h10
        rw [(hO b hb).1]; rfl)
       cases hdst : o.dst with
       | none => exact ⟨F', β, O, T, hstep, fun b hb => .inl hb, fun _ _ => rfl, Nat.le_refl _⟩
       | some d => exact ⟨F', β, O, T.slotF (hd d hdst) (v := .tup []) (u := .tuple #[]) (by simp only [relF]; exact ⟨[], rfl, by simp only [listR]⟩), hstep, fun b hb => .inl hb, fun _ _ => rfl, Nat.le_refl _⟩
      ·cases k4
     ·cases k4
    ·cases k4
   ·cases k3
  ·cases k1
 ·cases k1
theorem lastCap_some {d : Nat} {e : TypeId} {l : List AV} : ∀ {ws : List W}, lastCap ws = some (d, e, l) → ∃ pre, ws = pre ++ [.slot d (.cap true e l)]
 | [], h => by cases h
 | [x], h => by
  unfold lastCap at h
  split at h
  ·cases h
  ·injection h with h
   injection h with h1 h2
   injection h2 with h2 h3
   subst h1 h2 h3
   rename_i hx
   injection hx with hx
   exact ⟨[], by rw [hx]; rfl⟩
  ·rename_i hx
   injection hx with _ hx
   subst hx
   cases h
 | x :: y :: ws, h => by
  have h : lastCap (y :: ws) = some (d, e, l) := by
   unfold lastCap at h
   split at h
   ·cases h
   ·rename_i hx; injection hx with _ hx; cases hx
   ·rename_i hx; injection hx with _ hx; subst hx; exact h
  obtain ⟨pre, hp⟩ := lastCap_some h
  exact ⟨x :: pre, by rw [hp]; rfl⟩
theorem OpOk.weak {m : Nat} (h : OpOk P n s a w F β O o ws) : OpOk P n s a w F β O o (weakL m ws) := by
 intro next R hn
 refine h next R (fun a' w' N => hn a' w' ?_)
 unfold weakL
 split
 ·cases hl : lastCap ws with
  | none => exact N
  | some x =>
   obtain ⟨d, e, l⟩ := x
   obtain ⟨pre, hp⟩ := lastCap_some hl
   obtain ⟨F1, β1, O1, S1, t1, n1, b1, l1⟩ := N
   have hav : (s.apply ws).av (.slot d) = .cap true e l := by
    rw [hp, apply_append]
    simp only [St.apply, St.one, St.av, get_set, if_pos]
   have hdn : d < n := by
    rcases Nat.lt_or_ge d n with h | h
    ·exact h
    ·have := S1.out d h
     simp only [St.av] at hav
     rw [this] at hav
     cases hav
   obtain ⟨u, F2, O2, g1, S2, g2, g3, g4, g5⟩ := S1.move hav (.slot d) false (fun h => by cases h)
   have T := S2.slot hdn (v := .cap false e l) (u := u) (by rw [g5]; exact g2)
   rw [put_same g1] at T
   have e1 : s.apply (ws ++ [W.slot d .undef, W.slot d (.cap false e l)]) = ((s.apply ws).one (gone (.slot d))).one (.slot d (.cap false e l)) := by
    rw [apply_append]
    rfl
   show Nxt P n s w F β O (s.apply (ws ++ [W.slot d .undef, W.slot d (.cap false e l)])) a' w'
   rw [e1]
   refine ⟨F2, β1, O2, T, t1.trans g3 (fun b hb hs => ?_), fun g hg => ?_, b1, ?_⟩
   ·rcases n1 b hs with h | h
    ·exact h
    ·omega
   ·exact n1 g (g4 g hg)
   ·show s.H.length ≤ ((s.apply ws).one (gone (.slot d))).H.length
    rw [g5]
    exact l1
 ·exact N
theorem ok_value (S : Sim P n s a w F β O) (hd : ∀ d, o.dst = some d → d < n) {fh : FuncId → FH} {call : FuncId → List AV → HH → Option (AV × HH)} (hG : Good P call) {c : Call} {gx : Operand} (ho : o.op = .call c) (hc : c.callee = .value gx)
  {m : Nat} (h : ((valO P 0 gx).bind fun g => match g with | .fn g cs => (valueE P fh call o c g cs).bind fun ws => .ret (weakL m ws) | _ => Q.fail).run s = some ws) : OpOk P n s a w F β O o ws := by
 obtain ⟨v, h1, k1⟩ := Q.bind_some h
 clear h
 split at k1
 ·rename_i g cs
  obtain ⟨ws0, k3, k2⟩ := Q.bind_some k1
  have := Q.ret_some k2
  subst this
  clear k1 k2
  refine OpOk.weak ?_
  unfold valueE at k3
  split at k3
  ·rename_i hb
   simp only [Bool.and_eq_true, List.isEmpty_iff] at hb
   obtain ⟨rfl, _⟩ := hb
   exact ok_sort S hd hG ho hc h1 k3
  ·exact ok_call S hd hG ho hc h1 k3
 ·cases k1
end
end Go.Vai
