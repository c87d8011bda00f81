/- What the machine's operations do: variables, scalars, slices, functions. -/
import Derived.Test.YtpnpeeloeifccaaVaiH
namespace Go.Vai
section
variable {P : Program} {w w' : World} {F F' : Nat → Nat} {β β' : Nat → Nat} {O O' : Nat → Option Own} {n : Nat} {s : St} {a : Act} {o : Oper} {ws : List W}

theorem pureOf_run {α : Type} {x : Sem α} {v : α} (h : pureOf P x = some v) : x.run P w = .ok v w := by
  induction x with
  | pure a => simp only [pureOf] at h; injection h with h; subst h; rfl
  | program k ih => simp only [pureOf] at h; simp only [Sem.run]; exact ih _ h
  | mark m k ih => simp only [pureOf] at h; simp only [Sem.run]; exact ih h
  | _ => simp only [pureOf] at h; cases h
theorem ofSem_some {x : Sem Value} {v : AV} (h : (ofSem P x).run s = some v) : ∃ c, v = .sc c ∧ isSc c = true ∧ x.run P w = .ok c w := by
  unfold ofSem at h
  split at h
  · rename_i c hc
    split at h
    · rename_i hs
      have := Q.ret_some h
      subst this
      exact ⟨c, rfl, hs, pureOf_run hc⟩
    · cases h
  · cases h
theorem scOf_go {h : Nat} : ∀ {l : List AV} {cs us : List Value}, scOf.go l = some cs → cellsR w F β h l us → us = cs
  | [], cs, us, hg, hr => by
    simp only [scOf.go] at hg
    injection hg with hg
    subst hg
    simp only [cellsR] at hr
    exact hr
  | x :: l, cs, us, hg, hr => by
    simp only [cellsR] at hr
    obtain ⟨u, c2, rfl, hx, hu, hr⟩ := hr
    cases x with
    | sc c =>
      simp only [scOf.go] at hg
      cases hl : scOf.go l with
      | none => rw [hl] at hg; cases hg
      | some ds =>
        rw [hl] at hg
        simp only [Option.map_some] at hg
        injection hg with hg
        subst hg
        rw [scOf_go hl hr]
        simp only [relF] at hu
        rw [hu.1]
    | _ => simp only [scOf.go] at hg; cases hg
theorem scOf_sound {i : Nat} {v : AV} {c u : Value} (r : relS P w F β s.H.length O s a i v u) (h : scOf v = some c) : u = c := by
  cases v with
  | sc k => simp only [scOf] at h; injection h with h; subst h; exact (relS_sc r).1
  | agg l =>
    simp only [scOf] at h
    obtain ⟨us, hu, hr⟩ := relS_agg r
    cases hl : scOf.go l with
    | none => rw [hl] at h; cases h
    | some cs =>
      rw [hl] at h
      simp only [Option.map_some] at h
      injection h with h
      subst h
      rw [hu, scOf_go hl hr]
  | _ => simp only [scOf] at h; cases h

theorem ok_binOp (S : Sim P n s a w F β O) (hd : ∀ d, o.dst = some d → d < n) {op : BinOp} {t t' : TypeId} {x y : Operand} (ho : o.op = .binOp op t x y t')
    (h : ((valO P t x).bind fun a => (valO P t y).bind fun b => match scOf a, scOf b with
    | some a, some b => (ofSem P (do eqGuard op t x y a b; binOp op t a b)).bind fun v => one o.dst v
    | _, _ => Q.fail).run s = some ws) : OpOk P n s a w F β O o ws := by
  obtain ⟨v1, h1, k1⟩ := Q.bind_some h
  obtain ⟨v2, h2, k2⟩ := Q.bind_some k1
  clear h k1
  split at k2
  · rename_i c1 c2 e1 e2
    obtain ⟨v, h3, k3⟩ := Q.bind_some k2
    obtain ⟨c, rfl, hs, hrun⟩ := ofSem_some (w := w) h3
    have r1 := scOf_sound ((valO_sound S h1).2 0) e1
    have r2 := scOf_sound ((valO_sound S h2).2 0) e2
    refine finF S hd rfl (sc_rel hs) k3 ?_
    simp only [execOp, ho, r1, r2]
    rw [Sem.run_bind, hrun]
    rfl
  · cases k2
theorem ok_unOp (S : Sim P n s a w F β O) (hd : ∀ d, o.dst = some d → d < n) {op : UnOp} {t : TypeId} {x : Operand} (ho : o.op = .unOp op t x)
    (h : ((valO P 0 x).bind fun a => match a with | .sc a => (ofSem P (Op.unary op a)).bind fun v => one o.dst v | _ => Q.fail).run s = some ws) : OpOk P n s a w F β O o ws := by
  obtain ⟨v1, h1, k1⟩ := Q.bind_some h
  have r1 := (valO_sound S h1).2 0
  cases v1 with
  | sc c1 =>
    obtain ⟨v, h3, k3⟩ := Q.bind_some k1
    obtain ⟨c, rfl, hs, hrun⟩ := ofSem_some (w := w) h3
    refine finF S hd rfl (sc_rel hs) k3 ?_
    simp only [execOp, ho, (relS_sc r1).1]
    rw [Sem.run_bind, hrun]
    rfl
  | _ => cases k1
theorem ok_convert (S : Sim P n s a w F β O) (hd : ∀ d, o.dst = some d → d < n) {t u : TypeId} {x : Operand} (ho : o.op = .convert t u x)
    (h : ((valO P t x).bind fun a => match a with | .sc a => (ofSem P (convert t u a)).bind fun v => one o.dst v | _ => Q.fail).run s = some ws) : OpOk P n s a w F β O o ws := by
  obtain ⟨v1, h1, k1⟩ := Q.bind_some h
  have r1 := (valO_sound S h1).2 0
  cases v1 with
  | sc c1 =>
    obtain ⟨v, h3, k3⟩ := Q.bind_some k1
    obtain ⟨c, rfl, hs, hrun⟩ := ofSem_some (w := w) h3
    refine finF S hd rfl (sc_rel hs) k3 ?_
    simp only [execOp, ho, (relS_sc r1).1]
    rw [Sem.run_bind, hrun]
    rfl
  | _ => cases k1

/-! ### variables -/
theorem zeroGo_rel {h : Nat} : ∀ {cs : List Value} {ts : List TypeId} {z : List AV}, zeroGo P cs ts = some z → cellsR w F β h z cs
  | [], ts, z, hz => by
    simp only [zeroGo] at hz
    injection hz with hz
    subst hz
    simp only [cellsR]
  | c :: cs, ts, z, hz => by
    simp only [zeroGo] at hz
    split at hz
    · rename_i x y hx hy
      injection hz with hz
      subst hz
      simp only [cellsR]
      refine ⟨c, cs, rfl, ?_, (ofConst_rel hx).1, zeroGo_rel hy⟩
      unfold ofConst at hx
      split at hx
      · injection hx with hx; subst hx; rfl
      · split at hx
        · injection hx with hx; subst hx; rfl
        · cases hx
    · cases hz
theorem zeroT_rel {h : Nat} {t : TypeId} {z : List AV} (hz : zeroT P t = some z) : ∃ v, (zeroValue t).run P w = .ok v w ∧ cellsR w F β h z v.cells.toList ∧ ∃ i, P.info? t = some i ∧ i.zero = some v := by
  unfold zeroT at hz
  split at hz
  · rename_i i hi
    split at hz
    · rename_i v hv
      refine ⟨v, ?_, zeroGo_rel hz, _, hi, hv⟩
      simp [zeroValue, typeInfo, hi, hv]
    · cases hz
  · cases hz
theorem toList_toArray (cs : Array Value) : cs.toList.toArray = cs := by simp

theorem zeroT_capZ {h : Nat} {t : TypeId} {m : Nat} {z : List AV} (hz : zeroT P t = some z) : ∃ v, (zeroValue t).run P w = .ok v w ∧ cellsZ w F β h (capZ P t m z) v.cells.toList := by
  obtain ⟨v, h1, h2, i, hi, hiz⟩ := zeroT_rel (w := w) (F := F) (β := β) (h := h) hz
  refine ⟨v, h1, ?_⟩
  unfold capZ
  split
  · exact h2.z
  · split
    · rename_i e k he
      unfold zeroT at hz
      rw [hi] at hz
      simp only [hiz] at hz
      have : v.cells.toList = [.slice none 0 0] := by
        revert hz
        cases v.cells.toList with
        | nil => intro hz; simp [zeroGo] at hz
        | cons x r =>
          intro hz
          simp only [zeroGo] at hz
          split at hz
          · rename_i a b ha hb
            injection hz with hz
            injection hz with hz1 hz2
            subst hz1 hz2
            have hr : r = [] := by
              cases r with
              | nil => rfl
              | cons y r' =>
                simp only [zeroGo] at hb
                split at hb
                · injection hb with hb; cases hb
                · cases hb
            subst hr
            unfold ofConst at ha
            split at ha
            · rfl
            · split at ha
              · injection ha with ha; cases ha
              · cases ha
          · cases hz
      rw [this]
      exact ⟨rfl, fun j x u hx hu => by
        cases j with
        | zero => simp at hx hu; subst hx hu; exact .inr ⟨_, _, rfl, rfl⟩
        | succ j => simp at hx⟩
    · exact h2.z
theorem ok_alloc (S : Sim P n s a w F β O) (hd : ∀ d, o.dst = some d → d < n) {t : TypeId} {m : Nat} {esc : Bool} (ho : o.op = .alloc t) (hdst : o.dst.isSome = true)
    (h : ((Q.lift ((zeroT P t).map (capZ P t m))).bind fun z => if esc then .heap fun H _ => one o.dst (.ptr H.length 0) [.hpush z] else one o.dst (.box z)).run s = some ws) : OpOk P n s a w F β O o ws := by
  obtain ⟨z, h1, k1⟩ := Q.bind_some h
  obtain ⟨z0, h0, rfl⟩ := Option.map_eq_some_iff.1 (Q.lift_some h1)
  obtain ⟨v, hrun, hz⟩ := zeroT_capZ (w := w) (F := F) (β := β) (h := s.H.length) (m := m) h0
  obtain ⟨d, hd'⟩ := Option.isSome_iff_exists.1 hdst
  intro next R hn
  have hex : (execOp a.eval o).run P w = .ok (.value (.pointer (some ⟨w.heap.size, 0, none⟩))) (w.alloc (.cells v.cells t)) := by
    simp only [execOp, ho, Instr.alloc, Sem.run_bind, hrun, Result.andThen_ok, newVar, newRow, run_newObj, Sem.run_pure]
    rfl
  refine wp_value hex (hn _ _ ?_)
  rw [hd']
  cases esc with
  | true =>
    have := one_some k1
    rw [this, hd']
    have N := S.newHeap (hd d hd') (T := t) hz
    rw [toList_toArray] at N
    exact N
  | false =>
    have := one_some k1
    rw [this, hd']
    have N := S.newBox (hd d hd') (T := t) hz
    rw [toList_toArray] at N
    exact N

/-- The cells of a value. -/
theorem cells_rel {h : Nat} {x : AV} {c : List AV} {u : Value} (r : relF w F β h x u) (hc : cellsOf x = some c) : cellsR w F β h c u.cells.toList := by
  cases x with
  | agg l =>
    simp only [cellsOf] at hc
    injection hc with hc
    subst hc
    simp only [relF] at r
    obtain ⟨cs, rfl, r⟩ := r
    simpa [Value.cells] using r
  | _ =>
    all_goals
      simp only [cellsOf] at hc
      split at hc
      · rename_i hl
        injection hc with hc
        subst hc
        have h1 := relF_one hl r
        have : u.cells.toList = [u] := by cases u <;> first | rfl | (simp [Value.oneCell'] at h1)
        rw [this]
        simp only [cellsR]
        exact ⟨u, [], rfl, hl, r, rfl⟩
      · cases hc

/-- A variable that nobody writes any more. -/
theorem Sim.newFrozen (S : Sim P n s a w F β O) {d : Nat} (hd : d < n) {z : List AV} {cs : List Value} {T : TypeId} (hz : cellsR w F β s.H.length z cs) :
    Nxt P n s w F β O (s.one (.slot d (.ea z))) (a.put (some d) (.pointer (some ⟨w.heap.size, 0, none⟩))) (w.alloc (.cells cs.toArray T)) := by
  have A := S.alloc (.cells cs.toArray T) cs.length (.pl (.slot d))
  refine ⟨_, β, _, A.slot hd ?_, Step.alloc _ _ _ _ _, fun g hg => ?_, fun _ _ => rfl, Nat.le_refl _⟩
  · show relF _ _ _ _ _ _
    simp only [relF]
    refine ⟨w.heap.size, 0, cs, rfl, cellsR.ext (Ext.alloc w F (.cells cs.toArray T) cs.length) (fun _ _ => rfl) (Nat.le_refl s.H.length) z cs hz, .inr ⟨w.heap.size, 0, rfl, fun j u hj => ⟨?_, ?_⟩⟩⟩
    · unfold World.cell?
      rw [heap_alloc_new]
      simp [hj]
    · have := (List.getElem?_eq_some_iff.1 hj).1
      simp only [if_true]
      omega
  · split at hg
    · rename_i h; exact .inr (by omega)
    · exact .inl hg

theorem ok_box (S : Sim P n s a w F β O) (hd : ∀ d, o.dst = some d → d < n) {t : TypeId} {x : Operand} {frz esc : Bool} (ho : o.op = .box t x) (hdst : o.dst.isSome = true)
    (h : ((shareO P t x).bind fun v => (Q.lift (cellsOf v)).bind fun z => if Nat.beq z.length (sizeT P t) then
      (if frz then one o.dst (.ea z) else if esc then .heap fun H _ => one o.dst (.ptr H.length 0) [.hpush z] else one o.dst (.box z)) else .fail).run s = some ws) : OpOk P n s a w F β O o ws := by
  obtain ⟨v, h1, k1⟩ := Q.bind_some h
  obtain ⟨z, h2, k2⟩ := Q.bind_some k1
  clear h k1
  obtain ⟨hr, _, _⟩ := shareO_sound S h1
  have hz := cells_rel hr (Q.lift_some h2)
  obtain ⟨d, hd'⟩ := Option.isSome_iff_exists.1 hdst
  split at k2
  · intro next R hn
    have hex : (execOp a.eval o).run P w = .ok (.value (.pointer (some ⟨w.heap.size, 0, none⟩))) (w.alloc (.cells (a.eval x).cells t)) := by
      simp only [execOp, ho, Instr.box, Sem.run_bind, Result.andThen_ok, newVar, newRow, run_newObj, Sem.run_pure]
      rfl
    refine wp_value hex (hn _ _ ?_)
    rw [hd']
    cases frz with
    | true =>
      have := one_some k2
      rw [this, hd']
      have N := S.newFrozen (hd d hd') (T := t) hz
      rw [toList_toArray] at N
      exact N
    | false =>
    simp only [Bool.false_eq_true, if_false] at k2
    cases esc with
    | true =>
      have := one_some k2
      rw [this, hd']
      have N := S.newHeap (hd d hd') (T := t) hz.z
      rw [toList_toArray] at N
      exact N
    | false =>
      have := one_some k2
      rw [this, hd']
      have N := S.newBox (hd d hd') (T := t) hz.z
      rw [toList_toArray] at N
      exact N
  · cases k2

theorem ok_makeFunc (S : Sim P n s a w F β O) (hd : ∀ d, o.dst = some d → d < n) {g : FuncId} {first cs : Array Operand} (ho : o.op = .makeFunc (.func g) first cs) (hf : first.size = 0)
    (h : ((shareAll P (cs.toList.map fun x => (0, x))).bind fun vs => one o.dst (.fn g vs)).run s = some ws) : OpOk P n s a w F β O o ws := by
  obtain ⟨vs, h1, k1⟩ := Q.bind_some h
  obtain ⟨h2, _⟩ := shareAll_sound S h1
  have hfe : first = #[] := by simpa using hf
  subst hfe
  refine finF S hd (u := .func (.func g) #[] (cs.map a.eval)) rfl ?_ k1 ?_
  · simp only [relF]
    refine ⟨_, ?_, h2⟩
    congr 1
    apply Array.ext'
    simp [List.map_map, Function.comp_def]
  · simp [execOp, ho, Instr.makeFunc]
end
end Go.Vai
