/- What the machine's operations do: the store. -/
import Derived.Test.YtcjcdammcmjbnaaGreatVaiL
namespace Go.Vai
section
variable {P : Program} {w w' : World} {F F' : Nat → Nat} {β β' : Nat → Nat} {O O' : Nat → Option Own} {n : Nat} {s : St} {a : Act} {o : Oper} {ws : List W}
theorem store_run {t : TypeId} {x y : Operand} {b off : Nat} {cur : Array Value} {T : TypeId} (ho : o.op = .store t x y) (hx : a.eval x = .pointer (some ⟨b, off, none⟩)) (hs : 1 ≤ sizeT P t) (hl : (a.eval y).cells.size = sizeT P t) (h1 : ∀ u ∈ (a.eval y).cells.toList, u.oneCell' = true)
  (hg : w.heap[b]? = some (.cells cur T (0, 0))) (hfit : off + (a.eval y).cells.toList.length ≤ cur.size) :
  (execOp a.eval o).run P w = .ok .skip (w.setRow b (cur.toList.take off ++ (a.eval y).cells.toList ++ cur.toList.drop (off + (a.eval y).cells.toList.length)).toArray) := by
 have hst := run_storeCells_at P b off T (a.eval y).cells.toList 0 cur w hg (by simpa using hfit) h1
 simp only [Nat.add_zero] at hst
 simp only [execOp, ho, Instr.storeAt, Sem.run_bind, hx, Instr.sureAddr, Sem.run_pure, Result.andThen_ok, storeVar, sizeOf_run hs]
 rw [if_neg (by omega)]
 rw [hst]
 rfl
theorem gone_box {p : Pl} {own : Bool} {e : TypeId} {m : List AV} (hp : s.av p = .cap own e m) {k : Nat} {l : List AV} (hl : (s.get k).1 = .box l) : ∃ l', ((s.one (gone p)).get k).1 = .box l' ∧ l'.length = l.length := by
 cases p with
 | slot j =>
  have hj : j ≠ k := fun h => by subst h; simp only [St.av] at hp; rw [hl] at hp; cases hp
  exact ⟨l, by simp only [gone, St.one, get_set]; rw [if_neg hj]; exact hl, rfl⟩
 | lcell j off =>
  simp only [St.av] at hp
  cases hb : (s.get j).1 with
  | box c =>
   rw [hb] at hp
   have hlt : off < c.length := by
    rcases Nat.lt_or_ge off c.length with h | h
    ·exact h
    ·simp only [show c[off]? = none from List.getElem?_eq_none h] at hp; cases hp
   by_cases hj : j = k
   ·subst hj
    rw [hl] at hb
    injection hb with hb
    subst hb
    exact ⟨splice l off [.undef], by simp only [gone, St.one, hl, get_set, if_pos], splice_length (by exact hlt)⟩
   ·exact ⟨l, by simp only [gone, St.one, hb, get_set]; rw [if_neg hj]; exact hl, rfl⟩
  | _ => rw [hb] at hp; cases hp
 | hcell b off =>
  refine ⟨l, ?_, rfl⟩
  simp only [gone, St.one]
  split <;> exact hl
theorem gone_H {p : Pl} {own : Bool} {e : TypeId} {m : List AV} (hp : s.av p = .cap own e m) {b : Nat} {l : List AV} (hl : s.H[b]? = some l) : ∃ l', (s.one (gone p)).H[b]? = some l' ∧ l'.length = l.length := by
 cases p with
 | slot j => exact ⟨l, hl, rfl⟩
 | lcell j off =>
  refine ⟨l, ?_, rfl⟩
  simp only [gone, St.one]
  split <;> exact hl
 | hcell b' off =>
  simp only [St.av] at hp
  cases hb : s.H[b']? with
  | none => rw [hb] at hp; cases hp
  | some c =>
   rw [hb] at hp
   have hlt : off < c.length := by
    rcases Nat.lt_or_ge off c.length with h | h
    ·exact h
    ·simp only [show c[off]? = none from List.getElem?_eq_none h] at hp; cases hp
   simp only [gone, St.one, hb]
   by_cases hj : b' = b
   ·subst hj
    rw [hl] at hb
    injection hb with hb
    subst hb
    have hbl : b' < s.H.length := (List.getElem?_eq_some_iff.1 hl).1
    exact ⟨splice l off [.undef], by rw [List.getElem?_set_self hbl], splice_length (by exact hlt)⟩
   ·exact ⟨l, by rw [List.getElem?_set_ne hj]; exact hl, rfl⟩
theorem newCells_of {h : Nat} {pc : Nat → Pl} {off : Nat} {c : List AV} {us : List Value} (r : cellsR w F β h c us) : newCells P w F β h O pc off c us :=
 ⟨cellsR_length r, cellsR_one r, fun j x u hx hu => by
  obtain ⟨u', hu', hl, hr⟩ := cellsR_get r hx
  rw [hu] at hu'
  injection hu' with hu'
  subst hu'
  cases x <;> first | exact ⟨hl, hr⟩ | cases hl⟩
theorem newCells_cap {h : Nat} {pc : Nat → Pl} {off : Nat} {own : Bool} {e : TypeId} {l : List AV} {u : Value} (r : relCap P w F β h O (pc off) own e l u) (h1 : u.oneCell' = true) : newCells P w F β h O pc off [.cap own e l] [u] :=
 ⟨rfl, fun v hv => (by simp at hv; rw [hv]; exact h1), fun j x v hx hv => by
  cases j with
  | zero => simp at hx hv; subst hx; subst hv; exact r
  | succ j => simp at hx⟩
theorem cap_one {h : Nat} {p : Pl} {own : Bool} {e : TypeId} {l : List AV} {u : Value} (r : relCap P w F β h O p own e l u) : u.oneCell' = true ∧ u.cells.toList = [u] := by
 obtain ⟨inner, ⟨_, ⟨rfl, _⟩ | ⟨_, _, _, rfl, _⟩⟩, _⟩ := r <;> exact ⟨rfl, rfl⟩
theorem Sim.given (S : Sim P n s a w F β O) {t : TypeId} {y : Operand} {v : AV} {r : AV × List W} (hy : (valO P t y).run s = some v) (hr : (give P t y v).run s = some r) {c : List AV} (hc : (match r.1 with | AV.cap o e l => some [AV.cap o e l] | v => cellsOf v) = some c) (pc : Nat → Pl) (off : Nat) :
  ∃ s1 F1 O1, (∀ ws, s.apply (r.2 ++ ws) = s1.apply ws) ∧ Sim P n s1 a w F1 β O1 ∧ Step w F w F1 (fun g => (O g).isSome) ∧ (∀ g, (O1 g).isSome → (O g).isSome) ∧ s1.H.length = s.H.length ∧
   (a.eval y).cells.size = c.length ∧ newCells P w F1 β s.H.length O1 pc off c (a.eval y).cells.toList ∧
   (∀ {k : Nat} {l : List AV}, (s.get k).1 = .box l → ∃ l', (s1.get k).1 = .box l' ∧ l'.length = l.length) ∧ (∀ {b : Nat} {l : List AV}, s.H[b]? = some l → ∃ l', s1.H[b]? = some l' ∧ l'.length = l.length) := by
 rcases give_sound S hy hr with ⟨p, ver, own, e, l, h3, h4, rfl, h5⟩ | ⟨e, he, rfl, h5⟩ | ⟨z, rfl, h3, h4, h5⟩
 ·simp only [] at hc
  injection hc with hc
  subst hc
  obtain ⟨u, F1, O1, g1, S1, g2, g3, g4, g5⟩ := S.move h4 (pc off) own (fun h => h)
  rw [h5] at g1
  injection g1 with g1
  subst g1
  obtain ⟨e1, e2⟩ := cap_one g2
  exact ⟨_, F1, O1, fun ws => rfl, S1, g3, g4, g5, by rw [← Array.length_toList, e2]; rfl, by rw [e2]; exact newCells_cap g2 e1, fun h => gone_box h4 h, fun h => gone_H h4 h⟩
 ·simp only [] at hc
  injection hc with hc
  subst hc
  rw [h5]
  exact ⟨s, F, O, fun ws => rfl, S, Step.refl _ _ _, fun _ h => h, rfl, rfl, newCells_cap cap_nil rfl, fun h => ⟨_, h, rfl⟩, fun h => ⟨_, h, rfl⟩⟩
 ·have hc' : cellsOf z = some c := by
   cases z <;> first | exact hc | cases h4
  exact ⟨s, F, O, fun ws => rfl, S, Step.refl _ _ _, fun _ h => h, rfl, cells_size h3 hc', newCells_of (cells_rel h3 hc'), fun h => ⟨_, h, rfl⟩, fun h => ⟨_, h, rfl⟩⟩
theorem ok_store (S : Sim P n s a w F β O) {t : TypeId} {x y : Operand} (ho : o.op = .store t x y) (hdst : o.dst = none)
  (h : ((valO P 0 x).bind fun a => (valO P t y).bind fun v => (match a with | .eaddr _ _ _ _ _ => (share P v).bind fun v => .ret (v, []) | _ => give P t y v).bind fun (v, ws) =>
  match (match v with | AV.cap o e l => some [AV.cap o e l] | v => cellsOf v) with
  | some c => if Nat.beq c.length (sizeT P t) && Nat.ble 1 c.length then storeE P a ws c else .fail
  | none => Q.fail).run s = some ws) : OpOk P n s a w F β O o ws := by
 obtain ⟨v, h1, k1⟩ := Q.bind_some h
 obtain ⟨vy, h2, k2⟩ := Q.bind_some k1
 obtain ⟨⟨z, pre⟩, h3, k3⟩ := Q.bind_some k2
 clear h k1 k2
 have rx := (valO_sound S h1).2 0
 simp only [] at k3
 split at k3
 ·rename_i c hc
  split at k3
  ·rename_i hb
   simp only [Bool.and_eq_true, Nat.ble_eq] at hb
   have hsz := beq_eq hb.1
   have hs1 : 1 ≤ sizeT P t := by omega
   cases v with
   | lptr m ver off =>
    simp only [storeE, Q.run] at k3
    split at k3
    ·rename_i hv
     obtain ⟨_, b, hm, hu⟩ := rx.2 (beq_eq hv).symm
     split at k3
     ·rename_i l hl
      split at k3
      ·rename_i hfit
       have := Q.ret_some k3
       subst this
       simp only [Nat.ble_eq] at hfit
       obtain ⟨s1, F1, O1, g1, S1, g2, g3, g4, g5, g6, g7, _⟩ := S.given h2 h3 hc (fun j => .lcell m j) off
       obtain ⟨l', hl', hll⟩ := g7 hl
       obtain ⟨cur, T, q1, q2, q3⟩ := S1.storeBox (c := c) (off := off) hl' hm (by omega) (by rw [g4]; exact g6)
       intro next R hn
       refine wp_none (store_run ho hu hs1 (by omega) g6.2.1 q1 q2) hdst (hn _ _ ?_)
       rw [g1]
       exact q3.after g2 g3 g4
      ·cases k3
     ·cases k3
    ·cases k3
   | ptr b off =>
    obtain ⟨hbl, hu⟩ := relS_ptr rx
    simp only [storeE, Q.run] at k3
    split at k3
    ·rename_i l hl
     split at k3
     ·rename_i hfit
      have := Q.ret_some k3
      subst this
      simp only [Nat.ble_eq] at hfit
      obtain ⟨s1, F1, O1, g1, S1, g2, g3, g4, g5, g6, _, g8⟩ := S.given h2 h3 hc (fun j => .hcell b j) off
      obtain ⟨l', hl', hll⟩ := g8 hl
      obtain ⟨cur, T, q1, q2, q3⟩ := S1.storeHeap (c := c) (off := off) hl' (by omega) (by rw [g4]; exact g6)
      intro next R hn
      refine wp_none (store_run ho hu hs1 (by omega) g6.2.1 q1 q2) hdst (hn _ _ ?_)
      rw [g1]
      exact q3.after g2 g3 g4
     ·cases k3
    ·cases k3
   | eaddr p ver sz i off =>
    cases p with
    | slot m =>
     simp only [storeE] at k3
     obtain ⟨⟨own, e, l⟩, h4, k4⟩ := Q.bind_some k3
     obtain ⟨h5, h66⟩ := capAt_run h4
     have h6 : (s.get m).1 = .cap own e l := h66
     simp only [] at k4
     split at k4
     ·rename_i x0 hx0
      split at k4
      ·rename_i cw hcw
       split at k4
       ·rename_i hb2
        simp only [Bool.and_eq_true, Nat.ble_eq] at hb2
        have hse := beq_eq hb2.1.1
        split at k4
        ·rename_i x' hx'
         have := Q.ret_some k4
         subst this
         obtain ⟨y', h7, h8⟩ := Q.bind_some h3
         have := Q.ret_some h8
         injection this with e1 e2
         subst e1
         subst e2
         obtain ⟨r1, r2, _⟩ := share_sound S ((valO_sound S h2).2 0) h7
         have hc' : cellsOf y' = some c := by
          cases y' <;> first | exact hc | cases r2
         have hcx : cellsOf x' = some (splice cw off c) := by
          have key : ∀ bb, ofCells bb (splice cw off c) = some x' → cellsOf x' = some (splice cw off c) := fun bb hx' => by
           unfold ofCells at hx'
           cases bb with
           | true => injection hx' with hx'; subst hx'; rfl
           | false =>
            simp only [Bool.false_eq_true, if_false] at hx'
            split at hx'
            ·rename_i y0 hy0
             injection hx' with hx'
             subst hx'
             have hlf : leaf y0 = true := by
              have hl1 : cw.length = 1 := by
               have := splice_length (l := cw) (m := c) (off := off) hb2.1.2
               rw [hy0] at this
               simpa using this.symm
              have hcl : c.length = 1 := by omega
              have ho0 : off = 0 := by omega
              subst ho0
              have hmem : y0 ∈ c := by
               have : (splice cw 0 c)[0]? = c[0]? := by rw [splice_get hb2.1.2, if_pos (by omega)]
               rw [hy0] at this
               exact List.mem_of_getElem? this.symm
              exact List.all_eq_true.1 hb2.2 _ hmem
             rw [hy0]
             simp only [cellsOf]
             cases y0 <;> first | rfl | cases hlf
            ·cases hx'
          exact key _ hx'
         obtain ⟨_, g, mm, cp, h9, hu⟩ := rx.2 h5
         have hm : a.tmps[m]? = some (.slice (some ⟨g, 0, none⟩) mm cp) := h9
         have hmm : mm = l.length := by
          have rm := S.slots m _ hm
          rw [h6] at rm
          obtain ⟨inner, ⟨_, ⟨hn, _⟩ | ⟨_, _, _, hn, _⟩⟩, _⟩ := rm
          ·cases hn
          ·injection hn
         subst hmm
         have hR := cells_rel r1 hc'
         obtain ⟨cur, T, q1, q2, q3⟩ := S.turn h6 hm hx0 hcw hb2.1.2 hR hcx
         have hcs := cells_size r1 hc'
         intro next R hn
         rw [← hse] at q2 q3
         refine wp_none (store_run ho hu hs1 (by omega) (cellsR_one hR) q1 q2) hdst (hn _ _ ?_)
         exact q3
        ·cases k4
       ·cases k4
      ·cases k4
     ·cases k4
    | lcell _ _ => cases k3
    | hcell _ _ => cases k3
   | _ => cases k3
  ·cases k3
 ·cases k3
end
end Go.Vai
