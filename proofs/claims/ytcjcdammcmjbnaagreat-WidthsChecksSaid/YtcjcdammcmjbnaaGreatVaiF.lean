/- How a state turns, second part: escaping variables, new slices, stores into a slice of one's own. -/
import Derived.Test.YtcjcdammcmjbnaaGreatVaiE
namespace Go.Vai
section
variable {P : Program} {w w' : World} {F F' : Nat → Nat} {β β' : Nat → Nat} {O O' : Nat → Option Own} {n : Nat} {s : St} {a : Act}
theorem Sim.hsetW (S : Sim P n s a w F β O) {b : Nat} {l' : List AV} (hbl : b < s.H.length) (e : Ext w F w' F') (hb : ∀ g q, O g = some q → s.held q → q ≠ .hb b → w'.heap[g]? = w.heap[g]? ∧ F' g = F g ∧ O' g = some q)
  (ho : ∀ g q, O' g = some q → g < w'.heap.size) (hn : boxAt P w' F' β s.H.length O' (.hb b) (fun j => .hcell b j) (β b) l') : Sim P n { s with H := s.H.set b l', hv := s.hv + 1 } a w' F' β O' := by
 have hO : ∀ g q, O g = some q → s.held q → q ≠ .hb b → w'.heap[g]? = w.heap[g]? ∧ F' g = F g ∧ O' g = O g := fun g q hq hh hne => by
  obtain ⟨h1, h2, h3⟩ := hb g q hq hh hne
  exact ⟨h1, h2, h3.trans hq.symm⟩
 have hcell : ∀ (p : Pl) (x : AV) (u : Value), (∀ o e m, x = .cap o e m → s.held (.pl p)) → relCell P w F β s.H.length O p x u → relCell P w' F' β s.H.length O' p x u := fun p x u hp r => by
  cases x with
  | cap o e' m => exact relCap.keep r e (fun _ _ => rfl) (Nat.le_refl _) (fun g hg => hO g _ hg (hp o e' m rfl) (by simp))
  | undef => trivial
  | _ => exact ⟨r.1, relF.ext e (fun _ _ => rfl) (Nat.le_refl _) _ _ r.2⟩
 have hbox : ∀ (q : Own) (pc : Nat → Pl) (g : Nat) (l : List AV), s.held q → q ≠ .hb b → (∀ j o e m, l[j]? = some (.cap o e m) → s.held (.pl (pc j))) → boxAt P w F β s.H.length O q pc g l → boxAt P w' F' β s.H.length O' q pc g l := fun q pc g l hq hne hl r => by
  obtain ⟨cs, T, h1, h2, h3, h4, h5⟩ := r
  obtain ⟨h6, h7, h8⟩ := hO g q h3 hq hne
  exact ⟨cs, T, h6.trans h1, h7.trans h2, h8.trans h3, h4, fun j x u hx hu => hcell _ _ _ (fun o e' m he => hl j o e' m (by rw [← he]; exact hx)) (h5 j x u hx hu)⟩
 have hle : ∀ p ver, s.le p ver → ({ s with H := s.H.set b l', hv := s.hv + 1 } : St).le p ver := fun p ver h => by
  cases p with
  | hcell b off => exact Nat.le_succ_of_le h
  | slot m => exact h
  | lcell m off => exact h
 have hval : ∀ p ver, s.le p ver → ({ s with H := s.H.set b l', hv := s.hv + 1 } : St).valid p ver → s.valid p ver ∧ (s.capped p → ({ s with H := s.H.set b l', hv := s.hv + 1 } : St).capped p ∧ valAt a w' β p = valAt a w β p) := fun p ver h h' => by
  cases p with
  | hcell b off => simp only [St.le, St.valid] at h h'; omega
  | slot m => exact ⟨h', fun hc => ⟨hc, rfl⟩⟩
  | lcell m off =>
   refine ⟨h', fun hc => ⟨hc, ?_⟩⟩
   obtain ⟨o, e', l0, hp⟩ := hc
   simp only [valAt]
   simp only [St.av] at hp
   split
   ·rename_i ad hu
    have := S.slots m _ hu
    revert this hp
    cases hv : (s.get m).1 with
    | box l =>
     intro _ r
     obtain ⟨b2, he, r⟩ := r
     injection he with he
     injection he with he
     subst he
     exact cell_block (hb _ _ r.own (.inr ⟨l, hv⟩) (by simp)).1
    | _ => intro h _; cases h
   ·rfl
 refine ⟨S.size, S.defers, S.out, fun i u hu => ?_, fun b' l hb' => ?_, ho⟩
 ·have r := S.slots i u hu
  show relS P w' F' β (s.H.set b l').length O' _ a i (s.get i).1 u
  rw [List.length_set]
  revert r
  cases hv : (s.get i).1 with
  | cap o e' l => exact fun r => relCap.keep r e (fun _ _ => rfl) (Nat.le_refl _) (fun g hg => hO g _ hg (.inl ⟨o, e', l, hv⟩) (by simp))
  | box l =>
   rintro ⟨b2, rfl, r⟩
   exact ⟨b2, rfl, hbox _ _ _ _ (.inr ⟨l, hv⟩) (by simp) (fun j o e' m hj => box_capped hv hj) r⟩
  | ref p ver =>
   rintro ⟨h1, h2⟩
   refine ⟨hle p ver h1, fun hv' => ?_⟩
   obtain ⟨h3, h4⟩ := hval p ver h1 hv'
   obtain ⟨h5, h6⟩ := h2 h3
   exact ⟨(h4 h5).1, (h4 h5).2.trans h6⟩
  | lptr m ver off => exact fun r => r
  | eaddr p ver sz j off =>
   rintro ⟨h1, h2⟩
   refine ⟨hle p ver h1, fun hv' => ?_⟩
   obtain ⟨h3, h4⟩ := hval p ver h1 hv'
   obtain ⟨h5, g, m, c, h6, h7⟩ := h2 h3
   exact ⟨(h4 h5).1, g, m, c, (h4 h5).2.trans h6, h7⟩
  | _ => exact fun r => relF.ext e (fun _ _ => rfl) (Nat.le_refl _) _ _ r
 ·show boxAt P w' F' β (s.H.set b l').length O' (.hb b') (fun j => .hcell b' j) (β b') l
  rw [List.length_set]
  rw [List.getElem?_set] at hb'
  split at hb'
  ·rename_i he
   subst he
   (try rw [if_pos hbl] at hb')
   injection hb' with hb'
   subst hb'
   exact hn
  ·rename_i hne
   have hlt : b' < s.H.length := (List.getElem?_eq_some_iff.1 hb').1
   exact hbox _ _ _ _ hlt (fun h => hne (by injection h with h; exact h.symm)) (fun j o e' m hj => heap_capped hb' hj) (S.heap b' l hb')
theorem Sim.storeHeap (S : Sim P n s a w F β O) {b off : Nat} {l c : List AV} {us : List Value} (hl : s.H[b]? = some l) (hfit : off + c.length ≤ l.length)
  (hc : newCells P w F β s.H.length O (fun j => .hcell b j) off c us) :
  ∃ cur T, w.heap[β b]? = some (.cells cur T (0, 0)) ∧ off + us.length ≤ cur.size ∧ Nxt P n s w F β O (s.one (.hcell b off c)) a (w.setRow (β b) (cur.toList.take off ++ us ++ cur.toList.drop (off + us.length)).toArray) := by
 obtain ⟨cur, T, h1, h2, h3, h4, h5⟩ := S.heap b l hl
 have hbl : b < s.H.length := (List.getElem?_eq_some_iff.1 hl).1
 have hcur : off + us.length ≤ cur.size := by rw [hc.1, h4]; exact hfit
 have hone : s.one (.hcell b off c) = { s with H := s.H.set b (splice l off c), hv := s.hv + 1 } := by simp only [St.one, hl]
 refine ⟨cur, T, h1, hcur, F, β, O, ?_, Step.setRow _ h2 (by rw [h3]; rfl), fun g hg => .inl hg, fun _ _ => rfl, ?_⟩
 ·rw [hone]
  have hkeep : ∀ j g, O g = some (.pl (.hcell b j)) → (w.setRow (β b) (cur.toList.take off ++ us ++ cur.toList.drop (off + us.length)).toArray).heap[g]? = w.heap[g]? ∧ F g = F g ∧ O g = O g := fun j g hg => by
   refine ⟨setRow_other w _ g _ (fun e => ?_), rfl, rfl⟩
   subst e
   rw [h3] at hg
   cases hg
  refine S.hsetW hbl (Ext.setRow _ h2) (fun g q hq _ hne => ⟨setRow_other w _ g _ (fun e => ?_), rfl, hq⟩) (fun g q hq => by simpa [World.setRow] using S.olt g q hq) ⟨_, T, setRow_heap w _ cur _ T (0, 0) h1, h2, h3, ?_, fun j x u hx hu => ?_⟩
  ·subst e
   rw [h3] at hq
   injection hq with hq
   exact hne hq.symm
  ·rw [splice_length hfit]
   simp only [List.size_toArray, List.length_append, List.length_take, List.length_drop, Array.length_toList]
   omega
  ·rw [splice_get hfit] at hx
   rw [splice_toList hcur, hc.1] at hu
   split at hx
   ·rename_i hj
    rw [if_pos hj] at hu
    have := hc.2.2 (j - off) x u hx hu
    simp only [show off + (j - off) = j by omega] at this
    exact this.keep (Ext.setRow _ h2) (fun _ _ => rfl) (Nat.le_refl _) (hkeep j)
   ·rename_i hj
    rw [if_neg hj] at hu
    exact (h5 j x u hx hu).keep (Ext.setRow _ h2) (fun _ _ => rfl) (Nat.le_refl _) (hkeep j)
 ·rw [hone]; simp
theorem Sim.newHeapV (S : Sim P n s a w F β O) {d : Nat} (hd : d < n) {z : List AV} {cs : List Value} {T : TypeId} {v : AV} {u : Value} (hz : cellsZ w F β s.H.length z cs)
  (hv : ∀ (w' : World) (F' β' : Nat → Nat) (h' : Nat), s.H.length < h' → β' s.H.length = w.heap.size → relF w' F' β' h' v u) :
  Nxt P n s w F β O ((s.one (.hpush z)).one (.slot d v)) (a.put (some d) u) (w.alloc (.cells cs.toArray T)) := by
 have A := S.alloc (.cells cs.toArray T) 0 (.hb s.H.length)
 have hx := Ext.alloc w F (.cells cs.toArray T) 0
 generalize hF : (fun g => if g = w.heap.size then 0 else F g) = F' at A hx
 generalize hO : (fun g => if g = w.heap.size then some (Own.hb s.H.length) else O g) = O' at A
 let β' : Nat → Nat := fun b => if b = s.H.length then w.heap.size else β b
 have hβ : ∀ b, b < s.H.length → β' b = β b := fun b hb => by simp only [β']; rw [if_neg (by omega)]
 have hnew : β' s.H.length = w.heap.size := by simp only [β', if_pos]
 have hO0 : O' w.heap.size = some (.hb s.H.length) := by rw [← hO]; simp only [if_pos]
 have hF0 : F' w.heap.size = 0 := by rw [← hF]; simp only [if_pos]
 have B : Sim P n s a (w.alloc (.cells cs.toArray T)) F' β' O' := A.world (Ext.refl _ _) (fun g q hq _ => ⟨rfl, rfl, hq⟩) hβ A.olt
 have hget : ∀ i, (s.one (.hpush z)).get i = s.get i := fun _ => rfl
 have hH : (s.one (.hpush z)).H = s.H ++ [z] := rfl
 have hlen : (s.one (.hpush z)).H.length = s.H.length + 1 := by rw [hH]; simp
 have hcap : ∀ p, s.capped p → (s.one (.hpush z)).capped p := fun p hp => by
  obtain ⟨o, e, l, h⟩ := hp
  refine ⟨o, e, l, ?_⟩
  cases p with
  | slot m => exact h
  | lcell m off => exact h
  | hcell b off =>
   simp only [St.av] at h ⊢
   cases hb : s.H[b]? with
   | none => rw [hb] at h; cases h
   | some c =>
    have hbl : b < s.H.length := (List.getElem?_eq_some_iff.1 hb).1
    rw [hb] at h
    rw [hH, List.getElem?_append_left hbl, hb]
    exact h
 have hup : ∀ q pc g l, boxAt P (w.alloc (.cells cs.toArray T)) F' β' s.H.length O' q pc g l → boxAt P (w.alloc (.cells cs.toArray T)) F' β' (s.H.length + 1) O' q pc g l := fun q pc g l r => r.keep (Ext.refl _ _) (fun _ _ => rfl) (Nat.le_succ s.H.length) ⟨rfl, rfl, rfl⟩ (fun _ _ _ => ⟨rfl, rfl, rfl⟩)
 have C : Sim P n (s.one (.hpush z)) a (w.alloc (.cells cs.toArray T)) F' β' O' := by
  refine ⟨B.size, B.defers, B.out, fun i u hu => ?_, fun b l hl => ?_, B.olt⟩
  ·have r := B.slots i u hu
   rw [hget, hlen]
   revert r
   cases (s.get i).1 with
   | cap o e l => exact fun r => relCap.keep r (Ext.refl _ _) (fun _ _ => rfl) (Nat.le_succ s.H.length) (fun _ _ => ⟨rfl, rfl, rfl⟩)
   | box l => rintro ⟨b, hb, r⟩; exact ⟨b, hb, hup _ _ _ _ r⟩
   | ref p ver => exact fun r => ⟨r.1, fun h => ⟨hcap _ (r.2 h).1, (r.2 h).2⟩⟩
   | eaddr p ver sz j off => exact fun r => ⟨r.1, fun h => ⟨hcap _ (r.2 h).1, (r.2 h).2⟩⟩
   | lptr m ver off => exact fun r => r
   | _ => exact fun r => relF.ext (Ext.refl _ _) (fun _ _ => rfl) (Nat.le_succ s.H.length) _ _ r
  ·rw [hlen]
   rw [hH] at hl
   rcases Nat.lt_or_ge b s.H.length with hb | hb
   ·rw [List.getElem?_append_left hb] at hl
    exact hup _ _ _ _ (B.heap b l hl)
   ·rw [List.getElem?_append_right hb] at hl
    have hbe : b = s.H.length := by
     rcases Nat.lt_or_ge s.H.length b with h | h
     ·rw [List.getElem?_eq_none (by simp; omega)] at hl; cases hl
     ·omega
    subst hbe
    simp at hl
    subst hl
    rw [hnew]
    refine ⟨cs.toArray, T, heap_alloc_new w _, hF0, hO0, by simpa using hz.1.symm, fun j x u hx hu => ?_⟩
    exact relZ_cell (hz.2 j x u hx (by simpa using hu)) (fun hr => relF.ext (by assumption) hβ (show s.H.length ≤ s.H.length + 1 by omega) x u hr)
 refine ⟨F', β', O', C.slotF hd (v := v) (hv _ _ _ _ (by rw [hlen]; omega) hnew), ?_, fun g hg => ?_, hβ, ?_⟩
 ·rw [← hF]; exact Step.alloc _ _ _ _ _
 ·rw [← hO] at hg
  simp only [] at hg
  split at hg
  ·rename_i h; exact .inr (by omega)
  ·exact .inl hg
 ·show s.H.length ≤ (s.one (.hpush z)).H.length; rw [hlen]; omega
theorem Sim.newHeap (S : Sim P n s a w F β O) {d : Nat} (hd : d < n) {z : List AV} {cs : List Value} {T : TypeId} (hz : cellsZ w F β s.H.length z cs) :
  Nxt P n s w F β O ((s.one (.hpush z)).one (.slot d (.ptr s.H.length 0))) (a.put (some d) (.pointer (some ⟨w.heap.size, 0, none⟩))) (w.alloc (.cells cs.toArray T)) :=
 S.newHeapV hd hz (fun w' F' β' h' hlt hb => by simp only [relF]; exact ⟨hlt, by rw [hb]⟩)
theorem Sim.newRow (S : Sim P n s a w F β O) {d : Nat} (hd : d < n) {e : TypeId} {l : List AV} {inner : List Value} {cap : Nat} {rest : List Value} (own : Bool) (hr : rowsR w F β s.H.length (sizeT P e) l inner)
  (hc : (inner ++ rest).length = cap * sizeT P e) (hn : l.length ≤ cap) (hm : cap ≤ maxLen) :
  Nxt P n s w F β O (s.one (.slot d (.cap own e l))) (a.put (some d) (.slice (some ⟨w.heap.size, 0, none⟩) l.length cap)) (w.alloc (.cells (inner ++ rest).toArray e)) := by
 have A := S.alloc (.cells (inner ++ rest).toArray e) (if own then 0 else l.length * sizeT P e) (.pl (.slot d))
 have hx := Ext.alloc w F (.cells (inner ++ rest).toArray e) (if own then 0 else l.length * sizeT P e)
 refine ⟨_, β, _, A.slot hd ⟨inner, ⟨rowsR_length hr, .inr ⟨w.heap.size, cap, _, rfl, Nat.zero_le _, heap_alloc_new w _, hn, hm, by simpa using hc, ?_⟩⟩, rowsR.ext hx (fun _ _ => rfl) (Nat.le_refl _) _ l inner hr, fun g hg => ?_⟩, Step.alloc _ _ _ _ _, fun g hg => ?_, fun _ _ => rfl, Nat.le_refl _⟩
 ·rw [← rowsR_length hr]; simp
 ·have : g = w.heap.size := by simp [Value.ownBlock] at hg; omega
  subst this
  exact ⟨by simp, by simp⟩
 ·split at hg
  ·rename_i h; exact .inr (by omega)
  ·exact .inl hg
end
end Go.Vai
