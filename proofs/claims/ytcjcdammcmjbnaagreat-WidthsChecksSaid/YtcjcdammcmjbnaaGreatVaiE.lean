/- How a state turns: slices that change hands, variables, escaping variables. -/
import Derived.Test.YtcjcdammcmjbnaaGreatVaiD
namespace Go.Vai
open Go.RowKit (Below)
section
variable {P : Program} {w w' : World} {F F' : Nat → Nat} {β β' : Nat → Nat} {O O' : Nat → Option Own} {n : Nat} {s : St} {a : Act}
theorem put_same {d : Nat} {u : Value} (hu : a.tmps[d]? = some u) : a.put (some d) u = a := by
 obtain ⟨h1, h2⟩ := Array.getElem?_eq_some_iff.1 hu
 subst h2
 have : a.tmps.setIfInBounds d a.tmps[d] = a.tmps := by
  apply Array.ext
  ·simp
  ·intro i h3 h4
   rw [Array.getElem_setIfInBounds]
   split
   ·rename_i h; subst h; rfl
   ·rfl
 cases a
 simp only [Act.put] at this ⊢
 rw [this]
theorem splice_length {l m : List AV} {off : Nat} (h : off + m.length ≤ l.length) : (splice l off m).length = l.length := by
 simp only [splice, List.length_append, List.length_take, List.length_drop]
 omega
theorem splice_get {l m : List AV} {off j : Nat} (h : off + m.length ≤ l.length) : (splice l off m)[j]? = if off ≤ j ∧ j < off + m.length then m[j - off]? else l[j]? := by
 unfold splice
 have ht : (l.take off).length = off := by rw [List.length_take]; omega
 by_cases h1 : j < off
 ·rw [if_neg (by omega), List.append_assoc, List.getElem?_append_left (by omega), List.getElem?_take, if_pos h1]
 ·by_cases h2 : j < off + m.length
  ·rw [if_pos ⟨by omega, h2⟩, List.append_assoc, List.getElem?_append_right (by omega), ht, List.getElem?_append_left (by omega)]
  ·rw [if_neg (by omega), List.getElem?_append_right (by rw [List.length_append]; omega), List.getElem?_drop, List.length_append, ht]
   congr 1
   omega
theorem Sim.hset (S : Sim P n s a w F β O) {b : Nat} {l' : List AV} (hl : b < s.H.length) (hb : boxAt P w F β s.H.length O (.hb b) (fun j => .hcell b j) (β b) l') :
  Sim P n { s with H := s.H.set b l', hv := s.hv + 1 } a w F β O := by
 have hg : ∀ i, ({ s with H := s.H.set b l', hv := s.hv + 1 } : St).get i = s.get i := fun _ => rfl
 have hle : ∀ p ver, s.le p ver → ({ s with H := s.H.set b l', hv := s.hv + 1 } : St).le p ver := fun p ver h => by
  cases p <;> simp only [St.le, hg] at h ⊢ <;> omega
 have hval : ∀ p ver, s.le p ver → ({ s with H := s.H.set b l', hv := s.hv + 1 } : St).valid p ver → s.valid p ver ∧ (s.capped p → ({ s with H := s.H.set b l', hv := s.hv + 1 } : St).capped p) := fun p ver h h' => by
  cases p with
  | hcell b off => simp only [St.le, St.valid] at h h'; omega
  | slot m => exact ⟨h', fun hc => hc⟩
  | lcell m off => exact ⟨h', fun hc => hc⟩
 refine ⟨S.size, S.defers, S.out, fun i u hu => ?_, fun b' l hb' => ?_, S.olt⟩
 ·have r := S.slots i u hu
  show relS P w F β (s.H.set b l').length O _ a i (s.get i).1 u
  rw [List.length_set]
  revert r
  cases (s.get i).1 with
  | ref p ver =>
   rintro ⟨h1, h2⟩
   refine ⟨hle p ver h1, fun hv' => ?_⟩
   obtain ⟨h3, h4⟩ := hval p ver h1 hv'
   exact ⟨h4 (h2 h3).1, (h2 h3).2⟩
  | eaddr p ver sz j off =>
   rintro ⟨h1, h2⟩
   refine ⟨hle p ver h1, fun hv' => ?_⟩
   obtain ⟨h3, h4⟩ := hval p ver h1 hv'
   exact ⟨h4 (h2 h3).1, (h2 h3).2⟩
  | _ => exact fun r => r
 ·show boxAt P w F β (s.H.set b l').length O (.hb b') (fun j => .hcell b' j) (β b') l
  rw [List.length_set]
  simp only [] at hb'
  rw [List.getElem?_set] at hb'
  split at hb'
  ·rename_i he
   subst he
   (try rw [if_pos hl] at hb')
   injection hb' with hb'
   subst hb'
   exact hb
  ·exact S.heap b' l hb'
theorem Sim.take (S : Sim P n s a w F β O) {p : Pl} {o : Bool} {e : TypeId} {l : List AV} (hp : s.av p = .cap o e l) : Sim P n (s.one (gone p)) a w F β O ∧ ¬ (s.one (gone p)).held (.pl p) ∧ (s.one (gone p)).H.length = s.H.length := by
 obtain ⟨u, hu, _⟩ := cap_at S hp
 cases p with
 | slot m =>
  have hm : m < n := by
   rcases Nat.lt_or_ge m n with h | h
   ·exact h
   ·simp only [St.av] at hp; rw [S.out m h] at hp; cases hp
  have := S.slotF hm (v := .undef) (u := u) (by simp only [relF])
  rw [put_same hu] at this
  refine ⟨this, ?_, rfl⟩
  simp only [gone, St.held, St.one, get_set, if_pos]
  rintro (⟨o, e, l, h⟩ | ⟨l, h⟩) <;> cases h
 | lcell m off =>
  simp only [St.av] at hp
  cases hb : (s.get m).1 with
  | box c =>
   rw [hb] at hp
   have hc : c[off]? = some (.cap o e l) := by
    cases hx : c[off]? with
    | none => simp only [hx] at hp; cases hp
    | some x => simp only [hx, Option.getD_some] at hp; rw [hp]
   have hlt : off < c.length := (List.getElem?_eq_some_iff.1 hc).1
   have hm : m < n := by
    rcases Nat.lt_or_ge m n with h | h
    ·exact h
    ·rw [S.out m h] at hb; cases hb
   have hv : a.tmps[m]? = some (a.tmps[m]'(by rw [S.size]; exact hm)) := Array.getElem?_eq_getElem _
   have r := S.slots m _ hv
   rw [hb] at r
   obtain ⟨b, he, cs, T, h1, h2, h3, h4, h5⟩ := r
   have hone : s.one (gone (.lcell m off)) = s.one (.slot m (.box (splice c off [.undef]))) := by simp only [gone, St.one, hb]
   rw [hone]
   have := S.slot hm (v := .box (splice c off [.undef])) (u := a.tmps[m]'(by rw [S.size]; exact hm)) ⟨b, he, cs, T, h1, h2, h3, by rw [splice_length (by exact hlt)]; exact h4, fun j x u hx hu => by
    rw [splice_get (by exact hlt)] at hx
    split at hx
    ·rename_i hj
     have : j = off := by simp at hj; omega
     subst this
     simp at hx
     subst hx
     trivial
    ·exact h5 j x u hx hu⟩
   rw [put_same hv] at this
   refine ⟨this, ?_, rfl⟩
   rintro ⟨o', e', l', h⟩
   simp only [St.av, St.one, get_set, if_pos] at h
   rw [splice_get (by exact hlt), if_pos (by simp)] at h
   simp at h
  | _ => rw [hb] at hp; cases hp
 | hcell b off =>
  simp only [St.av] at hp
  cases hb : s.H[b]? with
  | none => rw [hb] at hp; cases hp
  | some c =>
   rw [hb] at hp
   have hc : c[off]? = some (.cap o e l) := by
    cases hx : c[off]? with
    | none => simp only [hx] at hp; cases hp
    | some x => simp only [hx, Option.getD_some] at hp; rw [hp]
   have hlt : off < c.length := (List.getElem?_eq_some_iff.1 hc).1
   have hbl : b < s.H.length := (List.getElem?_eq_some_iff.1 hb).1
   obtain ⟨cs, T, h1, h2, h3, h4, h5⟩ := S.heap b c hb
   have hone : s.one (gone (.hcell b off)) = { s with H := s.H.set b (splice c off [.undef]), hv := s.hv + 1 } := by simp only [gone, St.one, hb]
   rw [hone]
   refine ⟨S.hset hbl ⟨cs, T, h1, h2, h3, by rw [splice_length (by exact hlt)]; exact h4, fun j x u hx hu => ?_⟩, ?_, by simp⟩
   ·rw [splice_get (by exact hlt)] at hx
    split at hx
    ·rename_i hj
     have : j = off := by simp at hj; omega
     subst this
     simp at hx
     subst hx
     trivial
    ·exact h5 j x u hx hu
   ·rintro ⟨o', e', l', h⟩
    simp only [St.av, List.getElem?_set_self hbl] at h
    rw [splice_get (by exact hlt), if_pos (by simp)] at h
    simp at h
def Nxt (P : Program) (n : Nat) (s : St) (w : World) (F : Nat → Nat) (β : Nat → Nat) (O : Nat → Option Own) (s' : St) (a' : Act) (w' : World) : Prop :=
 ∃ F' β' O', Sim P n s' a' w' F' β' O' ∧ Step w F w' F' (fun g => (O g).isSome) ∧ (∀ g, (O' g).isSome → (O g).isSome ∨ w.heap.size ≤ g) ∧ (∀ b, b < s.H.length → β' b = β b) ∧ s.H.length ≤ s'.H.length
theorem Nxt.here {s' : St} {a' : Act} (S : Sim P n s' a' w F β O) (hH : s.H.length ≤ s'.H.length) : Nxt P n s w F β O s' a' w :=
 ⟨F, β, O, S, Step.refl _ _ _, fun _ h => .inl h, fun _ _ => rfl, hH⟩
theorem Sim.move (S : Sim P n s a w F β O) {p : Pl} {o : Bool} {e : TypeId} {l : List AV} (hp : s.av p = .cap o e l) (q : Pl) (o' : Bool) (ho : o' = true → o = true) :
  ∃ u F' O', valAt a w β p = some u ∧ Sim P n (s.one (gone p)) a w F' β O' ∧ relCap P w F' β s.H.length O' q o' e l u ∧ Step w F w F' (fun g => (O g).isSome) ∧ (∀ g, (O' g).isSome → (O g).isSome) ∧ (s.one (gone p)).H.length = s.H.length := by
 obtain ⟨u, hu, inner, h1, h2, h3⟩ := cap_at S hp
 obtain ⟨T, hnh, hH⟩ := S.take hp
 let F' : Nat → Nat := fun g => if u.ownBlock = some g then (if o' then 0 else l.length * sizeT P e) else F g
 let O' : Nat → Option Own := fun g => if O g = some (.pl p) then some (.pl q) else O g
 have hx : Ext w F w F' := ⟨fun _ _ _ _ h => h, fun g _ => by
  show F g ≤ F' g
  simp only [F']
  split
  ·rename_i hg
   rw [(h3 g hg).2]
   cases o <;> cases o' <;> simp at ho ⊢
  ·exact Nat.le_refl _⟩
 refine ⟨u, F', O', hu, ?_, ⟨inner, h1, rowsR.ext hx (fun _ _ => rfl) (Nat.le_refl _) _ l inner h2, fun g hg => ⟨?_, ?_⟩⟩, ⟨rfl, rfl, rfl, Nat.le_refl _, fun g hg hM => ⟨rfl, ?_⟩, hx⟩, fun g hg => ?_, hH⟩
 ·refine T.world hx (fun g q' hq hh => ⟨rfl, ?_, ?_⟩) (fun _ _ => rfl) (fun g q' hq => ?_)
  ·show F' g = F g
   simp only [F']
   rw [if_neg]
   intro hg
   have := (h3 g hg).1
   rw [hq] at this
   injection this with this
   subst this
   exact hnh hh
  ·show O' g = some q'
   simp only [O']
   rw [if_neg]
   ·exact hq
   ·intro h
    rw [hq] at h
    injection h with h
    subst h
    exact hnh hh
  ·simp only [O'] at hq
   split at hq
   ·rename_i h; exact S.olt g _ h
   ·exact S.olt g _ hq
 ·simp only [O']
  rw [if_pos (h3 g hg).1]
 ·simp only [F']
  rw [if_pos hg]
 ·show F' g = F g
  simp only [F']
  rw [if_neg]
  intro h
  rw [(h3 g h).1] at hM
  exact hM rfl
 ·simp only [O'] at hg
  split at hg
  ·rename_i h; rw [h]; rfl
  ·exact hg
theorem Ext.alloc (w : World) (F : Nat → Nat) (o : Obj) (k : Nat) : Ext w F (w.alloc o) (fun g => if g = w.heap.size then k else F g) :=
 ⟨fun b off u _ hc => by rw [World.cell?_alloc_lt w _ _ (cell_lt hc)]; exact hc, fun b hb => by rw [if_neg (by omega)]; exact Nat.le_refl _⟩
theorem Step.alloc (w : World) (F : Nat → Nat) (o : Obj) (k : Nat) (M : Nat → Prop) : Step w F (w.alloc o) (fun g => if g = w.heap.size then k else F g) M :=
 ⟨rfl, rfl, rfl, by simp, fun b hb _ => ⟨Go.RowKit.Below.heap_alloc w o b hb, by rw [if_neg (by omega)]⟩, Ext.alloc w F o k⟩
theorem Sim.alloc (S : Sim P n s a w F β O) (o : Obj) (k : Nat) (q : Own) : Sim P n s a (w.alloc o) (fun g => if g = w.heap.size then k else F g) β (fun g => if g = w.heap.size then some q else O g) := by
 refine S.world (Ext.alloc w F o k) (fun g q' hq _ => ?_) (fun _ _ => rfl) (fun g q' hq => ?_)
 ·have := S.olt g q' hq
  refine ⟨Go.RowKit.Below.heap_alloc w o g this, ?_, ?_⟩
  ·rw [if_neg (by omega)]
  ·rw [if_neg (by omega)]; exact hq
 ·split at hq
  ·rename_i h; subst h; simp
  ·have := S.olt g q' hq; simp; omega
def cellsZ (w : World) (F : Nat → Nat) (β : Nat → Nat) (h : Nat) (z : List AV) (cs : List Value) : Prop :=
 z.length = cs.length ∧ ∀ (j : Nat) (x : AV) (u : Value), z[j]? = some x → cs[j]? = some u → (leaf x = true ∧ relF w F β h x u) ∨ ∃ o e, x = .cap o e [] ∧ u = .slice none 0 0
theorem cellsR.z {h : Nat} {z : List AV} {cs : List Value} (hz : cellsR w F β h z cs) : cellsZ w F β h z cs :=
 ⟨(cellsR_length hz).symm, fun j x u hx hu => by
  obtain ⟨u', hu', hlx, hr⟩ := cellsR_get hz hx
  rw [hu] at hu'
  injection hu' with hu'
  subst hu'
  exact .inl ⟨hlx, hr⟩⟩
theorem relCap_nil {w : World} {F : Nat → Nat} {β : Nat → Nat} {h : Nat} {O : Nat → Option Own} {p : Pl} {o : Bool} {e : TypeId} : relCap P w F β h O p o e [] (.slice none 0 0) :=
 ⟨[], ⟨by simp, .inl ⟨rfl, rfl⟩⟩, by simp [rowsR], fun g hg => by simp [Value.ownBlock] at hg⟩
theorem relZ_cell {w' : World} {F' : Nat → Nat} {β' : Nat → Nat} {h h' : Nat} {O' : Nat → Option Own} {p : Pl} {x : AV} {u : Value} (hr : (leaf x = true ∧ relF w F β h x u) ∨ ∃ o e, x = .cap o e [] ∧ u = .slice none 0 0)
  (up : relF w F β h x u → relF w' F' β' h' x u) : relCell P w' F' β' h' O' p x u := by
 rcases hr with ⟨hlx, hr⟩ | ⟨o, e, rfl, rfl⟩
 ·have := up hr
  cases x <;> first | exact ⟨hlx, this⟩ | cases hlx
 ·exact relCap_nil
theorem Sim.newBox (S : Sim P n s a w F β O) {d : Nat} (hd : d < n) {z : List AV} {cs : List Value} {T : TypeId} (hz : cellsZ w F β s.H.length z cs) :
  Nxt P n s w F β O (s.one (.slot d (.box z))) (a.put (some d) (.pointer (some ⟨w.heap.size, 0, none⟩))) (w.alloc (.cells cs.toArray T)) := by
 have A := S.alloc (.cells cs.toArray T) 0 (.pl (.slot d))
 refine ⟨_, β, _, A.slot hd ⟨w.heap.size, rfl, cs.toArray, T, heap_alloc_new w _, by simp, by simp, by simpa using hz.1.symm, fun j x u hx hu => ?_⟩, Step.alloc _ _ _ _ _, fun g hg => ?_, fun _ _ => rfl, Nat.le_refl _⟩
 ·exact relZ_cell (hz.2 j x u hx (by simpa using hu)) (fun hr => relF.ext (Ext.alloc w F (.cells cs.toArray T) 0) (fun _ _ => rfl) (Nat.le_refl s.H.length) x u (β' := β) hr)
 ·split at hg
  ·rename_i h; exact .inr (by omega)
  ·exact .inl hg
theorem relS_congr {s' : St} {h : Nat} (hg : ∀ i, s'.get i = s.get i) (hH : s'.H = s.H) (hv : s'.hv = s.hv) {i : Nat} {v : AV} {u : Value} (r : relS P w F β h O s a i v u) : relS P w F β h O s' a i v u := by
 have hle : ∀ p ver, s.le p ver → s'.le p ver := fun p ver h => by cases p <;> simp only [St.le, hg, hv] at h ⊢ <;> exact h
 have hval : ∀ p ver, s'.valid p ver → s.valid p ver := fun p ver h => by cases p <;> simp only [St.valid, hg, hv] at h ⊢ <;> exact h
 have hcap : ∀ p, s.capped p → s'.capped p := fun p h => by
  obtain ⟨o, e, l, h⟩ := h
  refine ⟨o, e, l, ?_⟩
  cases p <;> simp only [St.av, hg, hH] at h ⊢ <;> exact h
 cases v with
 | ref p ver => exact ⟨hle _ _ r.1, fun h => ⟨hcap _ (r.2 (hval _ _ h)).1, (r.2 (hval _ _ h)).2⟩⟩
 | lptr m ver off => exact ⟨by rw [hg]; exact r.1, fun h => by rw [hg] at h ⊢; exact r.2 h⟩
 | eaddr p ver sz j off => exact ⟨hle _ _ r.1, fun h => ⟨hcap _ (r.2 (hval _ _ h)).1, (r.2 (hval _ _ h)).2⟩⟩
 | _ => exact r
theorem Sim.congr {s' : St} (S : Sim P n s a w F β O) (hg : ∀ i, s'.get i = s.get i) (hH : s'.H = s.H) (hv : s'.hv = s.hv) : Sim P n s' a w F β O :=
 ⟨S.size, S.defers, fun i hi => by rw [hg]; exact S.out i hi, fun i u hu => by rw [hg, hH]; exact relS_congr hg hH hv (S.slots i u hu), fun b l hl => by rw [hH] at hl ⊢; exact S.heap b l hl, S.olt⟩
theorem Sim.fill (S : Sim P n s a w F β O) {d k : Nat} (hd : (s.get d) = (.undef, k)) (hn : d < n) {v : AV} {u : Value} (hu : a.tmps[d]? = some u) (hv : relS P w F β s.H.length O (s.set d v k) a d v u) : Sim P n (s.set d v k) a w F β O := by
 have hle : ∀ p ver, s.le p ver → (s.set d v k).le p ver := fun p ver h => by
  cases p with
  | hcell b off => exact h
  | slot m =>
   simp only [St.le, get_set] at h ⊢
   by_cases e : d = m
   ·subst e; rw [hd] at h; rw [if_pos rfl]; exact h
   ·rw [if_neg e]; exact h
  | lcell m off =>
   simp only [St.le, get_set] at h ⊢
   by_cases e : d = m
   ·subst e; rw [hd] at h; rw [if_pos rfl]; exact h
   ·rw [if_neg e]; exact h
 have hval : ∀ p ver, (s.set d v k).valid p ver → s.valid p ver := fun p ver h => by
  cases p with
  | hcell b off => exact h
  | slot m =>
   simp only [St.valid, get_set] at h ⊢
   by_cases e : d = m
   ·subst e; rw [hd]; rw [if_pos rfl] at h; exact h
   ·rw [if_neg e] at h; exact h
  | lcell m off =>
   simp only [St.valid, get_set] at h ⊢
   by_cases e : d = m
   ·subst e; rw [hd]; rw [if_pos rfl] at h; exact h
   ·rw [if_neg e] at h; exact h
 have hcap : ∀ p, s.capped p → (s.set d v k).capped p := fun p h => by
  obtain ⟨o, e, l, h⟩ := h
  refine ⟨o, e, l, ?_⟩
  cases p with
  | hcell b off => exact h
  | slot m =>
   simp only [St.av, get_set] at h ⊢
   by_cases e : d = m
   ·subst e; rw [hd] at h; cases h
   ·rw [if_neg e]; exact h
  | lcell m off =>
   simp only [St.av, get_set] at h ⊢
   by_cases e : d = m
   ·subst e; rw [hd] at h; cases h
   ·rw [if_neg e]; exact h
 refine ⟨S.size, S.defers, fun i hi => ?_, fun i x hx => ?_, S.heap, S.olt⟩
 ·rw [get_set, if_neg (by omega)]; exact S.out i hi
 ·rw [get_set]
  by_cases e : d = i
  ·subst e
   rw [if_pos rfl]
   rw [hu] at hx
   injection hx with hx
   subst hx
   exact hv
  ·rw [if_neg e]
   have r := S.slots i x hx
   revert r
   cases (s.get i).1 with
   | ref p ver => exact fun r => ⟨hle _ _ r.1, fun h => ⟨hcap _ (r.2 (hval _ _ h)).1, (r.2 (hval _ _ h)).2⟩⟩
   | lptr m ver off =>
    intro r
    refine ⟨hle (.slot m) _ r.1, fun h => ?_⟩
    have h' := hval (.slot m) ver h
    obtain ⟨⟨l, h1⟩, h2⟩ := r.2 h'
    have hm : d ≠ m := fun e => by subst e; rw [hd] at h1; cases h1
    exact ⟨⟨l, by rw [get_set, if_neg hm]; exact h1⟩, h2⟩
   | eaddr p ver sz j off => exact fun r => ⟨hle _ _ r.1, fun h => ⟨hcap _ (r.2 (hval _ _ h)).1, (r.2 (hval _ _ h)).2⟩⟩
   | _ => exact fun r => r
def ofSlot (d : Nat) : Own → Prop
 | .pl (.slot m) => m = d
 | .pl (.lcell m _) => m = d
 | _ => False
theorem Sim.slotW (S : Sim P n s a w F β O) {d : Nat} (hd : d < n) {v : AV} {u : Value} (e : Ext w F w' F') (hb : ∀ g q, O g = some q → s.held q → ¬ ofSlot d q → w'.heap[g]? = w.heap[g]? ∧ F' g = F g ∧ O' g = some q)
  (hβ : ∀ b, b < s.H.length → β' b = β b) (ho : ∀ g q, O' g = some q → g < w'.heap.size) (hv : relS P w' F' β' s.H.length O' (s.one (.slot d v)) (a.put (some d) u) d v u) : Sim P n (s.one (.slot d v)) (a.put (some d) u) w' F' β' O' := by
 have h1 := S.slotF hd (v := .undef) (u := u) (by simp only [relF])
 have h2 : Sim P n (s.one (.slot d .undef)) (a.put (some d) u) w' F' β' O' := by
  refine h1.world e (fun g q hq hh => ?_) hβ ho
  refine hb g q hq ?_ ?_
  ·cases q with
   | hb b => exact hh
   | pl p =>
    cases p with
    | slot m =>
     simp only [St.held, St.one, get_set] at hh ⊢
     by_cases e : d = m
     ·subst e; rw [if_pos rfl] at hh; rcases hh with ⟨o, e, l, h⟩ | ⟨l, h⟩ <;> cases h
     ·rw [if_neg e] at hh; exact hh
    | lcell m off =>
     simp only [St.held, St.capped, St.av, St.one, get_set] at hh ⊢
     by_cases e : d = m
     ·subst e; rw [if_pos rfl] at hh; obtain ⟨o, e, l, h⟩ := hh; cases h
     ·rw [if_neg e] at hh; exact hh
    | hcell b off => exact hh
  ·intro hs
   cases q with
   | hb b => exact hs
   | pl p =>
    cases p with
    | slot m =>
     have : m = d := hs
     subst this
     simp only [St.held, St.one, get_set, if_pos] at hh
     rcases hh with ⟨o, e, l, h⟩ | ⟨l, h⟩ <;> cases h
    | lcell m off =>
     have : m = d := hs
     subst this
     simp only [St.held, St.capped, St.av, St.one, get_set, if_pos] at hh
     obtain ⟨o, e, l, h⟩ := hh
     cases h
    | hcell b off => exact hs
 have hsz : (a.put (some d) u).tmps[d]? = some u := by rw [put_get, if_pos rfl, if_pos (by rw [S.size]; exact hd)]
 have hget : (s.one (.slot d .undef)).get d = (.undef, (s.get d).2 + 1) := by simp only [St.one, get_set, if_pos]
 have hg : ∀ i, (s.one (.slot d v)).get i = ((s.one (.slot d .undef)).set d v ((s.get d).2 + 1)).get i := fun i => by
  simp only [St.one, get_set]
  split <;> rfl
 have h3 := h2.fill hget hd hsz (v := v) (relS_congr (s := s.one (.slot d v)) (fun i => (hg i).symm) rfl rfl hv)
 exact h3.congr hg rfl rfl
theorem Ext.setRow {b : Nat} (cs : Array Value) (hF : F b = 0) : Ext w F (w.setRow b cs) F :=
 ⟨fun g o u ho hc => by
  have : g ≠ b := fun e => by subst e; omega
  rw [cell_block (w := w) (a := ⟨g, o, none⟩) (setRow_other w b g cs this)]
  exact hc, fun _ _ => Nat.le_refl _⟩
theorem Step.setRow {b : Nat} (cs : Array Value) (hF : F b = 0) {M : Nat → Prop} (hM : M b) : Step w F (w.setRow b cs) F M :=
 ⟨rfl, rfl, rfl, by simp [World.setRow], fun g _ hg => ⟨setRow_other w b g cs (fun e => hg (e ▸ hM)), rfl⟩, Ext.setRow cs hF⟩
theorem splice_toList {cur : Array Value} {us : List Value} {off : Nat} (h : off + us.length ≤ cur.size) (j : Nat) : (cur.toList.take off ++ us ++ cur.toList.drop (off + us.length)).toArray[j]? = if off ≤ j ∧ j < off + us.length then us[j - off]? else cur[j]? := by
 simp only [List.getElem?_toArray]
 have ht : (cur.toList.take off).length = off := by rw [List.length_take, Array.length_toList]; omega
 by_cases h1 : j < off
 ·rw [if_neg (by omega), List.append_assoc, List.getElem?_append_left (by omega), List.getElem?_take, if_pos h1, Array.getElem?_toList]
 ·by_cases h2 : j < off + us.length
  ·rw [if_pos ⟨by omega, h2⟩, List.append_assoc, List.getElem?_append_right (by omega), ht, List.getElem?_append_left (by omega)]
  ·rw [if_neg (by omega), List.getElem?_append_right (by rw [List.length_append]; omega), List.getElem?_drop, List.length_append, ht, Array.getElem?_toList]
   congr 1
   omega
def newCells (P : Program) (w : World) (F : Nat → Nat) (β : Nat → Nat) (h : Nat) (O : Nat → Option Own) (pc : Nat → Pl) (off : Nat) (c : List AV) (us : List Value) : Prop :=
 us.length = c.length ∧ (∀ u ∈ us, u.oneCell' = true) ∧ ∀ j x u, c[j]? = some x → us[j]? = some u → relCell P w F β h O (pc (off + j)) x u
theorem newCells.mono {pc : Nat → Pl} {off h : Nat} {c : List AV} {us : List Value} (r : newCells P w F β h O pc off c us) (e : Ext w F w' F') (hb : ∀ j g, O g = some (.pl (pc j)) → w'.heap[g]? = w.heap[g]? ∧ F' g = F g ∧ O' g = O g) : newCells P w' F' β h O' pc off c us :=
 ⟨r.1, r.2.1, fun j x u hx hu => (r.2.2 j x u hx hu).keep e (fun _ _ => rfl) (Nat.le_refl _) (hb _)⟩
theorem Sim.storeBox (S : Sim P n s a w F β O) {m b off : Nat} {l c : List AV} {us : List Value} (hl : (s.get m).1 = .box l) (hm : a.tmps[m]? = some (.pointer (some ⟨b, 0, none⟩))) (hfit : off + c.length ≤ l.length)
  (hc : newCells P w F β s.H.length O (fun j => .lcell m j) off c us) :
  ∃ cur T, w.heap[b]? = some (.cells cur T (0, 0)) ∧ off + us.length ≤ cur.size ∧ Nxt P n s w F β O (s.one (.lcell m off c)) a (w.setRow b (cur.toList.take off ++ us ++ cur.toList.drop (off + us.length)).toArray) := by
 have r := S.slots m _ hm
 rw [hl] at r
 obtain ⟨b', he, cur, T, h1, h2, h3, h4, h5⟩ := r
 injection he with he
 injection he with he
 injection he with he
 subst he
 have hm' : m < n := by
  rcases Nat.lt_or_ge m n with h | h
  ·exact h
  ·rw [S.out m h] at hl; cases hl
 have hcur : off + us.length ≤ cur.size := by rw [hc.1, h4]; exact hfit
 refine ⟨cur, T, h1, hcur, F, β, O, ?_, Step.setRow _ h2 (by rw [h3]; rfl), fun g hg => .inl hg, fun _ _ => rfl, ?_⟩
 ·have hone : s.one (.lcell m off c) = s.one (.slot m (.box (splice l off c))) := by simp only [St.one, hl]
  rw [hone, ← put_same hm]
  have hne : ∀ g q, O g = some q → ¬ ofSlot m q → g ≠ b := fun g q hq hn e => by
   subst e
   rw [h3] at hq
   injection hq with hq
   subst hq
   exact hn rfl
  have hkeep : ∀ j g, O g = some (.pl (.lcell m j)) → (w.setRow b (cur.toList.take off ++ us ++ cur.toList.drop (off + us.length)).toArray).heap[g]? = w.heap[g]? ∧ F g = F g ∧ O g = O g := fun j g hg => by
   refine ⟨setRow_other w b g _ (fun e => ?_), rfl, rfl⟩
   subst e
   rw [h3] at hg
   cases hg
  refine S.slotW hm' (Ext.setRow _ h2) (fun g q hq _ hn => ⟨setRow_other w b g _ (hne g q hq hn), rfl, hq⟩) (fun _ _ => rfl) (fun g q hq => by simpa [World.setRow] using S.olt g q hq) ⟨b, rfl, _, T, setRow_heap w b cur _ T (0, 0) h1, h2, h3, ?_, fun j x u hx hu => ?_⟩
  ·rw [splice_length hfit]
   simp only [List.size_toArray, List.length_append, List.length_take, List.length_drop, Array.length_toList]
   omega
  ·rw [splice_get hfit] at hx
   rw [splice_toList hcur, hc.1] at hu
   split at hx
   ·rename_i hj
    rw [if_pos hj] at hu
    have := hc.2.2 (j - off) x u hx hu
    rw [show off + (j - off) = j by omega] at this
    exact this.keep (Ext.setRow _ h2) (fun _ _ => rfl) (Nat.le_refl _) (hkeep j)
   ·rename_i hj
    rw [if_neg hj] at hu
    exact (h5 j x u hx hu).keep (Ext.setRow _ h2) (fun _ _ => rfl) (Nat.le_refl _) (hkeep j)
 ·simp only [St.one, hl, set_H]; exact Nat.le_refl _
end
end Go.Vai
