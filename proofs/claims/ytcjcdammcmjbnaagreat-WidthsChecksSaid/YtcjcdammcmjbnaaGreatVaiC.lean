/- The simulation: what a state of the interpreter says of a frame and a world; how it lives on. -/
import Derived.Test.YtcjcdammcmjbnaaGreatVaiB
import Derived.Laws.NewBlocks
import Derived.Laws.IdiomCopy
namespace Go.Vai
inductive Own where
 | pl (p : Pl)
 | hb (b : Nat)
 deriving DecidableEq
def St.valid (s : St) : Pl → Nat → Prop
 | .slot n, ver => (s.get n).2 = ver
 | .lcell n _, ver => (s.get n).2 = ver
 | .hcell _ _, ver => s.hv = ver
def St.le (s : St) : Pl → Nat → Prop
 | .slot n, ver => ver ≤ (s.get n).2
 | .lcell n _, ver => ver ≤ (s.get n).2
 | .hcell _ _, ver => ver ≤ s.hv
def St.av (s : St) : Pl → AV
 | .slot n => (s.get n).1
 | .lcell n off => match (s.get n).1 with | .box l => (l[off]?).getD .undef | _ => .undef
 | .hcell b off => match s.H[b]? with | some l => (l[off]?).getD .undef | none => .undef
def St.capped (s : St) (p : Pl) : Prop := ∃ o e l, s.av p = .cap o e l
def St.held (s : St) : Own → Prop
 | .pl (.slot n) => (∃ o e l, (s.get n).1 = .cap o e l) ∨ ∃ l, (s.get n).1 = .box l
 | .pl p => s.capped p
 | .hb b => b < s.H.length
def valAt (a : Act) (w : World) (β : Nat → Nat) : Pl → Option Value
 | .slot n => a.tmps[n]?
 | .lcell n off => match a.tmps[n]? with | some (.pointer (some ad)) => w.cell? ⟨ad.block, off, none⟩ | _ => none
 | .hcell b off => w.cell? ⟨β b, off, none⟩
section
variable (P : Program) (w : World) (F : Nat → Nat) (β : Nat → Nat) (h : Nat) (O : Nat → Option Own)
def relCap (p : Pl) (o : Bool) (e : TypeId) (l : List AV) (v : Value) : Prop :=
 ∃ inner, w.ownsRow 0 e (sizeT P e) v l.length inner ∧ rowsR w F β h (sizeT P e) l inner ∧
  ∀ g, v.ownBlock = some g → O g = some (.pl p) ∧ F g = if o then 0 else l.length * sizeT P e
def relCell (p : Pl) (x : AV) (u : Value) : Prop :=
 match x with
 | .cap o e l => relCap P w F β h O p o e l u
 | .undef => True
 | x => leaf x = true ∧ relF w F β h x u
def boxAt (q : Own) (pc : Nat → Pl) (b : Nat) (l : List AV) : Prop :=
 ∃ cs T, w.heap[b]? = some (.cells cs T (0, 0)) ∧ F b = 0 ∧ O b = some q ∧ cs.size = l.length ∧ ∀ j x u, l[j]? = some x → cs[j]? = some u → relCell P w F β h O (pc j) x u
def relS (s : St) (a : Act) (i : Nat) (v : AV) (u : Value) : Prop :=
 match v with
 | .cap o e l => relCap P w F β h O (.slot i) o e l u
 | .box l => ∃ b, u = .pointer (some ⟨b, 0, none⟩) ∧ boxAt P w F β h O (.pl (.slot i)) (fun j => .lcell i j) b l
 | .ref p ver => s.le p ver ∧ (s.valid p ver → s.capped p ∧ valAt a w β p = some u)
 | .lptr n ver off => ver ≤ (s.get n).2 ∧ ((s.get n).2 = ver → (∃ l, (s.get n).1 = .box l) ∧ ∃ b, a.tmps[n]? = some (.pointer (some ⟨b, 0, none⟩)) ∧ u = .pointer (some ⟨b, off, none⟩))
 | .eaddr p ver sz i off => s.le p ver ∧ (s.valid p ver → s.capped p ∧ ∃ g m c, valAt a w β p = some (.slice (some ⟨g, 0, none⟩) m c) ∧ u = .pointer (some ⟨g, i * sz + off, none⟩))
 | v => relF w F β h v u
end
structure Sim (P : Program) (n : Nat) (s : St) (a : Act) (w : World) (F : Nat → Nat) (β : Nat → Nat) (O : Nat → Option Own) : Prop where
 size : a.tmps.size = n
 defers : a.defers = []
 out : ∀ i, n ≤ i → (s.get i).1 = .undef
 slots : ∀ i u, a.tmps[i]? = some u → relS P w F β s.H.length O s a i (s.get i).1 u
 heap : ∀ b l, s.H[b]? = some l → boxAt P w F β s.H.length O (.hb b) (fun j => .hcell b j) (β b) l
 olt : ∀ g q, O g = some q → g < w.heap.size
structure Step (w : World) (F : Nat → Nat) (w' : World) (F' : Nat → Nat) (M : Nat → Prop) : Prop where
 os : w'.os = w.os
 tape : w'.tape = w.tape
 output : w'.output = w.output
 size : w.heap.size ≤ w'.heap.size
 block : ∀ b, b < w.heap.size → ¬ M b → w'.heap[b]? = w.heap[b]? ∧ F' b = F b
 ext : Ext w F w' F'
theorem Step.refl (w : World) (F : Nat → Nat) (M : Nat → Prop) : Step w F w F M := ⟨rfl, rfl, rfl, Nat.le_refl _, fun _ _ _ => ⟨rfl, rfl⟩, Ext.refl w F⟩
theorem Step.trans {w w1 w2 : World} {F F1 F2 : Nat → Nat} {M N : Nat → Prop} (h : Step w F w1 F1 M) (k : Step w1 F1 w2 F2 N) (hN : ∀ b, b < w.heap.size → N b → M b) : Step w F w2 F2 M :=
 ⟨k.os.trans h.os, k.tape.trans h.tape, k.output.trans h.output, Nat.le_trans h.size k.size, fun b hb hM => by
  have h1 := h.block b hb hM
  have h2 := k.block b (Nat.lt_of_lt_of_le hb h.size) (fun hn => hM (hN b hb hn))
  exact ⟨h2.1.trans h1.1, h2.2.trans h1.2⟩, h.ext.trans k.ext h.size⟩
theorem Step.mono {w w' : World} {F F' : Nat → Nat} {M N : Nat → Prop} (h : Step w F w' F' M) (hMN : ∀ b, b < w.heap.size → M b → N b) : Step w F w' F' N :=
 ⟨h.os, h.tape, h.output, h.size, fun b hb hN => h.block b hb (fun hm => hN (hMN b hb hm)), h.ext⟩
theorem own_row_block {w w' : World} {base : Nat} {e : TypeId} {sz n : Nat} {v : Value} {xs : List Value} (h : w.ownsRow base e sz v n xs) (hb : ∀ g, v.ownBlock = some g → w'.heap[g]? = w.heap[g]?) : w'.ownsRow base e sz v n xs := by
 obtain ⟨h1, h2 | ⟨g, cap, cur, rfl, hg, hh, r⟩⟩ := h
 ·exact ⟨h1, .inl h2⟩
 ·exact ⟨h1, .inr ⟨g, cap, cur, rfl, hg, (hb g rfl).trans hh, r⟩⟩
section
variable {P : Program} {w w' : World} {F F' : Nat → Nat} {β β' : Nat → Nat} {h h' : Nat} {O O' : Nat → Option Own}
theorem relCap.keep {p : Pl} {o : Bool} {e : TypeId} {l : List AV} {v : Value} (r : relCap P w F β h O p o e l v) (x : Ext w F w' F') (hβ : ∀ b, b < h → β' b = β b) (hh : h ≤ h')
  (hb : ∀ g, O g = some (.pl p) → w'.heap[g]? = w.heap[g]? ∧ F' g = F g ∧ O' g = O g) : relCap P w' F' β' h' O' p o e l v := by
 obtain ⟨inner, h1, h2, h3⟩ := r
 refine ⟨inner, own_row_block h1 (fun g hg => (hb g (h3 g hg).1).1), rowsR.ext x hβ hh _ l inner h2, fun g hg => ?_⟩
 obtain ⟨h4, h5⟩ := h3 g hg
 obtain ⟨_, h6, h7⟩ := hb g h4
 exact ⟨h7.trans h4, h6.trans h5⟩
theorem relCell.keep {p : Pl} {x : AV} {v : Value} (r : relCell P w F β h O p x v) (e : Ext w F w' F') (hβ : ∀ b, b < h → β' b = β b) (hh : h ≤ h')
  (hb : ∀ g, O g = some (.pl p) → w'.heap[g]? = w.heap[g]? ∧ F' g = F g ∧ O' g = O g) : relCell P w' F' β' h' O' p x v := by
 cases x with
 | cap o e' l => exact relCap.keep r e hβ hh hb
 | undef => trivial
 | _ => exact ⟨r.1, relF.ext e hβ hh _ _ r.2⟩
theorem boxAt.keep {q : Own} {pc : Nat → Pl} {b : Nat} {l : List AV} (r : boxAt P w F β h O q pc b l) (e : Ext w F w' F') (hβ : ∀ b, b < h → β' b = β b) (hh : h ≤ h')
  (hb : w'.heap[b]? = w.heap[b]? ∧ F' b = F b ∧ O' b = O b) (hc : ∀ j g, O g = some (.pl (pc j)) → w'.heap[g]? = w.heap[g]? ∧ F' g = F g ∧ O' g = O g) : boxAt P w' F' β' h' O' q pc b l := by
 obtain ⟨cs, T, h1, h2, h3, h4, h5⟩ := r
 exact ⟨cs, T, hb.1.trans h1, hb.2.1.trans h2, hb.2.2.trans h3, h4, fun j x u hx hu => (h5 j x u hx hu).keep e hβ hh (hc j)⟩
theorem boxAt.own {q : Own} {pc : Nat → Pl} {b : Nat} {l : List AV} (r : boxAt P w F β h O q pc b l) : O b = some q := by
 obtain ⟨cs, T, h1, h2, h3, h4, h5⟩ := r
 exact h3
theorem cell_block {w w' : World} {a : Addr} (h : w'.heap[a.block]? = w.heap[a.block]?) : w'.cell? a = w.cell? a := World.cell?_of_block h
variable {n : Nat} {s : St} {a : Act}
theorem valAt_keep (S : Sim P n s a w F β O) (hb : ∀ g q, O g = some q → s.held q → w'.heap[g]? = w.heap[g]?) (hβ : ∀ b, b < s.H.length → β' b = β b) {p : Pl} (hp : s.capped p) : valAt a w' β' p = valAt a w β p := by
 obtain ⟨o, e, l0, hp⟩ := hp
 cases p with
 | slot n => rfl
 | lcell i off =>
  simp only [valAt]
  simp only [St.av] at hp
  split
  ·rename_i ad hu
   have := S.slots i _ hu
   revert this hp
   cases hv : (s.get i).1 with
   | box l =>
    intro _ r
    simp only [relS] at r
    obtain ⟨b, he, r⟩ := r
    injection he with he
    injection he with he
    subst he
    exact cell_block (hb _ _ r.own (.inr ⟨l, hv⟩))
   | _ => intro h _; cases h
  ·rfl
 | hcell b off =>
  simp only [valAt]
  simp only [St.av] at hp
  cases hl : s.H[b]? with
  | none => rw [hl] at hp; cases hp
  | some l =>
   have hlt : b < s.H.length := (List.getElem?_eq_some_iff.1 hl).1
   rw [hβ b hlt]
   exact cell_block (hb _ _ (S.heap b l hl).own hlt)
theorem box_capped {s : St} {i j : Nat} {l : List AV} {o : Bool} {e : TypeId} {m : List AV} (hv : (s.get i).1 = .box l) (hj : l[j]? = some (.cap o e m)) : s.capped (.lcell i j) := ⟨o, e, m, by simp only [St.av, hv, hj]; rfl⟩
theorem heap_capped {s : St} {b j : Nat} {l : List AV} {o : Bool} {e : TypeId} {m : List AV} (hv : s.H[b]? = some l) (hj : l[j]? = some (.cap o e m)) : s.capped (.hcell b j) := ⟨o, e, m, by simp only [St.av, hv, hj]; rfl⟩
theorem Sim.world (S : Sim P n s a w F β O) (e : Ext w F w' F') (hb : ∀ g q, O g = some q → s.held q → w'.heap[g]? = w.heap[g]? ∧ F' g = F g ∧ O' g = some q) (hβ : ∀ b, b < s.H.length → β' b = β b)
  (ho : ∀ g q, O' g = some q → g < w'.heap.size) : Sim P n s a w' F' β' O' := by
 have hO : ∀ g q, O g = some q → s.held q → w'.heap[g]? = w.heap[g]? ∧ F' g = F g ∧ O' g = O g := fun g q hq hh => by
  obtain ⟨h1, h2, h3⟩ := hb g q hq hh
  exact ⟨h1, h2, h3.trans hq.symm⟩
 have hcell : ∀ (p : Pl) (x : AV) (u : Value), (∀ o e m, x = .cap o e m → s.held (.pl p)) → relCell P w F β s.H.length O p x u → relCell P w' F' β' s.H.length O' p x u := fun p x u hp r => by
  cases x with
  | cap o e' m => exact relCap.keep r e hβ (Nat.le_refl _) (fun g hg => hO g _ hg (hp o e' m rfl))
  | undef => trivial
  | _ => exact ⟨r.1, relF.ext e hβ (Nat.le_refl _) _ _ r.2⟩
 have hbox : ∀ (q : Own) (pc : Nat → Pl) (b : Nat) (l : List AV), s.held q → (∀ j o e m, l[j]? = some (.cap o e m) → s.held (.pl (pc j))) → boxAt P w F β s.H.length O q pc b l → boxAt P w' F' β' s.H.length O' q pc b l := fun q pc b l hq hl r => by
  obtain ⟨cs, T, h1, h2, h3, h4, h5⟩ := r
  obtain ⟨h6, h7, h8⟩ := hO b q h3 hq
  exact ⟨cs, T, h6.trans h1, h7.trans h2, h8.trans h3, h4, fun j x u hx hu => hcell _ _ _ (fun o e' m he => hl j o e' m (by rw [← he]; exact hx)) (h5 j x u hx hu)⟩
 refine ⟨S.size, S.defers, S.out, fun i u hu => ?_, fun b l hl => ?_, ho⟩
 ·have r := S.slots i u hu
  revert r
  cases hv : (s.get i).1 with
  | cap o e' l => exact fun r => relCap.keep r e hβ (Nat.le_refl _) (fun g hg => hO g _ hg (.inl ⟨o, e', l, hv⟩))
  | box l =>
   rintro ⟨b, rfl, r⟩
   exact ⟨b, rfl, hbox _ _ _ _ (.inr ⟨l, hv⟩) (fun j o e' m hj => box_capped hv hj) r⟩
  | ref p ver =>
   rintro ⟨h1, h2⟩
   refine ⟨h1, fun hv => ?_⟩
   obtain ⟨h3, h4⟩ := h2 hv
   exact ⟨h3, (valAt_keep S (fun g q hq hh => (hb g q hq hh).1) hβ h3).trans h4⟩
  | lptr m ver off => exact fun r => r
  | eaddr p ver sz j off =>
   rintro ⟨h1, h2⟩
   refine ⟨h1, fun hv => ?_⟩
   obtain ⟨h3, g, m, c, h4, h5⟩ := h2 hv
   exact ⟨h3, g, m, c, (valAt_keep S (fun g q hq hh => (hb g q hq hh).1) hβ h3).trans h4, h5⟩
  | _ => exact fun r => relF.ext e hβ (Nat.le_refl _) _ _ r
 ·have r := S.heap b l hl
  have hlt : b < s.H.length := (List.getElem?_eq_some_iff.1 hl).1
  rw [hβ b hlt]
  exact hbox _ _ _ _ hlt (fun j o e' m hj => heap_capped hl hj) r
theorem get_set {s : St} {d : Nat} {v : AV} {k i : Nat} : (s.set d v k).get i = if d = i then (v, k) else s.get i := by
 unfold St.set St.get
 simp only [lookT]
 by_cases h : d = i
 ·subst h; simp
 ·have : Nat.beq d i = false := by
   cases hb : Nat.beq d i with
   | false => rfl
   | true => exact absurd (Nat.eq_of_beq_eq_true hb) h
  simp [this, h]
theorem set_H {s : St} {d : Nat} {v : AV} {k : Nat} : (s.set d v k).H = s.H := rfl
theorem set_hv {s : St} {d : Nat} {v : AV} {k : Nat} : (s.set d v k).hv = s.hv := rfl
theorem put_get {a : Act} {d : Nat} {u : Value} (i : Nat) : (a.put (some d) u).tmps[i]? = if d = i then (if d < a.tmps.size then some u else none) else a.tmps[i]? := by
 simp only [Act.put, Array.getElem?_setIfInBounds]
theorem Sim.slot (S : Sim P n s a w F β O) {d : Nat} (hd : d < n) {v : AV} {u : Value} (hv : relS P w F β s.H.length O (s.one (.slot d v)) (a.put (some d) u) d v u) :
  Sim P n (s.one (.slot d v)) (a.put (some d) u) w F β O := by
 have hsz : (a.put (some d) u).tmps.size = n := by simp [Act.put, S.size]
 have hle : ∀ (p : Pl) ver, s.le p ver → (s.one (.slot d v)).le p ver := fun p ver h => by
  cases p <;> simp only [St.le, St.one, get_set, set_hv] at h ⊢ <;> (try split) <;> simp_all <;> omega
 have hval : ∀ (p : Pl) ver, s.le p ver → (s.one (.slot d v)).valid p ver → s.valid p ver ∧ (s.capped p → (s.one (.slot d v)).capped p ∧ ∀ w' β', valAt (a.put (some d) u) w' β' p = valAt a w' β' p) := fun p ver h h' => by
  cases p with
  | slot m =>
   simp only [St.le, St.valid, St.one, get_set] at h h' ⊢
   by_cases hm : d = m
   ·subst hm; simp at h'; omega
   ·rw [if_neg hm] at h'
    refine ⟨h', fun hc => ⟨?_, fun _ _ => ?_⟩⟩
    ·simpa only [St.capped, St.av, get_set, if_neg hm] using hc
    ·simp only [valAt, put_get, if_neg hm]
  | lcell m off =>
   simp only [St.le, St.valid, St.one, get_set] at h h' ⊢
   by_cases hm : d = m
   ·subst hm; simp at h'; omega
   ·rw [if_neg hm] at h'
    refine ⟨h', fun hc => ⟨?_, fun _ _ => ?_⟩⟩
    ·simpa only [St.capped, St.av, get_set, if_neg hm] using hc
    ·simp only [valAt, put_get, if_neg hm]
  | hcell b off => exact ⟨h', fun hc => ⟨hc, fun _ _ => rfl⟩⟩
 refine ⟨hsz, S.defers, fun i hi => ?_, fun i x hx => ?_, S.heap, S.olt⟩
 ·simp only [St.one, get_set]
  rw [if_neg (by omega)]
  exact S.out i hi
 ·simp only [St.one, get_set]
  rw [put_get] at hx
  by_cases hi : d = i
  ·subst hi
   rw [if_pos rfl, if_pos (by rw [S.size]; exact hd)] at hx
   injection hx with hx
   subst hx
   rw [if_pos rfl]
   exact hv
  ·rw [if_neg hi] at hx
   rw [if_neg hi]
   have r := S.slots i x hx
   revert r
   cases (s.get i).1 with
   | ref p ver =>
    rintro ⟨h1, h2⟩
    refine ⟨hle p ver h1, fun hv' => ?_⟩
    obtain ⟨h3, h4⟩ := hval p ver h1 hv'
    obtain ⟨h5, h6⟩ := h2 h3
    exact ⟨(h4 h5).1, ((h4 h5).2 w β).trans h6⟩
   | lptr m ver off =>
    rintro ⟨h1, h2⟩
    have h1' := hle (.slot m) ver h1
    refine ⟨h1', fun hv' => ?_⟩
    obtain ⟨h3, h4⟩ := hval (.slot m) ver h1 hv'
    have hm : d ≠ m := fun e => by subst e; simp only [get_set] at hv'; simp at hv'; omega
    obtain ⟨⟨l, h5⟩, b, h6, h7⟩ := h2 h3
    refine ⟨⟨l, by simp only [get_set, if_neg hm]; exact h5⟩, b, ?_, h7⟩
    rw [put_get, if_neg hm]
    exact h6
   | eaddr p ver sz j off =>
    rintro ⟨h1, h2⟩
    refine ⟨hle p ver h1, fun hv' => ?_⟩
    obtain ⟨h3, h4⟩ := hval p ver h1 hv'
    obtain ⟨h5, g, m, c, h6, h7⟩ := h2 h3
    exact ⟨(h4 h5).1, g, m, c, ((h4 h5).2 w β).trans h6, h7⟩
   | _ => exact fun r => r
theorem Sim.slotF (S : Sim P n s a w F β O) {d : Nat} (hd : d < n) {v : AV} {u : Value} (hv : relF w F β s.H.length v u) : Sim P n (s.one (.slot d v)) (a.put (some d) u) w F β O := by
 refine S.slot hd ?_
 cases v <;> first | exact hv | (simp only [relF] at hv)
end
end Go.Vai
