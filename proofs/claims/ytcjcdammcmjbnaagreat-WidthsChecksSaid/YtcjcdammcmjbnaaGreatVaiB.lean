/- The relation between abstract values and the machine's, and how it is kept. -/
import Derived.Test.YtcjcdammcmjbnaaGreatVaiA
import Derived.Below
namespace Go.Vai
def memAt (w : World) (F : Nat → Nat) (A : Option Addr) (cs : List Value) : Prop :=
 cs = [] ∨ ∃ b o, A = some ⟨b, o, none⟩ ∧ ∀ j u, cs[j]? = some u → w.cell? ⟨b, o + j, none⟩ = some u ∧ o + j < F b
mutual
def relF (w : World) (F : Nat → Nat) (β : Nat → Nat) (h : Nat) : AV → Value → Prop
 | .sc c, v => v = c ∧ isSc c = true
 | .sl sz l, v => ∃ A c inner, v = .slice A l.length c ∧ l.length ≤ c ∧ rowsR w F β h sz l inner ∧ memAt w F A inner
 | .agg l, v => ∃ cs, v = .agg cs.toArray ∧ cellsR w F β h l cs
 | .tup l, v => ∃ vs, v = .tuple vs.toArray ∧ listR w F β h l vs
 | .ea l, v => ∃ b o inner, v = .pointer (some ⟨b, o, none⟩) ∧ cellsR w F β h l inner ∧ memAt w F (some ⟨b, o, none⟩) inner
 | .fn f l, v => ∃ vs, v = .func (.func f) #[] vs.toArray ∧ listR w F β h l vs
 | .ptr b o, v => b < h ∧ v = .pointer (some ⟨β b, o, none⟩)
 | .hsl b o _ l c, v => b < h ∧ v = .slice (some ⟨β b, o, none⟩) l c
 | .undef, _ => True
 | _, _ => False
def rowsR (w : World) (F : Nat → Nat) (β : Nat → Nat) (h : Nat) (sz : Nat) : List AV → List Value → Prop
 | [], cs => cs = []
 | x :: r, cs => ∃ c1 c2, cs = c1 ++ c2 ∧ c1.length = sz ∧ itemR w F β h x c1 ∧ rowsR w F β h sz r c2
def itemR (w : World) (F : Nat → Nat) (β : Nat → Nat) (h : Nat) : AV → List Value → Prop
 | .agg l, cs => cellsR w F β h l cs
 | .sc c, cs => cs = [c] ∧ isSc c = true
 | .sl sz l, cs => ∃ A c inner, cs = [.slice A l.length c] ∧ l.length ≤ c ∧ rowsR w F β h sz l inner ∧ memAt w F A inner
 | .ea l, cs => ∃ b o inner, cs = [.pointer (some ⟨b, o, none⟩)] ∧ cellsR w F β h l inner ∧ memAt w F (some ⟨b, o, none⟩) inner
 | .fn f l, cs => ∃ vs, cs = [.func (.func f) #[] vs.toArray] ∧ listR w F β h l vs
 | .ptr b o, cs => b < h ∧ cs = [.pointer (some ⟨β b, o, none⟩)]
 | .hsl b o _ l c, cs => b < h ∧ cs = [.slice (some ⟨β b, o, none⟩) l c]
 | _, _ => False
def cellsR (w : World) (F : Nat → Nat) (β : Nat → Nat) (h : Nat) : List AV → List Value → Prop
 | [], cs => cs = []
 | x :: r, cs => ∃ u c2, cs = u :: c2 ∧ leaf x = true ∧ relF w F β h x u ∧ cellsR w F β h r c2
def listR (w : World) (F : Nat → Nat) (β : Nat → Nat) (h : Nat) : List AV → List Value → Prop
 | [], cs => cs = []
 | x :: r, cs => ∃ u c2, cs = u :: c2 ∧ relF w F β h x u ∧ listR w F β h r c2
end
structure Ext (w : World) (F : Nat → Nat) (w' : World) (F' : Nat → Nat) : Prop where
 cell : ∀ b o u, o < F b → w.cell? ⟨b, o, none⟩ = some u → w'.cell? ⟨b, o, none⟩ = some u
 grow : ∀ b, b < w.heap.size → F b ≤ F' b
theorem Ext.refl (w : World) (F : Nat → Nat) : Ext w F w F := ⟨fun _ _ _ _ h => h, fun _ _ => Nat.le_refl _⟩
theorem cell_lt {w : World} {a : Addr} {u : Value} (h : w.cell? a = some u) : a.block < w.heap.size := World.block_lt_of_cell? w a h
theorem Ext.trans {w w1 w2 : World} {F F1 F2 : Nat → Nat} (h : Ext w F w1 F1) (k : Ext w1 F1 w2 F2) (hs : w.heap.size ≤ w1.heap.size) : Ext w F w2 F2 :=
 ⟨fun b o u ho hc => k.cell b o u (Nat.lt_of_lt_of_le ho (h.grow b (cell_lt hc))) (h.cell b o u ho hc), fun b hb => Nat.le_trans (h.grow b hb) (k.grow b (Nat.lt_of_lt_of_le hb hs))⟩
theorem memAt.ext {w w' : World} {F F' : Nat → Nat} {A : Option Addr} {cs : List Value} (h : memAt w F A cs) (e : Ext w F w' F') : memAt w' F' A cs := by
 rcases h with h | ⟨b, o, rfl, hc⟩
 ·exact .inl h
 ·refine .inr ⟨b, o, rfl, fun j u hj => ?_⟩
  obtain ⟨h1, h2⟩ := hc j u hj
  exact ⟨e.cell _ _ _ h2 h1, Nat.lt_of_lt_of_le h2 (e.grow b (cell_lt h1))⟩
section
variable {w w' : World} {F F' : Nat → Nat} {β β' : Nat → Nat} {h h' : Nat}
mutual
theorem relF.ext (e : Ext w F w' F') (hβ : ∀ b, b < h → β' b = β b) (hh : h ≤ h') : ∀ (x : AV) (v : Value), relF w F β h x v → relF w' F' β' h' x v
 | .sc _, _, r => by simp only [relF] at r ⊢; exact r
 | .sl sz l, _, r => by
  simp only [relF] at r ⊢
  obtain ⟨A, c, inner, hv, hl, hr, hm⟩ := r
  exact ⟨A, c, inner, hv, hl, rowsR.ext e hβ hh sz l inner hr, hm.ext e⟩
 | .agg l, _, r => by
  simp only [relF] at r ⊢
  obtain ⟨cs, hv, hr⟩ := r
  exact ⟨cs, hv, cellsR.ext e hβ hh l cs hr⟩
 | .tup l, _, r => by
  simp only [relF] at r ⊢
  obtain ⟨cs, hv, hr⟩ := r
  exact ⟨cs, hv, listR.ext e hβ hh l cs hr⟩
 | .ea l, _, r => by
  simp only [relF] at r ⊢
  obtain ⟨b, o, inner, hv, hr, hm⟩ := r
  exact ⟨b, o, inner, hv, cellsR.ext e hβ hh l inner hr, hm.ext e⟩
 | .fn f l, _, r => by
  simp only [relF] at r ⊢
  obtain ⟨cs, hv, hr⟩ := r
  exact ⟨cs, hv, listR.ext e hβ hh l cs hr⟩
 | .ptr b o, _, r => by
  simp only [relF] at r ⊢
  exact ⟨Nat.lt_of_lt_of_le r.1 hh, by rw [hβ b r.1]; exact r.2⟩
 | .hsl b o _ _ _, _, r => by
  simp only [relF] at r ⊢
  exact ⟨Nat.lt_of_lt_of_le r.1 hh, by rw [hβ b r.1]; exact r.2⟩
 | .undef, _, _ => by simp only [relF]
 | .cap _ _ _, _, r => by simp only [relF] at r
 | .box _, _, r => by simp only [relF] at r
 | .ref _ _, _, r => by simp only [relF] at r
 | .lptr _ _ _, _, r => by simp only [relF] at r
 | .eaddr _ _ _ _ _, _, r => by simp only [relF] at r
theorem rowsR.ext (e : Ext w F w' F') (hβ : ∀ b, b < h → β' b = β b) (hh : h ≤ h') (sz : Nat) : ∀ (l : List AV) (cs : List Value), rowsR w F β h sz l cs → rowsR w' F' β' h' sz l cs
 | [], _, r => by simp only [rowsR] at r ⊢; exact r
 | x :: l, _, r => by
  simp only [rowsR] at r ⊢
  obtain ⟨c1, c2, hc, hl, hi, hr⟩ := r
  exact ⟨c1, c2, hc, hl, itemR.ext e hβ hh x c1 hi, rowsR.ext e hβ hh sz l c2 hr⟩
theorem itemR.ext (e : Ext w F w' F') (hβ : ∀ b, b < h → β' b = β b) (hh : h ≤ h') : ∀ (x : AV) (cs : List Value), itemR w F β h x cs → itemR w' F' β' h' x cs
 | .sc _, _, r => by simp only [itemR] at r ⊢; exact r
 | .sl sz l, _, r => by
  simp only [itemR] at r ⊢
  obtain ⟨A, c, inner, hv, hl, hr, hm⟩ := r
  exact ⟨A, c, inner, hv, hl, rowsR.ext e hβ hh sz l inner hr, hm.ext e⟩
 | .agg l, cs, r => by
  simp only [itemR] at r ⊢
  exact cellsR.ext e hβ hh l cs r
 | .ea l, _, r => by
  simp only [itemR] at r ⊢
  obtain ⟨b, o, inner, hv, hr, hm⟩ := r
  exact ⟨b, o, inner, hv, cellsR.ext e hβ hh l inner hr, hm.ext e⟩
 | .fn f l, _, r => by
  simp only [itemR] at r ⊢
  obtain ⟨cs, hv, hr⟩ := r
  exact ⟨cs, hv, listR.ext e hβ hh l cs hr⟩
 | .ptr b o, _, r => by
  simp only [itemR] at r ⊢
  exact ⟨Nat.lt_of_lt_of_le r.1 hh, by rw [hβ b r.1]; exact r.2⟩
 | .hsl b o _ _ _, _, r => by
  simp only [itemR] at r ⊢
  exact ⟨Nat.lt_of_lt_of_le r.1 hh, by rw [hβ b r.1]; exact r.2⟩
 | .undef, _, r => by simp only [itemR] at r
 | .tup _, _, r => by simp only [itemR] at r
 | .cap _ _ _, _, r => by simp only [itemR] at r
 | .box _, _, r => by simp only [itemR] at r
 | .ref _ _, _, r => by simp only [itemR] at r
 | .lptr _ _ _, _, r => by simp only [itemR] at r
 | .eaddr _ _ _ _ _, _, r => by simp only [itemR] at r
theorem cellsR.ext (e : Ext w F w' F') (hβ : ∀ b, b < h → β' b = β b) (hh : h ≤ h') : ∀ (l : List AV) (cs : List Value), cellsR w F β h l cs → cellsR w' F' β' h' l cs
 | [], _, r => by simp only [cellsR] at r ⊢; exact r
 | x :: l, _, r => by
  simp only [cellsR] at r ⊢
  obtain ⟨u, c2, hc, hl, hi, hr⟩ := r
  exact ⟨u, c2, hc, hl, relF.ext e hβ hh x u hi, cellsR.ext e hβ hh l c2 hr⟩
theorem listR.ext (e : Ext w F w' F') (hβ : ∀ b, b < h → β' b = β b) (hh : h ≤ h') : ∀ (l : List AV) (cs : List Value), listR w F β h l cs → listR w' F' β' h' l cs
 | [], _, r => by simp only [listR] at r ⊢; exact r
 | x :: l, _, r => by
  simp only [listR] at r ⊢
  obtain ⟨u, c2, hc, hi, hr⟩ := r
  exact ⟨u, c2, hc, relF.ext e hβ hh x u hi, listR.ext e hβ hh l c2 hr⟩
end
end
section
variable {w : World} {F : Nat → Nat} {β : Nat → Nat} {h : Nat}
theorem isSc_one {c : Value} (hc : isSc c = true) : c.oneCell' = true := by
 unfold isSc at hc
 split at hc <;> first | rfl | cases hc
theorem item_leaf {x : AV} {cs : List Value} (hx : leaf x = true) : itemR w F β h x cs ↔ ∃ u, cs = [u] ∧ relF w F β h x u := by
 cases x with
 | sc c =>
  simp only [itemR, relF]
  exact ⟨fun ⟨h1, h2⟩ => ⟨c, h1, rfl, h2⟩, fun ⟨u, h1, h2, h3⟩ => ⟨by rw [h1, h2], h3⟩⟩
 | sl sz l =>
  simp only [itemR, relF]
  exact ⟨fun ⟨A, c, inner, h1, h2⟩ => ⟨_, h1, A, c, inner, rfl, h2⟩, fun ⟨u, h1, A, c, inner, h2, h3⟩ => ⟨A, c, inner, by rw [h1, h2], h3⟩⟩
 | ea l =>
  simp only [itemR, relF]
  exact ⟨fun ⟨A, c, inner, h1, h2⟩ => ⟨_, h1, A, c, inner, rfl, h2⟩, fun ⟨u, h1, A, c, inner, h2, h3⟩ => ⟨A, c, inner, by rw [h1, h2], h3⟩⟩
 | fn f l =>
  simp only [itemR, relF]
  exact ⟨fun ⟨vs, h1, h2⟩ => ⟨_, h1, vs, rfl, h2⟩, fun ⟨u, h1, vs, h2, h3⟩ => ⟨vs, by rw [h1, h2], h3⟩⟩
 | ptr b o =>
  simp only [itemR, relF]
  exact ⟨fun ⟨h1, h2⟩ => ⟨_, h2, h1, rfl⟩, fun ⟨u, h1, h2, h3⟩ => ⟨h2, by rw [h1, h3]⟩⟩
 | hsl b o z l c =>
  simp only [itemR, relF]
  exact ⟨fun ⟨h1, h2⟩ => ⟨_, h2, h1, rfl⟩, fun ⟨u, h1, h2, h3⟩ => ⟨h2, by rw [h1, h3]⟩⟩
 | _ => cases hx
theorem relF_one {x : AV} {u : Value} (hx : leaf x = true) (hr : relF w F β h x u) : u.oneCell' = true := by
 cases x with
 | sc c => simp only [relF] at hr; obtain ⟨rfl, h2⟩ := hr; exact isSc_one h2
 | sl sz l => simp only [relF] at hr; obtain ⟨A, c, inner, rfl, _⟩ := hr; rfl
 | ea l => simp only [relF] at hr; obtain ⟨A, c, inner, rfl, _⟩ := hr; rfl
 | fn f l => simp only [relF] at hr; obtain ⟨vs, rfl, _⟩ := hr; rfl
 | ptr b o => simp only [relF] at hr; obtain ⟨_, rfl⟩ := hr; rfl
 | hsl b o z l c => simp only [relF] at hr; obtain ⟨_, rfl⟩ := hr; rfl
 | _ => cases hx
theorem cellsR_length {l : List AV} {cs : List Value} (hr : cellsR w F β h l cs) : cs.length = l.length := by
 induction l generalizing cs with
 | nil => simp only [cellsR] at hr; subst hr; rfl
 | cons x l ih => simp only [cellsR] at hr; obtain ⟨u, c2, rfl, _, _, h2⟩ := hr; simp [ih h2]
theorem listR_length {l : List AV} {cs : List Value} (hr : listR w F β h l cs) : cs.length = l.length := by
 induction l generalizing cs with
 | nil => simp only [listR] at hr; subst hr; rfl
 | cons x l ih => simp only [listR] at hr; obtain ⟨u, c2, rfl, _, h2⟩ := hr; simp [ih h2]
theorem cellsR_one {l : List AV} {cs : List Value} (hr : cellsR w F β h l cs) : ∀ u ∈ cs, u.oneCell' = true := by
 induction l generalizing cs with
 | nil => simp only [cellsR] at hr; subst hr; intro u hu; cases hu
 | cons x l ih =>
  simp only [cellsR] at hr
  obtain ⟨u, c2, rfl, hx, hu, h2⟩ := hr
  intro v hv
  rcases List.mem_cons.1 hv with rfl | hv
  ·exact relF_one hx hu
  ·exact ih h2 v hv
theorem cellsR_get {l : List AV} {cs : List Value} (hr : cellsR w F β h l cs) {i : Nat} {x : AV} (hi : l[i]? = some x) : ∃ u, cs[i]? = some u ∧ leaf x = true ∧ relF w F β h x u := by
 induction l generalizing cs i with
 | nil => simp at hi
 | cons y l ih =>
  simp only [cellsR] at hr
  obtain ⟨u, c2, rfl, hx, hu, h2⟩ := hr
  cases i with
  | zero => simp at hi; subst hi; exact ⟨u, rfl, hx, hu⟩
  | succ i => simp at hi; simpa using ih h2 hi
theorem listR_get {l : List AV} {cs : List Value} (hr : listR w F β h l cs) {i : Nat} {x : AV} (hi : l[i]? = some x) : ∃ u, cs[i]? = some u ∧ relF w F β h x u := by
 induction l generalizing cs i with
 | nil => simp at hi
 | cons y l ih =>
  simp only [listR] at hr
  obtain ⟨u, c2, rfl, hu, h2⟩ := hr
  cases i with
  | zero => simp at hi; subst hi; exact ⟨u, rfl, hu⟩
  | succ i => simp at hi; simpa using ih h2 hi
theorem cellsR_drop {l : List AV} {cs : List Value} (hr : cellsR w F β h l cs) (n : Nat) : cellsR w F β h (l.drop n) (cs.drop n) := by
 induction n generalizing l cs with
 | zero => simpa using hr
 | succ n ih =>
  cases l with
  | nil => simp only [cellsR] at hr; subst hr; simp [cellsR]
  | cons x l => simp only [cellsR] at hr; obtain ⟨u, c2, rfl, _, _, h2⟩ := hr; simpa using ih h2
theorem cellsR_take {l : List AV} {cs : List Value} (hr : cellsR w F β h l cs) (n : Nat) : cellsR w F β h (l.take n) (cs.take n) := by
 induction n generalizing l cs with
 | zero => simp [cellsR]
 | succ n ih =>
  cases l with
  | nil => simp only [cellsR] at hr; subst hr; simp [cellsR]
  | cons x l => simp only [cellsR] at hr; obtain ⟨u, c2, rfl, hx, hu, h2⟩ := hr; simp only [List.take_succ_cons, cellsR]; exact ⟨u, _, rfl, hx, hu, ih h2⟩
theorem cellsR_append {l m : List AV} {cs ds : List Value} (hr : cellsR w F β h l cs) (hs : cellsR w F β h m ds) : cellsR w F β h (l ++ m) (cs ++ ds) := by
 induction l generalizing cs with
 | nil => simp only [cellsR] at hr; subst hr; simpa using hs
 | cons x l ih => simp only [cellsR] at hr; obtain ⟨u, c2, rfl, hx, hu, h2⟩ := hr; simp only [List.cons_append, cellsR]; exact ⟨u, _, rfl, hx, hu, ih h2⟩
theorem rowsR_length {sz : Nat} {l : List AV} {cs : List Value} (hr : rowsR w F β h sz l cs) : cs.length = l.length * sz := by
 induction l generalizing cs with
 | nil => simp only [rowsR] at hr; subst hr; simp
 | cons x l ih => simp only [rowsR] at hr; obtain ⟨c1, c2, rfl, h1, _, h2⟩ := hr; simp [ih h2, h1, Nat.add_mul, Nat.add_comm]
theorem rowsR_append {sz : Nat} {l m : List AV} {cs ds : List Value} (hr : rowsR w F β h sz l cs) (hs : rowsR w F β h sz m ds) : rowsR w F β h sz (l ++ m) (cs ++ ds) := by
 induction l generalizing cs with
 | nil => simp only [rowsR] at hr; subst hr; simpa using hs
 | cons x l ih => simp only [rowsR] at hr; obtain ⟨c1, c2, rfl, h1, hi, h2⟩ := hr; simp only [List.cons_append, rowsR]; exact ⟨c1, _, by rw [List.append_assoc], h1, hi, ih h2⟩
theorem item_cells {x : AV} {c : List AV} {cs : List Value} (hc : cellsOf x = some c) : itemR w F β h x cs ↔ cellsR w F β h c cs := by
 cases x with
 | agg l => simp [cellsOf] at hc; subst hc; simp [itemR]
 | _ =>
  all_goals
   simp only [cellsOf] at hc
   split at hc
   ·rename_i hl
    injection hc with hc
    subst hc
    rw [item_leaf hl]
    simp only [cellsR]
    constructor
    ·rintro ⟨u, rfl, hu⟩; exact ⟨u, [], rfl, hl, hu, rfl⟩
    ·rintro ⟨u, c2, rfl, _, hu, rfl⟩; exact ⟨u, rfl, hu⟩
   ·cases hc
theorem item_some {x : AV} {cs : List Value} (hr : itemR w F β h x cs) : ∃ c, cellsOf x = some c := by
 cases x <;> simp_all [itemR, cellsOf, leaf]
theorem item_one {x : AV} {cs : List Value} (hr : itemR w F β h x cs) : ∀ u ∈ cs, u.oneCell' = true := by
 obtain ⟨c, hc⟩ := item_some hr
 exact cellsR_one ((item_cells hc).1 hr)
theorem rowsR_one {sz : Nat} {l : List AV} {cs : List Value} (hr : rowsR w F β h sz l cs) : ∀ u ∈ cs, u.oneCell' = true := by
 induction l generalizing cs with
 | nil => simp only [rowsR] at hr; subst hr; intro u hu; cases hu
 | cons x l ih =>
  simp only [rowsR] at hr
  obtain ⟨c1, c2, rfl, _, hi, h2⟩ := hr
  intro v hv
  rcases List.mem_append.1 hv with hv | hv
  ·exact item_one hi v hv
  ·exact ih h2 v hv
theorem rowsR_get {sz : Nat} {l : List AV} {cs : List Value} (hr : rowsR w F β h sz l cs) {i : Nat} {x : AV} (hi : l[i]? = some x) : ∃ c, c = (cs.drop (i * sz)).take sz ∧ c.length = sz ∧ itemR w F β h x c := by
 induction l generalizing cs i with
 | nil => simp at hi
 | cons y l ih =>
  simp only [rowsR] at hr
  obtain ⟨c1, c2, rfl, h1, hy, h2⟩ := hr
  cases i with
  | zero => simp at hi; subst hi; exact ⟨c1, by simp [← h1], h1, hy⟩
  | succ i =>
   simp at hi
   obtain ⟨c, hc, h3⟩ := ih h2 hi
   refine ⟨c, ?_, h3⟩
   rw [hc, Nat.add_mul, Nat.one_mul, Nat.add_comm, ← List.drop_drop]
   congr 2
   rw [← h1, List.drop_left]
theorem rowsR_take {sz : Nat} {l : List AV} {cs : List Value} (hr : rowsR w F β h sz l cs) (n : Nat) : rowsR w F β h sz (l.take n) (cs.take (n * sz)) := by
 induction n generalizing l cs with
 | zero => simp [rowsR]
 | succ n ih =>
  cases l with
  | nil => simp only [rowsR] at hr; subst hr; simp [rowsR]
  | cons x l =>
   simp only [rowsR] at hr
   obtain ⟨c1, c2, rfl, h1, hi, h2⟩ := hr
   simp only [List.take_succ_cons, rowsR]
   refine ⟨c1, _, ?_, h1, hi, ih h2⟩
   rw [Nat.add_mul, Nat.one_mul, Nat.add_comm, ← h1, List.take_length_add_append]
theorem rowsR_drop {sz : Nat} {l : List AV} {cs : List Value} (hr : rowsR w F β h sz l cs) (n : Nat) : rowsR w F β h sz (l.drop n) (cs.drop (n * sz)) := by
 induction n generalizing l cs with
 | zero => simpa using hr
 | succ n ih =>
  cases l with
  | nil => simp only [rowsR] at hr; subst hr; simp [rowsR]
  | cons x l =>
   simp only [rowsR] at hr
   obtain ⟨c1, c2, rfl, h1, hi, h2⟩ := hr
   have e : (c1 ++ c2).drop ((n + 1) * sz) = c2.drop (n * sz) := by
    rw [show (n + 1) * sz = c1.length + n * sz by rw [Nat.add_mul, h1]; omega, List.drop_append]
    simp
   rw [e]
   exact ih h2
end
end Go.Vai
