/- Sets: words for what the functions ask and answer. -/
import Derived.Test.YtkocppnbipjiiaaOth
import Derived.Test.YtkocppnbipjiiaaCan4
import Derived.Handy
import Derived.Sort.AssemblyPlain
namespace Go.Proofs.Ytkocppnbipjiiaa.U
open Go Go.Vai Go.Flo
set_option linter.unusedVariables false
/-! ### floats -/
def toI (x : Nat) : Int := ((FloatKind.decode .f64 x).toInt .zero).getD 0
def isF (x : Nat) : Prop := ∃ a : Int, 0 ≤ a ∧ a ≤ 2000000 ∧ x = fl a
theorem dec_fl {a : Int} (h0 : 0 ≤ a) (h1 : a ≤ 2000000) : (FloatKind.decode .f64 (fl a)).toInt .zero = some a := by
  have := toInt_fl (n := a.toNat) (by omega)
  rw [Int.toNat_of_nonneg h0] at this
  exact this
theorem toI_fl {a : Int} (h0 : 0 ≤ a) (h1 : a ≤ 2000000) : toI (fl a) = a := by
  unfold toI
  rw [dec_fl h0 h1]
  rfl
theorem isF.rng {x : Nat} (h : isF x) : 0 ≤ toI x ∧ toI x ≤ 2000000 := by
  obtain ⟨a, h0, h1, rfl⟩ := h
  rw [toI_fl h0 h1]
  exact ⟨h0, h1⟩
theorem isF.eq {x : Nat} (h : isF x) : x = fl (toI x) := by
  obtain ⟨a, h0, h1, rfl⟩ := h
  rw [toI_fl h0 h1]
theorem isF.mk {a : Int} (h0 : 0 ≤ a) (h1 : a ≤ 2000000) : isF (fl a) := ⟨a, h0, h1, rfl⟩
theorem isF.dec {x : Nat} (h : isF x) : (FloatKind.decode .f64 x).toInt .zero = some (toI x) := by
  obtain ⟨a, h0, h1, rfl⟩ := h
  rw [toI_fl h0 h1, dec_fl h0 h1]
theorem isF.order {x y : Nat} (h : isF x) (k : isF y) : Ieee.double.order x y = some (compare (toI x) (toI y)) := by
  obtain ⟨a, h0, h1, rfl⟩ := h
  obtain ⟨b, k0, k1, rfl⟩ := k
  rw [toI_fl h0 h1, toI_fl k0 k1]
  have := order_fl (a := a.toNat) (b := b.toNat) (by omega) (by omega)
  rw [Int.toNat_of_nonneg h0, Int.toNat_of_nonneg k0] at this
  exact this
theorem cmp_eq (a b : Int) : compare a b = if a < b then .lt else if a = b then .eq else .gt := rfl
def cmpI (a b : Int) : Int := if a < b then -1 else if b < a then 1 else 0
/-! ### rows -/
def Is (l : List AV) : Prop := ∀ v ∈ l, ∃ n : Int, v = iv n
def Rs (l : List AV) : Prop := ∀ v ∈ l, ∃ a b : Int, v = .agg [iv a, iv b]
def Cs (l : List AV) : Prop := ∀ v ∈ l, ∃ x y : Nat, isF x ∧ isF y ∧ v = .sc (.complex .f64 x y)
def decI : AV → Int
  | .sc (.int _ n) => n
  | _ => 0
def decR : AV → Rg
  | .agg [.sc (.int _ a), .sc (.int _ b)] => (a, b)
  | _ => (0, 0)
def decC : AV → Rg
  | .sc (.complex _ x y) => (toI x, toI y)
  | _ => (0, 0)
def IS (l : List AV) : List Int := l.map decI
def RS (l : List AV) : List Rg := l.map decR
def CS (l : List AV) : List Rg := l.map decC
theorem IS_nil : IS [] = [] := rfl
theorem RS_nil : RS [] = [] := rfl
theorem CS_nil : CS [] = [] := rfl
theorem IS_len (l : List AV) : (IS l).length = l.length := List.length_map _
theorem RS_len (l : List AV) : (RS l).length = l.length := List.length_map _
theorem CS_len (l : List AV) : (CS l).length = l.length := List.length_map _
theorem IS_app (l m : List AV) : IS (l ++ m) = IS l ++ IS m := List.map_append
theorem RS_app (l m : List AV) : RS (l ++ m) = RS l ++ RS m := List.map_append
theorem CS_app (l m : List AV) : CS (l ++ m) = CS l ++ CS m := List.map_append
theorem IS_one (n : Int) : IS [iv n] = [n] := rfl
theorem RS_one (a b : Int) : RS [.agg [iv a, iv b]] = [(a, b)] := rfl
theorem CS_one (x y : Nat) : CS [.sc (.complex .f64 x y)] = [(toI x, toI y)] := rfl
theorem RS_set (l : List AV) (i : Nat) (a b : Int) : RS (l.set i (.agg [iv a, iv b])) = (RS l).set i (a, b) := List.map_set
theorem CS_set (l : List AV) (i : Nat) (x y : Nat) : CS (l.set i (.sc (.complex .f64 x y))) = (CS l).set i (toI x, toI y) := List.map_set
theorem IS_take (l : List AV) (n : Nat) : IS (l.take n) = (IS l).take n := List.map_take
theorem IS_drop (l : List AV) (n : Nat) : IS (l.drop n) = (IS l).drop n := List.map_drop
theorem Is.nil : Is [] := fun v h => by cases h
theorem Is.one (n : Int) : Is [iv n] := fun v h => ⟨n, by rw [List.mem_singleton] at h; exact h⟩
theorem Is.cons {n : Int} {l : List AV} (h : Is l) : Is (iv n :: l) := fun v hv => by
  rcases List.mem_cons.1 hv with rfl | hv
  · exact ⟨n, rfl⟩
  · exact h v hv
theorem Is.app {l m : List AV} (h : Is l) (k : Is m) : Is (l ++ m) := fun v hv => by
  rcases List.mem_append.1 hv with hv | hv
  · exact h v hv
  · exact k v hv
theorem Is.take {l : List AV} (h : Is l) (n : Nat) : Is (l.take n) := fun v hv => h v (List.mem_of_mem_take hv)
theorem Is.drop {l : List AV} (h : Is l) (n : Nat) : Is (l.drop n) := fun v hv => h v (List.mem_of_mem_drop hv)
theorem Is.get {l : List AV} (h : Is l) {i : Nat} (hi : i < l.length) : ∃ n : Int, l[i]? = some (iv n) := by
  obtain ⟨n, e⟩ := h l[i] (List.getElem_mem hi)
  exact ⟨n, by rw [List.getElem?_eq_getElem hi, e]⟩
theorem Is.elem {l : List AV} (h : Is l) {i : Nat} {n : Int} (e : l[i]? = some (iv n)) : (IS l)[i]? = some n := by
  unfold IS
  rw [List.getElem?_map, e]
  rfl
theorem Rs.nil : Rs [] := fun v h => by cases h
theorem Rs.one (a b : Int) : Rs [.agg [iv a, iv b]] := fun v h => ⟨a, b, by rw [List.mem_singleton] at h; exact h⟩
theorem Rs.app {l m : List AV} (h : Rs l) (k : Rs m) : Rs (l ++ m) := fun v hv => by
  rcases List.mem_append.1 hv with hv | hv
  · exact h v hv
  · exact k v hv
theorem Rs.set {l : List AV} (h : Rs l) (i : Nat) (a b : Int) : Rs (l.set i (.agg [iv a, iv b])) := fun v hv => by
  rcases List.mem_or_eq_of_mem_set hv with hv | rfl
  · exact h v hv
  · exact ⟨a, b, rfl⟩
theorem Rs.rep (n : Nat) (a b : Int) : Rs (List.replicate n (.agg [iv a, iv b])) := fun v hv => ⟨a, b, List.eq_of_mem_replicate hv⟩
theorem Rs.get {l : List AV} (h : Rs l) {i : Nat} (hi : i < l.length) : ∃ a b : Int, l[i]? = some (.agg [iv a, iv b]) := by
  obtain ⟨a, b, e⟩ := h l[i] (List.getElem_mem hi)
  exact ⟨a, b, by rw [List.getElem?_eq_getElem hi, e]⟩
theorem Rs.elem {l : List AV} (h : Rs l) {i : Nat} {a b : Int} (e : l[i]? = some (.agg [iv a, iv b])) : (RS l)[i]? = some (a, b) := by
  unfold RS
  rw [List.getElem?_map, e]
  rfl
theorem Cs.nil : Cs [] := fun v h => by cases h
theorem Cs.one {x y : Nat} (h : isF x) (k : isF y) : Cs [.sc (.complex .f64 x y)] := fun v hv => ⟨x, y, h, k, by rw [List.mem_singleton] at hv; exact hv⟩
theorem Cs.app {l m : List AV} (h : Cs l) (k : Cs m) : Cs (l ++ m) := fun v hv => by
  rcases List.mem_append.1 hv with hv | hv
  · exact h v hv
  · exact k v hv
theorem Cs.set {l : List AV} (h : Cs l) (i : Nat) {x y : Nat} (hx : isF x) (hy : isF y) : Cs (l.set i (.sc (.complex .f64 x y))) := fun v hv => by
  rcases List.mem_or_eq_of_mem_set hv with hv | rfl
  · exact h v hv
  · exact ⟨x, y, hx, hy, rfl⟩
theorem Cs.get {l : List AV} (h : Cs l) {i : Nat} (hi : i < l.length) : ∃ x y : Nat, l[i]? = some (.sc (.complex .f64 x y)) := by
  obtain ⟨x, y, _, _, e⟩ := h l[i] (List.getElem_mem hi)
  exact ⟨x, y, by rw [List.getElem?_eq_getElem hi, e]⟩
theorem Cs.elem {l : List AV} (h : Cs l) {i : Nat} {x y : Nat} (e : l[i]? = some (.sc (.complex .f64 x y))) : isF x ∧ isF y ∧ (CS l)[i]? = some (toI x, toI y) := by
  obtain ⟨a, b, h1, h2, h3⟩ := h _ (List.mem_of_getElem? e)
  simp only [AV.sc.injEq, Value.complex.injEq, true_and] at h3
  obtain ⟨rfl, rfl⟩ := h3
  refine ⟨h1, h2, ?_⟩
  unfold CS
  rw [List.getElem?_map, e]
  rfl
theorem Cs.rng {l : List AV} (h : Cs l) {p : Rg} (hp : p ∈ CS l) : 0 ≤ p.1 ∧ p.1 ≤ 2000000 ∧ 0 ≤ p.2 ∧ p.2 ≤ 2000000 := by
  obtain ⟨v, hv, rfl⟩ := List.mem_map.1 hp
  obtain ⟨x, y, hx, hy, rfl⟩ := h v hv
  have := hx.rng
  have := hy.rng
  exact ⟨by show 0 ≤ toI x; omega, by show toI x ≤ _; omega, by show 0 ≤ toI y; omega, by show toI y ≤ _; omega⟩
/-- By its numbers a row is told. -/
theorem Cs.inj {l m : List AV} (h : Cs l) (k : Cs m) (e : CS l = CS m) : l = m := by
  induction l generalizing m with
  | nil =>
    cases m with
    | nil => rfl
    | cons y m => cases e
  | cons x l ih =>
    cases m with
    | nil => cases e
    | cons y m =>
      obtain ⟨a, b, ha, hb, rfl⟩ := h x (by simp)
      obtain ⟨c, d, hc, hd, rfl⟩ := k y (by simp)
      have e : ((toI a, toI b) :: CS l : List Rg) = (toI c, toI d) :: CS m := e
      injection e with e1 e2
      injection e1 with e3 e4
      rw [ih (fun v hv => h v (by simp [hv])) (fun v hv => k v (by simp [hv])) e2, ha.eq, hb.eq, hc.eq, hd.eq, e3, e4]
theorem Rs.inj {l m : List AV} (h : Rs l) (k : Rs m) (e : RS l = RS m) : l = m := by
  induction l generalizing m with
  | nil =>
    cases m with
    | nil => rfl
    | cons y m => cases e
  | cons x l ih =>
    cases m with
    | nil => cases e
    | cons y m =>
      obtain ⟨a, b, rfl⟩ := h x (by simp)
      obtain ⟨c, d, rfl⟩ := k y (by simp)
      have e : ((a, b) :: RS l : List Rg) = (c, d) :: RS m := e
      injection e with e1 e2
      injection e1 with e3 e4
      subst e3 e4
      rw [ih (fun v hv => h v (by simp [hv])) (fun v hv => k v (by simp [hv])) e2]
theorem np_of {l : List AV} (h : ∀ v ∈ l, np v = true) : npL l = true := by
  induction l with
  | nil => rfl
  | cons x l ih => simp only [npL, h x (by simp), ih fun v hv => h v (by simp [hv]), Bool.and_self]
theorem Is.np {l : List AV} (h : Is l) : npL l = true := np_of fun v hv => by obtain ⟨a, rfl⟩ := h v hv; rfl
theorem Rs.np {l : List AV} (h : Rs l) : npL l = true := np_of fun v hv => by obtain ⟨a, b, rfl⟩ := h v hv; rfl
theorem Cs.np {l : List AV} (h : Cs l) : npL l = true := np_of fun v hv => by obtain ⟨a, b, _, _, rfl⟩ := h v hv; rfl
def bytesOfT (P : Program) (e : TypeId) : Nat := match P.info? e with | some i => i.bytes | none => 0
theorem roomD_eq (P : Program) (e n m : Nat) : roomD P e n m = (decide ((n + m) * bytesOfT P e ≤ 140737488355328) && decide (n + m ≤ 9223372036854775807)) := rfl
theorem room_of {e n m : Nat} (hb : Nat.ble (bytesOfT pr e) 16 = true) (h : n + m ≤ 5000000000000) : roomD pr e n m = true := by
  have hb := Nat.le_of_ble_eq_true hb
  rw [roomD_eq]
  revert hb
  generalize bytesOfT pr e = z
  intro hb
  have : (n + m) * z ≤ 5000000000000 * 16 := Nat.mul_le_mul h hb
  simp only [Bool.and_eq_true, decide_eq_true_eq]
  exact ⟨by omega, by omega⟩
/-! ### sets -/
/-- Ranges of code points. -/
def OkP (d : List Rg) : Prop := ∀ p ∈ d, 0 ≤ p.1 ∧ p.1 ≤ p.2 ∧ p.2 ≤ 1114111
theorem OkP.nil : OkP [] := fun p h => by cases h
theorem OkP.app {l m : List Rg} (h : OkP l) (k : OkP m) : OkP (l ++ m) := fun p hp => by
  rcases List.mem_append.1 hp with hp | hp
  · exact h p hp
  · exact k p hp
theorem OkP.one {a b : Int} (h0 : 0 ≤ a) (h : a ≤ b) (k : b ≤ 1114111) : OkP [(a, b)] := fun p hp => by
  rw [List.mem_singleton] at hp
  subst hp
  exact ⟨h0, h, k⟩
theorem OkP.get {l : List Rg} (h : OkP l) {i : Nat} {a b : Int} (e : l[i]? = some (a, b)) : 0 ≤ a ∧ a ≤ b ∧ b ≤ 1114111 := h _ (List.mem_of_getElem? e)
/-- From 0 to a greatest code point. -/
def inB (most c : Int) : Prop := 0 ≤ c ∧ c ≤ most ∧ c ≤ 1114111
/-- A set, as the program has it, of the numbers of which P holds. -/
structure SetP (x : List AV) (P : Int → Prop) : Prop where
  cs : Cs x
  can : Vai.Can (-1) (CS x)
  ok : OkP (CS x)
  has : ∀ c, InS (CS x) c ↔ P c
/-- .. as the reference has it. -/
structure RSetP (x : List AV) (P : Int → Prop) : Prop where
  rs : Rs x
  can : Vai.Can (-1) (RS x)
  ok : OkP (RS x)
  has : ∀ c, InS (RS x) c ↔ P c
theorem OkP.len {l : List Rg} (h : Vai.Can (-1) l) (k : OkP l) : l.length ≤ 1114112 := by
  have := Vai.Can.len h (N := 1114111) (fun r hr => (k r hr).2.2) (by omega)
  omega
theorem SetP.len {x : List AV} {P : Int → Prop} (h : SetP x P) : x.length ≤ 1114112 := by rw [← CS_len]; exact OkP.len h.can h.ok
theorem RSetP.len {x : List AV} {P : Int → Prop} (h : RSetP x P) : x.length ≤ 1114112 := by rw [← RS_len]; exact OkP.len h.can h.ok
theorem SetP.to {x : List AV} {P Q : Int → Prop} (h : SetP x P) (k : ∀ c, P c ↔ Q c) : SetP x Q := ⟨h.cs, h.can, h.ok, fun c => (h.has c).trans (k c)⟩
theorem RSetP.to {x : List AV} {P Q : Int → Prop} (h : RSetP x P) (k : ∀ c, P c ↔ Q c) : RSetP x Q := ⟨h.rs, h.can, h.ok, fun c => (h.has c).trans (k c)⟩
theorem SetP.self {x : List AV} {P : Int → Prop} (h : SetP x P) : SetP x (InS (CS x)) := ⟨h.cs, h.can, h.ok, fun c => Iff.rfl⟩
theorem SetP.uniq {x y : List AV} {P Q : Int → Prop} (h : SetP x P) (k : SetP y Q) (e : ∀ c, P c ↔ Q c) : x = y := h.cs.inj k.cs (Vai.Can.eq h.can k.can fun c => ((h.has c).trans (e c)).trans (k.has c).symm)
theorem SetP.uniqR {x y : List AV} {P Q : Int → Prop} (h : SetP x P) (k : RSetP y Q) (e : ∀ c, P c ↔ Q c) : CS x = RS y := Vai.Can.eq h.can k.can fun c => ((h.has c).trans (e c)).trans (k.has c).symm
theorem OkP.inB {l : List Rg} (h : OkP l) {c : Int} (k : InS l c) : 0 ≤ c ∧ c ≤ 1114111 := by
  obtain ⟨r, hr, h1, h2⟩ := InS_iff.1 k
  obtain ⟨g1, g2, g3⟩ := h r hr
  omega
/-! ### what is asked, what is answered -/
def pre_of (a b : Int) : Prop := 0 ≤ a ∧ a ≤ 2000000 ∧ 0 ≤ b ∧ b ≤ 2000000
abbrev post_of (a b : Int) (x y : Nat) : Prop := isF x ∧ isF y ∧ toI x = a ∧ toI y = b
def pre_lo (x y : Nat) : Prop := isF x
abbrev post_lo (x y : Nat) (r : Int) : Prop := r = toI x
def pre_hi (x y : Nat) : Prop := isF y
abbrev post_hi (x y : Nat) (r : Int) : Prop := r = toI y
abbrev pre_isNaN (x : Nat) : Prop := isF x
abbrev post_isNaN (x : Nat) (r : Bool) : Prop := r = false
abbrev pre_Compare (x y : Nat) : Prop := isF x ∧ isF y
abbrev post_Compare (x y : Nat) (r : Int) : Prop := r = cmpI (toI x) (toI y)
abbrev pre_cmp1 (x y a b : Nat) : Prop := isF x ∧ isF a
abbrev post_cmp1 (x y a b : Nat) (r : Int) : Prop := r = cmpI (toI x) (toI a)
/-- Pairs that may be sorted and merged. -/
structure Mix (l : List AV) : Prop where
  cs : Cs l
  ok : OkP (CS l)
  len : l.length ≤ 1000000000000
abbrev pre_sort (l : List AV) : Prop := Mix l
/-- The same pairs, sorted. -/
structure Srt (l x : List AV) : Prop where
  mix : Mix x
  len : x.length = l.length
  perm : (CS l).Perm (CS x)
  up : (CS x).Pairwise (fun p q => p.1 ≤ q.1)
abbrev post_sort (l x : List AV) : Prop := Srt l x ∧ x.length ≤ 1000000000000 ∧ Mix x
abbrev pre_Grow (l : List AV) (n : Int) : Prop := 0 ≤ n ∧ l.length + n ≤ 1000000000000
abbrev post_Grow (l : List AV) (n : Int) (x : List AV) : Prop := x = l ∧ x.length = l.length
abbrev pre_Clone (l : List AV) : Prop := Cs l ∧ l.length ≤ 1000000000000
abbrev post_Clone (l x : List AV) : Prop := x = l
abbrev pre_made (l : List AV) : Prop := Mix l
abbrev post_made (l x : List AV) : Prop := SetP x (InS (CS l))
abbrev inv_made_0 (x4 x6 : List AV) (x7 : Int) (x5o : List AV) (x8o : Int) (x5 : List AV) (x8 : Int) : Prop :=
  Mix x6 ∧ x6.length ≤ 1000000000000 ∧ x7 = x6.length ∧ 0 ≤ x8 ∧ x8 ≤ x7 ∧ Cs x5 ∧ x5.length ≤ x8 ∧ mergeG (CS x5) ((CS x6).drop x8.toNat) = mergeG [] (CS x6)
abbrev mu_made_0 (x4 x6 : List AV) (x7 : Int) (x5 : List AV) (x8 : Int) : Nat := (x7 - x8).toNat
abbrev out_made_0_0 (x4 x6 : List AV) (x7 : Int) (x5o : List AV) (x8o : Int) (y1 : List AV) (y4 : Int) : Prop := Cs y1 ∧ CS y1 = mergeG [] (CS x6) ∧ y1.length ≤ x7
theorem made_post {l x2 y : List AV} (h : Srt l x2) (h1 : Cs y) (h2 : CS y = mergeG [] (CS x2)) : SetP y (InS (CS l)) := by
  obtain ⟨m1, m2, m3⟩ := merge_ok (N := 1114111) h.up h.mix.ok
  refine ⟨h1, by rw [h2]; exact m1, fun p hp => ?_, fun c => by rw [h2, m2]; exact (InS_perm h.perm).symm⟩
  have hr := h1.rng hp
  rw [h2] at hp
  exact ⟨hr.1, (m1.low hp).2, m3 p hp⟩
abbrev pre_New (l : List AV) (most : Int) : Prop := Rs l ∧ l.length ≤ 100000000000
abbrev post_New (l : List AV) (most : Int) (x : List AV) : Prop := SetP x (fun c => InS (RS l) c ∧ inB most c)
abbrev inv_New_0 (x3 : Int) (x4 x6 : List AV) (x7 : Int) (x5o : List AV) (x8o : Int) (x5 : List AV) (x8 : Int) : Prop :=
  Rs x6 ∧ x7 = x6.length ∧ x6.length ≤ 100000000000 ∧ 0 ≤ x8 ∧ x8 ≤ x7 ∧ Cs x5 ∧ x5.length ≤ x8 ∧ OkP (CS x5) ∧ ∀ c, InS (CS x5) c ↔ InS ((RS x6).take x8.toNat) c ∧ inB x3 c
abbrev mu_New_0 (x3 : Int) (x4 x6 : List AV) (x7 : Int) (x5 : List AV) (x8 : Int) : Nat := (x7 - x8).toNat
abbrev out_New_0_0 (x3 : Int) (x4 x6 : List AV) (x7 : Int) (x5o : List AV) (x8o : Int) (y2 : List AV) (y5 : Int) : Prop := Mix y2 ∧ ∀ c, InS (CS y2) c ↔ InS (RS x6) c ∧ inB x3 c
abbrev pre_Ranges (l : List AV) : Prop := Cs l ∧ l.length ≤ 1000000000000
abbrev post_Ranges (l x : List AV) : Prop := Rs x ∧ RS x = CS l
abbrev inv_Ranges_0 (x3 : List AV) (x4 : Int) (x2o : List AV) (x5o : Int) (x2 : List AV) (x5 : Int) : Prop :=
  Cs x3 ∧ x3.length ≤ 1000000000000 ∧ x4 = x3.length ∧ 0 ≤ x5 ∧ x5 ≤ x4 ∧ Rs x2 ∧ x2.length = x3.length ∧ (RS x2).take x5.toNat = (CS x3).take x5.toNat
abbrev mu_Ranges_0 (x3 : List AV) (x4 : Int) (x2 : List AV) (x5 : Int) : Nat := (x4 - x5).toNat
abbrev out_Ranges_0_0 (x3 : List AV) (x4 : Int) (x2o : List AV) (x5o : Int) (y0 : List AV) (y3 : Int) : Prop := Rs y0 ∧ RS y0 = CS x3
abbrev pre_Search (n : Int) (l : List AV) (c : Int) : Prop := Cs l ∧ n = l.length ∧ l.length ≤ 1000000000000 ∧ Vai.Can (-1) (CS l)
/-- The first range that doesn't end ahead of a number. -/
structure Fst (l : List AV) (c r : Int) : Prop where
  ge : 0 ≤ r
  le : r ≤ l.length
  below : ∀ (j : Nat) (p : Rg), (CS l)[j]? = some p → j < r.toNat → p.2 < c
  above : ∀ (j : Nat) (p : Rg), (CS l)[j]? = some p → r.toNat ≤ j → c ≤ p.2
abbrev post_Search (n : Int) (l : List AV) (c r : Int) : Prop := 0 ≤ r ∧ r ≤ l.length ∧ Fst l c r
abbrev inv_Search_0 (x1 : List AV) (x2 x3o x4o x3 x4 : Int) : Prop :=
  Cs x1 ∧ x1.length ≤ 1000000000000 ∧ Vai.Can (-1) (CS x1) ∧ 0 ≤ x3 ∧ x3 ≤ x4 ∧ x4 ≤ x1.length ∧ (∀ (j : Nat) (p : Rg), (CS x1)[j]? = some p → j < x3.toNat → p.2 < x2) ∧ (∀ (j : Nat) (p : Rg), (CS x1)[j]? = some p → x4.toNat ≤ j → x2 ≤ p.2)
abbrev mu_Search_0 (x1 : List AV) (x2 x3 x4 : Int) : Nat := (x4 - x3).toNat
abbrev out_Search_0_0 (x1 : List AV) (x2 x3o x4o y2 y3 : Int) : Prop := 0 ≤ y2 ∧ y2 ≤ x1.length ∧ Fst x1 x2 y2
abbrev pre_Has (l : List AV) (c : Int) : Prop := Cs l ∧ l.length ≤ 1000000000000 ∧ Vai.Can (-1) (CS l)
abbrev post_Has (l : List AV) (c : Int) (r : Bool) : Prop := r = true ↔ InS (CS l) c
abbrev pre_Count (l : List AV) : Prop := Cs l ∧ OkP (CS l) ∧ l.length ≤ 1000000000000
abbrev post_Count (l : List AV) (r : Int) : Prop := r = cntR (CS l)
abbrev inv_Count_0 (x3 : List AV) (x4 x2o x5o x2 x5 : Int) : Prop :=
  Cs x3 ∧ OkP (CS x3) ∧ x3.length ≤ 1000000000000 ∧ x4 = x3.length ∧ 0 ≤ x5 ∧ x5 ≤ x4 ∧ x2 = cntR ((CS x3).take x5.toNat) ∧ 0 ≤ x2 ∧ x2 ≤ x5 * 1114112
abbrev mu_Count_0 (x3 : List AV) (x4 x2 x5 : Int) : Nat := (x4 - x5).toNat
abbrev out_Count_0_0 (x3 : List AV) (x4 x2o x5o y0 y3 : Int) : Prop := y0 = cntR (CS x3)
/-- A set. -/
structure ASet (l : List AV) : Prop where
  cs : Cs l
  can : Vai.Can (-1) (CS l)
  ok : OkP (CS l)
theorem ASet.len {l : List AV} (h : ASet l) : l.length ≤ 1114112 := by rw [← CS_len]; exact OkP.len h.can h.ok
theorem SetP.a {x : List AV} {P : Int → Prop} (h : SetP x P) : ASet x := ⟨h.cs, h.can, h.ok⟩
abbrev pre_Union (s t : List AV) : Prop := ASet s ∧ ASet t ∧ s.length ≤ 1114112 ∧ t.length ≤ 1114112
abbrev post_Union (s t x : List AV) : Prop := SetP x (fun c => InS (CS s) c ∨ InS (CS t) c)
theorem Mix.union {s t : List AV} (h : ASet s) (k : ASet t) : Mix (s ++ t) := ⟨h.cs.app k.cs, by rw [CS_app]; exact h.ok.app k.ok, by
  have := h.len
  have := k.len
  rw [List.length_append]
  omega⟩
theorem SetP.union {s t x : List AV} (h : SetP x (InS (CS (s ++ t)))) : SetP x (fun c => InS (CS s) c ∨ InS (CS t) c) := h.to fun c => by rw [CS_app, InS_app]
abbrev pre_Not (s : List AV) (most : Int) : Prop := ASet s
abbrev post_Not (s : List AV) (most : Int) (x : List AV) : Prop := SetP x (fun c => inB most c ∧ ¬ InS (CS s) c)
/-- So far turned round. -/
structure NotI (most : Int) (s : List Rg) (i : Nat) (at' : Int) (out : List Rg) : Prop where
  can : Vai.Can (-1) out
  ok : OkP out
  end' : ∀ q ∈ out, q.2 + 1 < at'
  rest : Vai.Can (at' - 1) (s.drop i)
  has : ∀ c, InS out c ↔ inB most c ∧ c < at' ∧ ¬ InS s c
  ge : 0 ≤ at'
  le : at' ≤ 1114112
  low : ∀ c, InS (s.take i) c → c < at'
abbrev inv_Not_0 (x3 : Int) (x4 x7 : List AV) (x8 : Int) (x5o : List AV) (x6o x9o : Int) (x5 : List AV) (x6 x9 : Int) : Prop :=
  ASet x7 ∧ x8 = x7.length ∧ x7.length ≤ 1114112 ∧ x3 ≤ 1114111 ∧ 0 ≤ x9 ∧ x9 ≤ x8 ∧ Cs x5 ∧ x5.length ≤ x9 ∧ 0 ≤ x6 ∧ x6 ≤ 1114112 ∧ NotI x3 (CS x7) x9.toNat x6 (CS x5)
abbrev mu_Not_0 (x3 : Int) (x4 x7 : List AV) (x8 : Int) (x5 : List AV) (x6 x9 : Int) : Nat := (x8 - x9).toNat
abbrev out_Not_0_0 (x3 : Int) (x4 x7 : List AV) (x8 : Int) (x5o : List AV) (x6o x9o : Int) (y2 : List AV) (y3 y6 : Int) : Prop := Cs y2 ∧ y2.length ≤ 1114112 ∧ x3 ≤ 1114111 ∧ 0 ≤ y3 ∧ NotI x3 (CS x7) x7.length y3 (CS y2)
abbrev pre_Meet (s t : List AV) : Prop := ASet s ∧ ASet t
abbrev post_Meet (s t x : List AV) : Prop := SetP x (fun c => InS (CS s) c ∧ InS (CS t) c)
abbrev pre_Equal (a b : List AV) : Prop := Cs a ∧ Cs b ∧ a.length ≤ 1000000000000
abbrev post_Equal (a b : List AV) (r : Bool) : Prop := r = true ↔ CS a = CS b
abbrev inv_Equal_0 (x3 x4 : List AV) (x5 x6o x6 : Int) : Prop := Cs x3 ∧ Cs x4 ∧ x3.length ≤ 1000000000000 ∧ x5 = x3.length ∧ x4.length = x3.length ∧ 0 ≤ x6 ∧ x6 ≤ x5 ∧ (CS x3).take x6.toNat = (CS x4).take x6.toNat
abbrev mu_Equal_0 (x3 x4 : List AV) (x5 x6 : Int) : Nat := (x5 - x6).toNat
abbrev out_Equal_0_0 (x3 x4 : List AV) (x5 x6o : Int) : Prop := ¬ CS x3 = CS x4
abbrev out_Equal_0_1 (x3 x4 : List AV) (x5 x6o y3 : Int) : Prop := CS x3 = CS x4
abbrev pre_Same (a b : List AV) : Prop := Cs a ∧ Cs b ∧ a.length ≤ 1000000000000
abbrev post_Same (a b : List AV) (r : Bool) : Prop := r = true ↔ CS a = CS b
/-! ### the reference -/
abbrev pre_In (l : List AV) (c : Int) : Prop := Rs l ∧ l.length ≤ 1000000000000
abbrev post_In (l : List AV) (c : Int) (r : Bool) : Prop := r = true ↔ InS (RS l) c
abbrev inv_In_0 (x3 : List AV) (x4 x5o x5 : Int) : Prop := Rs x3 ∧ x3.length ≤ 1000000000000 ∧ 0 ≤ x5 ∧ x5 ≤ x3.length ∧ ¬ InS ((RS x3).take x5.toNat) x4
abbrev mu_In_0 (x3 : List AV) (x4 x5 : Int) : Nat := (x3.length - x5).toNat
abbrev out_In_0_0 (x3 : List AV) (x4 x5o : Int) : Prop := InS (RS x3) x4
abbrev out_In_0_1 (x3 : List AV) (x4 x5o y2 : Int) : Prop := ¬ InS (RS x3) x4
abbrev pre_put (l : List AV) (n : Int) : Prop := Is l ∧ l.length ≤ 1000000000000
abbrev post_put (l : List AV) (n : Int) (x : List AV) : Prop := Is x ∧ x.length ≤ l.length + 1 ∧ IS x = putL n (IS l)
abbrev inv_put_0 (x3 : List AV) (x4 x5o x5 : Int) : Prop := Is x3 ∧ x3.length ≤ 1000000000000 ∧ 0 ≤ x5 ∧ x5 ≤ x3.length ∧ ∀ (j : Nat) (v : Int), (IS x3)[j]? = some v → j < x5.toNat → v < x4
abbrev mu_put_0 (x3 : List AV) (x4 x5 : Int) : Nat := (x3.length - x5).toNat
/-- Where a number is to be put. -/
structure Put (l : List AV) (n k : Int) : Prop where
  is : Is l
  ge : 0 ≤ k
  le : k ≤ l.length
  below : ∀ (j : Nat) (v : Int), (IS l)[j]? = some v → j < k.toNat → v < n
  at' : ∀ v, (IS l)[k.toNat]? = some v → n ≤ v
abbrev out_put_0_0 (x3 : List AV) (x4 x5o y2 : Int) : Prop := Put x3 x4 y2 ∧ 0 ≤ y2 ∧ y2 ≤ x3.length
abbrev mostC (m : Int) : Int := if m > 1114111 then 1114111 else m
abbrev pre_Edges (l : List AV) (most : Int) : Prop := Rs l ∧ l.length ≤ 100000000000
abbrev post_Edges (l : List AV) (most : Int) (x : List AV) : Prop := Is x ∧ x.length ≤ 2 * l.length + 2 ∧ IS x = if mostC most < 0 then [] else edgesL (RS l) (mostC most)
abbrev inv_Edges_0 (x3 : List AV) (x4 : Int) (x5o : List AV) (x6o : Int) (x5 : List AV) (x6 : Int) : Prop :=
  Rs x3 ∧ x3.length ≤ 100000000000 ∧ 0 ≤ x4 ∧ x4 ≤ 1114111 ∧ 0 ≤ x6 ∧ x6 ≤ x3.length ∧ Is x5 ∧ x5.length ≤ 2 * x6 + 2 ∧ IS x5 = ((RS x3).take x6.toNat).foldl (edge1 x4) [0, x4 + 1]
abbrev mu_Edges_0 (x3 : List AV) (x4 : Int) (x5 : List AV) (x6 : Int) : Nat := (x3.length - x6).toNat
abbrev out_Edges_0_0 (x3 : List AV) (x4 : Int) (x5o : List AV) (x6o : Int) (y2 : List AV) (y3 : Int) : Prop := Is y2 ∧ y2.length ≤ 2 * x3.length + 2 ∧ IS y2 = edgesL (RS x3) x4
/-- What is in, by the kind of joining. -/
def jf (kind : Int) (a b : List Rg) (c : Int) : Bool := if kind = 2 then !inR a c else if kind = 1 then inR a c && inR b c else inR a c || inR b c
abbrev pre_Join (kind : Int) (a b : List AV) (most : Int) : Prop := Rs a ∧ Rs b ∧ a.length ≤ 40000000000 ∧ b.length ≤ 40000000000
abbrev post_Join (kind : Int) (a b : List AV) (most : Int) (x : List AV) : Prop := RSetP x (fun c => inB most c ∧ jf kind (RS a) (RS b) c = true)
/-- Edges. -/
def OkE (e : List Int) : Prop := ∀ v ∈ e, 0 ≤ v ∧ v ≤ 1114112
theorem OkE.get {e : List Int} (h : OkE e) {i : Nat} {v : Int} (k : e[i]? = some v) : 0 ≤ v ∧ v ≤ 1114112 := h v (List.mem_of_getElem? k)
/-- Ranges so far; they end below 1114112. -/
def OkJ (l : List Rg) : Prop := ∀ p ∈ l, 0 ≤ p.1 ∧ p.1 ≤ 1114112 ∧ -1 ≤ p.2 ∧ p.2 ≤ 1114111
abbrev inv_Join_0 (x7 : Int) (x8 x9 x10 : List AV) (x11o : List AV) (x12o : Int) (x11 : List AV) (x12 : Int) : Prop :=
  Rs x8 ∧ Rs x9 ∧ x8.length ≤ 40000000000 ∧ x9.length ≤ 40000000000 ∧ Is x10 ∧ OkE (IS x10) ∧ x10.length ≤ 1000000000000 ∧ 0 ≤ x12 ∧ x12 ≤ x10.length ∧ Rs x11 ∧ x11.length ≤ x12 ∧ OkJ (RS x11) ∧ joinF (jf x7 (RS x8) (RS x9)) (RS x11) ((IS x10).drop x12.toNat) = joinF (jf x7 (RS x8) (RS x9)) [] (IS x10)
abbrev mu_Join_0 (x7 : Int) (x8 x9 x10 x11 : List AV) (x12 : Int) : Nat := (x10.length - x12).toNat
abbrev out_Join_0_0 (x7 : Int) (x8 x9 x10 : List AV) (x11o : List AV) (x12o : Int) (y4 : List AV) (y5 : Int) : Prop := Rs y4 ∧ OkJ (RS y4) ∧ RS y4 = joinF (jf x7 (RS x8) (RS x9)) [] (IS x10)
abbrev pre_RNew (l : List AV) (most : Int) : Prop := Rs l ∧ l.length ≤ 40000000000
abbrev post_RNew (l : List AV) (most : Int) (x : List AV) : Prop := RSetP x (fun c => inB most c ∧ InS (RS l) c)
abbrev pre_RCount (l : List AV) : Prop := Rs l ∧ OkP (RS l) ∧ l.length ≤ 1000000000000
abbrev post_RCount (l : List AV) (r : Int) : Prop := r = cntR (RS l)
abbrev inv_RCount_0 (x2 : List AV) (x3o x4o x3 x4 : Int) : Prop :=
  Rs x2 ∧ OkP (RS x2) ∧ x2.length ≤ 1000000000000 ∧ 0 ≤ x4 ∧ x4 ≤ x2.length ∧ x3 = cntR ((RS x2).take x4.toNat) ∧ 0 ≤ x3 ∧ x3 ≤ x4 * 1114112
abbrev mu_RCount_0 (x2 : List AV) (x3 x4 : Int) : Nat := (x2.length - x4).toNat
abbrev out_RCount_0_0 (x2 : List AV) (x3o x4o y1 y2 : Int) : Prop := y1 = cntR (RS x2)
abbrev pre_add (l n : List AV) : Prop := Rs l ∧ Is n ∧ l.length ≤ 1000000000000 ∧ n.length ≤ 1000000000000
def dup (l : List Int) : List Rg := l.map fun v => (v, v)
theorem dup_app (l m : List Int) : dup (l ++ m) = dup l ++ dup m := List.map_append
theorem dup_one (v : Int) : dup [v] = [(v, v)] := rfl
theorem InS_dup {l : List Int} {c : Int} : InS (dup l) c ↔ c ∈ l := by
  rw [InS_iff]
  constructor
  · rintro ⟨r, hr, h1, h2⟩
    obtain ⟨v, hv, rfl⟩ := List.mem_map.1 hr
    have : c = v := Int.le_antisymm h2 h1
    rw [this]
    exact hv
  · exact fun h => ⟨(c, c), List.mem_map.2 ⟨c, h, rfl⟩, Int.le_refl _, Int.le_refl _⟩
abbrev post_add (l n x : List AV) : Prop := Rs x ∧ x.length ≤ l.length + n.length ∧ RS x = RS l ++ dup (IS n)
abbrev inv_add_0 (x4 : List AV) (x3o : List AV) (x5o : Int) (x3 : List AV) (x5 : Int) : Prop :=
  Rs x3o ∧ Is x4 ∧ x3o.length ≤ 1000000000000 ∧ x4.length ≤ 1000000000000 ∧ x5o = 0 ∧ 0 ≤ x5 ∧ x5 ≤ x4.length ∧ Rs x3 ∧ x3.length ≤ x3o.length + x5 ∧ RS x3 = RS x3o ++ dup ((IS x4).take x5.toNat)
abbrev mu_add_0 (x4 x3 : List AV) (x5 : Int) : Nat := (x4.length - x5).toNat
abbrev out_add_0_0 (x4 : List AV) (x3o : List AV) (x5o : Int) (y0 : List AV) (y2 : Int) : Prop := Rs y0 ∧ y0.length ≤ x3o.length + x4.length ∧ RS y0 = RS x3o ++ dup (IS x4)
abbrev pre_RSame (a b : List AV) : Prop := Rs a ∧ Rs b ∧ a.length ≤ 1000000000000
abbrev post_RSame (a b : List AV) (r : Bool) : Prop := r = true ↔ RS a = RS b
abbrev inv_RSame_0 (x3 x4 : List AV) (x5o x5 : Int) : Prop := Rs x3 ∧ Rs x4 ∧ x3.length ≤ 1000000000000 ∧ x4.length = x3.length ∧ 0 ≤ x5 ∧ x5 ≤ x3.length ∧ (RS x3).take x5.toNat = (RS x4).take x5.toNat
abbrev mu_RSame_0 (x3 x4 : List AV) (x5 : Int) : Nat := (x3.length - x5).toNat
abbrev out_RSame_0_0 (x3 x4 : List AV) (x5o : Int) : Prop := ¬ RS x3 = RS x4
abbrev out_RSame_0_1 (x3 x4 : List AV) (x5o y2 : Int) : Prop := RS x3 = RS x4

/-! ### steps -/
theorem wrapu_id {n : Int} (h1 : 0 ≤ n) (h2 : n ≤ 18446744073709551615) : IntKind.wrap .u64 n = n := by
  rw [IntKind.wrap_u64]; omega
theorem fdiv2 (x : Int) : Int.fdiv x 2 = x / 2 := Int.fdiv_eq_ediv_of_nonneg x (by decide)
theorem nsucc {x : Int} (h : 0 ≤ x) : (x + 1).toNat = x.toNat + 1 := by omega
theorem nz : Int.toNat 0 = 0 := rfl
theorem full {α : Type} {l : List α} {x : Int} (h : (l.length : Int) ≤ x) : l.take x.toNat = l := List.take_of_length_le (by omega)
theorem cne {a b c d : Nat} (h1 : isF a) (h2 : isF b) (h3 : isF c) (h4 : isF d) : (Ieee.double.order a c == some Ordering.eq && Ieee.double.order b d == some Ordering.eq) = decide ((toI a, toI b) = (toI c, toI d)) := by
  rw [h1.order h3, h2.order h4, cmp_eq, cmp_eq, Bool.eq_iff_iff]
  simp only [Bool.and_eq_true, beq_iff_eq, Option.some.injEq, decide_eq_true_eq, Prod.mk.injEq]
  constructor
  · rintro ⟨g1, g2⟩
    exact ⟨by split at g1 <;> (try cases g1) <;> (split at g1 <;> first | assumption | cases g1), by split at g2 <;> (try cases g2) <;> (split at g2 <;> first | assumption | cases g2)⟩
  · rintro ⟨g1, g2⟩
    rw [g1, g2]
    simp
theorem set_step {α : Type} {a b : List α} {i : Nat} {p : α} (h : a.take i = b.take i) (hi : b[i]? = some p) (hl : i < a.length) : (a.set i p).take (i + 1) = b.take (i + 1) := by
  rw [take_next hi, ← h, take_next (l := a.set i p) (p := p) (by rw [List.getElem?_set_self hl])]
  rw [List.take_set_of_le (Nat.le_refl i)]
theorem eq_step {α : Type} {a b : List α} {i : Nat} {p q : α} (h : a.take i = b.take i) (ha : a[i]? = some p) (hb : b[i]? = some q) (e : p = q) : a.take (i + 1) = b.take (i + 1) := by
  rw [take_next ha, take_next hb, h, e]
theorem ne_of {α : Type} {a b : List α} {i : Nat} {p q : α} (ha : a[i]? = some p) (hb : b[i]? = some q) (e : ¬ p = q) : ¬ a = b := fun h => by
  rw [h, hb] at ha
  injection ha with ha
  exact e ha.symm
theorem eq_full {α : Type} {a b : List α} {x : Int} (h : a.take x.toNat = b.take x.toNat) (ha : (a.length : Int) ≤ x) (hb : (b.length : Int) ≤ x) : a = b := by
  rwa [full ha, full hb] at h
theorem InS_get {l : List Rg} {i : Nat} {a b c : Int} (h : l[i]? = some (a, b)) (h1 : a ≤ c) (h2 : c ≤ b) : InS l c := InS_iff.2 ⟨_, List.mem_of_getElem? h, h1, h2⟩
theorem not_step {l : List Rg} {i : Nat} {a b c : Int} (h : ¬ InS (l.take i) c) (hi : l[i]? = some (a, b)) (k : ¬ (a ≤ c ∧ c ≤ b)) : ¬ InS (l.take (i + 1)) c := fun g => by
  rcases (InS_take hi).1 g with g | g
  · exact h g
  · exact k g
theorem not_zero {l : List Rg} {c : Int} : ¬ InS (l.take 0) c := fun h => InS_nil.1 h
theorem low_step {α : Type} {l : List α} {P : α → Prop} {i : Nat} {p : α} (h : ∀ j q, l[j]? = some q → j < i → P q) (hi : l[i]? = some p) (hp : P p) : ∀ j q, l[j]? = some q → j < i + 1 → P q := fun j q hj hji => by
  rcases Nat.lt_or_ge j i with g | g
  · exact h j q hj g
  · have : j = i := by omega
    subst this
    rw [hi] at hj
    injection hj with hj
    rw [← hj]
    exact hp
theorem Put.mk1 {l : List AV} {n k m : Int} (h1 : Is l) (h2 : 0 ≤ k) (h3 : k ≤ l.length) (h4 : ∀ (j : Nat) (v : Int), (IS l)[j]? = some v → j < k.toNat → v < n) (h5 : (IS l)[k.toNat]? = some m) (h6 : n ≤ m) : Put l n k :=
  ⟨h1, h2, h3, h4, fun v hv => by rw [h5] at hv; injection hv with hv; omega⟩
theorem Put.mk2 {l : List AV} {n k : Int} (h1 : Is l) (h2 : 0 ≤ k) (h3 : k ≤ l.length) (h4 : ∀ (j : Nat) (v : Int), (IS l)[j]? = some v → j < k.toNat → v < n) (h5 : (l.length : Int) ≤ k) : Put l n k :=
  ⟨h1, h2, h3, h4, fun v hv => by
    have := (List.getElem?_eq_some_iff.1 hv).1
    rw [IS_len] at this
    omega⟩
theorem Put.same {l : List AV} {n k : Int} (h : Put l n k) (e : (IS l)[k.toNat]? = some n) : IS l = putL n (IS l) := by
  rw [putL_at h.below (by rw [IS_len]; have := h.le; omega) h.at', if_pos e]
theorem Put.ins {l : List AV} {n k m : Int} (h : Put l n k) (e : (IS l)[k.toNat]? = some m) (hm : ¬ m = n) : (IS l).take k.toNat ++ [n] ++ (IS l).drop k.toNat = putL n (IS l) := by
  rw [putL_at h.below (by rw [IS_len]; have := h.le; omega) h.at', if_neg (by rw [e]; simp [hm])]
theorem Put.end' {l : List AV} {n k : Int} (h : Put l n k) (e : (l.length : Int) ≤ k) : (IS l).take k.toNat ++ [n] ++ (IS l).drop k.toNat = putL n (IS l) := by
  rw [putL_at h.below (by rw [IS_len]; have := h.le; omega) h.at', if_neg]
  rw [List.getElem?_eq_none (by rw [IS_len]; omega)]
  simp
theorem has_post {l : List AV} {c r : Int} {x y : Nat} (h : Vai.Can (-1) (CS l)) (f : Fst l c r) (e : (CS l)[r.toNat]? = some (toI x, toI y)) : toI x ≤ c ↔ InS (CS l) c := by
  rw [found h f.below f.above, e]
  simp
theorem has_end {l : List AV} {c r : Int} (h : Vai.Can (-1) (CS l)) (f : Fst l c r) (e : (l.length : Int) ≤ r) : ¬ InS (CS l) c := fun g => by
  obtain ⟨p, hp, _⟩ := (found h f.below f.above).1 g
  have := (List.getElem?_eq_some_iff.1 hp).1
  rw [CS_len] at this
  omega
theorem up_le {l : List Rg} {b : Int} {i j : Nat} {p q : Rg} (h : Vai.Can b l) (hij : i ≤ j) (hi : l[i]? = some p) (hj : l[j]? = some q) : p.2 ≤ q.2 := by
  rcases Nat.lt_or_ge i j with g | g
  · have h1 := h.up g hi hj
    have h2 := (h.low (List.mem_of_getElem? hj)).2
    omega
  · have : i = j := by omega
    subst this
    rw [hi] at hj
    injection hj with hj
    rw [hj]
    exact Int.le_refl _
theorem search_lo {l : List AV} {c : Int} {m : Nat} {x y : Nat} (h : Vai.Can (-1) (CS l)) (e : (CS l)[m]? = some (toI x, toI y)) (k : ¬ c ≤ toI y) : ∀ (j : Nat) (p : Rg), (CS l)[j]? = some p → j < m + 1 → p.2 < c := fun j p hj hjm => by
  have := up_le h (by omega : j ≤ m) hj e
  have : p.2 ≤ toI y := this
  omega
theorem search_hi {l : List AV} {c : Int} {m : Nat} {x y : Nat} (h : Vai.Can (-1) (CS l)) (e : (CS l)[m]? = some (toI x, toI y)) (k : c ≤ toI y) : ∀ (j : Nat) (p : Rg), (CS l)[j]? = some p → m ≤ j → c ≤ p.2 := fun j p hj hjm => by
  have := up_le h hjm e hj
  have : toI y ≤ p.2 := this
  omega
theorem cnt_step {l : List Rg} {i : Nat} {a b n m : Int} (h : l[i]? = some (a, b)) (e : n = cntR (l.take i)) (k : m = n + (b - a + 1)) : m = cntR (l.take (i + 1)) := by
  rw [cntR_take h, k, e]
theorem dup_step {l : List AV} {n : List Int} {x : List Rg} {i : Nat} {v : Int} (h : RS l = x ++ dup (n.take i)) (hi : n[i]? = some v) : RS (l ++ [.agg [iv v, iv v]]) = x ++ dup (n.take (i + 1)) := by
  rw [take_next hi, RS_app, RS_one, h, dup_app, dup_one, List.append_assoc]
theorem new_yes {l : List Rg} {out : List AV} {i : Nat} {a b most A B : Int} {x y : Nat} (h : ∀ c, InS (CS out) c ↔ InS (l.take i) c ∧ inB most c) (hi : l[i]? = some (a, b)) (hx : toI x = A) (hy : toI y = B) (hA : A = max a 0) (hB : B = min b (min most 1114111)) (hAB : A ≤ B) :
    ∀ c, InS (CS (out ++ [.sc (.complex .f64 x y)])) c ↔ InS (l.take (i + 1)) c ∧ inB most c := fun c => by
  rw [CS_app, CS_one, InS_app, InS_one, h, InS_take hi, hx, hy]
  unfold inB
  constructor
  · rintro (g | g)
    · exact ⟨.inl g.1, g.2⟩
    · exact ⟨.inr (by omega), by omega⟩
  · rintro ⟨g | g, k⟩
    · exact .inl ⟨g, k⟩
    · exact .inr (by simp only; omega)
theorem new_no {l : List Rg} {out : List AV} {i : Nat} {a b most : Int} (h : ∀ c, InS (CS out) c ↔ InS (l.take i) c ∧ inB most c) (hi : l[i]? = some (a, b)) (hAB : ¬ max a 0 ≤ min b (min most 1114111)) :
    ∀ c, InS (CS out) c ↔ InS (l.take (i + 1)) c ∧ inB most c := fun c => by
  rw [h, InS_take hi]
  unfold inB
  constructor
  · rintro ⟨g, k⟩
    exact ⟨.inl g, k⟩
  · rintro ⟨g | g, k⟩
    · exact ⟨g, k⟩
    · exfalso
      simp only at g
      omega
theorem merge_step {out s : List AV} {i : Nat} {z : Rg} {k : List Rg} (h : mergeG (CS out) ((CS s).drop i) = k) (hi : (CS s)[i]? = some z) : mergeG (addM (CS out) z) ((CS s).drop (i + 1)) = k := by
  rw [drop_next hi] at h
  exact h
theorem merge_end {out s : List AV} {x : Int} {k : List Rg} (h : mergeG (CS out) ((CS s).drop x.toNat) = k) (e : (s.length : Int) ≤ x) : CS out = k := by
  rw [List.drop_of_length_le (by rw [CS_len]; omega)] at h
  exact h
theorem not_init {most : Int} {l : List AV} (h : ASet l) : NotI most (CS l) 0 0 [] := by
  refine ⟨trivial, OkP.nil, by simp, h.can, fun c => ?_, Int.le_refl _, by omega, fun c hc => (InS_nil.1 hc).elim⟩
  rw [InS_nil]
  unfold inB
  constructor
  · exact False.elim
  · rintro ⟨g, k, _⟩
    omega
theorem not_rest {l : List Rg} {i : Nat} {p : Rg} {at' : Int} (h : Vai.Can (at' - 1) (l.drop i)) (hi : l[i]? = some p) : at' ≤ p.1 ∧ p.1 ≤ p.2 ∧ Vai.Can (p.2 + 1) (l.drop (i + 1)) := by
  rw [drop_next hi] at h
  obtain ⟨h1, h2, h3⟩ := h
  exact ⟨by omega, h2, h3⟩
theorem not_lows {l : List Rg} {i : Nat} {p : Rg} {b : Int} (h : Vai.Can b l) (hi : l[i]? = some p) {c : Int} (hc : c < p.1) (k : InS l c) : InS (l.take i) c := by
  obtain ⟨q, hq, h1, h2⟩ := InS_iff.1 k
  obtain ⟨j, hj⟩ := List.getElem?_of_mem hq
  rcases Nat.lt_trichotomy j i with g | g | g
  · exact InS_iff.2 ⟨q, List.mem_of_getElem? (by rw [List.getElem?_take_of_lt g]; exact hj), h1, h2⟩
  · subst g
    rw [hi] at hj
    injection hj with hj
    subst hj
    omega
  · have := h.up g hi hj
    have := (h.low (List.mem_of_getElem? hi)).2
    omega

theorem not_tail {l : List Rg} {i : Nat} {at' : Int} {p : Rg} (h1 : ∀ c, InS (l.take i) c → c < at') (hi : l[i]? = some p) (h2 : at' ≤ p.1) (h3 : p.1 ≤ p.2) : ∀ c, InS (l.take (i + 1)) c → c < p.2 + 1 := fun c hc => by
  rcases (InS_take hi).1 hc with g | g
  · have := h1 c g
    omega
  · omega
theorem not_yes {most : Int} {l : List AV} {i : Nat} {at' a b B : Int} {out : List AV} {x y : Nat} (hs : ASet l) (N : NotI most (CS l) i at' (CS out)) (hi : (CS l)[i]? = some (a, b)) (hx : toI x = at') (hy : toI y = B) (hB : B = min (a - 1) most) (hAB : at' ≤ B) (hm : most ≤ 1114111) :
    NotI most (CS l) (i + 1) (b + 1) (CS (out ++ [.sc (.complex .f64 x y)])) := by
  obtain ⟨r1, r2, r3⟩ := not_rest N.rest hi
  have hok := hs.ok _ (List.mem_of_getElem? hi)
  simp only at r1 r2 r3 hok
  have hge := N.ge
  rw [CS_app, CS_one, hx, hy]
  refine ⟨N.can.app1 N.end' (by omega) hAB, N.ok.app (OkP.one hge hAB (by omega)), fun q hq => ?_, r3.weak (by omega), fun c => ?_, by omega, by omega, not_tail N.low hi r1 r2⟩
  · rcases List.mem_append.1 hq with hq | hq
    · have := N.end' q hq
      omega
    · rw [List.mem_singleton] at hq
      subst hq
      show B + 1 < b + 1
      omega
  · rw [InS_app, InS_one, N.has]
    unfold inB
    simp only
    constructor
    · rintro (⟨g1, g2, g3⟩ | ⟨g1, g2⟩)
      · exact ⟨g1, by omega, g3⟩
      · refine ⟨by omega, by omega, fun g => ?_⟩
        have := N.low c (not_lows hs.can hi (by show c < a; omega) g)
        omega
    · rintro ⟨g1, g2, g3⟩
      by_cases hc : c < at'
      · exact .inl ⟨g1, hc, g3⟩
      · have : ¬ (a ≤ c ∧ c ≤ b) := fun g => g3 (InS_get hi g.1 g.2)
        exact .inr (by omega)
theorem not_no {most : Int} {l : List AV} {i : Nat} {at' a b : Int} {out : List AV} (hs : ASet l) (N : NotI most (CS l) i at' (CS out)) (hi : (CS l)[i]? = some (a, b)) (hAB : ¬ at' ≤ min (a - 1) most) (hm : most ≤ 1114111) :
    NotI most (CS l) (i + 1) (b + 1) (CS out) := by
  obtain ⟨r1, r2, r3⟩ := not_rest N.rest hi
  have hok := hs.ok _ (List.mem_of_getElem? hi)
  simp only at r1 r2 r3 hok
  have hge := N.ge
  refine ⟨N.can, N.ok, fun q hq => ?_, r3.weak (by omega), fun c => ?_, by omega, by omega, not_tail N.low hi r1 r2⟩
  · have := N.end' q hq
    omega
  · rw [N.has]
    unfold inB
    constructor
    · rintro ⟨g1, g2, g3⟩
      exact ⟨g1, by omega, g3⟩
    · rintro ⟨g1, g2, g3⟩
      have : ¬ (a ≤ c ∧ c ≤ b) := fun g => g3 (InS_get hi g.1 g.2)
      exact ⟨g1, by omega, g3⟩
theorem not_end1 {most m : Int} {l : List AV} {at' : Int} {out : List AV} {x y : Nat} (N : NotI most (CS l) l.length at' (CS out)) (hc : Cs out) (hx : toI x = at') (hy : toI y = most) (h1 : isF x) (h2 : isF y) (hm : most = min m 1114111) (h : at' ≤ most) :
    SetP (out ++ [.sc (.complex .f64 x y)]) (fun c => inB m c ∧ ¬ InS (CS l) c) := by
  have hge := N.ge
  refine ⟨hc.app (Cs.one h1 h2), ?_, ?_, fun c => ?_⟩
  · rw [CS_app, CS_one, hx, hy]
    exact N.can.app1 N.end' (by omega) h
  · rw [CS_app, CS_one, hx, hy]
    exact N.ok.app (OkP.one hge h (by omega))
  · rw [CS_app, CS_one, hx, hy, InS_app, InS_one, N.has]
    have hl := N.low c
    rw [List.take_of_length_le (by rw [CS_len]; exact Nat.le_refl _)] at hl
    unfold inB
    simp only
    constructor
    · rintro (⟨g1, g2, g3⟩ | ⟨g1, g2⟩)
      · exact ⟨by omega, g3⟩
      · refine ⟨by omega, fun g => ?_⟩
        have := hl g
        omega
    · rintro ⟨g1, g3⟩
      by_cases hc : c < at'
      · exact .inl ⟨by omega, hc, g3⟩
      · exact .inr (by omega)
theorem not_end2 {most m : Int} {l : List AV} {at' : Int} {out : List AV} (N : NotI most (CS l) l.length at' (CS out)) (hc : Cs out) (hm : most = min m 1114111) (h : ¬ at' ≤ most) :
    SetP out (fun c => inB m c ∧ ¬ InS (CS l) c) := by
  refine ⟨hc, N.can, N.ok, fun c => ?_⟩
  rw [N.has]
  unfold inB
  constructor
  · rintro ⟨g1, g2, g3⟩
    exact ⟨by omega, g3⟩
  · rintro ⟨g1, g3⟩
    exact ⟨by omega, by omega, g3⟩
theorem meet_post {s t a b u x : List AV} (hs : ASet s) (ht : ASet t) (ha : SetP a (fun c => inB 1114111 c ∧ ¬ InS (CS s) c)) (hb : SetP b (fun c => inB 1114111 c ∧ ¬ InS (CS t) c)) (hu : SetP u (fun c => InS (CS a) c ∨ InS (CS b) c)) (hx : SetP x (fun c => inB 1114111 c ∧ ¬ InS (CS u) c)) :
    SetP x (fun c => InS (CS s) c ∧ InS (CS t) c) := hx.to fun c => by
  rw [hu.has, ha.has, hb.has]
  constructor
  · rintro ⟨b, k⟩
    exact ⟨Classical.byContradiction fun g => k (.inl ⟨b, g⟩), Classical.byContradiction fun g => k (.inr ⟨b, g⟩)⟩
  · rintro ⟨g1, g2⟩
    refine ⟨?_, ?_⟩
    · have := hs.ok.inB g1
      unfold inB
      omega
    · rintro (⟨_, g⟩ | ⟨_, g⟩)
      · exact g g1
      · exact g g2
/-! ### joining -/
theorem addR_set : ∀ {out : List Rg} {q : Rg} {lo hi : Int}, out[out.length - 1]? = some q → q.2 + 1 = lo → addR out lo hi = out.set (out.length - 1) (q.1, hi)
  | [], _, _, _, h, _ => by simp at h
  | [q'], q, lo, hi, h, hz => by
    simp at h
    subst h
    simp [addR, hz]
  | q' :: r :: l, q, lo, hi, h, hz => by
    show q' :: addR (r :: l) lo hi = _
    rw [addR_set (q := q) (by simpa using h) hz]
    simp
theorem addR_app : ∀ {out : List Rg} {q : Rg} {lo hi : Int}, out[out.length - 1]? = some q → ¬ q.2 + 1 = lo → addR out lo hi = out ++ [(lo, hi)]
  | [], _, _, _, h, _ => by simp at h
  | [q'], q, lo, hi, h, hz => by
    simp at h
    subst h
    simp [addR, hz]
  | q' :: r :: l, q, lo, hi, h, hz => by
    show q' :: addR (r :: l) lo hi = _
    rw [addR_app (q := q) (by simpa using h) hz]
    rfl
theorem join_in {f : Int → Bool} {out : List Rg} {E : List Int} {i : Nat} {k : List Rg} {x y : Int} (h : joinF f out (E.drop i) = k) (hx : E[i]? = some x) (hy : E[i + 1]? = some y) (hf : f x = true) : joinF f (addR out x (y - 1)) (E.drop (i + 1)) = k := by
  rw [drop_next hx, drop_next hy] at h
  rw [drop_next hy]
  simp only [joinF, hf, if_true] at h
  exact h
theorem join_out {f : Int → Bool} {out : List Rg} {E : List Int} {i : Nat} {k : List Rg} {x y : Int} (h : joinF f out (E.drop i) = k) (hx : E[i]? = some x) (hy : E[i + 1]? = some y) (hf : f x = false) : joinF f out (E.drop (i + 1)) = k := by
  rw [drop_next hx, drop_next hy] at h
  rw [drop_next hy]
  simp only [joinF, hf, Bool.false_eq_true, if_false] at h
  exact h
theorem join_end {f : Int → Bool} {out : List Rg} {E : List Int} {i : Nat} {k : List Rg} (h : joinF f out (E.drop i) = k) (hi : E.length ≤ i + 1) : out = k := by
  rcases Nat.lt_or_ge i E.length with g | g
  · rw [drop_next (List.getElem?_eq_getElem g), List.drop_of_length_le hi] at h
    exact h
  · rw [List.drop_of_length_le g] at h
    exact h
theorem OkJ.nil : OkJ [] := fun p h => by cases h
theorem OkJ.app {l : List Rg} {a b : Int} (h : OkJ l) (h0 : 0 ≤ a) (h1 : a ≤ 1114112) (h2 : -1 ≤ b) (h3 : b ≤ 1114111) : OkJ (l ++ [(a, b)]) := fun p hp => by
  rcases List.mem_append.1 hp with hp | hp
  · exact h p hp
  · rw [List.mem_singleton] at hp
    subst hp
    exact ⟨h0, h1, h2, h3⟩
theorem OkJ.set {l : List Rg} {a b : Int} {i : Nat} (h : OkJ l) (h0 : 0 ≤ a) (h1 : a ≤ 1114112) (h2 : -1 ≤ b) (h3 : b ≤ 1114111) : OkJ (l.set i (a, b)) := fun p hp => by
  rcases List.mem_or_eq_of_mem_set hp with hp | rfl
  · exact h p hp
  · exact ⟨h0, h1, h2, h3⟩
theorem OkJ.get {l : List Rg} (h : OkJ l) {i : Nat} {a b : Int} (e : l[i]? = some (a, b)) : 0 ≤ a ∧ a ≤ 1114112 ∧ -1 ≤ b ∧ b ≤ 1114111 := h _ (List.mem_of_getElem? e)
theorem inR_same {l : List Rg} {c e : Int} (h : ∀ r ∈ l, (decide (r.1 ≤ c) && decide (c ≤ r.2)) = (decide (r.1 ≤ e) && decide (e ≤ r.2))) : inR l c = inR l e := by
  unfold inR
  induction l with
  | nil => rfl
  | cons r l ih => simp only [List.any_cons, h r (by simp), ih fun s hs => h s (by simp [hs])]
theorem join_post {kind most : Int} {a b : List AV} {y : List AV} {E : List Int} (h1 : Rs y) (hE : E = if mostC most < 0 then [] else edgesL (RS (a ++ b)) (mostC most)) (h2 : RS y = joinF (jf kind (RS a) (RS b)) [] E) :
    RSetP y (fun c => inB most c ∧ jf kind (RS a) (RS b) c = true) := by
  rw [RS_app] at hE
  have hj := joinL_ok (f := jf kind (RS a) (RS b)) (l := RS a ++ RS b) (most := mostC most) fun c e h => by
    have ha : inR (RS a) c = inR (RS a) e := inR_same fun r hr => h r (List.mem_append_left _ hr)
    have hb : inR (RS b) c = inR (RS b) e := inR_same fun r hr => h r (List.mem_append_right _ hr)
    unfold jf
    rw [ha, hb]
  have e : RS y = joinL (jf kind (RS a) (RS b)) (RS a ++ RS b) (mostC most) := by
    rw [h2, hE]
    unfold joinL
    split <;> simp [joinF]
  rw [← e] at hj
  have hm : ∀ c, (0 ≤ c ∧ c ≤ mostC most) ↔ inB most c := fun c => by
    unfold inB mostC
    split <;> omega
  have hi : ∀ c, InS (RS y) c ↔ inB most c ∧ jf kind (RS a) (RS b) c = true := fun c => by
    unfold InS
    rw [hj.2, ← hm]
    simp [and_assoc]
  refine ⟨h1, hj.1, fun p hp => ?_, hi⟩
  have h3 := (hj.1.low hp).2
  have h4 := (hi p.1).1 (InS_iff.2 ⟨p, hp, Int.le_refl _, h3⟩)
  have h5 := (hi p.2).1 (InS_iff.2 ⟨p, hp, h3, Int.le_refl _⟩)
  have := h4.1
  have := h5.1
  unfold inB at *
  omega
theorem edges_len {l : List Rg} {most : Int} (h0 : 0 ≤ most) (h1 : most ≤ 1114111) : OkE (edgesL l most) := fun v hv => by
  have := (edges_ok (l := l) h0).1
  have h2 := this.lo v hv
  have h3 := this.hi v hv
  omega
theorem jf_union {a b : List Rg} {c : Int} : jf 0 a b c = true ↔ InS a c ∨ InS b c := by
  unfold jf InS
  simp
theorem jf_meet {a b : List Rg} {c : Int} : jf 1 a b c = true ↔ InS a c ∧ InS b c := by
  unfold jf InS
  simp
theorem jf_not {a b : List Rg} {c : Int} : jf 2 a b c = true ↔ ¬ InS a c := by
  unfold jf InS
  simp

theorem cnt_full {l : List Rg} {n x : Int} (h : n = cntR (l.take x.toNat)) (k : (l.length : Int) ≤ x) : n = cntR l := by rwa [full k] at h
theorem cnt_zero {l : List Rg} : 0 = cntR (l.take 0) := rfl
theorem dup_step2 {l : List AV} {n : List Int} {x : List Rg} {i : Nat} {v w : Int} (h : RS l = x ++ dup (n.take i)) (hi : n[i]? = some v) (hj : n[i]? = some w) : RS (l ++ [.agg [iv v, iv w]]) = x ++ dup (n.take (i + 1)) := by
  rw [hi] at hj
  injection hj with hj
  subst hj
  exact dup_step h hi
theorem dup_full {l x : List Rg} {n : List Int} {i : Int} (h : l = x ++ dup (n.take i.toNat)) (k : (n.length : Int) ≤ i) : l = x ++ dup n := by rwa [full k] at h
theorem dup_zero {l : List Rg} {n : List Int} : l = l ++ dup (n.take 0) := by simp [dup]
theorem merge_set {out s : List AV} {i n : Nat} {k : List Rg} {zx zy qx qy x y : Nat} {m : Int} (h : mergeG (CS out) ((CS s).drop i) = k) (hi : (CS s)[i]? = some (toI zx, toI zy)) (hl : (CS out)[n]? = some (toI qx, toI qy)) (hn : n = out.length - 1) (hz : toI zx ≤ toI qy + 1) (hx : toI x = toI qx) (hy : toI y = m) (hm : m = max (toI qy) (toI zy)) :
    mergeG (CS (out.set n (.sc (.complex .f64 x y)))) ((CS s).drop (i + 1)) = k := by
  rw [CS_set, hx, hy, hm]
  subst hn
  have h1 := merge_step h hi
  rw [addM_set (q := (toI qx, toI qy)) (by rw [CS_len]; exact hl) hz, CS_len] at h1
  exact h1
theorem merge_app {out s : List AV} {i n : Nat} {k : List Rg} {zx zy qx qy : Nat} (h : mergeG (CS out) ((CS s).drop i) = k) (hi : (CS s)[i]? = some (toI zx, toI zy)) (hl : (CS out)[n]? = some (toI qx, toI qy)) (hn : n = out.length - 1) (hz : ¬ toI zx ≤ toI qy + 1) :
    mergeG (CS (out ++ [.sc (.complex .f64 zx zy)])) ((CS s).drop (i + 1)) = k := by
  rw [CS_app, CS_one]
  subst hn
  have h1 := merge_step h hi
  rw [addM_app (q := (toI qx, toI qy)) (by rw [CS_len]; exact hl) hz] at h1
  exact h1
theorem merge_first {out s : List AV} {i : Nat} {k : List Rg} {zx zy : Nat} (h : mergeG (CS out) ((CS s).drop i) = k) (hi : (CS s)[i]? = some (toI zx, toI zy)) (hn : out.length = 0) :
    mergeG (CS (out ++ [.sc (.complex .f64 zx zy)])) ((CS s).drop (i + 1)) = k := by
  have : out = [] := List.length_eq_zero_iff.1 hn
  subst this
  exact merge_step h hi
theorem OkP.new {l : List AV} {A B : Int} {x y : Nat} (h : OkP (CS l)) (hx : toI x = A) (hy : toI y = B) (h0 : 0 ≤ A) (h1 : A ≤ B) (h2 : B ≤ 1114111) : OkP (CS (l ++ [.sc (.complex .f64 x y)])) := by
  rw [CS_app, CS_one, hx, hy]
  exact h.app (OkP.one h0 h1 h2)
theorem has_full {l : List Rg} {x : Int} {P : Int → Prop} {Q : Int → Prop} (h : ∀ c, P c ↔ InS (l.take x.toNat) c ∧ Q c) (k : (l.length : Int) ≤ x) : ∀ c, P c ↔ InS l c ∧ Q c := by rwa [full k] at h
theorem new_zero {l : List Rg} {most : Int} : ∀ c, InS (CS []) c ↔ InS (l.take 0) c ∧ inB most c := fun c => by
  rw [CS_nil, List.take_zero, InS_nil, false_and]
theorem not_full {l : List Rg} {x c : Int} (h : ¬ InS (l.take x.toNat) c) (k : (l.length : Int) ≤ x) : ¬ InS l c := by rwa [full k] at h
theorem below_zero {α : Type} {l : List α} {P : α → Prop} : ∀ j q, l[j]? = some q → j < 0 → P q := fun _ _ _ h => absurd h (Nat.not_lt_zero _)
theorem above_end {l : List AV} {P : Rg → Prop} {k : Nat} (h : l.length ≤ k) : ∀ j q, (CS l)[j]? = some q → k ≤ j → P q := fun j q hj hk => by
  have := (List.getElem?_eq_some_iff.1 hj).1
  rw [CS_len] at this
  omega
theorem Fst.fin {l : List AV} {c i j : Int} (h0 : 0 ≤ i) (h1 : i ≤ l.length) (h2 : ∀ (k : Nat) (p : Rg), (CS l)[k]? = some p → k < i.toNat → p.2 < c) (h3 : ∀ (k : Nat) (p : Rg), (CS l)[k]? = some p → j.toNat ≤ k → c ≤ p.2) (h4 : ¬ i < j) (h5 : i ≤ j) : Fst l c i :=
  ⟨h0, h1, h2, fun k p hk hi => h3 k p hk (by omega)⟩
theorem len_ne {a b : List AV} (h : ¬ (a.length : Int) = b.length) : false = true ↔ CS a = CS b := ⟨fun h => (by cases h), fun e => by
  have := congrArg List.length e
  rw [CS_len, CS_len] at this
  omega⟩
theorem len_neR {a b : List AV} (h : ¬ (a.length : Int) = b.length) : false = true ↔ RS a = RS b := ⟨fun h => (by cases h), fun e => by
  have := congrArg List.length e
  rw [RS_len, RS_len] at this
  omega⟩
theorem iff_no {p : Prop} (h : ¬ p) : false = true ↔ p := ⟨fun h => (by cases h), fun k => absurd k h⟩
theorem iff_yes {p : Prop} (h : p) : true = true ↔ p := ⟨fun _ => h, fun _ => rfl⟩

theorem rsame {l : List AV} {i : Nat} {a b c d : Int} (h : (RS l)[i]? = some (c, d)) (k : l[i]? = some (.agg [iv a, iv b])) : c = a ∧ d = b := by
  have : (RS l)[i]? = some (a, b) := by
    unfold RS
    rw [List.getElem?_map, k]
    rfl
  rw [h] at this
  injection this with this
  injection this with h1 h2
  exact ⟨h1, h2⟩
theorem isame {l : List AV} {i : Nat} {a c : Int} (h : (IS l)[i]? = some c) (k : l[i]? = some (iv a)) : c = a := by
  have : (IS l)[i]? = some a := by
    unfold IS
    rw [List.getElem?_map, k]
    rfl
  rw [h] at this
  injection this
theorem csame {l : List AV} {i : Nat} {x y : Nat} {c d : Int} (h : (CS l)[i]? = some (c, d)) (k : l[i]? = some (.sc (.complex .f64 x y))) : c = toI x ∧ d = toI y := by
  have : (CS l)[i]? = some (toI x, toI y) := by
    unfold CS
    rw [List.getElem?_map, k]
    rfl
  rw [h] at this
  injection this with this
  injection this with h1 h2
  exact ⟨h1, h2⟩
theorem decC_cz {p : Rg} (h : inC p) : decC (cz p) = p := by
  obtain ⟨h0, h1, h2, h3⟩ := h
  show (toI (fl p.1), toI (fl p.2)) = p
  rw [toI_fl h0 h1, toI_fl h2 h3]
theorem CS_cz (d : List PairC) : CS (d.map fun p => cz p.1) = d.map fun p => p.1 := by
  unfold CS
  rw [List.map_map]
  exact List.map_congr_left fun p _ => decC_cz p.2
theorem Cs_cz (d : List PairC) : Cs (d.map fun p => cz p.1) := fun v hv => by
  obtain ⟨p, _, rfl⟩ := List.mem_map.1 hv
  obtain ⟨h0, h1, h2, h3⟩ := p.2
  exact ⟨_, _, isF.mk h0 h1, isF.mk h2 h3, rfl⟩
theorem Cs.pairs {l : List AV} (h : Cs l) : ∃ d : List PairC, l = d.map fun p => cz p.1 := by
  induction l with
  | nil => exact ⟨[], rfl⟩
  | cons v l ih =>
    obtain ⟨x, y, hx, hy, rfl⟩ := h v (by simp)
    obtain ⟨d, rfl⟩ := ih fun v hv => h v (by simp [hv])
    have h1 := hx.rng
    have h2 := hy.rng
    refine ⟨⟨(toI x, toI y), h1.1, h1.2, h2.1, h2.2⟩ :: d, ?_⟩
    show AV.sc (.complex .f64 x y) :: _ = AV.sc (.complex .f64 (fl (toI x)) (fl (toI y))) :: _
    rw [← hx.eq, ← hy.eq]
theorem swoC : Go.Sort.SWO (fun x y : PairC => decide (x.1.1 < y.1.1)) where
  irrefl x := by simp
  trans x y z h1 h2 := by simp at *; omega
  ntrans x y z h1 h2 := by simp at *; omega
theorem sortP_ok (d : List PairC) : (sortP d).length = d.length ∧ d.Perm (sortP d) ∧ (sortP d).Pairwise (fun p q => p.1.1 ≤ q.1.1) := by
  have h := Go.Sort.pdq_sorts (fun x y : PairC => decide (x.1.1 < y.1.1)) swoC d.toArray 0 d.length (Go.Lib.bitLen d.length) true true (Nat.zero_le _) (by simp) (Or.inl rfl)
  unfold sortP
  generalize Go.Sort.pdq (fun x y : PairC => decide (x.1.1 < y.1.1)) d.toArray 0 d.length (Go.Lib.bitLen d.length) true true = r at h
  obtain ⟨⟨h1, h2, h3⟩, h4⟩ := h
  have hl : r.toList.length = d.length := by simpa using h1
  refine ⟨hl, ?_, ?_⟩
  · have e1 : (r.extract 0 d.length).toList = r.toList := by
      rw [Array.toList_extract, List.extract_eq_take_drop]
      simp [List.take_of_length_le (Nat.le_of_eq hl)]
    have e2 : (d.toArray.extract 0 d.length).toList = d := by
      rw [Array.toList_extract, List.extract_eq_take_drop]
      simp
    rw [e1, e2] at h3
    exact h3.symm
  · rw [List.pairwise_iff_getElem]
    intro i j hi hj hij
    have := h4 i j (Nat.zero_le _) hij (by rw [← hl]; exact hj)
    have hi' : i < r.size := by simpa using hi
    have hj' : j < r.size := by simpa using hj
    rw [getElem!_pos r i hi', getElem!_pos r j hj'] at this
    simp at this
    simpa using this
theorem Srt.of {d : List PairC} (h : Mix (d.map fun p => cz p.1)) : Srt (d.map fun p => cz p.1) ((sortP d).map fun p => cz p.1) := by
  obtain ⟨h1, h2, h3⟩ := sortP_ok d
  have hp : (CS (d.map fun p => cz p.1)).Perm (CS ((sortP d).map fun p => cz p.1)) := by
    rw [CS_cz, CS_cz]
    exact h2.map _
  refine ⟨⟨Cs_cz _, fun p hp' => h.ok p (hp.mem_iff.2 hp'), by have := h.len; rw [List.length_map] at *; omega⟩, by rw [List.length_map, List.length_map, h1], hp, ?_⟩
  rw [CS_cz, List.pairwise_map]
  exact h3

theorem edge_step {l : List Rg} {i : Nat} {most a b : Int} {o x z : List Int} (h : o = (l.take i).foldl (edge1 most) z) (hi : l[i]? = some (a, b)) (k : x = edge1 most o (a, b)) : x = (l.take (i + 1)).foldl (edge1 most) z := by
  rw [take_next hi, List.foldl_append, ← h, k]
  rfl
theorem edge_full {l : List Rg} {x most : Int} {o : List Int} (h : o = (l.take x.toNat).foldl (edge1 most) [0, most + 1]) (k : (l.length : Int) ≤ x) : o = edgesL l most := by rwa [full k] at h
theorem edgesE {l : List Rg} {most : Int} {E : List Int} (h : E = if mostC most < 0 then [] else edgesL l (mostC most)) : OkE E := by
  have hm : mostC most ≤ 1114111 := by unfold mostC; split <;> omega
  rw [h]
  generalize mostC most = m at hm
  split
  · exact fun v hv => by cases hv
  · exact edges_len (by omega) hm
theorem J_out {f : Int → Bool} {out E : List AV} {i : Nat} {k : List Rg} {x : Int} (h : joinF f (RS out) ((IS E).drop i) = k) (hx : (IS E)[i]? = some x) (hl : i + 1 < E.length) (hf : f x = false) : joinF f (RS out) ((IS E).drop (i + 1)) = k :=
  join_out h hx (List.getElem?_eq_getElem (by rw [IS_len]; exact hl)) hf
theorem J_first {f : Int → Bool} {out E : List AV} {i : Nat} {k : List Rg} {x y v z : Int} (h : joinF f (RS out) ((IS E).drop i) = k) (hx : (IS E)[i]? = some x) (hy : (IS E)[i + 1]? = some y) (hf : f x = true) (h0 : out.length = 0) (hv : v = x) (hz : z = y - 1) : joinF f (RS (out ++ [.agg [iv v, iv z]])) ((IS E).drop (i + 1)) = k := by
  have : out = [] := List.length_eq_zero_iff.1 h0
  subst this hv hz
  exact join_in h hx hy hf
theorem J_app {f : Int → Bool} {out E : List AV} {i n : Nat} {k : List Rg} {x y v z qa qb : Int} (h : joinF f (RS out) ((IS E).drop i) = k) (hx : (IS E)[i]? = some x) (hy : (IS E)[i + 1]? = some y) (hf : f x = true) (hl : (RS out)[n]? = some (qa, qb)) (hn : n = out.length - 1) (hq : ¬ qb + 1 = x) (hv : v = x) (hz : z = y - 1) : joinF f (RS (out ++ [.agg [iv v, iv z]])) ((IS E).drop (i + 1)) = k := by
  subst hn hv hz
  have := join_in h hx hy hf
  rw [addR_app (q := (qa, qb)) (by rw [RS_len]; exact hl) hq] at this
  rw [RS_app, RS_one]
  exact this
theorem J_set {f : Int → Bool} {out E : List AV} {i n : Nat} {k : List Rg} {x y v z qa qb : Int} (h : joinF f (RS out) ((IS E).drop i) = k) (hx : (IS E)[i]? = some x) (hy : (IS E)[i + 1]? = some y) (hf : f x = true) (hl : (RS out)[n]? = some (qa, qb)) (hn : n = out.length - 1) (hq : qb + 1 = x) (hv : v = qa) (hz : z = y - 1) : joinF f (RS (out.set n (.agg [iv v, iv z]))) ((IS E).drop (i + 1)) = k := by
  subst hn hv hz
  have := join_in h hx hy hf
  rw [addR_set (q := (v, qb)) (by rw [RS_len]; exact hl) hq, RS_len] at this
  rw [RS_set]
  exact this
theorem J_end {f : Int → Bool} {out E : List AV} {x : Int} {k : List Rg} (h : joinF f (RS out) ((IS E).drop x.toNat) = k) (h0 : 0 ≤ x) (hi : (E.length : Int) ≤ x + 1) : RS out = k := join_end h (by rw [IS_len]; omega)
theorem OkJ.appA {l : List AV} {a b : Int} (h : OkJ (RS l)) (h0 : 0 ≤ a) (h1 : a ≤ 1114112) (h2 : -1 ≤ b) (h3 : b ≤ 1114111) : OkJ (RS (l ++ [.agg [iv a, iv b]])) := by
  rw [RS_app, RS_one]
  exact h.app h0 h1 h2 h3
theorem OkJ.setA {l : List AV} {a b : Int} {i : Nat} (h : OkJ (RS l)) (h0 : 0 ≤ a) (h1 : a ≤ 1114112) (h2 : -1 ≤ b) (h3 : b ≤ 1114111) : OkJ (RS (l.set i (.agg [iv a, iv b]))) := by
  rw [RS_set]
  exact h.set h0 h1 h2 h3

theorem jf_val {kind : Int} {a b : List Rg} {e : Int} {r s : Bool} (h1 : r = true ↔ InS a e) (h2 : s = true ↔ InS b e) : jf kind a b e = if kind = 2 then !r else if kind = 1 then r && s else r || s := by
  have g1 : inR a e = r := by
    rw [Bool.eq_iff_iff]
    exact h1.symm
  have g2 : inR b e = s := by
    rw [Bool.eq_iff_iff]
    exact h2.symm
  unfold jf
  rw [g1, g2]

/-! ### other cases -/
def OkV (l : List Int) : Prop := ∀ v ∈ l, 0 ≤ v ∧ v ≤ 1114111
theorem OkV.get {e : List Int} (h : OkV e) {i : Nat} {v : Int} (k : e[i]? = some v) : 0 ≤ v ∧ v ≤ 1114111 := h v (List.mem_of_getElem? k)
theorem IS_iv (l : List Int) : IS (l.map iv) = l := by
  unfold IS
  rw [List.map_map]
  have : (decI ∘ iv) = id := rfl
  rw [this, List.map_id]
theorem Is_iv (l : List Int) : Is (l.map iv) := fun v hv => by
  obtain ⟨n, _, rfl⟩ := List.mem_map.1 hv
  exact ⟨n, rfl⟩
theorem oth_short (c : Int) (utf : Bool) : (O.othL c utf).length ≤ 2 := by
  unfold O.othL
  repeat' (refine O.ite_h (p := fun l : List Int => l.length ≤ 2) (fun _ => ?_) (fun _ => ?_))
  all_goals simp
theorem oth_vals (c : Int) (utf : Bool) : OkV (O.othL c utf) := by
  by_cases hn : O.othL c utf = []
  · rw [hn]
    exact fun v hv => by cases hv
  · have key : ∀ u : Bool, ∀ c : Int, ((0 ≤ c ∧ c < 1104) ∨ c = 8490) → (O.othL c u).all (fun v => decide (0 ≤ v) && decide (v ≤ 1114111)) = true := fun u c hc => by
      rcases hc with ⟨h0, h1⟩ | rfl
      · cases u with
        | false => exact O.low_all 1104 (fun c => (O.othL c false).all (fun v => decide (0 ≤ v) && decide (v ≤ 1114111))) (by decide +kernel) c h0 (by omega)
        | true => exact O.low_all 1104 (fun c => (O.othL c true).all (fun v => decide (0 ≤ v) && decide (v ≤ 1114111))) (by decide +kernel) c h0 (by omega)
      · cases u <;> decide +kernel
    intro v hv
    have := List.all_eq_true.1 (key utf c (O.oth_where c utf hn)) v hv
    simpa using this
abbrev pre_Others (c : Int) (utf : Bool) : Prop := True
abbrev post_Others (c : Int) (utf : Bool) (x : List AV) : Prop := Is x ∧ x.length ≤ 2 ∧ OkV (IS x) ∧ IS x = O.othL c utf
abbrev pre_ROthers (c : Int) (utf : Bool) : Prop := True
abbrev post_ROthers (c : Int) (utf : Bool) (x : List AV) : Prop := Is x ∧ x.length ≤ 2 ∧ OkV (IS x) ∧ IS x = O.othL c utf
theorem oth_post (c : Int) (utf : Bool) : post_Others c utf ((O.othL c utf).map iv) := ⟨Is_iv _, by rw [List.length_map]; exact oth_short c utf, by rw [IS_iv]; exact oth_vals c utf, IS_iv _⟩
/-- With other cases. -/
def casP (S : Int → Prop) (utf : Bool) (d : Int) : Prop := S d ∨ ∃ e, S e ∧ d ∈ O.othL e utf
abbrev pre_Caseless (s : List AV) (utf : Bool) : Prop := ASet s ∧ s.length ≤ 1114112
abbrev post_Caseless (s : List AV) (utf : Bool) (x : List AV) : Prop := SetP x (casP (InS (CS s)) utf)
abbrev inv_Caseless_2 (x29 : Bool) (x30 : List AV) (x32 x33 : Nat) (x34 : Int) (x35 : List AV) (x36 x37 : Int) (x38 : List AV) (x39 : Int) (x31o : List AV) (x40o : Int) (x31 : List AV) (x40 : Int) : Prop :=
  Is x38 ∧ OkV (IS x38) ∧ x38.length ≤ 2 ∧ x39 = x38.length ∧ 0 ≤ x40 ∧ x40 ≤ x39 ∧ x31o.length ≤ 900000000000 ∧ Cs x31 ∧ OkP (CS x31) ∧ x31.length ≤ x31o.length + x40 ∧ ∀ d, InS (CS x31) d ↔ InS (CS x31o) d ∨ d ∈ (IS x38).take x40.toNat
abbrev mu_Caseless_2 (x29 : Bool) (x30 : List AV) (x32 x33 : Nat) (x34 : Int) (x35 : List AV) (x36 x37 : Int) (x38 : List AV) (x39 : Int) (x31 : List AV) (x40 : Int) : Nat := (x39 - x40).toNat
abbrev out_Caseless_2_0 (x29 : Bool) (x30 : List AV) (x32 x33 : Nat) (x34 : Int) (x35 : List AV) (x36 x37 : Int) (x38 : List AV) (x39 : Int) (x31o : List AV) (x40o : Int) (y2 : List AV) (y11 : Int) : Prop :=
  Cs y2 ∧ OkP (CS y2) ∧ y2.length ≤ x31o.length + 2 ∧ ∀ d, InS (CS y2) d ↔ InS (CS x31o) d ∨ d ∈ IS x38
abbrev inv_Caseless_1 (x16 : Bool) (x17 : List AV) (x19 x20 : Nat) (x22 : List AV) (x23 x24 : Int) (x18o : List AV) (x21o : Int) (x18 : List AV) (x21 : Int) : Prop :=
  isF x19 ∧ isF x20 ∧ 0 ≤ toI x19 ∧ toI x19 ≤ toI x20 ∧ toI x20 ≤ 1114111 ∧ toI x19 ≤ x21 ∧ (x21 = toI x19 ∨ x21 ≤ toI x20 + 1) ∧ (x21 = toI x19 ∨ x21 ≤ 10001) ∧ x18o.length ≤ 800000000000 ∧ Cs x18 ∧ OkP (CS x18) ∧ x18.length ≤ x18o.length + 2 * (x21 - toI x19) ∧ ∀ d, InS (CS x18) d ↔ InS (CS x18o) d ∨ ∃ e, toI x19 ≤ e ∧ e < x21 ∧ d ∈ O.othL e x16
abbrev mu_Caseless_1 (x16 : Bool) (x17 : List AV) (x19 x20 : Nat) (x22 : List AV) (x23 x24 : Int) (x18 : List AV) (x21 : Int) : Nat := (1200000 - x21).toNat
abbrev out_Caseless_1_0 (x16 : Bool) (x17 : List AV) (x19 x20 : Nat) (x22 : List AV) (x23 x24 : Int) (x18o : List AV) (x21o : Int) (y2 : List AV) (y5 : Int) : Prop :=
  Cs y2 ∧ OkP (CS y2) ∧ y2.length ≤ x18o.length + 20002 ∧ ∀ d, InS (CS y2) d ↔ InS (CS x18o) d ∨ ∃ e, toI x19 ≤ e ∧ e ≤ toI x20 ∧ d ∈ O.othL e x16
abbrev inv_Caseless_0 (x5 : Bool) (x6 x8 : List AV) (x9 : Int) (x7o : List AV) (x10o : Int) (x7 : List AV) (x10 : Int) : Prop :=
  ASet x8 ∧ x8.length ≤ 1114112 ∧ x9 = x8.length ∧ 0 ≤ x10 ∧ x10 ≤ x9 ∧ Cs x7 ∧ OkP (CS x7) ∧ x7.length ≤ x8.length + 20002 * x10 ∧ ∀ d, InS (CS x7) d ↔ InS (CS x8) d ∨ ∃ e, InS ((CS x8).take x10.toNat) e ∧ d ∈ O.othL e x5
abbrev mu_Caseless_0 (x5 : Bool) (x6 x8 : List AV) (x9 : Int) (x7 : List AV) (x10 : Int) : Nat := (x9 - x10).toNat
abbrev out_Caseless_0_0 (x5 : Bool) (x6 x8 : List AV) (x9 : Int) (x7o : List AV) (x10o : Int) (y2 : List AV) (y5 : Int) : Prop := Mix y2 ∧ ∀ d, InS (CS y2) d ↔ casP (InS (CS x8)) x5 d
theorem cas2_step {out : List AV} {Q : Int → Prop} {o : List Int} {k : Nat} {v A B : Int} {x y : Nat} (h : ∀ d, InS (CS out) d ↔ Q d ∨ d ∈ o.take k) (hi : o[k]? = some v) (hx : toI x = A) (hy : toI y = B) (hA : A = v) (hB : B = v) : ∀ d, InS (CS (out ++ [.sc (.complex .f64 x y)])) d ↔ Q d ∨ d ∈ o.take (k + 1) := fun d => by
  rw [CS_app, CS_one, InS_app, InS_one, h, take_next hi, List.mem_append, List.mem_singleton, hx, hy, hA, hB]
  simp only [or_assoc]
  constructor
  · rintro (g | g | g)
    · exact .inl g
    · exact .inr (.inl g)
    · exact .inr (.inr (by omega))
  · rintro (g | g | g)
    · exact .inl g
    · exact .inr (.inl g)
    · exact .inr (.inr (by omega))
theorem mem_full {P Q : Int → Prop} {o : List Int} {x : Int} (h : ∀ d, P d ↔ Q d ∨ d ∈ o.take x.toNat) (k : (o.length : Int) ≤ x) : ∀ d, P d ↔ Q d ∨ d ∈ o := by rwa [full k] at h
theorem cas1_step {out y o : List AV} {Q : Int → Prop} {a c : Int} {u : Bool} (h : ∀ d, InS (CS out) d ↔ Q d ∨ ∃ e, a ≤ e ∧ e < c ∧ d ∈ O.othL e u) (h2 : ∀ d, InS (CS y) d ↔ InS (CS out) d ∨ d ∈ IS o) (h3 : IS o = O.othL c u) (h4 : a ≤ c) : ∀ d, InS (CS y) d ↔ Q d ∨ ∃ e, a ≤ e ∧ e < c + 1 ∧ d ∈ O.othL e u := fun d => by
  rw [h2, h, h3, or_assoc]
  refine or_congr_right ⟨?_, ?_⟩
  · rintro (⟨e, g1, g2, g3⟩ | g)
    · exact ⟨e, g1, by omega, g3⟩
    · exact ⟨c, h4, by omega, g⟩
  · rintro ⟨e, g1, g2, g3⟩
    by_cases he : e = c
    · subst he
      exact .inr g3
    · exact .inl ⟨e, g1, by omega, g3⟩
theorem cas1_zero {P : Int → Prop} {a : Int} {u : Bool} : ∀ d, P d ↔ P d ∨ ∃ e, a ≤ e ∧ e < a ∧ d ∈ O.othL e u := fun d => ⟨.inl, fun h => h.elim id fun ⟨e, g1, g2, _⟩ => by omega⟩
theorem oth_in {e d : Int} {u : Bool} (h : d ∈ O.othL e u) : (0 ≤ e ∧ e < 1104) ∨ e = 8490 := O.oth_where e u fun k => by rw [k] at h; cases h
theorem cas1_end {P Q : Int → Prop} {a b c : Int} {u : Bool} (h : ∀ d, P d ↔ Q d ∨ ∃ e, a ≤ e ∧ e < c ∧ d ∈ O.othL e u) (h1 : ¬ c ≤ min b 10000) (h2 : c = a ∨ c ≤ b + 1) : ∀ d, P d ↔ Q d ∨ ∃ e, a ≤ e ∧ e ≤ b ∧ d ∈ O.othL e u := fun d => by
  rw [h]
  refine or_congr_right ⟨?_, ?_⟩
  · rintro ⟨e, g1, g2, g3⟩
    exact ⟨e, g1, by omega, g3⟩
  · rintro ⟨e, g1, g2, g3⟩
    have := oth_in g3
    exact ⟨e, g1, by omega, g3⟩
theorem cas0_step {out y s : List AV} {P : Int → Prop} {i : Nat} {a b : Nat} {u : Bool} (h : ∀ d, InS (CS out) d ↔ P d ∨ ∃ e, InS ((CS s).take i) e ∧ d ∈ O.othL e u) (hi : (CS s)[i]? = some (toI a, toI b)) (h2 : ∀ d, InS (CS y) d ↔ InS (CS out) d ∨ ∃ e, toI a ≤ e ∧ e ≤ toI b ∧ d ∈ O.othL e u) : ∀ d, InS (CS y) d ↔ P d ∨ ∃ e, InS ((CS s).take (i + 1)) e ∧ d ∈ O.othL e u := fun d => by
  rw [h2, h, or_assoc]
  refine or_congr_right ⟨?_, ?_⟩
  · rintro (⟨e, g1, g2⟩ | ⟨e, g1, g2, g3⟩)
    · exact ⟨e, (InS_take hi).2 (.inl g1), g2⟩
    · exact ⟨e, (InS_take hi).2 (.inr ⟨g1, g2⟩), g3⟩
  · rintro ⟨e, g1, g2⟩
    rcases (InS_take hi).1 g1 with g | g
    · exact .inl ⟨e, g, g2⟩
    · exact .inr ⟨e, g.1, g.2, g2⟩
theorem cas0_zero {P : Int → Prop} {s : List Rg} {u : Bool} : ∀ d, P d ↔ P d ∨ ∃ e, InS (s.take 0) e ∧ d ∈ O.othL e u := fun d => ⟨.inl, fun h => h.elim id fun ⟨e, g1, _⟩ => (not_zero g1).elim⟩
theorem cas0_end {P : Int → Prop} {s : List AV} {u : Bool} {x : Int} (h : ∀ d, P d ↔ InS (CS s) d ∨ ∃ e, InS ((CS s).take x.toNat) e ∧ d ∈ O.othL e u) (k : ((CS s).length : Int) ≤ x) : ∀ d, P d ↔ casP (InS (CS s)) u d := by
  rw [full k] at h
  exact h
abbrev pre_RCaseless (l : List AV) (utf : Bool) : Prop := Rs l ∧ l.length ≤ 10000000000
abbrev post_RCaseless (l : List AV) (utf : Bool) (x : List AV) : Prop := RSetP x (fun d => inB 1114111 d ∧ casP (InS (RS l)) utf d)
abbrev inv_RCaseless_0 (x3 : List AV) (x4 : Bool) (x5o : List AV) (x6o : Int) (x5 : List AV) (x6 : Int) : Prop :=
  Rs x3 ∧ x3.length ≤ 10000000000 ∧ 0 ≤ x6 ∧ x6 ≤ 1201 ∧ Rs x5 ∧ x5.length ≤ x3.length + 2 * x6 ∧ ∀ d, InS (RS x5) d ↔ InS (RS x3) d ∨ ∃ e, 0 ≤ e ∧ e < x6 ∧ InS (RS x3) e ∧ d ∈ O.othL e x4
abbrev mu_RCaseless_0 (x3 : List AV) (x4 : Bool) (x5 : List AV) (x6 : Int) : Nat := (1300 - x6).toNat
abbrev out_RCaseless_0_0 (x3 : List AV) (x4 : Bool) (x5o : List AV) (x6o : Int) (y2 : List AV) (y3 : Int) : Prop := Rs y2 ∧ y2.length ≤ x3.length + 3000 ∧ ∀ d, InS (RS y2) d ↔ InS (RS x3) d ∨ ∃ e, 0 ≤ e ∧ e < 1201 ∧ InS (RS x3) e ∧ d ∈ O.othL e x4
theorem rcas_zero {P : Int → Prop} {Q : Int → Prop} {u : Bool} : ∀ d, P d ↔ P d ∨ ∃ e, 0 ≤ e ∧ e < (0 : Int) ∧ Q e ∧ d ∈ O.othL e u := fun d => ⟨.inl, fun h => h.elim id fun ⟨e, g1, g2, _⟩ => by omega⟩
theorem rcas_yes {out y o l : List AV} {P : Int → Prop} {c : Int} {u : Bool} (h : ∀ d, InS (RS out) d ↔ P d ∨ ∃ e, 0 ≤ e ∧ e < c ∧ InS (RS l) e ∧ d ∈ O.othL e u) (h2 : RS y = RS out ++ dup (IS o)) (h3 : IS o = O.othL c u) (h4 : 0 ≤ c) (h5 : InS (RS l) c) : ∀ d, InS (RS y) d ↔ P d ∨ ∃ e, 0 ≤ e ∧ e < c + 1 ∧ InS (RS l) e ∧ d ∈ O.othL e u := fun d => by
  rw [h2, InS_app, InS_dup, h, h3, or_assoc]
  refine or_congr_right ⟨?_, ?_⟩
  · rintro (⟨e, g1, g2, g3⟩ | g)
    · exact ⟨e, g1, by omega, g3⟩
    · exact ⟨c, h4, by omega, h5, g⟩
  · rintro ⟨e, g1, g2, g3⟩
    by_cases he : e = c
    · subst he
      exact .inr g3.2
    · exact .inl ⟨e, g1, by omega, g3⟩
theorem rcas_no {out l : List AV} {P : Int → Prop} {c : Int} {u : Bool} (h : ∀ d, InS (RS out) d ↔ P d ∨ ∃ e, 0 ≤ e ∧ e < c ∧ InS (RS l) e ∧ d ∈ O.othL e u) (h5 : ¬ InS (RS l) c) : ∀ d, InS (RS out) d ↔ P d ∨ ∃ e, 0 ≤ e ∧ e < c + 1 ∧ InS (RS l) e ∧ d ∈ O.othL e u := fun d => by
  rw [h]
  refine or_congr_right ⟨?_, ?_⟩
  · rintro ⟨e, g1, g2, g3⟩
    exact ⟨e, g1, by omega, g3⟩
  · rintro ⟨e, g1, g2, g3⟩
    by_cases he : e = c
    · subst he
      exact absurd g3.1 h5
    · exact ⟨e, g1, by omega, g3⟩
theorem rcas_end {P Q : Int → Prop} {R' : Int → Int → Prop} {c : Int} (h : ∀ d, P d ↔ Q d ∨ ∃ e, 0 ≤ e ∧ e < c ∧ R' e d) (k : c = 1201) : ∀ d, P d ↔ Q d ∨ ∃ e, 0 ≤ e ∧ e < 1201 ∧ R' e d := by rwa [k] at h
theorem rcas_post1 {l out y o x : List AV} {u : Bool} (h : ∀ d, InS (RS out) d ↔ InS (RS l) d ∨ ∃ e, 0 ≤ e ∧ e < 1201 ∧ InS (RS l) e ∧ d ∈ O.othL e u) (h1 : InS (RS l) 8490) (h2 : RS y = RS out ++ dup (IS o)) (h3 : IS o = O.othL 8490 u) (hx : RSetP x (fun c => inB 1114111 c ∧ InS (RS y) c)) : RSetP x (fun d => inB 1114111 d ∧ casP (InS (RS l)) u d) := hx.to fun d => by
  refine and_congr_right fun _ => ?_
  rw [h2, InS_app, InS_dup, h, h3, or_assoc]
  refine or_congr_right ⟨?_, ?_⟩
  · rintro (⟨e, g1, g2, g3⟩ | g)
    · exact ⟨e, g3⟩
    · exact ⟨8490, h1, g⟩
  · rintro ⟨e, g1, g2⟩
    rcases oth_in g2 with g | g
    · exact .inl ⟨e, g.1, by omega, g1, g2⟩
    · subst g
      exact .inr g2
theorem rcas_post2 {l out x : List AV} {u : Bool} (h : ∀ d, InS (RS out) d ↔ InS (RS l) d ∨ ∃ e, 0 ≤ e ∧ e < 1201 ∧ InS (RS l) e ∧ d ∈ O.othL e u) (h1 : ¬ InS (RS l) 8490) (hx : RSetP x (fun c => inB 1114111 c ∧ InS (RS out) c)) : RSetP x (fun d => inB 1114111 d ∧ casP (InS (RS l)) u d) := hx.to fun d => by
  refine and_congr_right fun _ => ?_
  rw [h]
  refine or_congr_right ⟨?_, ?_⟩
  · rintro ⟨e, g1, g2, g3⟩
    exact ⟨e, g3⟩
  · rintro ⟨e, g1, g2⟩
    rcases oth_in g2 with g | g
    · exact ⟨e, g.1, by omega, g1, g2⟩
    · subst g
      exact absurd g1 h1
theorem no_of {r : Bool} {p : Prop} (h : r = true ↔ p) (k : r = false) : ¬ p := fun g => by rw [h.2 g] at k; cases k
theorem yes_of {r : Bool} {p : Prop} (h : r = true ↔ p) (k : r = true) : p := h.1 k
end Go.Proofs.Ytkocppnbipjiiaa.U
