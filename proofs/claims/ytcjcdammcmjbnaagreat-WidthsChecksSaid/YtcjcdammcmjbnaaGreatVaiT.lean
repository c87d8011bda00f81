/- Regions of open order: what the operations do does not hang on their order. -/
import Derived.Test.YtcjcdammcmjbnaaGreatVaiQ
namespace Go.Vai
section
variable {P : Program} {w w' : World} {F F' : Nat → Nat} {β β' : Nat → Nat} {O O' : Nat → Option Own} {n h h' : Nat} {s t : St} {a : Act} {o : Oper} {ws : List W} {fh : FuncId → FH} {f : FuncId} {call : FuncId → List AV → HH → Option (AV × HH)}
def agree (t s : St) : Nat → Prop
 | 0 => t.H = s.H ∧ t.hv = s.hv
 | n + 1 => t.get n = s.get n
theorem agree.refl (s : St) (x : Nat) : agree s s x := by cases x <;> simp [agree]
theorem agree.trans {t s r : St} {x : Nat} (h : agree t s x) (k : agree s r x) : agree t r x := by
 cases x with
 | zero => exact ⟨h.1.trans k.1, h.2.trans k.2⟩
 | succ n => exact Eq.trans (α := AV × Nat) h k
theorem agree.symm {t s : St} {x : Nat} (h : agree t s x) : agree s t x := by
 cases x with
 | zero => exact ⟨h.1.symm, h.2.symm⟩
 | succ n => exact Eq.symm (α := AV × Nat) h
theorem one_get (s : St) (x : W) (n : Nat) (h : x.key ≠ n + 1) : (s.one x).get n = s.get n := by
 cases x with
 | slot m v => simp only [W.key] at h; simp only [St.one, get_set]; rw [if_neg (by omega)]
 | turn m v => simp only [W.key] at h; simp only [St.one, get_set]; rw [if_neg (by omega)]
 | lcell m off cs =>
  simp only [W.key] at h
  simp only [St.one]
  split
  ·rw [get_set, if_neg (by omega)]
  ·rfl
 | hcell b off cs => simp only [St.one]; split <;> rfl
 | hpush cs => rfl
 | heap H => rfl
theorem one_heap (s : St) (x : W) (h : x.key ≠ 0) : (s.one x).H = s.H ∧ (s.one x).hv = s.hv := by
 cases x with
 | slot m v => exact ⟨rfl, rfl⟩
 | turn m v => exact ⟨rfl, rfl⟩
 | lcell m off cs => simp only [St.one]; split <;> exact ⟨rfl, rfl⟩
 | hcell b off cs => exact absurd rfl h
 | hpush cs => exact absurd rfl h
 | heap H => exact absurd rfl h
theorem agree_one (s : St) (x : W) {k : Nat} (h : x.key ≠ k) : agree (s.one x) s k := by
 cases k with
 | zero => exact one_heap s x h
 | succ n => exact one_get s x n h
theorem agree_apply (s : St) (ws : List W) {k : Nat} (h : k ∉ ws.map W.key) : agree (s.apply ws) s k := by
 induction ws generalizing s with
 | nil => exact agree.refl _ _
 | cons x ws ih =>
  simp only [List.map_cons, List.mem_cons, not_or] at h
  exact (ih (s.one x) h.2).trans (agree_one s x (Ne.symm h.1))
theorem agree_same {x : W} {k : Nat} (h : agree t s k) : agree (t.one x) (s.one x) k := by
 by_cases hk : x.key = k
 ·subst hk
  cases x with
  | slot m v => simp only [agree, W.key] at h ⊢; simp only [St.one, get_set, if_pos, h]
  | turn m v => simp only [agree, W.key] at h ⊢; simp only [St.one, get_set, if_pos, h]
  | lcell m off cs =>
   simp only [agree, W.key] at h ⊢
   simp only [St.one, h]
   cases hg : (s.get m).1 with
   | box l => simp only [get_set, if_pos]
   | _ => exact h
  | hcell b off cs =>
   simp only [agree, W.key] at h ⊢
   simp only [St.one, h.1]
   cases hb : s.H[b]? with
   | some l => exact ⟨rfl, by simp only [h.2]⟩
   | none => exact h
  | hpush cs => simp only [agree, W.key] at h ⊢; exact ⟨by simp only [St.one, h.1], h.2⟩
  | heap H => simp only [agree, W.key] at h ⊢; exact ⟨rfl, by simp only [St.one, h.2]⟩
 ·exact ((agree_one t x hk).trans h).trans (agree_one s x hk).symm
theorem agree_applys {ws : List W} {k : Nat} (h : agree t s k) : agree (t.apply ws) (s.apply ws) k := by
 induction ws generalizing t s with
 | nil => exact h
 | cons x ws ih => exact ih (agree_same h)
theorem runT_sound {α : Type} {q : Q α} {l l' : List Nat} {r : α} (h : q.runT s l = some (r, l')) : (∀ x ∈ l, x ∈ l') ∧ ∀ t, (∀ x ∈ l', agree t s x) → q.run t = some r := by
 induction q generalizing l with
 | ret a =>
  simp only [Q.runT] at h
  injection h with h
  injection h with h1 h2
  subst h1
  subst h2
  exact ⟨fun x hx => hx, fun t _ => rfl⟩
 | slot m k ih =>
  simp only [Q.runT] at h
  obtain ⟨h1, h2⟩ := ih _ _ h
  refine ⟨fun x hx => h1 x (List.mem_cons_of_mem _ hx), fun t ht => ?_⟩
  have hm : t.get m = s.get m := ht (m + 1) (h1 _ (List.mem_cons_self ..))
  simp only [Q.run, hm]
  exact h2 t ht
 | heap k ih =>
  simp only [Q.runT] at h
  obtain ⟨h1, h2⟩ := ih _ _ h
  refine ⟨fun x hx => h1 x (List.mem_cons_of_mem _ hx), fun t ht => ?_⟩
  have hm : t.H = s.H ∧ t.hv = s.hv := ht 0 (h1 _ (List.mem_cons_self ..))
  simp only [Q.run, hm.1, hm.2]
  exact h2 t ht
 | fail => cases h
theorem stepT_sound {ops : Array Oper} {rd : List Nat} (h : stepT P fh f call n ops s o = some (ws, rd)) (ht : ∀ x ∈ rd, agree t s x) : stepA P fh f call n ops t o = some (t.apply ws) := by
 unfold stepT at h
 unfold stepA
 split at h
 ·rename_i hg
  rw [if_pos hg]
  have hw : ∀ b, wantedA ops s o = some b → (∀ x ∈ guardR ops o, agree t s x) → wantedA ops t o = some b := fun b hb hr => by
   unfold wantedA guardR at *
   cases hgd : o.guard with
   | none => rw [hgd] at hb; exact hb
   | some p =>
    obtain ⟨j, want⟩ := p
    rw [hgd] at hb hr
    simp only [] at hb hr ⊢
    have : yieldA ops t j = yieldA ops s j := by
     unfold yieldA
     cases hd : (ops[j]?).bind (·.dst) with
     | none => rfl
     | some d =>
      rw [hd] at hr
      have : t.get d = s.get d := hr (d + 1) (List.mem_cons_self ..)
      simp only [this]
    rw [this]
    exact hb
  split at h
  ·rename_i hb
   obtain ⟨h1, h2⟩ := runT_sound h
   rw [hw true hb (fun x hx => ht x (h1 x hx))]
   simp only [h2 t ht, Option.map_some]
  ·rename_i hb
   injection h with h
   injection h with h1 h2
   subst h1
   subst h2
   rw [hw false hb ht]
   cases o.dst <;> rfl
  ·cases h
 ·cases h
theorem mem_iff {i : Nat} {l : List Nat} : mem i l = true ↔ i ∈ l := by
 induction l with
 | nil => simp [mem]
 | cons m l ih =>
  simp only [mem, Bool.or_eq_true, ih, List.mem_cons]
  constructor
  ·rintro (h | h)
   ·exact .inl (beq_eq h).symm
   ·exact .inr h
  ·rintro (h | h)
   ·subst h; exact .inl (by simp)
   ·exact .inr h
theorem meets_iff {x y : List Nat} : meets x y = true ↔ ∃ k, k ∈ x ∧ k ∈ y := by
 simp only [meets, List.any_eq_true, mem_iff]
structure Told (P : Program) (fh : FuncId → FH) (f : FuncId) (call : FuncId → List AV → HH → Option (AV × HH)) (n : Nat) (ops : Array Oper) (m : Nat) (σ : Nat → St) (rd : Nat → List Nat) (wr : Nat → List W) : Prop where
 step : ∀ i o, i < m → ops[i]? = some o → stepT P fh f call n ops (σ i) o = some (wr i, rd i)
 next : ∀ i, i < m → σ (i + 1) = (σ i).apply (wr i)
theorem stepsT_told {ops : Array Oper} : ∀ {l : List Oper} {i : Nat} {s s' : St} {tr : List (List Nat × List Nat)}, ops.toList.drop i = l → stepsT P fh f call n ops l s = some (s', tr) →
  ∃ (σ : Nat → St) (rd : Nat → List Nat) (wr : Nat → List W), σ i = s ∧ σ (i + l.length) = s' ∧ tr.length = l.length ∧ (∀ j, i ≤ j → j < i + l.length → tr.getD (j - i) ([], []) = (rd j, (wr j).map W.key)) ∧
   (∀ j o, i ≤ j → j < i + l.length → ops[j]? = some o → stepT P fh f call n ops (σ j) o = some (wr j, rd j)) ∧ (∀ j, i ≤ j → j < i + l.length → σ (j + 1) = (σ j).apply (wr j))
 | [], i, s, s', tr, hl, h => by
  simp only [stepsT] at h
  injection h with h
  injection h with h1 h2
  subst h1
  subst h2
  exact ⟨fun _ => s, fun _ => [], fun _ => [], rfl, rfl, rfl, fun j h1 h2 => by simp at h2; omega, fun j o h1 h2 => by simp at h2; omega, fun j h1 h2 => by simp at h2; omega⟩
 | o :: l, i, s, s', tr, hl, h => by
  have ho : ops[i]? = some o := by
   rw [← Array.getElem?_toList, ← List.head?_drop, hl]
   rfl
  have hl' : ops.toList.drop (i + 1) = l := by
   have : ops.toList.drop (i + 1) = (ops.toList.drop i).drop 1 := by rw [List.drop_drop]
   rw [this, hl]
   rfl
  simp only [stepsT] at h
  cases h1 : stepT P fh f call n ops s o with
  | none => rw [h1] at h; cases h
  | some p =>
   obtain ⟨ws, rd0⟩ := p
   rw [h1] at h
   simp only [] at h
   cases h2 : stepsT P fh f call n ops l (s.apply ws) with
   | none => rw [h2] at h; cases h
   | some q =>
    obtain ⟨s2, tr2⟩ := q
    rw [h2] at h
    injection h with h
    injection h with e1 e2
    subst e1
    subst e2
    obtain ⟨σ, rd, wr, g1, g2, g3, g4, g5, g6⟩ := stepsT_told hl' h2
    refine ⟨fun j => if j = i then s else σ j, fun j => if j = i then rd0 else rd j, fun j => if j = i then ws else wr j, by simp, ?_, by simp [g3], fun j q1 q2 => ?_, fun j o' q1 q2 ho' => ?_, fun j q1 q2 => ?_⟩
    ·simp only [List.length_cons]
     rw [if_neg (by omega), show i + (l.length + 1) = i + 1 + l.length by omega]
     exact g2
    ·by_cases hj : j = i
     ·subst hj; simp
     ·simp only [if_neg hj]
      rw [show j - i = (j - (i + 1)) + 1 by omega]
      have := g4 j (by omega) (by simp at q2; omega)
      simpa using this
    ·by_cases hj : j = i
     ·subst hj
      rw [ho] at ho'
      injection ho' with ho'
      subst ho'
      simp [h1]
     ·simp only [if_neg hj]
      exact g5 j o' (by omega) (by simp at q2; omega) ho'
    ·by_cases hj : j = i
     ·subst hj
      simp only [if_pos]
      rw [if_neg (by omega)]
      exact g1
     ·simp only [if_neg hj]
      rw [if_neg (by omega)]
      exact g6 j (by omega) (by simp at q2; omega)
def isIn (listed : Array Bool) (i : Nat) : Prop := listed.getD i true = true
def Down (ops : Array Oper) (listed : Array Bool) : Prop := ∀ j, j < ops.size → isIn listed j → ∀ e ∈ edgesAt ops j, isIn listed e
theorem reach_in {ops : Array Oper} {listed : Array Bool} (hD : Down ops listed) (hlt : ∀ j, j < ops.size → ∀ e ∈ edgesAt ops j, e < j) {i : Nat} : ∀ {k j : Nat}, j < ops.size → reach ops i k j = true → (∀ e ∈ edgesAt ops j, isIn listed e) → isIn listed i
 | 0, j, _, h, _ => by cases h
 | k + 1, j, hj, h, hE => by
  simp only [reach, Bool.or_eq_true] at h
  rcases h with h | h
  ·exact hE i (mem_iff.1 h)
  ·obtain ⟨e, he, hr⟩ := List.any_eq_true.1 h
   have hej := hlt j hj e he
   exact reach_in hD hlt (k := k) (j := e) (by omega) hr (hD e (by omega) (hE e he))
def Inv (m : Nat) (σ : Nat → St) (wr : Nat → List W) (listed : Array Bool) (t : St) : Prop :=
 ∀ x k, k ≤ m → (∀ i, i < k → x ∈ (wr i).map W.key → isIn listed i) → (∀ i, k ≤ i → i < m → x ∈ (wr i).map W.key → ¬ isIn listed i) → agree t (σ k) x
theorem keep_between {m : Nat} {σ : Nat → St} {wr : Nat → List W} (hn : ∀ i, i < m → σ (i + 1) = (σ i).apply (wr i)) {x i : Nat} : ∀ {d : Nat}, i + d ≤ m → (∀ j, i ≤ j → j < i + d → x ∉ (wr j).map W.key) → agree (σ (i + d)) (σ i) x
 | 0, _, _ => agree.refl _ _
 | d + 1, hm, h => by
  have ih := keep_between hn (x := x) (i := i) (d := d) (by omega) (fun j h1 h2 => h j h1 (by omega))
  have h1 : σ (i + (d + 1)) = (σ (i + d)).apply (wr (i + d)) := hn (i + d) (by omega)
  rw [h1]
  exact (agree_apply _ _ (h (i + d) (by omega) (by omega))).trans ih
def open_ (listed : Array Bool) : Nat → Nat
 | 0 => 0
 | k + 1 => open_ listed k + (if listed.getD k true then 0 else 1)
theorem set_getD (listed : Array Bool) (i j : Nat) : (listed.setIfInBounds i true).getD j true = if j = i then true else listed.getD j true := by
 simp only [Array.getD_eq_getD_getElem?, Array.getElem?_setIfInBounds]
 by_cases h : i = j
 ·subst h
  simp only [if_pos]
  split <;> rfl
 ·rw [if_neg h, if_neg (fun e => h e.symm)]
theorem open_set {listed : Array Bool} {i : Nat} (hi : listed.getD i true = false) : ∀ k, open_ (listed.setIfInBounds i true) k + (if i < k then 1 else 0) = open_ listed k
 | 0 => by simp [open_]
 | k + 1 => by
  have ih := open_set hi k
  simp only [open_, set_getD]
  by_cases hk : k = i
  ·subst hk
   rw [if_pos rfl, hi]
   simp at ih ⊢
   omega
  ·rw [if_neg hk]
   by_cases h2 : i < k
   ·rw [if_pos h2] at ih
    rw [if_pos (show i < k + 1 by omega)]
    omega
   ·rw [if_neg h2] at ih
    rw [if_neg (show ¬ i < k + 1 by omega)]
    omega
theorem open_none {listed : Array Bool} : ∀ {k : Nat}, open_ listed k = 0 → ∀ i, i < k → isIn listed i
 | 0, _, i, hi => by omega
 | k + 1, h, i, hi => by
  simp only [open_] at h
  by_cases hk : i = k
  ·subst hk
   unfold isIn
   cases hb : listed.getD i true with
   | true => rfl
   | false => rw [hb] at h; simp at h
  ·exact open_none (k := k) (by omega) i (by omega)
theorem ready_iff {ops : Array Oper} {listed : Array Bool} {i : Nat} : i ∈ Region.ready .any ops listed ↔ i < ops.size ∧ ¬ isIn listed i ∧ ∃ o, ops[i]? = some o ∧ ∀ e ∈ o.after, Region.binds .any e = true → listed.getD e.on false = true := by
 unfold Region.ready isIn
 simp only [List.mem_filter, List.mem_range, Bool.and_eq_true, Bool.not_eq_true']
 constructor
 ·rintro ⟨h1, h2, h3⟩
  cases ho : ops[i]? with
  | none => rw [ho] at h3; simp at h3
  | some o =>
   rw [ho] at h3
   simp only [Option.map_some, Option.getD_some, Array.all_eq_true_iff_forall_mem] at h3
   refine ⟨h1, by simp [h2], o, rfl, fun e he hb => ?_⟩
   have := h3 e he
   simpa [hb] using this
 ·rintro ⟨h1, h2, o, ho, h3⟩
  refine ⟨h1, by simpa using h2, ?_⟩
  rw [ho]
  simp only [Option.map_some, Option.getD_some, Array.all_eq_true_iff_forall_mem]
  intro e he
  cases hb : Region.binds .any e with
  | false => rfl
  | true => simp [h3 e he hb]
theorem edges_mem {o : Oper} {j : Nat} : j ∈ edges o ↔ ∃ e ∈ o.after, Region.binds .any e = true ∧ e.on = j := by
 unfold edges
 simp only [List.mem_filterMap, Array.mem_toList_iff]
 constructor
 ·rintro ⟨e, he, h⟩
  split at h
  ·injection h with h; exact ⟨e, he, by assumption, h⟩
  ·cases h
 ·rintro ⟨e, he, hb, rfl⟩
  exact ⟨e, he, by simp [hb]⟩
theorem any_sound (hG : Good P call) {ops : Array Oper} {σ : Nat → St} {rd : Nat → List Nat} {wr : Nat → List W} (T : Told P fh f call n ops ops.size σ rd wr) (hlt : ∀ j, j < ops.size → ∀ e ∈ edgesAt ops j, e < j)
  (hc : ∀ j, j < ops.size → ∀ i, i < j → (∃ x, x ∈ (wr i).map W.key ∧ (x ∈ rd j ∨ x ∈ (wr j).map W.key)) ∨ (∃ x, x ∈ (wr j).map W.key ∧ x ∈ rd i) → reach ops i ops.size j = true)
  {Q : Exit → Act → World → Prop} : ∀ (k : Nat) (listed : Array Bool) (t : St) (a : Act) (w : World) (F β : Nat → Nat) (O : Nat → Option Own), listed.size = ops.size → open_ listed ops.size = k → Down ops listed → Inv ops.size σ wr listed t → Sim P n t a w F β O →
   (∀ t' a' w', (∀ x, agree t' (σ ops.size) x) → Nxt P n t w F β O t' a' w' → Q .normal a' w') → wpAny P .any ops Q k listed a w := by
 have done : ∀ (listed : Array Bool) (t : St) (a : Act) (w : World) (F β : Nat → Nat) (O : Nat → Option Own), (∀ i, i < ops.size → isIn listed i) → Inv ops.size σ wr listed t → Sim P n t a w F β O → (∀ t' a' w', (∀ x, agree t' (σ ops.size) x) → Nxt P n t w F β O t' a' w' → Q .normal a' w') → Q .normal a w := fun listed t a w F β O hall hI S hQ =>
  hQ t a w (fun x => hI x ops.size (Nat.le_refl _) (fun i hi _ => hall i hi) (fun i h1 h2 => by omega)) (Nxt.here S (Nat.le_refl _))
 intro k
 induction k with
 | zero =>
  intro listed t a w F β O hsz hop hD hI S hQ
  have hall := open_none hop
  refine ⟨?_, done listed t a w F β O hall hI S hQ⟩
  cases hr : Region.ready .any ops listed with
  | nil => rfl
  | cons i l =>
   have := ready_iff.1 (hr ▸ List.mem_cons_self .. : i ∈ Region.ready .any ops listed)
   exact (this.2.1 (hall i this.1)).elim
 | succ k ih =>
  intro listed t a w F β O hsz hop hD hI S hQ
  refine ⟨fun hr => ?_, fun i hi => ?_⟩
  ·
   have hall : ∀ d i, i < d → i < ops.size → isIn listed i := by
    intro d
    induction d with
    | zero => intro i hi; omega
    | succ d ihd =>
     intro i hid hi
     rcases Classical.em (isIn listed i) with h | h
     ·exact h
     ·exfalso
      have hmem : i ∈ Region.ready .any ops listed := ready_iff.2 ⟨hi, h, ops[i], Array.getElem?_eq_getElem hi, fun e he hb => by
       have hed : e.on ∈ edgesAt ops i := by
        unfold edgesAt
        rw [Array.getElem?_eq_getElem hi]
        exact edges_mem.2 ⟨e, he, hb, rfl⟩
       have hlt' := hlt i hi e.on hed
       have := ihd e.on (by omega) (by omega)
       unfold isIn at this
       simp only [Array.getD_eq_getD_getElem?] at this ⊢
       rw [Array.getElem?_eq_getElem (by omega)] at this ⊢
       exact this⟩
      rw [hr] at hmem
      cases hmem
   exact done listed t a w F β O (fun i hi => hall (i + 1) i (by omega) hi) hI S hQ
  ·obtain ⟨hi1, hi2, o, ho, hpre⟩ := ready_iff.1 hi
   have hnot : listed.getD i true = false := by
    unfold isIn at hi2
    simpa using hi2
   have hE : ∀ e ∈ edgesAt ops i, isIn listed e := fun e he => by
    have hlt' := hlt i hi1 e he
    unfold edgesAt at he
    rw [ho] at he
    obtain ⟨ed, h1, h2, h3⟩ := edges_mem.1 he
    have := hpre ed h1 h2
    rw [h3] at this
    unfold isIn
    simp only [Array.getD_eq_getD_getElem?] at this ⊢
    rw [Array.getElem?_eq_getElem (by omega)] at this ⊢
    exact this
   have hag : ∀ x, x ∈ rd i ∨ x ∈ (wr i).map W.key → agree t (σ i) x := fun x hx => by
    refine hI x i (by omega) (fun i' h1 h2 => ?_) (fun i' h1 h2 h3 hin => ?_)
    ·refine reach_in hD hlt hi1 (hc i hi1 i' h1 ?_) hE
     exact .inl ⟨x, h2, hx⟩
    ·by_cases he : i' = i
     ·subst he; exact hi2 hin
     ·refine hi2 (reach_in hD hlt h2 (hc i' h2 i (by omega) ?_) (hD i' h2 hin))
      rcases hx with hx | hx
      ·exact .inr ⟨x, h3, hx⟩
      ·exact .inl ⟨x, hx, .inr h3⟩
   have hst : stepA P fh f call n ops t o = some (t.apply (wr i)) := stepT_sound (T.step i o hi1 ho) (fun x hx => hag x (.inl hx))
   refine step_sound hG ho S hst (fun a1 w1 N => ?_)
   obtain ⟨F1, β1, O1, S1, t1, n1, b1, l1⟩ := N
   refine ih (listed.setIfInBounds i true) (t.apply (wr i)) a1 w1 F1 β1 O1 (by simp [hsz]) ?_ ?_ ?_ S1 (fun t' a' w' hA N2 => hQ t' a' w' hA ?_)
   ·have := open_set hnot ops.size
    rw [if_pos hi1] at this
    omega
   ·intro j hj hin e he
    unfold isIn at hin ⊢
    rw [set_getD] at hin ⊢
    by_cases hj' : j = i
    ·subst hj'
     split
     ·rfl
     ·exact hE e he
    ·rw [if_neg hj'] at hin
     split
     ·rfl
     ·exact hD j hj hin e he
   ·intro x k' hk' h1 h2
    have hin : ∀ j, isIn (listed.setIfInBounds i true) j ↔ j = i ∨ isIn listed j := fun j => by
     unfold isIn
     rw [set_getD]
     split
     ·rename_i h; simp [h]
     ·rename_i h; simp [h]
    by_cases hx : x ∈ (wr i).map W.key
    ·have hik : i < k' := by
      rcases Nat.lt_or_ge i k' with h | h
      ·exact h
      ·exact (h2 i h hi1 hx ((hin i).2 (.inl rfl))).elim
     have e1 : agree (t.apply (wr i)) (σ (i + 1)) x := by
      rw [T.next i hi1]
      exact agree_applys (hag x (.inr hx))
     have e2 : agree (σ k') (σ (i + 1)) x := by
      have := keep_between (m := ops.size) T.next (x := x) (i := i + 1) (d := k' - (i + 1)) (by omega) (fun j h3 h4 hxj => ?_)
      ·rw [show i + 1 + (k' - (i + 1)) = k' by omega] at this
       exact this
      ·rcases (hin j).1 (h1 j (by omega) hxj) with h | h
       ·omega
       ·exact hi2 (reach_in hD hlt (j := j) (by omega) (hc j (by omega) i (by omega) (.inl ⟨x, hx, .inr hxj⟩)) (hD j (by omega) h))
     exact e1.trans e2.symm
    ·refine (agree_apply t (wr i) hx).trans (hI x k' hk' (fun j h3 h4 => ?_) (fun j h3 h4 h5 h6 => h2 j h3 h4 h5 ((hin j).2 (.inr h6))))
     rcases (hin j).1 (h1 j h3 h4) with h | h
     ·subst h; exact (hx h4).elim
     ·exact h
   ·obtain ⟨F2, β2, O2, S2, t2, n2, b2, l2⟩ := N2
    refine ⟨F2, β2, O2, S2, t1.trans t2 (fun b hb hs => ?_), fun g hg => ?_, fun b hb => (b2 b (by omega)).trans (b1 b hb), by omega⟩
    ·rcases n1 b hs with h | h
     ·exact h
     ·omega
    ·rcases n2 g hg with h | h
     ·exact n1 g h
     ·exact .inr (Nat.le_trans t1.size h)
theorem run_agree {α : Type} {q : Q α} (h : ∀ x, agree t s x) : q.run t = q.run s := by
 induction q with
 | ret a => rfl
 | slot m k ih =>
  have hm : t.get m = s.get m := h (m + 1)
  simp only [Q.run, hm]
  exact ih _ _
 | heap k ih =>
  have hm : t.H = s.H ∧ t.hv = s.hv := h 0
  simp only [Q.run, hm.1, hm.2]
  exact ih _ _
 | fail => rfl
theorem tidy_agree (h : ∀ x, agree t s x) {id : Nat} : tidy P fh f id t = tidy P fh f id s := by
 have hg : ∀ m, t.get m = s.get m := fun m => h (m + 1)
 have hH : t.H = s.H := (h 0).1
 have hn : ∀ v, norm1 P t v = norm1 P s v := fun v => by
  cases v <;> simp only [norm1]
  rename_i p ver
  rw [run_agree h]
 unfold tidy
 rw [hH]
 congr 1
 apply List.map_congr_left
 intro m _
 rw [hg, hn]
theorem draw_sound (hG : Good P call) {id : Nat} {ops : Array Oper} {s' : St} {tr : List (List Nat × List Nat)} (hs : stepsT P fh f call n ops ops.toList s = some (s', tr)) (hd : orderly P ops tr = true) (S : Sim P n s a w F β O) {Q : Exit → Act → World → Prop}
  (hQ : ∀ a' w', Nxt P n s w F β O (Vai.tidy P fh f id s') a' w' → Q .normal a' w') : (Code.region id ops true).wp P Q a w := by
 unfold orderly at hd
 simp only [Bool.and_eq_true] at hd
 obtain ⟨⟨hm, hlt⟩, hcf⟩ := hd
 obtain ⟨σ, rd, wr, g1, g2, g3, g4, g5, g6⟩ := stepsT_told (i := 0) (by simp) hs
 simp only [Nat.zero_add, Array.length_toList, Nat.zero_le, true_implies, Nat.sub_zero] at g2 g3 g4 g5 g6
 have T : Told P fh f call n ops ops.size σ rd wr := ⟨fun i o hi ho => g5 i o hi ho, fun i hi => g6 i hi⟩
 have hlt' : ∀ j, j < ops.size → ∀ e ∈ edgesAt ops j, e < j := fun j hj e he => by
  have := List.all_eq_true.1 hlt j (List.mem_range.2 hj)
  exact Nat.le_of_ble_eq_true (List.all_eq_true.1 this e he)
 have hc : ∀ j, j < ops.size → ∀ i, i < j → (∃ x, x ∈ (wr i).map W.key ∧ (x ∈ rd j ∨ x ∈ (wr j).map W.key)) ∨ (∃ x, x ∈ (wr j).map W.key ∧ x ∈ rd i) → reach ops i ops.size j = true := fun j hj i hi hx => by
  have h1 := List.all_eq_true.1 (List.all_eq_true.1 hcf j (List.mem_range.2 hj)) i (List.mem_range.2 hi)
  rw [g4 i (by omega), g4 j hj] at h1
  simp only [Bool.or_eq_true, Bool.not_eq_true'] at h1
  rcases h1 with h1 | h1
  ·exfalso
   have : conf (rd i, (wr i).map W.key) (rd j, (wr j).map W.key) = true := by
    unfold conf
    simp only [Bool.or_eq_true]
    rcases hx with ⟨x, h2, h3 | h3⟩ | ⟨x, h2, h3⟩
    ·exact .inl (.inl (meets_iff.2 ⟨x, h2, h3⟩))
    ·exact .inl (.inr (meets_iff.2 ⟨x, h2, h3⟩))
    ·exact .inr (meets_iff.2 ⟨x, h2, h3⟩)
   rw [h1] at this
   cases this
  ·exact h1
 refine wp_region_any hm ?_
 have hrep : ∀ i, isIn (Array.replicate ops.size false) i → ¬ i < ops.size := fun i h hi => by
  unfold isIn at h
  simp [Array.getD_eq_getD_getElem?, hi] at h
 have hopen : ∀ k, k ≤ ops.size → open_ (Array.replicate ops.size false) k = k := fun k hk => by
  induction k with
  | zero => rfl
  | succ k ih =>
   simp only [open_]
   rw [ih (by omega)]
   simp [Array.getD_eq_getD_getElem?, show k < ops.size by omega]
 have S0 : Sim P n s a { w with drawn := w.drawn + 1 } F β O := S.world ⟨fun _ _ _ _ h => h, fun _ _ => Nat.le_refl _⟩ (fun g q hq _ => ⟨rfl, rfl, hq⟩) (fun _ _ => rfl) S.olt
 refine any_sound hG T hlt' hc ops.size _ s a _ F β O (by simp) (hopen _ (Nat.le_refl _)) (fun j hj hin => (hrep j hin hj).elim) (fun x k hk h1 h2 => ?_) S0 (fun t' a' w' hA N => hQ a' w' ?_)
 ·have := keep_between (m := ops.size) T.next (x := x) (i := 0) (d := k) (by omega) (fun j h3 h4 hx => hrep j (h1 j (by omega) hx) (by omega))
  rw [Nat.zero_add, g1] at this
  exact this.symm
 ·rw [g2] at hA
  rw [← tidy_agree hA]
  obtain ⟨F1, β1, O1, S1, t1, n1, b1, l1⟩ := N
  exact ⟨F1, β1, O1, S1.tidy, ⟨t1.os, t1.tape, t1.output, t1.size, t1.block, ⟨fun b o u ho hcu => t1.ext.cell b o u ho hcu, t1.ext.grow⟩⟩, n1, b1, l1⟩
end
end Go.Vai
