/- The interpreter with values that are not known: regions, code, functions. -/
import Derived.Test.YtcjcdammcmjbnaaVaiV
namespace Go.Vai
inductive Hint where
 | ev
 | b (t : Bool)
 | av (v : AV)
 | val (v : Value)
 | res (r : AV) (H : HH)
 | loop (e : Ex) (s : St)
 | num (n : Nat)
def decS (b : Bool) (hs : List Hint) (C : Prop) : Option (Bool × List Hint × Prop) :=
 match hs with
 | .ev :: hs => some (b, hs, C)
 | .b t :: hs => some (t, hs, b = t ∧ C)
 | _ => none
def QH.runS {α : Type} (E : FuncId → List AV → HH → AV → HH → Prop) (s : St) : QH α → List Hint → List Nat → Prop → Option (α × List Hint × List Nat × Prop)
 | .ret a, hs, l, C => some (a, hs, l, C)
 | .slot n k, hs, l, C => (k (s.get n).1 (s.get n).2).runS E s hs ((n + 1) :: l) C
 | .heap k, hs, l, C => (k s.H s.hv).runS E s hs (0 :: l) C
 | .fail, _, _, _ => none
 | .dec b k, .ev :: hs, l, C => (k b).runS E s hs l C
 | .dec b k, .b t :: hs, l, C => (k t).runS E s hs l (b = t ∧ C)
 | .getO _ o k, .ev :: hs, l, C => match o with | some v => (k v).runS E s hs l C | none => none
 | .getO _ o k, .av v :: hs, l, C => (k v).runS E s hs l (o = some v ∧ C)
 | .val o k, .ev :: hs, l, C => match o with | some v => (k v).runS E s hs l C | none => none
 | .val o k, .val v :: hs, l, C => (k v).runS E s hs l (o = some v ∧ C)
 | .res g vs H k, .res r H' :: hs, l, C => (k r H').runS E s hs l (E g vs H r H' ∧ C)
 | .nat n k, .ev :: hs, l, C => (k n).runS E s hs l C
 | .nat n k, .num j :: hs, l, C => (k j).runS E s hs l (n = j ∧ C)
 | _, _, _, _ => none
section
variable {E : FuncId → List AV → HH → AV → HH → Prop} {call : Nat → FuncId → List AV → HH → Option (AV × HH)} {s : St}
def Comes (call : Nat → FuncId → List AV → HH → Option (AV × HH)) (g : FuncId) (vs : List AV) (H : HH) (r : AV) (H' : HH) : Prop := ∃ N, ∀ k, N ≤ k → call k g vs H = some (r, H')
theorem runS_sound (hE : ∀ g vs H r H', E g vs H r H' → Comes call g vs H r H') {α : Type} {q : QH α} : ∀ {hs hs' : List Hint} {l l' : List Nat} {C C' : Prop} {a : α}, q.runS E s hs l C = some (a, hs', l', C') → C' → C ∧ ∃ N, ∀ k, N ≤ k → (q.erase (call k)).runT s l = some (a, l') := by
 induction q with
 | ret a =>
  intro hs hs' l l' C C' r h hC
  simp only [QH.runS] at h
  injection h with h
  injection h with h1 h
  injection h with h2 h
  injection h with h3 h4
  subst h1 h2 h3 h4
  exact ⟨hC, 0, fun _ _ => rfl⟩
 | slot n k ih =>
  intro hs hs' l l' C C' r h hC
  simp only [QH.runS] at h
  obtain ⟨h1, N, h2⟩ := ih _ _ h hC
  exact ⟨h1, N, fun k hk => h2 k hk⟩
 | heap k ih =>
  intro hs hs' l l' C C' r h hC
  simp only [QH.runS] at h
  obtain ⟨h1, N, h2⟩ := ih _ _ h hC
  exact ⟨h1, N, fun k hk => h2 k hk⟩
 | fail =>
  intro hs hs' l l' C C' r h hC
  cases hs <;> cases h
 | dec b k ih =>
  intro hs hs' l l' C C' r h hC
  cases hs with
  | nil => cases h
  | cons x hs =>
   cases x with
   | ev => exact ih _ h hC
   | b t =>
    obtain ⟨⟨h1, h2⟩, h3⟩ := ih _ h hC
    subst h1
    exact ⟨h2, h3⟩
   | _ => cases h
 | nat n k ih =>
  intro hs hs' l l' C C' r h hC
  cases hs with
  | nil => cases h
  | cons x hs =>
   cases x with
   | ev => exact ih _ h hC
   | num t =>
    obtain ⟨⟨h1, h2⟩, h3⟩ := ih _ h hC
    subst h1
    exact ⟨h2, h3⟩
   | _ => cases h
 | getO t o k ih =>
  intro hs hs' l l' C C' r h hC
  cases hs with
  | nil => cases o <;> cases h
  | cons x hs =>
   cases x with
   | ev => cases o with
    | none => cases h
    | some v => exact ih _ h hC
   | av v =>
    have h' : (k v).runS E s hs l (o = some v ∧ C) = some (r, hs', l', C') := by cases o <;> exact h
    obtain ⟨⟨h1, h2⟩, h3⟩ := ih _ h' hC
    subst h1
    exact ⟨h2, h3⟩
   | _ => cases o <;> cases h
 | val o k ih =>
  intro hs hs' l l' C C' r h hC
  cases hs with
  | nil => cases o <;> cases h
  | cons x hs =>
   cases x with
   | ev => cases o with
    | none => cases h
    | some v => exact ih _ h hC
   | val v =>
    have h' : (k v).runS E s hs l (o = some v ∧ C) = some (r, hs', l', C') := by cases o <;> exact h
    obtain ⟨⟨h1, h2⟩, h3⟩ := ih _ h' hC
    subst h1
    exact ⟨h2, h3⟩
   | _ => cases o <;> cases h
 | res g vs H k ih =>
  intro hs hs' l l' C C' r h hC
  cases hs with
  | nil => cases h
  | cons x hs =>
   cases x with
   | res r1 H1 =>
    obtain ⟨⟨h1, h2⟩, N, h3⟩ := ih _ _ h hC
    obtain ⟨N1, h4⟩ := hE _ _ _ _ _ h1
    refine ⟨h2, max N N1, fun k' hk => ?_⟩
    rw [erase_res, h4 k' (by omega)]
    exact h3 k' (by omega)
   | _ => cases h
variable {P : Program} {fh : FuncId → FH} {f : FuncId} {nt : Nat}
variable (E P fh f nt) in
def stepS (ops : Array Oper) (s : St) (o : Oper) (hs : List Hint) (C : Prop) : Option (List W × List Hint × List Nat × Prop) :=
 if dstOk nt o && shapeOk o then
  match o.guard with
  | none => (effH P fh f o).runS E s hs (guardR ops o) C
  | some (j, want) => match yieldA ops s j with
   | some (some y) => (match decS y hs C with
    | some (t, hs, C) => if t == want then (effH P fh f o).runS E s hs (guardR ops o) C else some (match o.dst with | some d => [.slot d (.tup [])] | none => [], hs, guardR ops o, C)
    | none => none)
   | some none => some (match o.dst with | some d => [.slot d (.tup [])] | none => [], hs, guardR ops o, C)
   | none => none
 else none
theorem decS_sound {b t : Bool} {hs hs' : List Hint} {C C' : Prop} (h : decS b hs C = some (t, hs', C')) (hC : C') : C ∧ b = t := by
 unfold decS at h
 split at h
 ·injection h with h
  injection h with h1 h
  injection h with h2 h3
  subst h1 h2 h3
  exact ⟨hC, rfl⟩
 ·injection h with h
  injection h with h1 h
  injection h with h2 h3
  subst h1 h2 h3
  exact ⟨hC.2, hC.1⟩
 ·cases h
theorem stepS_sound (hE : ∀ g vs H r H', E g vs H r H' → Comes call g vs H r H') {ops : Array Oper} {o : Oper} {hs hs' : List Hint} {C C' : Prop} {ws : List W} {rd : List Nat} (h : stepS E P fh f nt ops s o hs C = some (ws, hs', rd, C')) (hC : C') :
  C ∧ ∃ N, ∀ k, N ≤ k → stepT P fh f (call k) nt ops s o = some (ws, rd) := by
 unfold stepS at h
 split at h
 ·rename_i hg
  have fin : ∀ {hs : List Hint} {C : Prop}, (effH P fh f o).runS E s hs (guardR ops o) C = some (ws, hs', rd, C') → wantedA ops s o = some true → C ∧ ∃ N, ∀ k, N ≤ k → stepT P fh f (call k) nt ops s o = some (ws, rd) := fun h hw => by
   obtain ⟨h1, N, h2⟩ := runS_sound hE h hC
   refine ⟨h1, N, fun k hk => ?_⟩
   unfold stepT
   rw [if_pos hg, hw]
   have := h2 k hk
   rw [erase_eff] at this
   exact this
  split at h
  ·rename_i hgd
   exact fin h (by unfold wantedA; rw [hgd])
  ·rename_i j want hgd
   split at h
   ·rename_i y hy
    split at h
    ·rename_i t hs1 C1 hd
     split at h
     ·rename_i ht
      obtain ⟨h1, h2⟩ := fin h (by
       have : C1 := (runS_sound hE h hC).1
       obtain ⟨_, h3⟩ := decS_sound hd this
       unfold wantedA
       rw [hgd]
       simp only [hy, Option.map_some, h3]
       simpa using ht)
      exact ⟨(decS_sound hd h1).1, h2⟩
     ·rename_i ht
      injection h with h
      injection h with h1 h
      injection h with h2 h
      injection h with h3 h4
      subst h1 h2 h3 h4
      obtain ⟨h5, h6⟩ := decS_sound hd hC
      refine ⟨h5, 0, fun k _ => ?_⟩
      unfold stepT
      rw [if_pos hg]
      have hw : wantedA ops s o = some false := by
       unfold wantedA
       rw [hgd]
       simp only [hy, Option.map_some, h6]
       congr 1
       simpa using ht
      rw [hw]
      cases o.dst <;> rfl
    ·cases h
   ·rename_i hy
    injection h with h
    injection h with h1 h
    injection h with h2 h
    injection h with h3 h4
    subst h1 h2 h3 h4
    refine ⟨hC, 0, fun k _ => ?_⟩
    unfold stepT
    rw [if_pos hg]
    have hw : wantedA ops s o = some false := by
     unfold wantedA
     rw [hgd]
     simp only [hy, Option.map_some]
     rfl
    rw [hw]
    cases o.dst <;> rfl
   ·cases h
 ·cases h
variable (E P fh f nt) in
def stepsS (ops : Array Oper) : List Oper → St → List Hint → Prop → Option (St × List (List Nat × List Nat) × List Hint × Prop)
 | [], s, hs, C => some (s, [], hs, C)
 | o :: r, s, hs, C => match stepS E P fh f nt ops s o hs C with
  | some (ws, hs, rd, C) => (match stepsS ops r (s.apply ws) hs C with
   | some (s', tr, hs, C) => some (s', (rd, ws.map W.key) :: tr, hs, C)
   | none => none)
  | none => none
theorem stepsS_sound (hE : ∀ g vs H r H', E g vs H r H' → Comes call g vs H r H') {ops : Array Oper} : ∀ {l : List Oper} {s s' : St} {hs hs' : List Hint} {C C' : Prop} {tr : List (List Nat × List Nat)}, stepsS E P fh f nt ops l s hs C = some (s', tr, hs', C') → C' →
  C ∧ ∃ N, ∀ k, N ≤ k → stepsT P fh f (call k) nt ops l s = some (s', tr)
 | [], s, s', hs, hs', C, C', tr, h, hC => by
  simp only [stepsS] at h
  injection h with h
  injection h with h1 h
  injection h with h2 h
  injection h with h3 h4
  subst h1 h2 h3 h4
  exact ⟨hC, 0, fun _ _ => rfl⟩
 | o :: l, s, s', hs, hs', C, C', tr, h, hC => by
  simp only [stepsS] at h
  cases h1 : stepS E P fh f nt ops s o hs C with
  | none => rw [h1] at h; cases h
  | some p =>
   obtain ⟨ws, hs1, rd, C1⟩ := p
   rw [h1] at h
   simp only [] at h
   cases h2 : stepsS E P fh f nt ops l (s.apply ws) hs1 C1 with
   | none => rw [h2] at h; cases h
   | some q =>
    obtain ⟨s2, tr2, hs2, C2⟩ := q
    rw [h2] at h
    injection h with h
    injection h with e1 h
    injection h with e2 h
    injection h with e3 e4
    subst e1 e2 e3 e4
    obtain ⟨q1, N1, q2⟩ := stepsS_sound hE h2 hC
    obtain ⟨q3, N2, q4⟩ := stepS_sound hE h1 q1
    refine ⟨q3, max N1 N2, fun k hk => ?_⟩
    simp only [stepsT, q4 k (by omega), q2 k (by omega)]
theorem stepsT_A {call : FuncId → List AV → HH → Option (AV × HH)} {ops : Array Oper} : ∀ {l : List Oper} {s s' : St} {tr : List (List Nat × List Nat)}, stepsT P fh f call nt ops l s = some (s', tr) → stepsA P fh f call nt ops l s = some s'
 | [], s, s', tr, h => by
  simp only [stepsT] at h
  injection h with h
  injection h with h1 h2
  subst h1
  rfl
 | o :: l, s, s', tr, h => by
  simp only [stepsT] at h
  cases h1 : stepT P fh f call nt ops s o with
  | none => rw [h1] at h; cases h
  | some p =>
   obtain ⟨ws, rd⟩ := p
   rw [h1] at h
   simp only [] at h
   cases h2 : stepsT P fh f call nt ops l (s.apply ws) with
   | none => rw [h2] at h; cases h
   | some q =>
    obtain ⟨s2, tr2⟩ := q
    rw [h2] at h
    injection h with h
    injection h with e1 e2
    subst e1
    simp only [stepsA, stepT_sound h1 (fun x _ => agree.refl _ _), stepsT_A h2]
variable (call P fh f nt) in
def Leads (c : Code) (s : St) (r : Ex × St) : Prop := ∃ N, ∀ k n, N ≤ k → N ≤ n → exec P fh f (call k) nt n c s = some r
variable (call P fh f nt) in
def Rounds (c : Code) (s : St) (r : Ex × St) : Prop := ∃ N, ∀ k n m, N ≤ k → N ≤ n → N ≤ m → iterA (exec P fh f (call k) nt n c) m s = some r
theorem Rounds.next {c : Code} {s s1 : St} {r : Ex × St} (h : Leads call P fh f nt c s (.norm, s1)) (k : Rounds call P fh f nt c s1 r) : Rounds call P fh f nt c s r := by
 obtain ⟨N1, h1⟩ := h
 obtain ⟨N2, h2⟩ := k
 refine ⟨max N1 N2 + 1, fun k n m hk hn hm => ?_⟩
 cases m with
 | zero => omega
 | succ m =>
  simp only [iterA, h1 k n (by omega) (by omega)]
  exact h2 k n m (by omega) (by omega) (by omega)
theorem Rounds.last {c : Code} {s s1 : St} {e : Ex} (he : e ≠ .norm) (h : Leads call P fh f nt c s (e, s1)) : Rounds call P fh f nt c s (e, s1) := by
 obtain ⟨N1, h1⟩ := h
 refine ⟨N1 + 1, fun k n m hk hn hm => ?_⟩
 cases m with
 | zero => omega
 | succ m =>
  simp only [iterA, h1 k n (by omega) (by omega)]
  cases e <;> first | rfl | exact absurd rfl he
theorem Rounds.leads {c : Code} {s : St} {r : Ex × St} (h : Rounds call P fh f nt c s r) : Leads call P fh f nt (.loop c) s r := by
 obtain ⟨N1, h1⟩ := h
 exact ⟨N1, fun k n hk hn => h1 k n n hk hn hn⟩
variable (E call P fh f nt) in
def execS : Code → St → List Hint → Prop → Option ((Ex × St) × List Hint × Prop)
 | .skip, s, hs, C => some ((.norm, s), hs, C)
 | .region id ops draw, s, hs, C =>
  match stepsS E P fh f nt ops ops.toList s hs C with
  | some (s', tr, hs, C) => if !draw || orderly P ops tr then some ((.norm, tidy P fh f id s'), hs, C) else none
  | none => none
 | .seq a b, s, hs, C => match execS a s hs C with
  | some ((.norm, s'), hs, C) => execS b s' hs C
  | r => r
 | .cond c a b, s, hs, C => match (valO P 0 c).run s with
  | some (.sc (.bool t)) => (match decS t hs C with
   | some (t, hs, C) => if t then execS a s hs C else execS b s hs C
   | none => none)
  | _ => none
 | .block id c, s, hs, C => match execS c s hs C with
  | some ((.exit i, s'), hs, C) => some ((if Nat.beq i id then .norm else .exit i, s'), hs, C)
  | r => r
 | .loop c, s, hs, C => match hs with
  | .loop e s' :: hs => some ((e, s'), hs, Rounds call P fh f nt c s (e, s') ∧ C)
  | _ => none
 | .exit id, s, hs, C => some ((.exit id, s), hs, C)
 | .ret, s, hs, C => some ((.ret, s), hs, C)
 | .scope c, s, hs, C => execS c s hs C
 | .label _, s, hs, C => some ((.norm, s), hs, C)
 | _, _, _, _ => none
theorem execS_sound (hE : ∀ g vs H r H', E g vs H r H' → Comes call g vs H r H') : ∀ {c : Code} {s : St} {hs hs' : List Hint} {C C' : Prop} {r : Ex × St}, execS E call P fh f nt c s hs C = some (r, hs', C') → C' → C ∧ Leads call P fh f nt c s r := by
 have triv : ∀ {c : Code} {s : St} {r r' : Ex × St} {hs hs' : List Hint} {C C' : Prop}, some (r', hs, C) = some (r, hs', C') → C' → (∀ k n, exec P fh f (call k) nt n c s = some r') → C ∧ Leads call P fh f nt c s r := fun h hC hx => by
  injection h with h
  injection h with h1 h
  injection h with h2 h3
  subst h1 h2 h3
  exact ⟨hC, 0, fun k n _ _ => hx k n⟩
 intro c
 induction c with
 | skip => exact fun h hC => triv h hC (fun _ _ => rfl)
 | label l => exact fun h hC => triv h hC (fun _ _ => rfl)
 | exit id => exact fun h hC => triv h hC (fun _ _ => rfl)
 | ret => exact fun h hC => triv h hC (fun _ _ => rfl)
 | goto l => intro s hs hs' C C' r h; cases h
 | refuse y => intro s hs hs' C C' r h; cases h
 | rangeFunc x ps c1 c2 => intro s hs hs' C C' r h; cases h
 | region id ops draw =>
  intro s hs hs' C C' r h hC
  simp only [execS] at h
  cases h1 : stepsS E P fh f nt ops ops.toList s hs C with
  | none => rw [h1] at h; cases h
  | some p =>
   obtain ⟨s1, tr, hs1, C1⟩ := p
   rw [h1] at h
   simp only [] at h
   split at h
   ·rename_i hd
    injection h with h
    injection h with e1 h
    injection h with e2 e3
    subst e1 e2 e3
    obtain ⟨q1, N, q2⟩ := stepsS_sound hE h1 hC
    refine ⟨q1, N, fun k n hk _ => ?_⟩
    cases draw with
    | false => simp only [exec, stepsT_A (q2 k hk)]
    | true =>
     simp only [Bool.not_true, Bool.false_or] at hd
     simp only [exec, q2 k hk, hd, if_true]
   ·cases h
 | seq x y ihx ihy =>
  intro s hs hs' C C' r h hC
  simp only [execS] at h
  cases h1 : execS E call P fh f nt x s hs C with
  | none => rw [h1] at h; cases h
  | some p =>
   obtain ⟨⟨e, s1⟩, hs1, C1⟩ := p
   rw [h1] at h
   cases e with
   | norm =>
    obtain ⟨q1, N1, q2⟩ := ihy h hC
    obtain ⟨q3, N2, q4⟩ := ihx h1 q1
    exact ⟨q3, max N1 N2, fun k n hk hn => by simp only [exec, q4 k n (by omega) (by omega)]; exact q2 k n (by omega) (by omega)⟩
   | exit id =>
    injection h with h
    injection h with e1 h
    injection h with e2 e3
    subst e1 e2 e3
    obtain ⟨q3, N2, q4⟩ := ihx h1 hC
    exact ⟨q3, N2, fun k n hk hn => by simp only [exec, q4 k n hk hn]⟩
   | ret =>
    injection h with h
    injection h with e1 h
    injection h with e2 e3
    subst e1 e2 e3
    obtain ⟨q3, N2, q4⟩ := ihx h1 hC
    exact ⟨q3, N2, fun k n hk hn => by simp only [exec, q4 k n hk hn]⟩
 | cond x c1 c2 ih1 ih2 =>
  intro s hs hs' C C' r h hC
  simp only [execS] at h
  split at h
  ·rename_i t hv
   split at h
   ·rename_i t' hs1 C1 hd
    cases t' with
    | true =>
     obtain ⟨q1, N, q2⟩ := ih1 h hC
     obtain ⟨q3, q4⟩ := decS_sound hd q1
     subst q4
     exact ⟨q3, N, fun k n hk hn => by simp only [exec, hv, if_true]; exact q2 k n hk hn⟩
    | false =>
     obtain ⟨q1, N, q2⟩ := ih2 h hC
     obtain ⟨q3, q4⟩ := decS_sound hd q1
     subst q4
     exact ⟨q3, N, fun k n hk hn => by simp only [exec, hv, Bool.false_eq_true, if_false]; exact q2 k n hk hn⟩
   ·cases h
  ·cases h
 | block id c ih =>
  intro s hs hs' C C' r h hC
  simp only [execS] at h
  cases h1 : execS E call P fh f nt c s hs C with
  | none => rw [h1] at h; cases h
  | some p =>
   obtain ⟨⟨e, s1⟩, hs1, C1⟩ := p
   rw [h1] at h
   cases e with
   | norm =>
    injection h with h
    injection h with e1 h
    injection h with e2 e3
    subst e1 e2 e3
    obtain ⟨q3, N2, q4⟩ := ih h1 hC
    exact ⟨q3, N2, fun k n hk hn => by simp only [exec, q4 k n hk hn]⟩
   | exit i =>
    injection h with h
    injection h with e1 h
    injection h with e2 e3
    subst e1 e2 e3
    obtain ⟨q3, N2, q4⟩ := ih h1 hC
    exact ⟨q3, N2, fun k n hk hn => by simp only [exec, q4 k n hk hn]⟩
   | ret =>
    injection h with h
    injection h with e1 h
    injection h with e2 e3
    subst e1 e2 e3
    obtain ⟨q3, N2, q4⟩ := ih h1 hC
    exact ⟨q3, N2, fun k n hk hn => by simp only [exec, q4 k n hk hn]⟩
 | loop c ih =>
  intro s hs hs' C C' r h hC
  simp only [execS] at h
  split at h
  ·injection h with h
   injection h with e1 h
   injection h with e2 e3
   subst e1 e2 e3
   exact ⟨hC.2, hC.1.leads⟩
  ·cases h
 | scope c ih =>
  intro s hs hs' C C' r h hC
  simp only [execS] at h
  obtain ⟨q3, N2, q4⟩ := ih h hC
  exact ⟨q3, N2, fun k n hk hn => by simp only [exec]; exact q4 k n hk hn⟩
end
end Go.Vai
