/- The interpreter with values that are not known, as a tree of what is asked of them; what must hold for an answer, along the tree. -/
import Derived.Test.YtcjcdammcmjbnaaGreatVaiZ
namespace Go.Vai
inductive TX (α : Type) where
 | ok (a : α)
 | bad (why : Nat)
 | dec (b : Bool) (k : Bool → TX α)
 | getO (t : TypeId) (o : Option AV) (k : AV → TX α)
 | val (o : Option Value) (k : Value → TX α)
 | res (g : FuncId) (vs : List AV) (H : HH) (k : AV → HH → TX α)
 | nat (n : Nat) (k : Nat → TX α)
 | loop (f : FuncId) (nt : Nat) (c : Code) (s : St) (k : Ex → St → TX α)
namespace TX
def bind {α β : Type} : TX α → (α → TX β) → TX β
 | .ok a, f => f a
 | .bad n, _ => .bad n
 | .dec b k, f => .dec b fun t => (k t).bind f
 | .getO t o k, f => .getO t o fun v => (k v).bind f
 | .val o k, f => .val o fun v => (k v).bind f
 | .res g vs H k, f => .res g vs H fun r H' => (k r H').bind f
 | .nat n k, f => .nat n fun j => (k j).bind f
 | .loop f nt c s k, g => .loop f nt c s fun e s' => (k e s').bind g
end TX
def QH.toX {α β : Type} (w : Nat) (s : St) : QH α → List Nat → (α → List Nat → TX β) → TX β
 | .ret a, l, K => K a l
 | .slot n k, l, K => (k (s.get n).1 (s.get n).2).toX w s ((n + 1) :: l) K
 | .heap k, l, K => (k s.H s.hv).toX w s (0 :: l) K
 | .fail, _, _ => .bad w
 | .dec b k, l, K => .dec b fun t => (k t).toX w s l K
 | .getO t o k, l, K => .getO t o fun v => (k v).toX w s l K
 | .val o k, l, K => .val o fun v => (k v).toX w s l K
 | .res g vs H k, l, K => .res g vs H fun r H' => (k r H').toX w s l K
 | .nat n k, l, K => .nat n fun j => (k j).toX w s l K
def fixT (n : Nat) (v : AV) : List (Nat × AV × Nat) → Option (List (Nat × AV × Nat))
 | [] => none
 | (m, x) :: r => if Nat.beq m n then some ((m, v, x.2) :: r) else (match fixT n v r with | some r => some ((m, x) :: r) | none => none)
def fixV (n : Nat) (v : AV) : List (Nat × AV) → List (Nat × AV)
 | [] => []
 | (m, x) :: r => if Nat.beq m n then (m, v) :: r else (m, x) :: fixV n v r
def St.fix (s : St) (n : Nat) (v : AV) : St :=
 match fixT n v s.tm with
 | some l => { s with tm := l }
 | none => { s with vs := fixV n v s.vs }
theorem fixT_same {n : Nat} {v : AV} : ∀ {l : List (Nat × AV × Nat)}, (∀ x, lookT n l = some x → x.1 = v → fixT n v l = some l) ∧ (lookT n l = none → fixT n v l = none)
 | [] => ⟨fun x h => (by cases h), fun _ => rfl⟩
 | (m, x) :: r => by
  obtain ⟨h1, h2⟩ := fixT_same (n := n) (v := v) (l := r)
  simp only [lookT, fixT]
  cases Nat.beq m n with
  | true =>
   simp only [if_true]
   refine ⟨fun y h k => ?_, fun h => (by cases h)⟩
   injection h with h
   subst h
   rw [← k]
  | false =>
   simp only [Bool.false_eq_true, if_false]
   refine ⟨fun y h k => ?_, fun h => ?_⟩
   ·rw [h1 y h k]
   ·rw [h2 h]
theorem fixV_same {n : Nat} {v : AV} : ∀ {l : List (Nat × AV)}, lookV n l = v → fixV n v l = l
 | [], _ => rfl
 | (m, x) :: r, h => by
  simp only [lookV, fixV] at h ⊢
  cases hb : Nat.beq m n with
  | true =>
   rw [hb] at h
   simp only [if_true] at h ⊢
   rw [h]
  | false =>
   rw [hb] at h
   simp only [Bool.false_eq_true, if_false] at h ⊢
   rw [fixV_same h]
theorem fix_same {s : St} {n : Nat} {v : AV} (h : (s.get n).1 = v) : s.fix n v = s := by
 unfold St.fix
 unfold St.get at h
 cases hl : lookT n s.tm with
 | some x =>
  rw [hl] at h
  rw [fixT_same.1 x hl h]
 | none =>
  rw [hl] at h
  rw [fixT_same.2 hl]
  simp only [] at h ⊢
  rw [fixV_same h]
section
variable (P : Program) (fh : FuncId → FH) (f : FuncId) (nt : Nat)
def fixO (ops : Array Oper) (j : Nat) (t : Bool) (s : St) : St := match (ops[j]?).bind (·.dst) with | some d => s.fix d (.sc (.bool t)) | none => s
def fixC (c : Operand) (t : Bool) (s : St) : St := match c with | .tmp n => s.fix n (.sc (.bool t)) | _ => s
def idleW (o : Oper) : List W := match o.dst with | some d => [.slot d (.tup [])] | none => []
def stepU {β : Type} (w : Nat) (ops : Array Oper) (s : St) (o : Oper) (K : St → List W → List Nat → TX β) : TX β :=
 if dstOk nt o && shapeOk o then
  match o.guard with
  | none => (effH P fh f o).toX w s (guardR ops o) fun ws rd => K s ws rd
  | some (j, want) => match yieldA ops s j with
   | some (some y) => .dec y fun t => if t == want then (effH P fh f o).toX w (fixO ops j t s) (guardR ops o) fun ws rd => K (fixO ops j t s) ws rd else K (fixO ops j t s) (idleW o) (guardR ops o)
   | some none => K s (idleW o) (guardR ops o)
   | none => .bad (w + 1)
 else .bad (w + 2)
def stepsU {β : Type} (ops : Array Oper) (id : Nat) : Nat → List Oper → St → (St → List (List Nat × List Nat) → TX β) → TX β
 | _, [], s, K => K s []
 | i, o :: r, s, K => stepU P fh f nt (100000 * (id + 1) + 100 * i) ops s o fun s ws rd => stepsU ops id (i + 1) r (s.apply ws) fun s' tr => K s' ((rd, ws.map W.key) :: tr)
def execU {β : Type} : Code → St → (Ex → St → TX β) → TX β
 | .skip, s, K => K .norm s
 | .region id ops draw, s, K => stepsU P fh f nt ops id 0 ops.toList s fun s' tr => if !draw || orderly P ops tr then K .norm (tidy P fh f id s') else .bad 6
 | .seq a b, s, K => execU a s fun e s => match e with | .norm => execU b s K | e => K e s
 | .cond c a b, s, K => match (valO P 0 c).run s with
  | some (.sc (.bool t)) => .dec t fun t => if t then execU a (fixC c t s) K else execU b (fixC c t s) K
  | _ => .bad 7
 | .block id c, s, K => execU c s fun e s => match e with | .exit i => K (if Nat.beq i id then .norm else .exit i) s | e => K e s
 | .loop c, s, K => .loop f nt c s K
 | .exit id, s, K => K (.exit id) s
 | .ret, s, K => K .ret s
 | .scope c, s, K => execU c s K
 | .label _, s, K => K .norm s
 | _, _, _ => .bad 9
def leaveI (H : HH) (r : AV) (H' : HH) : TX (AV × HH) :=
 match r with
 | .hsl b off sz len cap => (match leaveA H (.hsl b off sz len cap) H' with | some p => .ok p | none => .bad 22)
 | r => .dec (np r && (H'.take H.length).all npL && Nat.ble H.length H'.length) fun t => if t then .ok (r, H'.take H.length) else .bad 10
def leaveU (H : HH) (r : AV) (H' : HH) : TX (AV × HH) := .dec (Nat.beq H'.length H.length) fun t => if t then .ok (r, H') else leaveI H r H'
def bodyU (args : List AV) (H : HH) : TX (AV × HH) :=
 match P.funcs[f]? with
 | some fn =>
  match fn.body with
  | some c =>
   if Nat.beq args.length (fn.params.size + fn.nfree) && Nat.ble args.length fn.ntmps && (fh f).keep.all (fun n => Nat.blt n fn.ntmps) && !(fn.name == "runtime.NumGoroutine") then
    execU P fh f fn.ntmps c ⟨[], (fh f).keep.map fun n => (n, args.getD n .undef), H, 0⟩ fun e s =>
     match e with
     | .exit _ => .bad 11
     | _ => (match fn.results.toList with
      | [r] => (match resA P fh f s r with | some (v, s) => leaveU H v s.H | none => .bad 12)
      | rs => (match resAll P (fun g => { fh g with capRes := false }) f s rs with | some (vs, s) => leaveU H (.tup vs) s.H | none => .bad 13))
   else .bad 14
  | none => .bad 15
 | none => .bad 16
end
def TX.evs {α : Type} (P : Program) (fh : FuncId → FH) (ext : FuncId → Option (List AV → HH → Option (AV × HH))) : Nat → TX α → TX α
 | 0, t => t
 | n + 1, t => match t with
  | .dec b k => evs P fh ext n (k b)
  | .getO _ o k => (match o with | some v => evs P fh ext n (k v) | none => .bad 20)
  | .val o k => (match o with | some v => evs P fh ext n (k v) | none => .bad 21)
  | .nat j k => evs P fh ext n (k j)
  | .res g vs H k => (match ext g with | none => evs P fh ext n ((bodyU P fh g vs H).bind fun p => k p.1 p.2) | some _ => .bad 30)
  | .loop f nt c s k => evs P fh ext n (execU P fh f nt c s fun e s' => match e with | .norm => .loop f nt c s' k | e => k e s')
  | t => t
section
variable {P : Program} {fh : FuncId → FH} {ext : FuncId → Option (List AV → HH → Option (AV × HH))}
variable (P fh ext) in
def TX.Run {α : Type} : TX α → α → Prop
 | .ok a, r => r = a
 | .bad _, _ => False
 | .dec b k, r => (k b).Run r
 | .getO _ o k, r => ∃ v, o = some v ∧ (k v).Run r
 | .val o k, r => ∃ v, o = some v ∧ (k v).Run r
 | .res g vs H k, r => ∃ v H', Ans P fh ext g vs H v H' ∧ (k v H').Run r
 | .nat n k, r => (k n).Run r
 | .loop f nt c s k, r => ∃ e s', Rounds (run P fh ext) P fh f nt c s (e, s') ∧ (k e s').Run r
theorem bind_run {α β : Type} {k : α → TX β} {r : β} {t : TX α} : (t.bind k).Run P fh ext r → ∃ a, t.Run P fh ext a ∧ (k a).Run P fh ext r := by
 induction t with
 | ok a => exact fun h => ⟨a, rfl, h⟩
 | bad n => exact fun h => h.elim
 | dec b g ih => exact fun h => ih b h
 | nat n g ih => exact fun h => ih n h
 | getO t o g ih =>
  rintro ⟨v, h1, h2⟩
  obtain ⟨a, h3, h4⟩ := ih v h2
  exact ⟨a, ⟨v, h1, h3⟩, h4⟩
 | val o g ih =>
  rintro ⟨v, h1, h2⟩
  obtain ⟨a, h3, h4⟩ := ih v h2
  exact ⟨a, ⟨v, h1, h3⟩, h4⟩
 | res g vs H k ih =>
  rintro ⟨v, H', h1, h2⟩
  obtain ⟨a, h3, h4⟩ := ih v H' h2
  exact ⟨a, ⟨v, H', h1, h3⟩, h4⟩
 | loop f nt c s k ih =>
  rintro ⟨e, s', h1, h2⟩
  obtain ⟨a, h3, h4⟩ := ih e s' h2
  exact ⟨a, ⟨e, s', h1, h3⟩, h4⟩
variable {f : FuncId} {nt : Nat} {s : St}
theorem toX_run {α β : Type} {w : Nat} {q : QH α} : ∀ {l : List Nat} {K : α → List Nat → TX β} {r : β}, (q.toX w s l K).Run P fh ext r → ∃ a l', (∃ N, ∀ k, N ≤ k → (q.erase (run P fh ext k)).runT s l = some (a, l')) ∧ (K a l').Run P fh ext r := by
 induction q with
 | ret a => exact fun h => ⟨a, _, ⟨0, fun _ _ => rfl⟩, h⟩
 | slot n k ih => exact fun h => ih _ _ h
 | heap k ih => exact fun h => ih _ _ h
 | fail => exact fun h => h.elim
 | dec b k ih => exact fun h => ih b h
 | nat n k ih => exact fun h => ih n h
 | getO t o k ih =>
  rintro l K r ⟨v, rfl, h⟩
  exact ih v h
 | val o k ih =>
  rintro l K r ⟨v, rfl, h⟩
  exact ih v h
 | res g vs H k ih =>
  rintro l K r ⟨v, H', ⟨N1, h1⟩, h⟩
  obtain ⟨a, l', ⟨N, h2⟩, h3⟩ := ih v H' h
  refine ⟨a, l', ⟨max N N1, fun k' hk => ?_⟩, h3⟩
  rw [erase_res, h1 k' (by omega)]
  exact h2 k' (by omega)
theorem fixO_same {ops : Array Oper} {j : Nat} {y : Bool} (h : yieldA ops s j = some (some y)) : fixO ops j y s = s := by
 unfold yieldA at h
 unfold fixO
 cases hd : (ops[j]?).bind (·.dst) with
 | none => rfl
 | some d =>
  rw [hd] at h
  simp only [] at h ⊢
  refine fix_same ?_
  split at h
  ·rename_i b hb
   injection h with h
   injection h with h
   rw [hb, h]
  ·injection h with h
   cases h
  ·cases h
theorem stepU_run {β : Type} {w : Nat} {ops : Array Oper} {o : Oper} {K : St → List W → List Nat → TX β} {r : β} (h : (stepU P fh f nt w ops s o K).Run P fh ext r) :
  ∃ ws rd, (∃ N, ∀ k, N ≤ k → stepT P fh f (run P fh ext k) nt ops s o = some (ws, rd)) ∧ (K s ws rd).Run P fh ext r := by
 unfold stepU at h
 split at h
 ·rename_i hg
  have fin : ((effH P fh f o).toX w s (guardR ops o) fun ws rd => K s ws rd).Run P fh ext r → wantedA ops s o = some true → ∃ ws rd, (∃ N, ∀ k, N ≤ k → stepT P fh f (run P fh ext k) nt ops s o = some (ws, rd)) ∧ (K s ws rd).Run P fh ext r := fun h hw => by
   obtain ⟨ws, rd, ⟨N, h1⟩, h2⟩ := toX_run h
   refine ⟨ws, rd, ⟨N, fun k hk => ?_⟩, h2⟩
   have := h1 k hk
   rw [erase_eff] at this
   unfold stepT
   rw [if_pos hg, hw]
   exact this
  have idle : (K s (idleW o) (guardR ops o)).Run P fh ext r → wantedA ops s o = some false → ∃ ws rd, (∃ N, ∀ k, N ≤ k → stepT P fh f (run P fh ext k) nt ops s o = some (ws, rd)) ∧ (K s ws rd).Run P fh ext r := fun h hw => by
   refine ⟨_, _, ⟨0, fun k _ => ?_⟩, h⟩
   unfold stepT
   rw [if_pos hg, hw]
   unfold idleW
   cases o.dst <;> rfl
  split at h
  ·rename_i hgd
   exact fin h (by unfold wantedA; rw [hgd])
  ·rename_i j want hgd
   split at h
   ·rename_i y hy
    have h : (if y == want then (effH P fh f o).toX w (fixO ops j y s) (guardR ops o) fun ws rd => K (fixO ops j y s) ws rd else K (fixO ops j y s) (idleW o) (guardR ops o)).Run P fh ext r := h
    rw [fixO_same hy] at h
    cases hw : y == want with
    | true =>
     rw [hw] at h
     exact fin h (by unfold wantedA; rw [hgd]; simp only [hy, Option.map_some]; congr 1)
    | false =>
     rw [hw] at h
     exact idle h (by unfold wantedA; rw [hgd]; simp only [hy, Option.map_some]; congr 1)
   ·rename_i hy
    exact idle h (by unfold wantedA; rw [hgd]; simp only [hy, Option.map_some]; rfl)
   ·exact h.elim
 ·exact h.elim
theorem stepsU_run {β : Type} {ops : Array Oper} {id : Nat} : ∀ {l : List Oper} {i : Nat} {s : St} {K : St → List (List Nat × List Nat) → TX β} {r : β}, (stepsU P fh f nt ops id i l s K).Run P fh ext r →
  ∃ s' tr, (∃ N, ∀ k, N ≤ k → stepsT P fh f (run P fh ext k) nt ops l s = some (s', tr)) ∧ (K s' tr).Run P fh ext r
 | [], i, s, K, r, h => ⟨s, [], ⟨0, fun _ _ => rfl⟩, h⟩
 | o :: l, i, s, K, r, h => by
  simp only [stepsU] at h
  obtain ⟨ws, rd, ⟨N1, h1⟩, h2⟩ := stepU_run h
  obtain ⟨s', tr, ⟨N2, h3⟩, h4⟩ := stepsU_run h2
  refine ⟨s', _, ⟨max N1 N2, fun k hk => ?_⟩, h4⟩
  simp only [stepsT, h1 k (by omega), h3 k (by omega)]
theorem fixC_same {c : Operand} {t : Bool} (h : (valO P 0 c).run s = some (.sc (.bool t))) : fixC c t s = s := by
 cases c with
 | tmp n =>
  refine fix_same ?_
  simp only [valO, Q.run] at h
  injection h with h
  split at h
  ·cases h
  ·cases h
  ·exact h
 | _ => rfl
theorem execU_run {β : Type} : ∀ {c : Code} {s : St} {K : Ex → St → TX β} {r : β}, (execU P fh f nt c s K).Run P fh ext r → ∃ e s', Leads (run P fh ext) P fh f nt c s (e, s') ∧ (K e s').Run P fh ext r := by
 intro c
 induction c with
 | skip => exact fun h => ⟨_, _, ⟨0, fun _ _ _ _ => rfl⟩, h⟩
 | label l => exact fun h => ⟨_, _, ⟨0, fun _ _ _ _ => rfl⟩, h⟩
 | exit id => exact fun h => ⟨_, _, ⟨0, fun _ _ _ _ => rfl⟩, h⟩
 | ret => exact fun h => ⟨_, _, ⟨0, fun _ _ _ _ => rfl⟩, h⟩
 | goto l => exact fun h => h.elim
 | refuse y => exact fun h => h.elim
 | rangeFunc x ps c1 c2 => exact fun h => h.elim
 | region id ops draw =>
  intro s K r h
  obtain ⟨s', tr, ⟨N, h1⟩, h2⟩ := stepsU_run h
  split at h2
  ·rename_i hd
   refine ⟨_, _, ⟨N, fun k n hk _ => ?_⟩, h2⟩
   cases draw with
   | false => simp only [exec, stepsT_A (h1 k hk)]
   | true =>
    simp only [Bool.not_true, Bool.false_or] at hd
    simp only [exec, h1 k hk, hd, if_true]
  ·exact h2.elim
 | seq x y ihx ihy =>
  intro s K r h
  obtain ⟨e, s1, ⟨N1, h1⟩, h2⟩ := ihx h
  cases e with
  | norm =>
   obtain ⟨e2, s2, ⟨N2, h3⟩, h4⟩ := ihy h2
   exact ⟨e2, s2, ⟨max N1 N2, fun k n hk hn => by simp only [exec, h1 k n (by omega) (by omega)]; exact h3 k n (by omega) (by omega)⟩, h4⟩
  | exit id => exact ⟨_, _, ⟨N1, fun k n hk hn => by simp only [exec, h1 k n hk hn]⟩, h2⟩
  | ret => exact ⟨_, _, ⟨N1, fun k n hk hn => by simp only [exec, h1 k n hk hn]⟩, h2⟩
 | cond x c1 c2 ih1 ih2 =>
  intro s K r h
  simp only [execU] at h
  split at h
  ·rename_i t hv
   have h : (if t then execU P fh f nt c1 (fixC x t s) K else execU P fh f nt c2 (fixC x t s) K).Run P fh ext r := h
   rw [fixC_same hv] at h
   cases t with
   | true =>
    obtain ⟨e2, s2, ⟨N2, h3⟩, h4⟩ := ih1 h
    exact ⟨e2, s2, ⟨N2, fun k n hk hn => by simp only [exec, hv, if_true]; exact h3 k n hk hn⟩, h4⟩
   | false =>
    obtain ⟨e2, s2, ⟨N2, h3⟩, h4⟩ := ih2 h
    exact ⟨e2, s2, ⟨N2, fun k n hk hn => by simp only [exec, hv, Bool.false_eq_true, if_false]; exact h3 k n hk hn⟩, h4⟩
  ·exact h.elim
 | block id c ih =>
  intro s K r h
  obtain ⟨e, s1, ⟨N1, h1⟩, h2⟩ := ih h
  cases e with
  | norm => exact ⟨_, _, ⟨N1, fun k n hk hn => by simp only [exec, h1 k n hk hn]⟩, h2⟩
  | exit i => exact ⟨_, _, ⟨N1, fun k n hk hn => by simp only [exec, h1 k n hk hn]⟩, h2⟩
  | ret => exact ⟨_, _, ⟨N1, fun k n hk hn => by simp only [exec, h1 k n hk hn]⟩, h2⟩
 | loop c ih =>
  rintro s K r ⟨e, s', h1, h2⟩
  exact ⟨e, s', h1.leads, h2⟩
 | scope c ih =>
  intro s K r h
  obtain ⟨e, s1, ⟨N1, h1⟩, h2⟩ := ih h
  exact ⟨e, s1, ⟨N1, fun k n hk hn => by simp only [exec]; exact h1 k n hk hn⟩, h2⟩
theorem leaveU_run {H H' : HH} {r : AV} {p : AV × HH} (h : (leaveU H r H').Run P fh ext p) : leaveA H r H' = some p := by
 have h : (if Nat.beq H'.length H.length then TX.ok (r, H') else leaveI H r H').Run P fh ext p := h
 unfold leaveA
 cases hb : Nat.beq H'.length H.length with
 | true =>
  rw [hb] at h
  have : p = (r, H') := h
  rw [this]
  rfl
 | false =>
  rw [hb] at h
  simp only [Bool.false_eq_true, if_false] at h ⊢
  have fin : (TX.dec (np r && (H'.take H.length).all npL && Nat.ble H.length H'.length) fun t => if t then .ok (r, H'.take H.length) else .bad 10 : TX (AV × HH)).Run P fh ext p → (if np r && (H'.take H.length).all npL && Nat.ble H.length H'.length then some (r, H'.take H.length) else none) = some p := fun h => by
   have h : (if (np r && (H'.take H.length).all npL && Nat.ble H.length H'.length) then TX.ok (r, H'.take H.length) else .bad 10 : TX (AV × HH)).Run P fh ext p := h
   split at h
   ·rename_i hc
    have : p = (r, H'.take H.length) := h
    subst this
    rw [if_pos hc]
   ·exact h.elim
  cases r with
  | hsl b off sz len cap =>
   simp only [leaveI] at h
   split at h
   ·rename_i q hq
    have : p = q := h
    subst this
    unfold leaveA at hq
    rw [hb] at hq
    exact hq
   ·exact h.elim
  | _ => exact fin h
theorem bodyU_run {args : List AV} {H H' : HH} {r : AV} (hx : ext f = none) (h : (bodyU P fh f args H).Run P fh ext (r, H')) : Ans P fh ext f args H r H' := by
 unfold bodyU at h
 cases hf : P.funcs[f]? with
 | none => rw [hf] at h; exact h.elim
 | some fn =>
  rw [hf] at h
  simp only [] at h
  cases hb : fn.body with
  | none => rw [hb] at h; exact h.elim
  | some c =>
   rw [hb] at h
   simp only [] at h
   split at h
   ·rename_i hc
    obtain ⟨e, s1, ⟨N, h1⟩, h2⟩ := execU_run h
    have fin : e = .norm ∨ e = .ret → (match fn.results.toList with
      | [r] => (match resA P fh f s1 r with | some (v, s) => leaveA H v s.H | none => none)
      | rs => (match resAll P (fun g => { fh g with capRes := false }) f s1 rs with | some (vs, s) => leaveA H (.tup vs) s.H | none => none)) = some (r, H') := fun he => by
     have h2 : (match fn.results.toList with
      | [r] => (match resA P fh f s1 r with | some (v, s) => leaveU H v s.H | none => .bad 12)
      | rs => (match resAll P (fun g => { fh g with capRes := false }) f s1 rs with | some (vs, s) => leaveU H (.tup vs) s.H | none => .bad 13) : TX (AV × HH)).Run P fh ext (r, H') := by
      rcases he with rfl | rfl <;> exact h2
     split at h2
     ·rename_i x hrs
      cases hr : resA P fh f s1 x with
      | none => rw [hr] at h2; exact h2.elim
      | some p =>
       obtain ⟨v, s2⟩ := p
       rw [hr] at h2
       exact leaveU_run h2
     ·cases hr : resAll P (fun g => { fh g with capRes := false }) f s1 fn.results.toList with
      | none => rw [hr] at h2; exact h2.elim
      | some p =>
       obtain ⟨v, s2⟩ := p
       rw [hr] at h2
       exact leaveU_run h2
    refine ⟨N + 1, fun k hk => ?_⟩
    cases k with
    | zero => omega
    | succ k =>
     simp only [run, hx]
     unfold bodyA
     rw [hf]
     simp only [hb]
     rw [if_pos hc, h1 k k (by omega) (by omega)]
     cases e with
     | exit id => exact h2.elim
     | norm => exact fin (.inl rfl)
     | ret => exact fin (.inr rfl)
   ·exact h.elim
theorem evs_run {α : Type} {r : α} : ∀ {n : Nat} {t : TX α}, (TX.evs P fh ext n t).Run P fh ext r → t.Run P fh ext r
 | 0, _, h => h
 | n + 1, t, h => by
  cases t with
  | ok a => exact h
  | bad w => exact h
  | dec b k => exact (evs_run (n := n) (t := k b) h : (k b).Run P fh ext r)
  | nat j k => exact (evs_run (n := n) (t := k j) h : (k j).Run P fh ext r)
  | getO t o k =>
   cases o with
   | some v => exact ⟨v, rfl, evs_run (n := n) h⟩
   | none => exact h.elim
  | val o k =>
   cases o with
   | some v => exact ⟨v, rfl, evs_run (n := n) h⟩
   | none => exact h.elim
  | res g vs H k =>
   simp only [TX.evs] at h
   split at h
   ·rename_i hx
    obtain ⟨p, h1, h2⟩ := bind_run (evs_run (n := n) h)
    exact ⟨p.1, p.2, bodyU_run hx h1, h2⟩
   ·exact h.elim
  | loop f nt c s k =>
   obtain ⟨e, s', h1, h2⟩ := execU_run (evs_run (n := n) h)
   cases e with
   | norm =>
    obtain ⟨e2, s2, h3, h4⟩ := h2
    exact ⟨e2, s2, Rounds.next h1 h3, h4⟩
   | exit i => exact ⟨_, _, Rounds.last (by simp) h1, h2⟩
   | ret => exact ⟨_, _, Rounds.last (by simp) h1, h2⟩
inductive Tel (β : Type) : Type 1 where
 | done (b : β)
 | ex (α : Type) (k : α → Tel β)
def Tel.some {β : Type} : Tel β → (β → Prop) → Prop
 | .done b, Q => Q b
 | .ex _ k, Q => ∃ a, (k a).some Q
inductive HT : Type 1 where
 | stop
 | ev (n : Nat) (h : HT)
 | split (a b : HT)
 | one (t : Bool) (h : HT)
 | num (n : Nat) (h : HT)
 | get (T : Tel AV) (h : HT)
 | val (T : Tel Value) (h : HT)
 | res (T : Tel (AV × HH)) (h : HT)
 | loop (T : Tel (Ex × St)) (h : HT)
 | alt (a b : HT)
variable (P fh ext) in
def TX.wp {α : Type} (Q : α → Prop) : HT → TX α → Prop
 | .stop, t => match t with | .ok a => Q a | _ => False
 | .ev n h, t => TX.wp Q h (TX.evs P fh ext n t)
 | .split h1 h2, t => match t with | .dec b k => (b = true → TX.wp Q h1 (k true)) ∧ (b = false → TX.wp Q h2 (k false)) | _ => False
 | .one x h, t => match t with | .dec b k => b = x ∧ TX.wp Q h (k x) | _ => False
 | .num j h, t => match t with | .nat n k => n = j ∧ TX.wp Q h (k j) | _ => False
 | .get T h, t => match t with | .getO _ o k => T.some fun v => o = some v ∧ TX.wp Q h (k v) | _ => False
 | .val T h, t => match t with | .val o k => T.some fun v => o = some v ∧ TX.wp Q h (k v) | _ => False
 | .res T h, t => match t with | .res g vs H k => T.some fun p => Ans P fh ext g vs H p.1 p.2 ∧ TX.wp Q h (k p.1 p.2) | _ => False
 | .loop T h, t => match t with | .loop f nt c s k => T.some fun p => Rounds (run P fh ext) P fh f nt c s (p.1, p.2) ∧ TX.wp Q h (k p.1 p.2) | _ => False
 | .alt h1 h2, t => TX.wp Q h1 t ∨ TX.wp Q h2 t
theorem Rounds.byInv {c : Code} {σ : Type} (st : σ → St) (Inv : σ → Prop) (μ : σ → Nat) {Q : Ex → St → Prop} (hs : ∀ w, Inv w → ∃ e s', Leads (run P fh ext) P fh f nt c (st w) (e, s') ∧ ((e = .norm ∧ ∃ w', s' = st w' ∧ Inv w' ∧ μ w' < μ w) ∨ (e ≠ .norm ∧ Q e s'))) :
  ∀ w, Inv w → ∃ e s', Rounds (run P fh ext) P fh f nt c (st w) (e, s') ∧ Q e s' := by
 have : ∀ (n : Nat) (w : σ), μ w = n → Inv w → ∃ e s', Rounds (run P fh ext) P fh f nt c (st w) (e, s') ∧ Q e s' := by
  intro n
  induction n using Nat.strongRecOn with
  | _ n ih =>
   intro w hn hi
   obtain ⟨e, s1, h1, h2⟩ := hs w hi
   rcases h2 with ⟨rfl, w', rfl, h3, h4⟩ | ⟨h3, h4⟩
   ·obtain ⟨e, s2, h5, h6⟩ := ih (μ w') (by omega) w' rfl h3
    exact ⟨e, s2, Rounds.next h1 h5, h6⟩
   ·exact ⟨e, s1, Rounds.last h3 h1, h4⟩
 exact fun w h => this _ w rfl h
def loopsOf : Code → List Code
 | .seq a b => loopsOf a ++ loopsOf b
 | .cond _ a b => loopsOf a ++ loopsOf b
 | .block _ c => loopsOf c
 | .loop c => c :: loopsOf c
 | .scope c => loopsOf c
 | _ => []
def loopAt (P : Program) (f : FuncId) (k : Nat) : Code := match P.funcs[f]? with | some fn => (match fn.body with | some c => (loopsOf c).getD k .skip | none => .skip) | none => .skip
def slotsOf (P : Program) (f : FuncId) : Nat := match P.funcs[f]? with | some fn => fn.ntmps | none => 0
end
end Go.Vai
