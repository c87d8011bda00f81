/- More depth tells no less: what one run answers, all deeper ones answer. -/
import Derived.Test.YtcjcdammcmjbnaaGreatVaiY
namespace Go.Vai
section
variable {P : Program} {fh : FuncId → FH} {f : FuncId} {nt : Nat} {c c' : FuncId → List AV → HH → Option (AV × HH)}
def CallLe (c c' : FuncId → List AV → HH → Option (AV × HH)) : Prop := ∀ g vs H r, c g vs H = some r → c' g vs H = some r
theorem erase_mono (hc : CallLe c c') {α : Type} {q : QH α} {s : St} : (∀ {a : α}, (q.erase c).run s = some a → (q.erase c').run s = some a) ∧ ∀ {l : List Nat} {r : α × List Nat}, (q.erase c).runT s l = some r → (q.erase c').runT s l = some r := by
 induction q with
 | ret a => exact ⟨fun h => h, fun h => h⟩
 | slot n k ih => exact ⟨fun h => (ih _ _).1 h, fun h => (ih _ _).2 h⟩
 | heap k ih => exact ⟨fun h => (ih _ _).1 h, fun h => (ih _ _).2 h⟩
 | fail => exact ⟨fun h => h, fun h => h⟩
 | dec b k ih => exact ih b
 | nat n k ih => exact ih n
 | getO t o k ih =>
  cases o with
  | none => exact ⟨fun h => h, fun h => h⟩
  | some v => exact ih v
 | val o k ih =>
  cases o with
  | none => exact ⟨fun h => h, fun h => h⟩
  | some v => exact ih v
 | res g vs H k ih =>
  simp only [erase_res]
  cases h : c g vs H with
  | none => exact ⟨fun h => (by cases h), fun h => (by cases h)⟩
  | some r =>
   rw [hc _ _ _ _ h]
   exact ih r.1 r.2
theorem stepA_mono (hc : CallLe c c') {ops : Array Oper} {s s' : St} {o : Oper} (h : stepA P fh f c nt ops s o = some s') : stepA P fh f c' nt ops s o = some s' := by
 unfold stepA at h ⊢
 split at h
 ·rename_i hg
  rw [if_pos hg]
  split at h
  ·rename_i hw
   rw [← erase_eff (call := c)] at h
   rw [← erase_eff (call := c')]
   cases he : ((effH P fh f o).erase c).run s with
   | none => rw [he] at h; cases h
   | some ws =>
    rw [he] at h
    rw [(erase_mono hc).1 he]
    exact h
  ·exact h
  ·cases h
 ·cases h
theorem stepT_mono (hc : CallLe c c') {ops : Array Oper} {s : St} {o : Oper} {r : List W × List Nat} (h : stepT P fh f c nt ops s o = some r) : stepT P fh f c' nt ops s o = some r := by
 unfold stepT at h ⊢
 split at h
 ·rename_i hg
  rw [if_pos hg]
  split at h
  ·rename_i hw
   rw [← erase_eff (call := c)] at h
   rw [← erase_eff (call := c')]
   exact (erase_mono hc).2 h
  ·exact h
  ·cases h
 ·cases h
theorem stepsA_mono (hc : CallLe c c') {ops : Array Oper} : ∀ {l : List Oper} {s s' : St}, stepsA P fh f c nt ops l s = some s' → stepsA P fh f c' nt ops l s = some s'
 | [], s, s', h => h
 | o :: l, s, s', h => by
  simp only [stepsA] at h ⊢
  cases h1 : stepA P fh f c nt ops s o with
  | none => rw [h1] at h; cases h
  | some s1 =>
   rw [h1] at h
   rw [stepA_mono hc h1]
   exact stepsA_mono hc h
theorem stepsT_mono (hc : CallLe c c') {ops : Array Oper} : ∀ {l : List Oper} {s : St} {r : St × List (List Nat × List Nat)}, stepsT P fh f c nt ops l s = some r → stepsT P fh f c' nt ops l s = some r
 | [], s, r, h => h
 | o :: l, s, r, h => by
  simp only [stepsT] at h ⊢
  cases h1 : stepT P fh f c nt ops s o with
  | none => rw [h1] at h; cases h
  | some p =>
   obtain ⟨ws, rd⟩ := p
   rw [h1] at h
   rw [stepT_mono hc h1]
   simp only [] at h ⊢
   cases h2 : stepsT P fh f c nt ops l (s.apply ws) with
   | none => rw [h2] at h; cases h
   | some q => rw [h2] at h; rw [stepsT_mono hc h2]; exact h
theorem iterA_mono {step step' : St → Option (Ex × St)} (hs : ∀ s r, step s = some r → step' s = some r) : ∀ {m m' : Nat} {s : St} {r : Ex × St}, m ≤ m' → iterA step m s = some r → iterA step' m' s = some r
 | 0, _, s, r, _, h => by cases h
 | m + 1, 0, s, r, hm, _ => by omega
 | m + 1, m' + 1, s, r, hm, h => by
  simp only [iterA] at h ⊢
  cases h1 : step s with
  | none => rw [h1] at h; cases h
  | some p =>
   rw [h1] at h
   rw [hs _ _ h1]
   obtain ⟨e, s1⟩ := p
   cases e with
   | norm => exact iterA_mono hs (by omega) h
   | exit id => exact h
   | ret => exact h
theorem exec_mono (hc : CallLe c c') {n n' : Nat} (hn : n ≤ n') : ∀ {x : Code} {s : St} {r : Ex × St}, exec P fh f c nt n x s = some r → exec P fh f c' nt n' x s = some r := by
 intro x
 induction x with
 | skip => exact fun h => h
 | label l => exact fun h => h
 | exit id => exact fun h => h
 | ret => exact fun h => h
 | goto l => intro s r h; cases h
 | refuse y => intro s r h; cases h
 | rangeFunc x ps c1 c2 => intro s r h; cases h
 | region id ops draw =>
  intro s r h
  cases draw with
  | true =>
   simp only [exec] at h ⊢
   cases h1 : stepsT P fh f c nt ops ops.toList s with
   | none => rw [h1] at h; cases h
   | some p => rw [h1] at h; rw [stepsT_mono hc h1]; exact h
  | false =>
   simp only [exec] at h ⊢
   cases h1 : stepsA P fh f c nt ops ops.toList s with
   | none => rw [h1] at h; cases h
   | some p => rw [h1] at h; rw [stepsA_mono hc h1]; exact h
 | seq x y ihx ihy =>
  intro s r h
  simp only [exec] at h ⊢
  cases h1 : exec P fh f c nt n x s with
  | none => rw [h1] at h; cases h
  | some p =>
   rw [h1] at h
   rw [ihx h1]
   obtain ⟨e, s1⟩ := p
   cases e with
   | norm => exact ihy h
   | exit id => exact h
   | ret => exact h
 | cond x c1 c2 ih1 ih2 =>
  intro s r h
  simp only [exec] at h ⊢
  split at h
  ·rename_i t hv
   cases t with
   | true => exact ih1 h
   | false => exact ih2 h
  ·cases h
 | block id x ih =>
  intro s r h
  simp only [exec] at h ⊢
  cases h1 : exec P fh f c nt n x s with
  | none => rw [h1] at h; cases h
  | some p => rw [h1] at h; rw [ih h1]; exact h
 | loop x ih =>
  intro s r h
  simp only [exec] at h ⊢
  exact iterA_mono (fun s r h => ih h) hn h
 | scope x ih =>
  intro s r h
  simp only [exec] at h ⊢
  exact ih h
theorem bodyA_mono (hc : CallLe c c') {k k' : Nat} (hk : k ≤ k') {args : List AV} {H : HH} {r : AV × HH} (h : bodyA P fh k c f args H = some r) : bodyA P fh k' c' f args H = some r := by
 unfold bodyA at h ⊢
 cases hf : P.funcs[f]? with
 | none => rw [hf] at h; cases h
 | some fn =>
  rw [hf] at h
  simp only [] at h ⊢
  cases hb : fn.body with
  | none => rw [hb] at h; cases h
  | some x =>
   rw [hb] at h
   simp only [] at h ⊢
   split at h
   ·rename_i hg
    rw [if_pos hg]
    cases h1 : exec P fh f c fn.ntmps k x ⟨[], (fh f).keep.map fun n => (n, args.getD n .undef), H, 0⟩ with
    | none => rw [h1] at h; cases h
    | some p => rw [h1] at h; rw [exec_mono hc hk h1]; exact h
   ·cases h
theorem run_mono {ext : FuncId → Option (List AV → HH → Option (AV × HH))} : ∀ {k k' : Nat}, k ≤ k' → CallLe (run P fh ext k) (run P fh ext k')
 | 0, _, _ => fun g vs H r h => by cases h
 | k + 1, 0, h => by omega
 | k + 1, k' + 1, hk => fun g vs H r h => by
  simp only [run] at h ⊢
  cases he : ext g with
  | some x => rw [he] at h; exact h
  | none => rw [he] at h; exact bodyA_mono (run_mono (by omega)) (by omega) h
theorem Ans.at {ext : FuncId → Option (List AV → HH → Option (AV × HH))} (k : Nat) {args : List AV} {H H' : HH} {r : AV} (h : run P fh ext k f args H = some (r, H')) : Ans P fh ext f args H r H' := ⟨k, fun _ hk => run_mono hk _ _ _ _ h⟩
end
end Go.Vai
