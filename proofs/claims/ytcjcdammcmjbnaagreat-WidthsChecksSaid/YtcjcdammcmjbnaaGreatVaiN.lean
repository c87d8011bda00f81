/- Calls: what a callee gets and gives back. -/
import Derived.Test.YtcjcdammcmjbnaaGreatVaiM
namespace Go.Vai
section
variable {P : Program} {w w' : World} {F F' : Nat → Nat} {β β' : Nat → Nat} {O O' : Nat → Option Own} {n h h' : Nat} {s : St} {a : Act} {o : Oper} {ws : List W}
mutual
theorem relF.np : ∀ (x : AV) (v : Value), np x = true → relF w F β h x v → relF w F β' h' x v
 | .sc _, _, _, r => by simp only [relF] at r ⊢; exact r
 | .sl sz l, _, p, r => by
  simp only [relF, Go.Vai.np] at r p ⊢
  obtain ⟨A, c, inner, hv, hl, hr, hm⟩ := r
  exact ⟨A, c, inner, hv, hl, rowsR.np sz l inner p hr, hm⟩
 | .agg l, _, p, r => by
  simp only [relF, Go.Vai.np] at r p ⊢
  obtain ⟨cs, hv, hr⟩ := r
  exact ⟨cs, hv, cellsR.np l cs p hr⟩
 | .tup l, _, p, r => by
  simp only [relF, Go.Vai.np] at r p ⊢
  obtain ⟨cs, hv, hr⟩ := r
  exact ⟨cs, hv, listR.np l cs p hr⟩
 | .ea l, _, p, r => by
  simp only [relF, Go.Vai.np] at r p ⊢
  obtain ⟨b, o, inner, hv, hr, hm⟩ := r
  exact ⟨b, o, inner, hv, cellsR.np l inner p hr, hm⟩
 | .fn f l, _, p, r => by
  simp only [relF, Go.Vai.np] at r p ⊢
  obtain ⟨cs, hv, hr⟩ := r
  exact ⟨cs, hv, listR.np l cs p hr⟩
 | .ptr b o, _, p, _ => by simp only [Go.Vai.np] at p; cases p
 | .hsl _ _ _ _ _, _, p, _ => by simp only [Go.Vai.np] at p; cases p
 | .undef, _, _, _ => by simp only [relF]
 | .cap _ _ _, _, _, r => by simp only [relF] at r
 | .box _, _, _, r => by simp only [relF] at r
 | .ref _ _, _, _, r => by simp only [relF] at r
 | .lptr _ _ _, _, _, r => by simp only [relF] at r
 | .eaddr _ _ _ _ _, _, _, r => by simp only [relF] at r
theorem rowsR.np (sz : Nat) : ∀ (l : List AV) (cs : List Value), npL l = true → rowsR w F β h sz l cs → rowsR w F β' h' sz l cs
 | [], _, _, r => by simp only [rowsR] at r ⊢; exact r
 | x :: l, _, p, r => by
  simp only [rowsR, npL, Bool.and_eq_true] at r p ⊢
  obtain ⟨c1, c2, hc, hl, hi, hr⟩ := r
  exact ⟨c1, c2, hc, hl, itemR.np x c1 p.1 hi, rowsR.np sz l c2 p.2 hr⟩
theorem itemR.np : ∀ (x : AV) (cs : List Value), Go.Vai.np x = true → itemR w F β h x cs → itemR w F β' h' x cs
 | .sc _, _, _, r => by simp only [itemR] at r ⊢; exact r
 | .sl sz l, _, p, r => by
  simp only [itemR, Go.Vai.np] at r p ⊢
  obtain ⟨A, c, inner, hv, hl, hr, hm⟩ := r
  exact ⟨A, c, inner, hv, hl, rowsR.np sz l inner p hr, hm⟩
 | .agg l, cs, p, r => by
  simp only [itemR, Go.Vai.np] at r p ⊢
  exact cellsR.np l cs p r
 | .ea l, _, p, r => by
  simp only [itemR, Go.Vai.np] at r p ⊢
  obtain ⟨b, o, inner, hv, hr, hm⟩ := r
  exact ⟨b, o, inner, hv, cellsR.np l inner p hr, hm⟩
 | .fn f l, _, p, r => by
  simp only [itemR, Go.Vai.np] at r p ⊢
  obtain ⟨cs, hv, hr⟩ := r
  exact ⟨cs, hv, listR.np l cs p hr⟩
 | .ptr b o, _, p, _ => by simp only [Go.Vai.np] at p; cases p
 | .hsl _ _ _ _ _, _, p, _ => by simp only [Go.Vai.np] at p; cases p
 | .undef, _, _, r => by simp only [itemR] at r
 | .tup _, _, _, r => by simp only [itemR] at r
 | .cap _ _ _, _, _, r => by simp only [itemR] at r
 | .box _, _, _, r => by simp only [itemR] at r
 | .ref _ _, _, _, r => by simp only [itemR] at r
 | .lptr _ _ _, _, _, r => by simp only [itemR] at r
 | .eaddr _ _ _ _ _, _, _, r => by simp only [itemR] at r
theorem cellsR.np : ∀ (l : List AV) (cs : List Value), npL l = true → cellsR w F β h l cs → cellsR w F β' h' l cs
 | [], _, _, r => by simp only [cellsR] at r ⊢; exact r
 | x :: l, _, p, r => by
  simp only [cellsR, npL, Bool.and_eq_true] at r p ⊢
  obtain ⟨u, c2, hc, hl, hi, hr⟩ := r
  exact ⟨u, c2, hc, hl, relF.np x u p.1 hi, cellsR.np l c2 p.2 hr⟩
theorem listR.np : ∀ (l : List AV) (cs : List Value), npL l = true → listR w F β h l cs → listR w F β' h' l cs
 | [], _, _, r => by simp only [listR] at r ⊢; exact r
 | x :: l, _, p, r => by
  simp only [listR, npL, Bool.and_eq_true] at r p ⊢
  obtain ⟨u, c2, hc, hi, hr⟩ := r
  exact ⟨u, c2, hc, relF.np x u p.1 hi, listR.np l c2 p.2 hr⟩
end
theorem relCap.np {p : Pl} {own : Bool} {e : TypeId} {l : List AV} {v : Value} (hn : npL l = true) (r : relCap P w F β h O p own e l v) : relCap P w F β' h' O p own e l v := by
 obtain ⟨inner, h1, h2, h3⟩ := r
 exact ⟨inner, h1, rowsR.np _ _ _ hn h2, h3⟩
theorem relCap.to {p q : Pl} {own : Bool} {e : TypeId} {l : List AV} {v : Value} (r : relCap P w F β h O p own e l v) (hO : ∀ g, v.ownBlock = some g → O g = some (.pl p) → O' g = some (.pl q)) : relCap P w F β h O' q own e l v := by
 obtain ⟨inner, h1, h2, h3⟩ := r
 exact ⟨inner, h1, h2, fun g hg => ⟨hO g hg (h3 g hg).1, (h3 g hg).2⟩⟩
def argR (P : Program) (w : World) (F : Nat → Nat) (β : Nat → Nat) (h : Nat) (O : Nat → Option Own) (p : Pl) (v : AV) (u : Value) : Prop :=
 match v with
 | .cap o e l => relCap P w F β h O p o e l u
 | v => relF w F β h v u
def heapR (P : Program) (w : World) (F : Nat → Nat) (β : Nat → Nat) (O : Nat → Option Own) (H : HH) : Prop :=
 ∀ b l, H[b]? = some l → boxAt P w F β H.length O (.hb b) (fun j => .hcell b j) (β b) l
structure Entry (P : Program) (w : World) (F : Nat → Nat) (β : Nat → Nat) (O : Nat → Option Own) (vs : List AV) (us : List Value) (H : HH) : Prop where
 len : us.length = vs.length
 args : ∀ i v u, vs[i]? = some v → us[i]? = some u → argR P w F β H.length O (.slot i) v u
 heap : heapR P w F β O H
 olt : ∀ g q, O g = some q → g < w.heap.size
structure Back (P : Program) (w : World) (F : Nat → Nat) (β : Nat → Nat) (O : Nat → Option Own) (H : HH) (r : AV) (H' : HH) (v : Value) (w' : World) (F' : Nat → Nat) (O' : Nat → Option Own) : Prop where
 len : H'.length = H.length
 res : ∃ t, argR P w' F' β H.length O' (.slot t) r v
 heap : heapR P w' F' β O' H'
 olt : ∀ g q, O' g = some q → g < w'.heap.size
 step : Step w F w' F' (fun g => (O g).isSome)
 new : ∀ g, (O' g).isSome → (O g).isSome ∨ w.heap.size ≤ g
def SortOk (P : Program) (g : FuncId) (e : TypeId) (l : List AV) (k : FuncId) (l' : List AV) : Prop :=
 (∃ fn, P.funcs[g]? = some fn ∧ (fn.name == "runtime.NumGoroutine") = false ∧ fn.body.isNone = false) ∧
 ∀ {w F β h O m v}, relCap P w F β h O (.slot m) true e l v → (∀ g q, O g = some q → g < w.heap.size) → Calls P g #[v, .func (.func k) #[] #[]] w fun r w' => r = .returned (.tuple #[]) ∧ ∃ F', relCap P w' F' β h O (.slot m) true e l' v ∧ Step w F w' F' (fun b => v.ownBlock = some b) ∧ (∀ b, b < w.heap.size → F' b = F b)
structure Good (P : Program) (call : FuncId → List AV → HH → Option (AV × HH)) : Prop where
 sorts : P.funcs.size ≤ 1000000 → ∀ {g e l k e' l' H'}, call (sortId g) [.cap true e l, .fn k []] [] = some (.cap true e' l', H') → SortOk P g e l k l'
 runs : ∀ {g vs H r}, g < 1000000 → call g vs H = some r → ∃ fn, P.funcs[g]? = some fn ∧ (fn.name == "runtime.NumGoroutine") = false ∧ fn.body.isNone = false
 does : ∀ {g vs H r H'}, g < 1000000 → call g vs H = some (r, H') → ∀ {w F β O us}, Entry P w F β O vs us H → Calls P g us.toArray w fun e w' => ∃ v F' O', e = .returned v ∧ Back P w F β O H r H' v w' F' O'
theorem leaves_H {ws : List W} (h : ws.all leavesHere = true) (s : St) : (s.apply ws).H = s.H ∧ (s.apply ws).hv = s.hv := by
 induction ws generalizing s with
 | nil => exact ⟨rfl, rfl⟩
 | cons x ws ih =>
  simp only [List.all_cons, Bool.and_eq_true] at h
  have := ih h.2 (s.one x)
  have hx : (s.one x).H = s.H ∧ (s.one x).hv = s.hv := by
   cases x with
   | slot m v => exact ⟨rfl, rfl⟩
   | lcell m off cs => simp only [St.one]; split <;> exact ⟨rfl, rfl⟩
   | _ => cases h.1
  exact ⟨this.1.trans hx.1, this.2.trans hx.2⟩
theorem args_sound (S : Sim P n s a w F β O) {caps : List Nat} : ∀ {ts : List (TypeId × Operand)} {i : Nat} {vs : List AV} {ws : List W}, (argAll P caps i ts).run s = some (vs, ws) → ws.length ≤ 1 →
  ∃ F1 O1, Sim P n (s.apply ws) a w F1 β O1 ∧ Step w F w F1 (fun g => (O g).isSome) ∧ (∀ g, (O1 g).isSome → (O g).isSome) ∧ (s.apply ws).H.length = s.H.length ∧ (ws = [] → F1 = F ∧ O1 = O ∧ ∀ (j : Nat) (own : Bool) (e : TypeId) (l : List AV) (p : TypeId × Operand), vs[j]? = some (AV.cap own e l) → ts[j]? = some p → l = [] ∧ a.eval p.2 = .slice none 0 0) ∧ vs.length = ts.length ∧
   ∀ j v p, vs[j]? = some v → ts[j]? = some p → argR P w F1 β s.H.length O1 (.slot (n + (i + j))) v (a.eval p.2)
 | [], i, vs, ws, h, _ => by
  have := Q.ret_some h
  injection this with h1 h2
  subst h1
  subst h2
  exact ⟨F, O, S, Step.refl _ _ _, fun _ h => h, rfl, fun _ => ⟨rfl, rfl, fun j _ _ _ _ hj => by simp at hj⟩, rfl, fun j v p hj => by simp at hj⟩
 | (t, x) :: r, i, vs, ws, h, hl => by
  simp only [argAll] at h
  obtain ⟨⟨v, w1⟩, h1, k1⟩ := Q.bind_some h
  obtain ⟨⟨vs', ws'⟩, h2, k2⟩ := Q.bind_some k1
  have := Q.ret_some k2
  injection this with e1 e2
  subst e1
  subst e2
  clear h k1 k2
  have hd : (∃ p ver own e l, s.valid p ver ∧ s.av p = .cap own e l ∧ (v, w1) = (.cap own e l, [gone p]) ∧ valAt a w β p = some (a.eval x)) ∨ (w1 = [] ∧ (∀ own e l, v = .cap own e l → l = [] ∧ a.eval x = .slice none 0 0) ∧ ∀ (F1 : Nat → Nat) (O1 : Nat → Option Own) (q : Pl), Ext w F w F1 → argR P w F1 β s.H.length O1 q v (a.eval x)) := by
   have hF : ∀ {y : AV}, relF w F β s.H.length y (a.eval x) → owns y = false → ∀ (F1 : Nat → Nat) (O1 : Nat → Option Own) (q : Pl), Ext w F w F1 → argR P w F1 β s.H.length O1 q y (a.eval x) := fun {y} hy ho F1 O1 q e => by
    have := relF.ext e (fun _ _ => rfl) (Nat.le_refl s.H.length) _ _ hy (β' := β)
    cases y <;> first | exact this | cases ho
   split at h1
   ·obtain ⟨z, h3, h4⟩ := Q.bind_some h1
    rcases give_sound S h3 h4 with hg | ⟨e, he, hr, hx⟩ | ⟨y, hr, h5, h6, _⟩
    ·exact .inl hg
    ·injection hr with e1 e2
     subst e1
     subst e2
     exact .inr ⟨rfl, fun own e' l h => (by injection h with _ _ h; exact ⟨h.symm, hx⟩), fun F1 O1 q _ => by rw [hx]; exact cap_nil⟩
    ·injection hr with e1 e2
     subst e1
     subst e2
     exact .inr ⟨rfl, fun own e l h => (by rw [h] at h6; cases h6), hF h5 h6⟩
   ·obtain ⟨z, h3, h4⟩ := Q.bind_some h1
    have := Q.ret_some h4
    injection this with e1 e2
    subst e1
    subst e2
    obtain ⟨h5, h6, _⟩ := shareO_sound S h3
    exact .inr ⟨rfl, fun own e l h => (by rw [h] at h6; cases h6), hF h5 h6⟩
  rcases hd with ⟨p, ver, own, e, l, h3, h4, he, h5⟩ | ⟨rfl, hnil, hd⟩
  ·injection he with e1 e2
   subst e1
   subst e2
   have hw : ws' = [] := by simpa using hl
   subst hw
   obtain ⟨F0, O0, _, _, _, _, hsame, hlen, hrest⟩ := args_sound S h2 (Nat.zero_le _)
   obtain ⟨rfl, rfl, hnil⟩ := hsame rfl
   obtain ⟨u, F1, O1, g1, S1, g2, g3, g4, g5⟩ := S.move h4 (.slot (n + i)) own (fun h => h)
   rw [h5] at g1
   injection g1 with g1
   subst g1
   refine ⟨F1, O1, S1, g3, g4, g5, fun h => (by simp at h), by simp [hlen], fun j v p hv hp => ?_⟩
   cases j with
   | zero => simp at hv hp; subst hv; subst hp; exact g2
   | succ j =>
    simp at hv hp
    have := hrest j v p hv hp
    rw [show i + (j + 1) = i + 1 + j by omega]
    cases v with
    | cap o e l =>
     obtain ⟨e1, e2⟩ := hnil j _ _ _ _ hv hp
     subst e1
     rw [e2]
     exact cap_nil
    | _ => exact relF.ext g3.ext (fun _ _ => rfl) (Nat.le_refl _) _ _ this
  ·obtain ⟨F1, O1, S1, g3, g4, g5, hsame, hlen, hrest⟩ := args_sound S h2 (by simpa using hl)
   refine ⟨F1, O1, by simpa using S1, g3, g4, by simpa using g5, fun h => ?_, by simp [hlen], fun j v p hv hp => ?_⟩
   ·obtain ⟨e1, e2, e3⟩ := hsame (by simpa using h)
    refine ⟨e1, e2, fun j own e l p hv hp => ?_⟩
    cases j with
    | zero => simp at hv hp; subst hp; exact hnil own e l hv
    | succ j => simp at hv hp; exact e3 j own e l p hv hp
   cases j with
   | zero => simp at hv hp; subst hv; subst hp; exact hd F1 O1 _ g3.ext
   | succ j =>
    simp at hv hp
    rw [show i + (j + 1) = i + 1 + j by omega]
    exact hrest j v p hv hp
end
end Go.Vai
