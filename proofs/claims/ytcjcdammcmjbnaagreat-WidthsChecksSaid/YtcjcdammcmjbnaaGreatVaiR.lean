/- Functions: what comes back, the program. -/
import Derived.Test.YtcjcdammcmjbnaaGreatVaiU
namespace Go.Vai
section
variable {P : Program} {w w' : World} {F F' : Nat → Nat} {β β' : Nat → Nat} {O O' : Nat → Option Own} {n h h' : Nat} {s : St} {a : Act} {fh : FuncId → FH} {f : FuncId}
def resRun (tmps : Array Value) : ResultVar → Sem Value
 | .tmp t => pure (tmps.getD t undef)
 | .cell a t => do loadVar t (← asAddr (tmps.getD a undef))
theorem mapM_run {α β : Type} {g : α → Sem β} {w : World} : ∀ {l : List α} {rs : List β}, l.length = rs.length → (∀ (i : Nat) (x : α) (y : β), l[i]? = some x → rs[i]? = some y → (g x).run P w = .ok y w) → (l.mapM g).run P w = .ok rs w
 | [], rs, hl, _ => by
  have : rs = [] := List.eq_nil_of_length_eq_zero hl.symm
  subst this
  simp
 | x :: l, rs, hl, hg => by
  cases rs with
  | nil => simp at hl
  | cons y rs =>
   have h1 := hg 0 x y rfl rfl
   have h2 := mapM_run (l := l) (rs := rs) (by simpa using hl) (fun i x y hx hy => hg (i + 1) x y (by simpa using hx) (by simpa using hy))
   simp [List.mapM_cons, h1, h2]
def packed : List Value → Value
 | [v] => v
 | vs => .tuple vs.toArray
theorem results_run {fn : Func} {tmps : Array Value} {vs : List Value} (hl : fn.results.toList.length = vs.length) (h : ∀ (i : Nat) (x : ResultVar) (y : Value), fn.results.toList[i]? = some x → vs[i]? = some y → (resRun tmps x).run P w = .ok y w) :
  (results fn tmps).run P w = .ok (packed vs) w := by
 have h1 := mapM_run (g := resRun tmps) hl h
 have e : results fn tmps = (do
  let vs ← fn.results.mapM (resRun tmps)
  pure (if h : vs.size = 1 then vs[0] else .tuple vs)) := rfl
 rw [e, Array.mapM_eq_mapM_toList]
 simp only [Sem.run_bind, Sem.run_map, h1, Result.andThen_ok, Sem.run_pure]
 cases vs with
 | nil => rfl
 | cons v vs =>
  cases vs with
  | nil => rfl
  | cons v2 vs => simp [packed]
theorem res_sound (S : Sim P n s a w F β O) {x : ResultVar} {v : AV} {s' : St} (h : resA P fh f s x = some (v, s')) :
  ∃ u F' O' t, (resRun a.tmps x).run P w = .ok u w ∧ Sim P n s' a w F' β O' ∧ Step w F w F' (fun g => (O g).isSome) ∧ (∀ g, (O' g).isSome → (O g).isSome) ∧ s'.H.length = s.H.length ∧ argR P w F' β s.H.length O' (.slot t) v u ∧ ((fh f).capRes = false → relF w F' β s.H.length v u) := by
 cases x with
 | tmp t =>
  have hrun : ∀ u, a.tmps[t]? = some u → (resRun a.tmps (.tmp t)).run P w = .ok u w := fun u hu => by
   simp only [resRun, Sem.run_pure, Array.getD_eq_getD_getElem?, hu, Option.getD_some]
  simp only [resA] at h
  cases hu : a.tmps[t]? with
  | none =>
   have : n ≤ t := by rw [← S.size]; simpa using hu
   rw [S.out t this] at h
   cases h
  | some u =>
   have r := S.slots t u hu
   have plain : ∀ {x : AV}, (s.get t).1 = x → owns x = false → some (x, s) = some (v, s') → relF w F β s.H.length x u → ∃ u F' O' t_1, (resRun a.tmps (.tmp t)).run P w = .ok u w ∧ Sim P n s' a w F' β O' ∧ Step w F w F' (fun g => (O g).isSome) ∧ (∀ g, (O' g).isSome → (O g).isSome) ∧ s'.H.length = s.H.length ∧ argR P w F' β s.H.length O' (.slot t_1) v u ∧ ((fh f).capRes = false → relF w F' β s.H.length v u) := fun {x} hx ho he hr => by
    injection he with he
    injection he with e1 e2
    subst e1
    subst e2
    refine ⟨u, F, O, 0, hrun u hu, S, Step.refl _ _ _, fun _ h => h, rfl, ?_, fun _ => hr⟩
    cases x <;> first | exact hr | cases ho
   revert h r
   cases hv : (s.get t).1 with
   | cap own e l =>
    intro h r
    simp only [] at h
    injection h with h
    injection h with h1 h2
    subst h2
    by_cases hc : (fh f).capRes = true
    ·rw [if_pos hc] at h1
     subst h1
     obtain ⟨u', F', O', g1, S1, g2, g3, g4, g5⟩ := S.move (p := .slot t) hv (.slot t) own (fun h => h)
     have : some u' = some u := g1.symm.trans hu
     injection this with this
     subst this
     exact ⟨u', F', O', t, hrun u' hu, S1, g3, g4, g5, g2, fun h => by rw [hc] at h; cases h⟩
    ·rw [if_neg hc] at h1
     subst h1
     obtain ⟨u', F', O', g1, S1, g2, g3, g4, g5⟩ := S.move (p := .slot t) hv (.slot t) false (fun h => by cases h)
     have : some u' = some u := g1.symm.trans hu
     injection this with this
     subst this
     exact ⟨u', F', O', t, hrun u' hu, S1, g3, g4, g5, relCap_sl g2, fun _ => relCap_sl g2⟩
   | ref p ver => intro h; cases h
   | lptr m ver off => intro h; cases h
   | eaddr p ver sz j off => intro h; cases h
   | box l => intro h; cases h
   | undef => intro h; cases h
   | sc c => exact fun h r => plain hv rfl h r
   | sl sz l => exact fun h r => plain hv rfl h r
   | agg l => exact fun h r => plain hv rfl h r
   | tup l => exact fun h r => plain hv rfl h r
   | ea l => exact fun h r => plain hv rfl h r
   | fn g l => exact fun h r => plain hv rfl h r
   | ptr b off => exact fun h r => plain hv rfl h r
   | hsl b off z l c => exact fun h r => plain hv rfl h r
 | cell x t =>
  simp only [resA] at h
  cases hu : a.tmps[x]? with
  | none =>
   have : n ≤ x := by rw [← S.size]; simpa using hu
   rw [S.out x this] at h
   cases h
  | some ux =>
   have r := S.slots x ux hu
   revert h r
   cases hv : (s.get x).1 with
   | box l =>
    rintro h ⟨b, rfl, hbox⟩
    simp only [] at h
    cases hl : (loadC P t (.lcell x) (s.get x).2 l 0).run s with
    | none => rw [hl] at h; cases h
    | some y =>
     obtain ⟨u, h3, h4, h5⟩ := loadC_sound (a := a) hl hbox (fun j o e m' hj => ⟨Nat.le_refl _, box_capped hv hj, fun u hc => by simp only [valAt, hu]; exact hc⟩)
     have hrun : (resRun a.tmps (.cell x t)).run P w = .ok u w := by
      simp only [resRun, Array.getD_eq_getD_getElem?, hu, Option.getD_some, asAddr, Sem.run_bind, Sem.run_pure, Result.andThen_ok, h3]
     rw [hl] at h
     have plain : owns y = false → some (y, s) = some (v, s') → relF w F β s.H.length y u → ∃ u F' O' t_1, (resRun a.tmps (.cell x t)).run P w = .ok u w ∧ Sim P n s' a w F' β O' ∧ Step w F w F' (fun g => (O g).isSome) ∧ (∀ g, (O' g).isSome → (O g).isSome) ∧ s'.H.length = s.H.length ∧ argR P w F' β s.H.length O' (.slot t_1) v u ∧ ((fh f).capRes = false → relF w F' β s.H.length v u) := fun ho he hr => by
      injection he with he
      injection he with e1 e2
      subst e1
      subst e2
      refine ⟨u, F, O, 0, hrun, S, Step.refl _ _ _, fun _ h => h, rfl, ?_, fun _ => hr⟩
      cases y <;> first | exact hr | cases ho
     have r0 := h5 0
     revert h r0 h4
     cases y with
     | ref p ver =>
      intro h h4 r0
      simp only [] at h
      cases hs : (share P (.ref p ver)).run s with
      | none => rw [hs] at h; cases h
      | some z =>
       rw [hs] at h
       injection h with h
       injection h with e1 e2
       subst e1
       subst e2
       obtain ⟨q1, q2, _⟩ := share_sound S r0 hs
       refine ⟨u, F, O, 0, hrun, S, Step.refl _ _ _, fun _ h => h, rfl, ?_, fun _ => q1⟩
       cases z <;> first | exact q1 | cases q2
     | undef => intro h; cases h
     | lptr m ver off => intro h; cases h
     | eaddr p ver sz j off => intro h; cases h
     | cap _ _ _ => intro h h4; cases h4
     | box _ => intro h h4; cases h4
     | sc c => exact fun h h4 r0 => plain rfl h r0
     | sl sz l => exact fun h h4 r0 => plain rfl h r0
     | agg l => exact fun h h4 r0 => plain rfl h r0
     | tup l => exact fun h h4 r0 => plain rfl h r0
     | ea l => exact fun h h4 r0 => plain rfl h r0
     | fn g l => exact fun h h4 r0 => plain rfl h r0
     | ptr b off => exact fun h h4 r0 => plain rfl h r0
     | hsl b off z l c => exact fun h h4 r0 => plain rfl h r0
   | _ => intro h; cases h
end
end Go.Vai
