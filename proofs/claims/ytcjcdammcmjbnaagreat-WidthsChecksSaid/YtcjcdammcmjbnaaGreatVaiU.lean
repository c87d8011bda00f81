/- Code. -/
import Derived.Test.YtcjcdammcmjbnaaGreatVaiT
namespace Go.Vai
section
variable {P : Program} {w w' : World} {F F' : Nat → Nat} {β β' : Nat → Nat} {O O' : Nat → Option Own} {n h h' : Nat} {s : St} {a : Act} {o : Oper} {ws : List W} {fh : FuncId → FH} {f : FuncId} {call : FuncId → List AV → HH → Option (AV × HH)}
theorem loop_sound {c : Code} {step : St → Option (Ex × St)} (hs : ∀ (s : St) (r : Ex × St) (a : Act) (w : World) (F β : Nat → Nat) (O : Nat → Option Own), step s = some r → Sim P n s a w F β O → c.wp P (Post P n s w F β O r) a w) :
  ∀ (m : Nat) (s : St) (r : Ex × St) (a : Act) (w : World) (F β : Nat → Nat) (O : Nat → Option Own), iterA step m s = some r → Sim P n s a w F β O →
   ∀ (b : Frame) (k : List Item) (cs : List Frame), ∃ e a' w', Post P n s w F β O r e a' w' ∧ Arrives P (lone (b.at a (.code c :: .inLoop c :: k)) cs w) b k cs e a' w'
 | 0, s, r, a, w, F, β, O, h, S => by cases h
 | m + 1, s, r, a, w, F, β, O, h, S => by
  intro b k cs
  simp only [iterA] at h
  cases h1 : step s with
  | none => rw [h1] at h; cases h
  | some r1 =>
   obtain ⟨e1, s1⟩ := r1
   rw [h1] at h
   obtain ⟨e, a1, w1, ⟨he, N⟩, harr⟩ := hs s _ a w F β O h1 S b (.inLoop c :: k) cs
   cases e1 with
   | norm =>
    simp only [exOf] at he
    subst he
    obtain ⟨F1, β1, O1, S1, rest⟩ := N
    obtain ⟨e2, a2, w2, hp, harr2⟩ := loop_sound hs m s1 r a1 w1 F1 β1 O1 h S1 b k cs
    exact ⟨e2, a2, w2, Nxt.post ⟨S1, rest⟩ hp, .of_steps (Steps.trans harr (.one step_inLoop)) harr2⟩
   | exit id =>
    simp only [exOf] at he
    subst he
    injection h with h
    subst h
    exact ⟨_, a1, w1, ⟨rfl, N⟩, .pass (x := .inLoop c) rfl (fun _ _ => .inl (by simp [exOf])) harr⟩
   | ret =>
    simp only [exOf] at he
    subst he
    injection h with h
    subst h
    exact ⟨_, a1, w1, ⟨rfl, N⟩, .pass (x := .inLoop c) rfl (fun _ _ => .inl (by simp [exOf])) harr⟩
theorem exec_sound (hG : Good P call) {m : Nat} : ∀ (c : Code) (s : St) (r : Ex × St) (a : Act) (w : World) (F β : Nat → Nat) (O : Nat → Option Own), exec P fh f call n m c s = some r → Sim P n s a w F β O → c.wp P (Post P n s w F β O r) a w := by
 intro c
 induction c with
 | skip =>
  intro s r a w F β O h S
  simp only [exec] at h
  injection h with h
  subst h
  exact wp_skip ⟨rfl, Nxt.here S (Nat.le_refl _)⟩
 | label l =>
  intro s r a w F β O h S
  simp only [exec] at h
  injection h with h
  subst h
  exact wp_label ⟨rfl, Nxt.here S (Nat.le_refl _)⟩
 | exit id =>
  intro s r a w F β O h S
  simp only [exec] at h
  injection h with h
  subst h
  exact wp_exit ⟨rfl, Nxt.here S (Nat.le_refl _)⟩
 | ret =>
  intro s r a w F β O h S
  simp only [exec] at h
  injection h with h
  subst h
  exact wp_ret ⟨rfl, Nxt.here S (Nat.le_refl _)⟩
 | goto l => intro s r a w F β O h; cases h
 | refuse y => intro s r a w F β O h; cases h
 | rangeFunc x ps c1 c2 => intro s r a w F β O h; cases h
 | region id ops draw =>
  intro s r a w F β O h S
  cases draw with
  | true =>
   simp only [exec] at h
   split at h
   ·rename_i s' tr hs'
    split at h
    ·rename_i hd
     injection h with h
     subst h
     exact draw_sound hG hs' hd S (fun a' w' N => ⟨rfl, N⟩)
    ·cases h
   ·cases h
  | false =>
   simp only [exec] at h
   split at h
   ·rename_i s' hs'
    injection h with h
    subst h
    refine wp_region ?_
    have := steps_sound (Q := Post P n s w F β O (.norm, Vai.tidy P fh f id s')) hG ops.toList 0 s s' a w F β O (by simp) S hs' (fun a' w' N => ⟨rfl, ?_⟩)
    ·rw [List.range_eq_range']
     simpa using this
    ·obtain ⟨F1, β1, O1, S1, rest⟩ := N
     exact ⟨F1, β1, O1, S1.tidy, rest⟩
   ·cases h
 | seq x y ihx ihy =>
  intro s r a w F β O h S
  simp only [exec] at h
  refine wp_seq (wp_mono (Q := Post P n s w F β O ((exec P fh f call n m x s).getD (.norm, s))) ?_ ?_)
  ·cases hx : exec P fh f call n m x s with
   | none => rw [hx] at h; cases h
   | some r1 => exact ihx s r1 a w F β O hx S
  ·cases hx : exec P fh f call n m x s with
   | none => rw [hx] at h; cases h
   | some r1 =>
    obtain ⟨e1, s1⟩ := r1
    rw [hx] at h
    rintro e a1 w1 ⟨he, N⟩
    simp only [Option.getD_some] at he N
    cases e1 with
    | norm =>
     simp only [exOf] at he
     subst he
     obtain ⟨F1, β1, O1, S1, rest⟩ := N
     exact wp_mono (ihy s1 r a1 w1 F1 β1 O1 h S1) (fun e a2 w2 hp => Nxt.post ⟨S1, rest⟩ hp)
    | exit id =>
     simp only [exOf] at he
     subst he
     injection h with h
     subst h
     exact ⟨rfl, N⟩
    | ret =>
     simp only [exOf] at he
     subst he
     injection h with h
     subst h
     exact ⟨rfl, N⟩
 | cond x c1 c2 ih1 ih2 =>
  intro s r a w F β O h S
  simp only [exec] at h
  split at h
  ·rename_i t hv
   have hc := (relS_sc ((valO_sound S hv).2 0)).1
   refine wp_cond hc ?_
   cases t with
   | true => exact ih1 s r a w F β O h S
   | false => exact ih2 s r a w F β O h S
  ·cases h
 | block id c ih =>
  intro s r a w F β O h S
  simp only [exec] at h
  cases hx : exec P fh f call n m c s with
  | none => rw [hx] at h; cases h
  | some r1 =>
   obtain ⟨e1, s1⟩ := r1
   rw [hx] at h
   refine wp_block (wp_mono (ih s _ a w F β O hx S) ?_)
   rintro e a1 w1 ⟨he, N⟩
   cases e1 with
   | norm =>
    simp only [exOf] at he
    subst he
    injection h with h
    subst h
    exact ⟨rfl, N⟩
   | exit i =>
    simp only [exOf] at he
    subst he
    injection h with h
    subst h
    simp only [Exit.inBlock]
    by_cases hi : i = id
    ·subst hi
     rw [if_pos rfl]
     refine ⟨?_, N⟩
     simp [exOf]
    ·rw [if_neg hi]
     refine ⟨?_, N⟩
     have : Nat.beq i id = false := by
      cases hb : Nat.beq i id with
      | false => rfl
      | true => exact absurd (beq_eq hb) hi
     simp [exOf, this]
   | ret =>
    simp only [exOf] at he
    subst he
    injection h with h
    subst h
    exact ⟨rfl, N⟩
 | loop c ih =>
  intro s r a w F β O h S
  simp only [exec] at h
  intro b k cs
  obtain ⟨e, a', w', hp, harr⟩ := loop_sound ih m s r a w F β O h S b k cs
  exact ⟨e, a', w', hp, .of_steps (.one step_loop) harr⟩
 | scope c ih =>
  intro s r a w F β O h S
  simp only [exec] at h
  refine wp_scope_straight (wp_mono (ih s r a w F β O h S) ?_)
  rintro e a1 w1 ⟨he, N⟩
  subst he
  obtain ⟨e1, s1⟩ := r
  cases e1 <;> exact ⟨rfl, N⟩
end
end Go.Vai
