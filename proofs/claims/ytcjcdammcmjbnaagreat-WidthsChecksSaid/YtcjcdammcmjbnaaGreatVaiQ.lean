/- Regions and code. -/
import Derived.Test.YtcjcdammcmjbnaaGreatVaiP
import Derived.Scope
namespace Go.Vai
section
variable {P : Program} {w w' : World} {F F' : Nat → Nat} {β β' : Nat → Nat} {O O' : Nat → Option Own} {n h h' : Nat} {s : St} {a : Act} {o : Oper} {ws : List W} {fh : FuncId → FH} {f : FuncId} {call : FuncId → List AV → HH → Option (AV × HH)}
theorem yield_sound (S : Sim P n s a w F β O) {ops : Array Oper} {j : Nat} {b : Option Bool} (h : yieldA ops s j = some b) : yielded ops a.tmps j = b := by
 unfold yieldA at h
 unfold yielded
 cases hd : (ops[j]?).bind (·.dst) with
 | none => rw [hd] at h; cases h
 | some d =>
  rw [hd] at h
  simp only [] at h
  cases hu : a.tmps[d]? with
  | none =>
   have : n ≤ d := by rw [← S.size]; simpa using hu
   rw [S.out d this] at h
   cases h
  | some u =>
   have r := S.slots d u hu
   split at h
   ·rename_i b' hb
    injection h with h
    subst h
    rw [hb] at r
    have := (relS_sc r).1
    subst this
    simp [hu]
   ·rename_i hb
    injection h with h
    subst h
    rw [hb] at r
    simp only [relS, relF, listR] at r
    obtain ⟨vs, rfl, rfl⟩ := r
    simp [hu]
   ·cases h
theorem wanted_sound (S : Sim P n s a w F β O) {ops : Array Oper} {b : Bool} (h : wantedA ops s o = some b) : Region.wanted o (yielded ops a.tmps) = b := by
 unfold wantedA at h
 unfold Region.wanted
 split at h
 ·rename_i hg
  injection h with h
  rw [hg]
  exact h
 ·rename_i j want hg
  rw [hg]
  cases hy : yieldA ops s j with
  | none => rw [hy] at h; cases h
  | some y =>
   rw [hy] at h
   injection h with h
   simp only [yield_sound S hy]
   exact h
theorem step_sound (hG : Good P call) {ops : Array Oper} {i : Nat} {s' : St} (ho : ops[i]? = some o) (S : Sim P n s a w F β O) (h : stepA P fh f call n ops s o = some s') {K : Act → World → Prop} {Q : Exit → Act → World → Prop} (hK : ∀ a' w', Nxt P n s w F β O s' a' w' → K a' w') : wpOp P ops Q i K a w := by
 unfold stepA at h
 split at h
 ·rename_i hg
  simp only [Bool.and_eq_true] at hg
  have hd : ∀ d, o.dst = some d → d < n := fun d hd => by
   have := hg.1
   unfold dstOk at this
   rw [hd] at this
   exact Nat.le_of_ble_eq_true this
  have hs : shapeOk o = true := hg.2
  unfold wpOp
  rw [ho]
  simp only []
  split at h
  ·rename_i hw
   rw [wanted_sound S hw]
   simp only [if_true]
   cases he : (eff P fh f call o).run s with
   | none => rw [he] at h; cases h
   | some ws =>
    rw [he] at h
    injection h with h
    subst h
    exact .inl (ok_eff hG S hd hs he K Q hK)
  ·rename_i hw
   rw [wanted_sound S hw]
   simp only [Bool.false_eq_true, if_false]
   injection h with h
   subst h
   refine hK _ _ ?_
   cases hdst : o.dst with
   | none => exact Nxt.here S (Nat.le_refl _)
   | some d => exact Nxt.here (S.slotF (hd d hdst) (v := .tup []) (by simp only [relF, listR]; exact ⟨[], rfl, rfl⟩)) (Nat.le_refl _)
  ·cases h
 ·cases h
theorem steps_sound (hG : Good P call) {ops : Array Oper} {Q : Exit → Act → World → Prop} : ∀ (l : List Oper) (i : Nat) (s s' : St) (a : Act) (w : World) (F : Nat → Nat) (β : Nat → Nat) (O : Nat → Option Own), ops.toList.drop i = l → Sim P n s a w F β O → stepsA P fh f call n ops l s = some s' → (∀ a' w', Nxt P n s w F β O s' a' w' → Q .normal a' w') → wpOps P ops Q (List.range' i l.length) a w
 | [], i, s, s', a, w, F, β, O, hl, S, h, hQ => by
  simp only [stepsA] at h
  injection h with h
  subst h
  exact hQ _ _ (Nxt.here S (Nat.le_refl _))
 | o :: l, i, s, s', a, w, F, β, O, hl, S, h, hQ => by
  have ho : ops[i]? = some o := by
   rw [← Array.getElem?_toList, ← List.head?_drop, hl]
   rfl
  have hl' : ops.toList.drop (i + 1) = l := by
   have : ops.toList.drop (i + 1) = (ops.toList.drop i).drop 1 := by rw [List.drop_drop]
   rw [this, hl]
   rfl
  simp only [stepsA] at h
  cases h1 : stepA P fh f call n ops s o with
  | none => rw [h1] at h; cases h
  | some s1 =>
   rw [h1] at h
   simp only [List.length_cons, List.range'_succ]
   rw [wpOps_cons]
   refine step_sound hG ho S h1 (fun a1 w1 N => ?_)
   obtain ⟨F1, β1, O1, S1, t1, n1, b1, l1⟩ := N
   refine steps_sound hG l (i + 1) s1 s' a1 w1 F1 β1 O1 hl' S1 h (fun a2 w2 N2 => hQ _ _ ?_)
   obtain ⟨F2, β2, O2, S2, t2, n2, b2, l2⟩ := N2
   refine ⟨F2, β2, O2, S2, t1.trans t2 (fun b hb hs => ?_), fun g hg => ?_, fun b hb => (b2 b (by omega)).trans (b1 b hb), by omega⟩
   ·rcases n1 b hs with h | h
    ·exact h
    ·omega
   ·rcases n2 g hg with h | h
    ·exact n1 g h
    ·exact .inr (Nat.le_trans t1.size h)
theorem lookV_map {g : Nat → AV} {i : Nat} : ∀ {l : List Nat}, lookV i (l.map fun n => (n, g n)) = g i ∨ lookV i (l.map fun n => (n, g n)) = .undef
 | [] => .inr rfl
 | m :: l => by
  simp only [List.map_cons, lookV]
  cases hb : Nat.beq m i with
  | true => rw [beq_eq hb]; exact .inl rfl
  | false => exact lookV_map
theorem tidy_get (id : Nat) (s : St) (i : Nat) : (tidy P fh f id s).get i = (norm1 P s (s.get i).1, 0) ∨ (tidy P fh f id s).get i = (.undef, 0) := by
 have : (tidy P fh f id s).get i = (lookV i ((liveOf id (fh f).live).map fun n => (n, norm1 P s (s.get n).1)), 0) := rfl
 rw [this]
 rcases lookV_map (g := fun n => norm1 P s (s.get n).1) (i := i) (l := liveOf id (fh f).live) with h | h
 ·exact .inl (by rw [h])
 ·exact .inr (by rw [h])
theorem Sim.tidy (S : Sim P n s a w F β O) {id : Nat} : Sim P n (Vai.tidy P fh f id s) a w F β O := by
 refine ⟨S.size, S.defers, fun i hi => ?_, fun i u hu => ?_, S.heap, S.olt⟩
 ·rcases tidy_get (P := P) (fh := fh) (f := f) id s i with h | h
  ·rw [h, S.out i hi]; rfl
  ·rw [h]
 ·show relS P w F β s.H.length O (Vai.tidy P fh f id s) a i _ u
  rcases tidy_get (P := P) (fh := fh) (f := f) id s i with h | h
  ·rw [h]
   have r := S.slots i u hu
   revert r
   cases hv : (s.get i).1 with
   | ref p ver =>
    intro r
    simp only [norm1]
    split
    ·rename_i e l hc
     have : (share P (.ref p ver)).run s = some (.sl (sizeT P e) l) := by
      simp only [share]
      rw [Q.run_bind, hc]
      rfl
     exact (share_sound S r this).1
    ·simp only [relS, relF]
   | lptr m ver off => intro _; simp only [norm1, relS, relF]
   | eaddr p ver sz j off => intro _; simp only [norm1, relS, relF]
   | cap o e l => exact fun r => r
   | box l => exact fun r => r
   | _ => exact fun r => r
  ·rw [h]
   simp only [relS, relF]
def exOf : Ex → Exit
 | .norm => .normal
 | .exit id => .exit id
 | .ret => .ret
def Post (P : Program) (n : Nat) (s : St) (w : World) (F : Nat → Nat) (β : Nat → Nat) (O : Nat → Option Own) (r : Ex × St) (e : Exit) (a' : Act) (w' : World) : Prop := e = exOf r.1 ∧ Nxt P n s w F β O r.2 a' w'
theorem Nxt.post {s1 : St} {a1 : Act} {w1 : World} {F1 β1 O1} {r : Ex × St} (N : Sim P n s1 a1 w1 F1 β1 O1 ∧ Step w F w1 F1 (fun g => (O g).isSome) ∧ (∀ g, (O1 g).isSome → (O g).isSome ∨ w.heap.size ≤ g) ∧ (∀ b, b < s.H.length → β1 b = β b) ∧ s.H.length ≤ s1.H.length)
  {e : Exit} {a2 : Act} {w2 : World} (h : Post P n s1 w1 F1 β1 O1 r e a2 w2) : Post P n s w F β O r e a2 w2 := by
 obtain ⟨S1, t1, n1, b1, l1⟩ := N
 obtain ⟨he, F2, β2, O2, S2, t2, n2, b2, l2⟩ := h
 refine ⟨he, F2, β2, O2, S2, t1.trans t2 (fun b hb hs => ?_), fun g hg => ?_, fun b hb => (b2 b (by omega)).trans (b1 b hb), by omega⟩
 ·rcases n1 b hs with h | h
  ·exact h
  ·omega
 ·rcases n2 g hg with h | h
  ·exact n1 g h
  ·exact .inr (Nat.le_trans t1.size h)
end
end Go.Vai
