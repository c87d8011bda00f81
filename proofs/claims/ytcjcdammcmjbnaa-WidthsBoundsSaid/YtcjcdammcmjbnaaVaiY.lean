/- The interpreter with values that are not known: functions; the walk of a law. -/
import Derived.Test.YtcjcdammcmjbnaaVaiX
import Derived.Below
namespace Go.Vai
section
variable {P : Program} {fh : FuncId → FH} {f : FuncId} {E : FuncId → List AV → HH → AV → HH → Prop} {call : Nat → FuncId → List AV → HH → Option (AV × HH)}
def leaveS (H : HH) (r : AV) (H' : HH) (hs : List Hint) (C : Prop) : Option ((AV × HH) × List Hint × Prop) :=
 match decS (Nat.beq H'.length H.length) hs C with
 | some (true, hs, C) => some ((r, H'), hs, C)
 | some (false, hs, C) => (match r with
  | .hsl b off sz len cap => (match leaveA H (.hsl b off sz len cap) H' with | some p => some (p, hs, C) | none => none)
  | r => (match decS (np r && (H'.take H.length).all npL && Nat.ble H.length H'.length) hs C with
   | some (true, hs, C) => some ((r, H'.take H.length), hs, C)
   | _ => none))
 | none => none
theorem leaveS_sound {H H' H2 : HH} {r v : AV} {hs hs' : List Hint} {C C' : Prop} (h : leaveS H r H' hs C = some ((v, H2), hs', C')) (hC : C') : C ∧ leaveA H r H' = some (v, H2) := by
 unfold leaveS at h
 split at h
 ·rename_i hs1 C1 hd
  injection h with h
  injection h with h1 h
  injection h with h2 h3
  injection h1 with h0 h1
  subst h0 h1 h2 h3
  obtain ⟨q1, q2⟩ := decS_sound hd hC
  exact ⟨q1, by unfold leaveA; rw [if_pos q2]⟩
 ·rename_i hs1 C1 hd
  split at h
  ·split at h
   ·rename_i p hp
    injection h with h
    injection h with h1 h
    injection h with h2 h3
    subst h2 h3
    obtain ⟨q3, _⟩ := decS_sound hd hC
    exact ⟨q3, by rw [hp, h1]⟩
   ·cases h
  ·rename_i hne
   split at h
   ·rename_i hs2 C2 hd2
    injection h with h
    injection h with h1 h
    injection h with h2 h3
    injection h1 with h0 h1
    subst h0 h1 h2 h3
    obtain ⟨q1, q2⟩ := decS_sound hd2 hC
    obtain ⟨q3, q4⟩ := decS_sound hd q1
    refine ⟨q3, ?_⟩
    unfold leaveA
    rw [if_neg (by rw [q4]; simp)]
    split
    ·rename_i b off sz len cap
     exact (hne b off sz len cap rfl).elim
    ·rw [if_pos q2]
   ·cases h
 ·cases h
variable (E call P fh) in
def bodyS (f : FuncId) (args : List AV) (H : HH) (hs : List Hint) : Option ((AV × HH) × List Hint × Prop) :=
 match P.funcs[f]? with
 | some fn =>
  match fn.body with
  | some c =>
   if Nat.beq args.length (fn.params.size + fn.nfree) && Nat.ble args.length fn.ntmps && (fh f).keep.all (fun n => Nat.blt n fn.ntmps) && !(fn.name == "runtime.NumGoroutine") then
    match execS E call P fh f fn.ntmps c ⟨[], (fh f).keep.map fun n => (n, args.getD n .undef), H, 0⟩ hs True with
    | some ((.exit _, _), _, _) => none
    | some ((_, s), hs, C) =>
     (match fn.results.toList with
     | [r] => (match resA P fh f s r with | some (v, s) => leaveS H v s.H hs C | none => none)
     | rs => (match resAll P (fun g => { fh g with capRes := false }) f s rs with | some (vs, s) => leaveS H (.tup vs) s.H hs C | none => none))
    | none => none
   else none
  | none => none
 | none => none
theorem bodyS_sound (hE : ∀ g vs H r H', E g vs H r H' → Comes call g vs H r H') {args : List AV} {H H' : HH} {r : AV} {hs hs' : List Hint} {C : Prop} (h : bodyS P fh E call f args H hs = some ((r, H'), hs', C)) (hC : C) :
  ∃ N, ∀ k, N ≤ k → bodyA P fh k (call k) f args H = some (r, H') := by
 unfold bodyS at h
 cases hf : P.funcs[f]? with
 | none => rw [hf] at h; cases h
 | some fn =>
  rw [hf] at h
  simp only [] at h
  cases hb : fn.body with
  | none => rw [hb] at h; cases h
  | some c =>
   rw [hb] at h
   simp only [] at h
   split at h
   ·rename_i hc
    cases hx : execS E call P fh f fn.ntmps c ⟨[], (fh f).keep.map fun n => (n, args.getD n .undef), H, 0⟩ hs True with
    | none => rw [hx] at h; cases h
    | some p =>
     obtain ⟨⟨e, s1⟩, hs1, C1⟩ := p
     rw [hx] at h
     have fin : (match fn.results.toList with
       | [r] => (match resA P fh f s1 r with | some (v, s) => leaveS H v s.H hs1 C1 | none => none)
       | rs => (match resAll P (fun g => { fh g with capRes := false }) f s1 rs with | some (vs, s) => leaveS H (.tup vs) s.H hs1 C1 | none => none)) = some ((r, H'), hs', C) →
       C1 ∧ (match fn.results.toList with
       | [r] => (match resA P fh f s1 r with | some (v, s) => leaveA H v s.H | none => none)
       | rs => (match resAll P (fun g => { fh g with capRes := false }) f s1 rs with | some (vs, s) => leaveA H (.tup vs) s.H | none => none)) = some (r, H') := fun h => by
      split at h
      ·rename_i x hrs
       cases hr : resA P fh f s1 x with
       | none => rw [hr] at h; cases h
       | some p =>
        obtain ⟨v, s2⟩ := p
        rw [hr] at h
        exact leaveS_sound h hC
      ·cases hr : resAll P (fun g => { fh g with capRes := false }) f s1 fn.results.toList with
       | none => rw [hr] at h; cases h
       | some p =>
        obtain ⟨v, s2⟩ := p
        rw [hr] at h
        exact leaveS_sound h hC
     cases e with
     | exit id => cases h
     | norm =>
      obtain ⟨q1, q2⟩ := fin h
      obtain ⟨_, N, q3⟩ := execS_sound hE hx q1
      refine ⟨N, fun k hk => ?_⟩
      unfold bodyA
      rw [hf]
      simp only [hb]
      rw [if_pos hc, q3 k k hk hk]
      exact q2
     | ret =>
      obtain ⟨q1, q2⟩ := fin h
      obtain ⟨_, N, q3⟩ := execS_sound hE hx q1
      refine ⟨N, fun k hk => ?_⟩
      unfold bodyA
      rw [hf]
      simp only [hb]
      rw [if_pos hc, q3 k k hk hk]
      exact q2
   ·cases h
abbrev Ans (P : Program) (fh : FuncId → FH) (ext : FuncId → Option (List AV → HH → Option (AV × HH))) : FuncId → List AV → HH → AV → HH → Prop := Comes (run P fh ext)
theorem Ans.body {ext : FuncId → Option (List AV → HH → Option (AV × HH))} (hx : ext f = none) {args : List AV} {H H' : HH} {r : AV} {hs : List Hint} {C : Prop} (h : bodyS P fh (Ans P fh ext) (run P fh ext) f args H hs = some ((r, H'), [], C)) (hC : C) : Ans P fh ext f args H r H' := by
 obtain ⟨N, hN⟩ := bodyS_sound (fun _ _ _ _ _ h => h) h hC
 refine ⟨N + 1, fun k hk => ?_⟩
 cases k with
 | zero => omega
 | succ k =>
  simp only [run, hx]
  exact hN k (by omega)
theorem law_calls {ext : FuncId → Option (List AV → HH → Option (AV × HH))} (hf : f < 1000000) (hext : GoodX P ext) {vs : List AV} (h : Ans P fh ext f vs [] (.sc (.bool true)) []) {w : World} {us : List Value} {F β : Nat → Nat} (hE : Entry P w F β (fun _ => none) vs us []) :
  Calls P f us.toArray w fun e w' => e = .returned (.bool true) ∧ Go.RowKit.Below w.heap.size w w' := by
 obtain ⟨N, hN⟩ := h
 have G := run_sound (fh := fh) hext N
 refine Calls.mono (G.does hf (hN N (Nat.le_refl _)) hE) ?_
 rintro e w' ⟨v, F', O', rfl, B⟩
 obtain ⟨t, hr⟩ := B.res
 have hv : v = .bool true := by
  have : relF w' F' β ([] : HH).length (.sc (.bool true)) v := hr
  simp only [relF] at this
  exact this.1
 subst hv
 exact ⟨rfl, B.step.os, B.step.tape, B.step.output, B.step.size, fun k hk => (B.step.block k hk (by simp)).1⟩
end
end Go.Vai
