/- The interpreter with values that are not known: regions, code, functions. -/
import Derived.Test.YtcjcdammcmjbnaaGreatVaiV
namespace Go.Vai
inductive Hint where
 | ev
 | b (t : Bool)
 | av (v : AV)
 | val (v : Value)
 | res (r : AV) (H : HH)
 | loop (e : Ex) (s : St)
 | num (n : Nat)
section
variable {E : FuncId → List AV → HH → AV → HH → Prop} {call : Nat → FuncId → List AV → HH → Option (AV × HH)} {s : St}
def Comes (call : Nat → FuncId → List AV → HH → Option (AV × HH)) (g : FuncId) (vs : List AV) (H : HH) (r : AV) (H' : HH) : Prop := ∃ N, ∀ k, N ≤ k → call k g vs H = some (r, H')
variable {P : Program} {fh : FuncId → FH} {f : FuncId} {nt : Nat}
theorem stepsT_A {call : FuncId → List AV → HH → Option (AV × HH)} {ops : Array Oper} : ∀ {l : List Oper} {s s' : St} {tr : List (List Nat × List Nat)}, stepsT P fh f call nt ops l s = some (s', tr) → stepsA P fh f call nt ops l s = some s'
 | [], s, s', tr, h => by
  simp only [stepsT] at h
  injection h with h
  injection h with h1 h2
  subst h1
  rfl
 | o :: l, s, s', tr, h => by
  simp only [stepsT] at h
  cases h1 : stepT P fh f call nt ops s o with
  | none => rw [h1] at h; cases h
  | some p =>
   obtain ⟨ws, rd⟩ := p
   rw [h1] at h
   simp only [] at h
   cases h2 : stepsT P fh f call nt ops l (s.apply ws) with
   | none => rw [h2] at h; cases h
   | some q =>
    obtain ⟨s2, tr2⟩ := q
    rw [h2] at h
    injection h with h
    injection h with e1 e2
    subst e1
    simp only [stepsA, stepT_sound h1 (fun x _ => agree.refl _ _), stepsT_A h2]
variable (call P fh f nt) in
def Leads (c : Code) (s : St) (r : Ex × St) : Prop := ∃ N, ∀ k n, N ≤ k → N ≤ n → exec P fh f (call k) nt n c s = some r
variable (call P fh f nt) in
def Rounds (c : Code) (s : St) (r : Ex × St) : Prop := ∃ N, ∀ k n m, N ≤ k → N ≤ n → N ≤ m → iterA (exec P fh f (call k) nt n c) m s = some r
theorem Rounds.next {c : Code} {s s1 : St} {r : Ex × St} (h : Leads call P fh f nt c s (.norm, s1)) (k : Rounds call P fh f nt c s1 r) : Rounds call P fh f nt c s r := by
 obtain ⟨N1, h1⟩ := h
 obtain ⟨N2, h2⟩ := k
 refine ⟨max N1 N2 + 1, fun k n m hk hn hm => ?_⟩
 cases m with
 | zero => omega
 | succ m =>
  simp only [iterA, h1 k n (by omega) (by omega)]
  exact h2 k n m (by omega) (by omega) (by omega)
theorem Rounds.last {c : Code} {s s1 : St} {e : Ex} (he : e ≠ .norm) (h : Leads call P fh f nt c s (e, s1)) : Rounds call P fh f nt c s (e, s1) := by
 obtain ⟨N1, h1⟩ := h
 refine ⟨N1 + 1, fun k n m hk hn hm => ?_⟩
 cases m with
 | zero => omega
 | succ m =>
  simp only [iterA, h1 k n (by omega) (by omega)]
  cases e <;> first | rfl | exact absurd rfl he
theorem Rounds.leads {c : Code} {s : St} {r : Ex × St} (h : Rounds call P fh f nt c s r) : Leads call P fh f nt (.loop c) s r := by
 obtain ⟨N1, h1⟩ := h
 exact ⟨N1, fun k n hk hn => h1 k n n hk hn hn⟩
end
end Go.Vai
