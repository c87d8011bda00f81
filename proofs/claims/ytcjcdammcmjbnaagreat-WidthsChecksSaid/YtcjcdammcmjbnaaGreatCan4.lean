/- Rows of ranges: merged, counted, searched, turned round; plain laws. -/
import Derived.Test.YtcjcdammcmjbnaaGreatCan3
namespace Go.Vai
def InS (l : List Rg) (c : Int) : Prop := inR l c = true
theorem InS_iff {l : List Rg} {c : Int} : InS l c ↔ ∃ r ∈ l, r.1 ≤ c ∧ c ≤ r.2 := inR_iff
theorem InS_nil {c : Int} : InS [] c ↔ False := by simp [InS_iff]
theorem InS_app {l m : List Rg} {c : Int} : InS (l ++ m) c ↔ InS l c ∨ InS m c := by
 unfold InS
 rw [inR_app, Bool.or_eq_true]
theorem InS_one {r : Rg} {c : Int} : InS [r] c ↔ r.1 ≤ c ∧ c ≤ r.2 := by simp [InS_iff]
theorem take_next {α : Type} {l : List α} {i : Nat} {p : α} (h : l[i]? = some p) : l.take (i + 1) = l.take i ++ [p] := by
 obtain ⟨hi, e⟩ := List.getElem?_eq_some_iff.1 h
 rw [List.take_succ_eq_append_getElem hi, e]
theorem drop_next {α : Type} {l : List α} {i : Nat} {p : α} (h : l[i]? = some p) : l.drop i = p :: l.drop (i + 1) := by
 obtain ⟨hi, e⟩ := List.getElem?_eq_some_iff.1 h
 rw [List.drop_eq_getElem_cons hi, e]
theorem InS_take {l : List Rg} {i : Nat} {p : Rg} (h : l[i]? = some p) {c : Int} : InS (l.take (i + 1)) c ↔ InS (l.take i) c ∨ (p.1 ≤ c ∧ c ≤ p.2) := by
 rw [take_next h, InS_app, InS_one]
theorem Can.eq {l m : List Rg} {a b : Int} (h : Can a l) (k : Can b m) (e : ∀ c, InS l c ↔ InS m c) : l = m :=
 Can.unique h k fun c => by
  rw [Bool.eq_iff_iff]
  exact e c
def addM : List Rg → Rg → List Rg
 | [], z => [z]
 | [q], z => if z.1 ≤ q.2 + 1 then [(q.1, max q.2 z.2)] else [q, z]
 | q :: r, z => q :: addM r z
def mergeG : List Rg → List Rg → List Rg
 | out, [] => out
 | out, z :: r => mergeG (addM out z) r
def cntR : List Rg → Int
 | [] => 0
 | r :: l => r.2 - r.1 + 1 + cntR l
theorem Can.low : ∀ {l : List Rg} {b : Int} {p : Rg}, Can b l → p ∈ l → b < p.1 ∧ p.1 ≤ p.2
 | r :: l, b, p, h, hp => by
  obtain ⟨h1, h2, h3⟩ := h
  rcases List.mem_cons.1 hp with rfl | hp
  ·exact ⟨h1, h2⟩
  ·have := h3.low hp
   exact ⟨by omega, this.2⟩
theorem Can.up : ∀ {l : List Rg} {b : Int} {i j : Nat} {p q : Rg}, Can b l → i < j → l[i]? = some p → l[j]? = some q → p.2 + 1 < q.1
 | [], _, i, _, _, _, _, _, h, _ => by simp at h
 | r :: l, b, 0, j + 1, p, q, h, _, hi, hj => by
  simp at hi hj
  subst hi
  exact (h.2.2.low (List.mem_of_getElem? hj)).1
 | r :: l, b, i + 1, j + 1, p, q, h, hij, hi, hj => by
  simp at hi hj
  exact h.2.2.up (by omega) hi hj
 | _ :: _, _, _, 0, _, _, _, h, _, _ => by omega
theorem putL_at : ∀ {l : List Int} {k : Nat} {n : Int}, (∀ j v, l[j]? = some v → j < k → v < n) → k ≤ l.length → (∀ v, l[k]? = some v → n ≤ v) →
  putL n l = if l[k]? = some n then l else l.take k ++ [n] ++ l.drop k
 | [], 0, n, _, _, _ => by simp [putL]
 | [], k + 1, n, _, h, _ => by simp at h
 | x :: l, 0, n, _, _, h => by
  have h := h x rfl
  unfold putL
  rw [if_neg (by omega)]
  by_cases hx : x = n
  ·simp [hx]
  ·simp [hx]
 | x :: l, k + 1, n, h, hk, h2 => by
  have h3 := h 0 x rfl (by omega)
  unfold putL
  rw [if_pos h3, putL_at (k := k) (fun j v hj hjk => h (j + 1) v (by simpa using hj) (by omega)) (by simpa using hk) (fun v hv => h2 v (by simpa using hv))]
  simp only [List.getElem?_cons_succ]
  split
  ·rfl
  ·simp
end Go.Vai
