/- Arguments that lie in memory, as the interpreter's values. -/
import Derived.Test.YtcjcdammcmjbnaaGreatVaiW
import Derived.Deep.Slices
namespace Go.Vai
def frameOf (w : World) (b : Nat) : Nat := match w.heap[b]? with | some (.cells c _ _) => c.size | _ => 0
theorem frameOf_lt {w : World} {a : Addr} {u : Value} (h : w.cell? a = some u) : a.off < frameOf w a.block := by
 unfold World.cell? at h
 unfold frameOf
 split at h
 ·rename_i c _ _ hc
  rw [hc]
  split at h
  ·cases h
  ·exact (Array.getElem?_eq_some_iff.1 h).1
 ·cases h
theorem cell_spot {w : World} {a : Addr} {u : Value} (h : w.cell? a = some u) : a.spot = none := by
 unfold World.cell? at h
 split at h
 ·split at h
  ·cases h
  ·rename_i hs
   simpa using hs
 ·cases h
theorem add_eq {a : Addr} {n : Nat} (h : (a.add n).spot = none) : a.add n = ⟨a.block, a.off + n, none⟩ := by
 unfold Addr.add at h ⊢
 split
 ·rename_i hn
  subst hn
  rw [if_pos rfl] at h
  cases a
  simp_all
 ·rfl
theorem add_add (a : Addr) (m n : Nat) : (a.add m).add n = a.add (m + n) := by
 unfold Addr.add
 by_cases hm : m = 0 <;> by_cases hn : n = 0 <;> simp [hm, hn, Nat.add_assoc]
theorem memAt_row {w : World} {A : Addr} {cs : List Value} (h : ∀ j u, cs[j]? = some u → w.cell? (A.add j) = some u) : memAt w (frameOf w) (some A) cs := by
 cases cs with
 | nil => exact .inl rfl
 | cons x r =>
  have h0 := h 0 x rfl
  have hs : A.spot = none := cell_spot (a := A) (by simpa [Addr.add] using h0)
  refine .inr ⟨A.block, A.off, ?_, fun j u hj => ?_⟩
  ·cases A; simp_all
  ·have h1 := h j u hj
   have h2 := add_eq (cell_spot h1)
   rw [h2] at h1
   exact ⟨h1, frameOf_lt (a := ⟨A.block, A.off + j, none⟩) h1⟩
section
variable {H : Type} {enc : TypeId × Value → H} {P : Program} {w : World} {β : Nat → Nat} {h : Nat}
theorem rows_pick {F : Nat → Nat} {sz : Nat} {c : Nat → List Value} {x : Nat → AV} : ∀ (n : Nat) (k : Nat), (∀ i, k ≤ i → i < k + n → (c i).length = sz ∧ itemR w F β h (x i) (c i)) → rowsR w F β h sz ((List.range' k n).map x) ((List.range' k n).flatMap c)
 | 0, _, _ => by simp [rowsR]
 | n + 1, k, hi => by
  simp only [List.range'_succ, List.map_cons, List.flatMap_cons, rowsR]
  exact ⟨c k, _, rfl, (hi k (Nat.le_refl _) (by omega)).1, (hi k (Nat.le_refl _) (by omega)).2, rows_pick n (k + 1) (fun i h1 h2 => hi i (by omega) (by omega))⟩
theorem flat_at {sz : Nat} {c : Nat → List Value} : ∀ (n k : Nat), (∀ i, k ≤ i → i < k + n → (c i).length = sz) → ∀ j u, ((List.range' k n).flatMap c)[j]? = some u → ∃ i q, k ≤ i ∧ i < k + n ∧ q < sz ∧ j = (i - k) * sz + q ∧ (c i)[q]? = some u
 | 0, _, _, j, u, h => by simp at h
 | n + 1, k, hl, j, u, h => by
  simp only [List.range'_succ, List.flatMap_cons] at h
  have h0 := hl k (Nat.le_refl _) (by omega)
  by_cases hj : j < sz
  ·rw [List.getElem?_append_left (by omega)] at h
   exact ⟨k, j, Nat.le_refl _, by omega, hj, by simp, h⟩
  ·rw [List.getElem?_append_right (by omega), h0] at h
   obtain ⟨i, q, h1, h2, h3, h4, h5⟩ := flat_at n (k + 1) (fun i h1 h2 => hl i (by omega) (by omega)) _ _ h
   refine ⟨i, q, by omega, by omega, h3, ?_, h5⟩
   have : (i - k) * sz = (i - (k + 1)) * sz + sz := by
    have : i - k = (i - (k + 1)) + 1 := by omega
    rw [this, Nat.add_mul, Nat.one_mul]
   omega
theorem slice_open {t e : TypeId} {fuel : Nat} {cs : List Value} {y : DataW H × List MemPlace} (ht : P.underlying t = some (.slice e)) (T : AV → Prop)
  (hel : ∀ n cs y, fuel = n + 1 → cs.length = P.cellsOf e → DataW.trod enc P w 0 (fun _ => true) true n e cs = some y → ∃ a : AV, T a ∧ itemR w (frameOf w) β h a cs)
  (hy : DataW.trod enc P w 0 (fun _ => true) true fuel t cs = some y) :
  ∃ l A c, cs = [.slice A l.length c] ∧ (∀ a ∈ l, T a) ∧ relF w (frameOf w) β h (.sl (P.cellsOf e) l) (.slice A l.length c) ∧ l.length ≤ maxLen := by
 rcases DataW.trod_slice ht hy with ⟨rfl, _⟩ | ⟨A, len, cap, elems, rest, n, hn, rfl, _, _, hlc, hcm, hlen, hall, _⟩
 ·refine ⟨[], none, 0, rfl, (fun _ h => by cases h), ?_, Nat.zero_le _⟩
  simp only [relF]
  exact ⟨none, 0, [], rfl, Nat.le_refl _, by simp [rowsR], .inl rfl⟩
 ·have key : ∀ i, ∃ c : List Value, ∃ a : AV, i < len → T a ∧ itemR w (frameOf w) β h a c ∧ c.length = P.cellsOf e ∧ ∀ q, q < P.cellsOf e → w.cell? ((A.add (i * P.cellsOf e)).add q) = c[q]? := fun i => by
   by_cases hi : i < len
   ·have h1 := hall i hi
    rw [List.getElem?_eq_getElem (by omega)] at h1
    obtain ⟨c, h2, h3⟩ := Option.bind_eq_some_iff.1 h1
    obtain ⟨_, h4, h5⟩ := World.cells?_some h2
    obtain ⟨a, h6, h7⟩ := hel n c _ hn h4 h3
    exact ⟨c, a, fun _ => ⟨h6, h7, h4, h5⟩⟩
   ·exact ⟨[], .undef, fun h => absurd h hi⟩
  obtain ⟨c, hc⟩ := Classical.axiomOfChoice key
  obtain ⟨x, hx⟩ := Classical.axiomOfChoice hc
  refine ⟨(List.range' 0 len).map x, some A, cap, by simp, fun a ha => ?_, ?_, by simp; omega⟩
  ·obtain ⟨i, hi, rfl⟩ := List.mem_map.1 ha
   exact (hx i (by simp at hi; omega)).1
  ·simp only [relF]
   refine ⟨some A, cap, (List.range' 0 len).flatMap c, rfl, by simpa using hlc, rows_pick len 0 (fun i _ hi => ⟨(hx i (by omega)).2.2.1, (hx i (by omega)).2.1⟩), ?_⟩
   refine memAt_row fun j u hj => ?_
   obtain ⟨i, q, _, hi, hq, rfl, hu⟩ := flat_at len 0 (fun i _ hi => (hx i (by omega)).2.2.1) j u hj
   have h1 := (hx i (by omega)).2.2.2 q hq
   rw [hu] at h1
   rw [add_add] at h1
   simpa using h1
end
end Go.Vai
