/- Rows of ranges: merged, counted, searched, turned round; plain laws. -/
import Derived.Test.YtkocppnbipjiiaaCan3
namespace Go.Vai
/-- Is a number in a row? -/
def InS (l : List Rg) (c : Int) : Prop := inR l c = true
theorem InS_iff {l : List Rg} {c : Int} : InS l c ↔ ∃ r ∈ l, r.1 ≤ c ∧ c ≤ r.2 := inR_iff
theorem InS_nil {c : Int} : InS [] c ↔ False := by simp [InS_iff]
theorem InS_app {l m : List Rg} {c : Int} : InS (l ++ m) c ↔ InS l c ∨ InS m c := by
  unfold InS
  rw [inR_app, Bool.or_eq_true]
theorem InS_one {r : Rg} {c : Int} : InS [r] c ↔ r.1 ≤ c ∧ c ≤ r.2 := by simp [InS_iff]
theorem InS_cons {r : Rg} {l : List Rg} {c : Int} : InS (r :: l) c ↔ (r.1 ≤ c ∧ c ≤ r.2) ∨ InS l c := by
  unfold InS
  rw [inR_cons]
  simp
theorem take_next {α : Type} {l : List α} {i : Nat} {p : α} (h : l[i]? = some p) : l.take (i + 1) = l.take i ++ [p] := by
  obtain ⟨hi, e⟩ := List.getElem?_eq_some_iff.1 h
  rw [List.take_succ_eq_append_getElem hi, e]
theorem drop_next {α : Type} {l : List α} {i : Nat} {p : α} (h : l[i]? = some p) : l.drop i = p :: l.drop (i + 1) := by
  obtain ⟨hi, e⟩ := List.getElem?_eq_some_iff.1 h
  rw [List.drop_eq_getElem_cons hi, e]
theorem InS_take {l : List Rg} {i : Nat} {p : Rg} (h : l[i]? = some p) {c : Int} : InS (l.take (i + 1)) c ↔ InS (l.take i) c ∨ (p.1 ≤ c ∧ c ≤ p.2) := by
  rw [take_next h, InS_app, InS_one]
theorem Can.eq {l m : List Rg} {a b : Int} (h : Can a l) (k : Can b m) (e : ∀ c, InS l c ↔ InS m c) : l = m :=
  Can.unique h k fun c => by
    rw [Bool.eq_iff_iff]
    exact e c
/-! ### merged -/
def addM : List Rg → Rg → List Rg
  | [], z => [z]
  | [q], z => if z.1 ≤ q.2 + 1 then [(q.1, max q.2 z.2)] else [q, z]
  | q :: r, z => q :: addM r z
def mergeG : List Rg → List Rg → List Rg
  | out, [] => out
  | out, z :: r => mergeG (addM out z) r
theorem addM_set : ∀ {out : List Rg} {z q : Rg}, out[out.length - 1]? = some q → z.1 ≤ q.2 + 1 → addM out z = out.set (out.length - 1) (q.1, max q.2 z.2)
  | [], _, _, h, _ => by simp at h
  | [q'], z, q, h, hz => by
    simp at h
    subst h
    simp [addM, hz]
  | q' :: r :: l, z, q, h, hz => by
    show q' :: addM (r :: l) z = _
    rw [addM_set (q := q) (by simpa using h) hz]
    simp
theorem addM_app : ∀ {out : List Rg} {z q : Rg}, out[out.length - 1]? = some q → ¬ z.1 ≤ q.2 + 1 → addM out z = out ++ [z]
  | [], _, _, h, _ => by simp at h
  | [q'], z, q, h, hz => by
    simp at h
    subst h
    simp [addM, hz]
  | q' :: r :: l, z, q, h, hz => by
    show q' :: addM (r :: l) z = _
    rw [addM_app (q := q) (by simpa using h) hz]
    rfl
theorem addM_nil (z : Rg) : addM [] z = [z] := rfl
theorem addM_ok : ∀ {out : List Rg} {b : Int} {z : Rg}, Can b out → (∀ q ∈ out, q.1 ≤ z.1) → b < z.1 → z.1 ≤ z.2 →
    Can b (addM out z) ∧ (∀ c, InS (addM out z) c ↔ InS out c ∨ (z.1 ≤ c ∧ c ≤ z.2)) ∧ (∀ q ∈ addM out z, q.1 ≤ z.1) ∧ (∀ N : Int, z.2 ≤ N → (∀ q ∈ out, q.2 ≤ N) → ∀ q ∈ addM out z, q.2 ≤ N)
  | [], b, z, _, _, hb, hz => ⟨⟨hb, hz, trivial⟩, fun c => by simp [addM, InS_one, InS_nil], by simp [addM], by simp [addM]⟩
  | [q], b, z, h, hq, hb, hz => by
    obtain ⟨h1, h2, _⟩ := h
    have h3 := hq q (by simp)
    unfold addM
    split
    · refine ⟨⟨h1, by show q.1 ≤ max q.2 z.2; omega, trivial⟩, fun c => ?_, fun q' hq' => by rw [List.mem_singleton] at hq'; subst hq'; exact h3, fun N hN hq q' hq' => ?_⟩
      · rw [InS_one, InS_one]
        simp only
        omega
      · simp at hq'
        subst hq'
        have := hq q (by simp)
        simp
        omega
    · refine ⟨⟨h1, h2, by show q.2 + 1 < z.1; omega, hz, trivial⟩, fun c => ?_, fun q' hq' => by simp at hq'; rcases hq' with rfl | rfl <;> omega, fun N hN hq q' hq' => ?_⟩
      · rw [InS_cons, InS_one, InS_one]
      · simp at hq'
        rcases hq' with rfl | rfl
        · exact hq _ (by simp)
        · exact hN
  | q :: r :: l, b, z, h, hq, hb, hz => by
    obtain ⟨h1, h2, h3⟩ := h
    have h4 : q.2 + 1 < z.1 := by
      have := hq r (by simp)
      obtain ⟨g1, g2, _⟩ := h3
      omega
    obtain ⟨i1, i2, i3, i4⟩ := addM_ok h3 (fun s hs => hq s (by simp [hs])) h4 hz
    refine ⟨⟨h1, h2, i1⟩, fun c => ?_, fun s hs => ?_, fun N hN hq' s hs => ?_⟩
    · show InS (q :: addM (r :: l) z) c ↔ _
      rw [InS_cons, InS_cons, i2, or_assoc]
    · rcases List.mem_cons.1 hs with rfl | hs
      · exact hq _ (by simp)
      · exact i3 s hs
    · rcases List.mem_cons.1 hs with rfl | hs
      · exact hq' _ (by simp)
      · exact i4 N hN (fun t ht => hq' t (by simp [ht])) s hs
theorem mergeG_ok : ∀ {r out : List Rg} {b N : Int}, Can b out → (∀ q ∈ out, q.2 ≤ N) → (∀ q ∈ out, ∀ z ∈ r, q.1 ≤ z.1) → r.Pairwise (fun p q => p.1 ≤ q.1) → (∀ z ∈ r, b < z.1 ∧ z.1 ≤ z.2 ∧ z.2 ≤ N) →
    Can b (mergeG out r) ∧ (∀ c, InS (mergeG out r) c ↔ InS out c ∨ InS r c) ∧ ∀ q ∈ mergeG out r, q.2 ≤ N
  | [], out, b, N, h, hN, _, _, _ => ⟨h, fun c => by simp [mergeG, InS_nil], hN⟩
  | z :: r, out, b, N, h, hN, hq, hp, hz => by
    obtain ⟨p1, p2⟩ := List.pairwise_cons.1 hp
    obtain ⟨z1, z2, z3⟩ := hz z (by simp)
    obtain ⟨a1, a2, a3, a4⟩ := addM_ok h (fun q hq' => hq q hq' z (by simp)) z1 z2
    obtain ⟨m1, m2, m3⟩ := mergeG_ok (r := r) (N := N) a1 (a4 N z3 hN) (fun q hq' y hy => by
      have := a3 q hq'
      have := p1 y hy
      omega) p2 (fun y hy => hz y (by simp [hy]))
    refine ⟨m1, fun c => ?_, m3⟩
    show InS (mergeG (addM out z) r) c ↔ _
    rw [m2, a2, InS_cons, or_assoc]
theorem merge_ok {r : List Rg} {N : Int} (hp : r.Pairwise (fun p q => p.1 ≤ q.1)) (hz : ∀ z ∈ r, 0 ≤ z.1 ∧ z.1 ≤ z.2 ∧ z.2 ≤ N) : Can (-1) (mergeG [] r) ∧ (∀ c, InS (mergeG [] r) c ↔ InS r c) ∧ ∀ q ∈ mergeG [] r, q.2 ≤ N := by
  obtain ⟨h1, h2, h3⟩ := mergeG_ok (r := r) (out := []) (b := -1) (N := N) trivial (by simp) (by simp) hp (fun z h => by
    have := hz z h
    omega)
  exact ⟨h1, fun c => by rw [h2, InS_nil, false_or], h3⟩
theorem InS_perm {l m : List Rg} (h : l.Perm m) {c : Int} : InS l c ↔ InS m c := by
  rw [InS_iff, InS_iff]
  exact ⟨fun ⟨r, h1, h2⟩ => ⟨r, h.mem_iff.1 h1, h2⟩, fun ⟨r, h1, h2⟩ => ⟨r, h.mem_iff.2 h1, h2⟩⟩
/-! ### counted -/
def cntR : List Rg → Int
  | [] => 0
  | r :: l => r.2 - r.1 + 1 + cntR l
theorem cntR_app (l m : List Rg) : cntR (l ++ m) = cntR l + cntR m := by
  induction l with
  | nil => simp [cntR]
  | cons r l ih => simp only [List.cons_append, cntR, ih]; omega
theorem cntR_take {l : List Rg} {i : Nat} {p : Rg} (h : l[i]? = some p) : cntR (l.take (i + 1)) = cntR (l.take i) + (p.2 - p.1 + 1) := by
  rw [take_next h, cntR_app]
  simp [cntR]
theorem cntR_bounds {l : List Rg} {N : Int} (h : ∀ p ∈ l, 0 ≤ p.1 ∧ p.1 ≤ p.2 ∧ p.2 ≤ N) : 0 ≤ cntR l ∧ cntR l ≤ l.length * (N + 1) := by
  induction l with
  | nil => simp [cntR]
  | cons r l ih =>
    obtain ⟨h1, h2⟩ := ih (fun p hp => h p (by simp [hp]))
    obtain ⟨h3, h4, h5⟩ := h r (by simp)
    simp only [cntR, List.length_cons]
    refine ⟨by omega, ?_⟩
    rw [Int.natCast_add, Int.add_mul]
    simp only [Int.natCast_one, Int.one_mul]
    omega
/-! ### in order -/
theorem Can.low : ∀ {l : List Rg} {b : Int} {p : Rg}, Can b l → p ∈ l → b < p.1 ∧ p.1 ≤ p.2
  | r :: l, b, p, h, hp => by
    obtain ⟨h1, h2, h3⟩ := h
    rcases List.mem_cons.1 hp with rfl | hp
    · exact ⟨h1, h2⟩
    · have := h3.low hp
      exact ⟨by omega, this.2⟩
theorem Can.up : ∀ {l : List Rg} {b : Int} {i j : Nat} {p q : Rg}, Can b l → i < j → l[i]? = some p → l[j]? = some q → p.2 + 1 < q.1
  | [], _, i, _, _, _, _, _, h, _ => by simp at h
  | r :: l, b, 0, j + 1, p, q, h, _, hi, hj => by
    simp at hi hj
    subst hi
    exact (h.2.2.low (List.mem_of_getElem? hj)).1
  | r :: l, b, i + 1, j + 1, p, q, h, hij, hi, hj => by
    simp at hi hj
    exact h.2.2.up (by omega) hi hj
  | _ :: _, _, _, 0, _, _, _, h, _, _ => by omega
theorem Can.app1 : ∀ {l : List Rg} {b lo hi : Int}, Can b l → (∀ q ∈ l, q.2 + 1 < lo) → b < lo → lo ≤ hi → Can b (l ++ [(lo, hi)])
  | [], b, lo, hi, _, _, h1, h2 => ⟨h1, h2, trivial⟩
  | r :: l, b, lo, hi, h, hq, h1, h2 => ⟨h.1, h.2.1, h.2.2.app1 (fun q hq' => hq q (by simp [hq'])) (hq r (by simp)) h2⟩
/-- Where a number is, by the first range that doesn't end ahead of it. -/
theorem found {l : List Rg} {b c : Int} {k : Nat} (h : Can b l) (h1 : ∀ j p, l[j]? = some p → j < k → p.2 < c) (h2 : ∀ j p, l[j]? = some p → k ≤ j → c ≤ p.2) : InS l c ↔ ∃ p, l[k]? = some p ∧ p.1 ≤ c := by
  rw [InS_iff]
  constructor
  · rintro ⟨p, hp, h3, h4⟩
    obtain ⟨j, hj⟩ := List.getElem?_of_mem hp
    rcases Nat.lt_trichotomy j k with hjk | hjk | hjk
    · have := h1 j p hj hjk
      omega
    · subst hjk
      exact ⟨p, hj, h3⟩
    · have hlt : k < l.length := by
        have := (List.getElem?_eq_some_iff.1 hj).1
        omega
      have hk := List.getElem?_eq_getElem hlt
      have h5 := h2 k _ hk (Nat.le_refl _)
      have h6 := h.up hjk hk hj
      omega
  · rintro ⟨p, hp, h3⟩
    exact ⟨p, List.mem_of_getElem? hp, h3, h2 k p hp (Nat.le_refl _)⟩
/-! ### a number put among others -/
theorem putL_at : ∀ {l : List Int} {k : Nat} {n : Int}, (∀ j v, l[j]? = some v → j < k → v < n) → k ≤ l.length → (∀ v, l[k]? = some v → n ≤ v) →
    putL n l = if l[k]? = some n then l else l.take k ++ [n] ++ l.drop k
  | [], 0, n, _, _, _ => by simp [putL]
  | [], k + 1, n, _, h, _ => by simp at h
  | x :: l, 0, n, _, _, h => by
    have h := h x rfl
    unfold putL
    rw [if_neg (by omega)]
    by_cases hx : x = n
    · simp [hx]
    · simp [hx]
  | x :: l, k + 1, n, h, hk, h2 => by
    have h3 := h 0 x rfl (by omega)
    unfold putL
    rw [if_pos h3, putL_at (k := k) (fun j v hj hjk => h (j + 1) v (by simpa using hj) (by omega)) (by simpa using hk) (fun v hv => h2 v (by simpa using hv))]
    simp only [List.getElem?_cons_succ]
    split
    · rfl
    · simp
end Go.Vai
