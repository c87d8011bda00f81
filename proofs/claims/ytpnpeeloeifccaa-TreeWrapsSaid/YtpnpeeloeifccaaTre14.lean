/- Trees: the way to the first node of a kind, followed; the law. -/
import Derived.Test.YtpnpeeloeifccaaTre13
namespace Go.Proofs.Ytpnpeeloeifccaa.U
open Go Go.Vai
set_option linter.unusedVariables false
def Nd.kind : Nd → Int
  | .mk k _ _ _ _ _ _ _ _ _ _ _ => k
def Nd.kids : Nd → List Nd
  | .mk _ _ _ _ _ _ _ _ _ _ _ K => K
theorem fnds_none (q : Int) : ∀ (k : List Nd) (i : Int), fnds q k i = none → ∀ (t : Nat) (ht : t < k.length), fnd q k[t] = none
  | [], _, _, t, ht => by simp at ht
  | n :: r, i, h, t, ht => by
    simp only [fnds] at h
    split at h
    · cases h
    · rename_i hn
      cases t with
      | zero => exact hn
      | succ t => simpa using fnds_none q r (i + 1) h t (by simpa using ht)
theorem fnds_some (q : Int) : ∀ (k : List Nd) (i : Int) (p : List Int), fnds q k i = some p → ∃ (j : Nat) (hj : j < k.length) (r : List Int), p = (i + j) :: r ∧ fnd q k[j] = some r ∧ ∀ (t : Nat) (ht : t < k.length), t < j → fnd q k[t] = none
  | [], _, p, h => by simp [fnds] at h
  | n :: r, i, p, h => by
    simp only [fnds] at h
    split at h
    · rename_i p' hp
      injection h with h
      exact ⟨0, by simp, p', by rw [← h]; simp, hp, fun t _ ht => by omega⟩
    · rename_i hn
      obtain ⟨j, hj, r', h1, h2, h3⟩ := fnds_some q r (i + 1) p h
      refine ⟨j + 1, by simpa using hj, r', ?_, by simpa using h2, fun t ht htj => ?_⟩
      · rw [h1]; congr 1; omega
      · cases t with
        | zero => exact hn
        | succ t => simpa using h3 t (by simpa using ht) (by omega)
theorem fnd_kids (q : Int) (n : Nd) (p : List Int) (h : fnd q n = some p) : (p = [] ∧ n.kind = q) ∨ (n.kind ≠ q ∧ ∃ (j : Nat) (hj : j < n.kids.length) (r : List Int), p = (j : Int) :: r ∧ fnd q n.kids[j] = some r ∧ ∀ (t : Nat) (ht : t < n.kids.length), t < j → fnd q n.kids[t] = none) := by
  cases n with
  | mk k a c s g N M m nm on off kids =>
    simp only [fnd] at h
    split at h
    · injection h with h
      exact .inl ⟨h.symm, ‹_›⟩
    · obtain ⟨j, hj, r, h1, h2, h3⟩ := fnds_some q kids 0 p h
      exact .inr ⟨‹_›, j, hj, r, by simpa using h1, h2, h3⟩
theorem kid_sz {n : Nd} {j : Nat} (hj : j < n.kids.length) : sz n.kids[j] < sz n := by
  cases n with
  | mk k a c s g N M m nm on off kids =>
    have := mem_sz (k := kids) (List.getElem_mem (n := j) hj)
    exact Nat.lt_succ_of_le this
theorem kid_ok {n : Nd} (h : n.Ok) {j : Nat} (hj : j < n.kids.length) : n.kids[j].Ok := by
  cases h with
  | mk hs hk h => exact h _ (List.getElem_mem hj)
theorem kids_len {n : Nd} (h : n.Ok) : n.kids.length ≤ 9223372036854775807 := by
  cases h with
  | mk hs hk h => exact hk
section
variable {q k a c : Int} {S : List AV} {g : Bool} {N M m : Int} {nm : ByteArray} {on off : Int} {K : List AV} {p : List Int}
theorem in8 {x : Nd} {k' a' c' : Int} {S' : List AV} {g' : Bool} {N' M' m' : Int} {nm' : ByteArray} {on' off' : Int} (hx : x.Ok) (hz : sz x ≤ 4000) {i : Nat} {j : Nat} (hp : p[i]? = some (j : Int)) (hj : j < x.kids.length) (hn : ∀ (t : Nat) (ht : t < x.kids.length), t < j → fnd q x.kids[t] = none) : ∀ (d t : Nat), t + d = j →
    R 8 1 (s_TreeFirst_8_1 q k a c S g N M m nm on off K (p.map iv) true k' a' c' S' g' N' M' m' nm' on' off' (Nd.avs x.kids) i t) (.exit 2, x_TreeFirst_8_1_1 q k a c S g N M m nm on off K (p.map iv) true k' a' c' S' g' N' M' m' nm' on' off' (Nd.avs x.kids) i j)
  | 0, t, hd => by
    have : t = j := by omega
    subst this
    have hpi : (p.map iv)[((i : Nat) : Int).toNat]? = some (iv (t : Int)) := by simp [hp]
    exact Rounds.last (by simp) (leads (l_TreeFirst_8_1 _ _ _ _ _ _ _ _ _ _ _ _ _ _ _ _ _ _ _ _ _ _ _ _ _ _ _ _ _ _ ⟨by simp, _, hpi, fun h => absurd (dt h) (by omega), fun _ => ⟨rfl, rfl⟩⟩))
  | d + 1, t, hd => by
    have ht : t < x.kids.length := by omega
    have hpi : (p.map iv)[((i : Nat) : Int).toNat]? = some (iv (j : Int)) := by simp [hp]
    have hc := Find_ok x.kids[t] q (kid_ok hx ht) (by have := kid_sz ht; omega)
    rw [hn t ht (by omega)] at hc
    have hg := avs_get x.kids ht
    have hnp : npL [x.kids[t].av, iv q] = true := by simp [npL, np, np_av]
    obtain ⟨k1, a1, c1, s1, g1, N1, M1, m1, nm1, on1, off1, K1, e1, _, _⟩ := av_form x.kids[t]
    rw [e1] at hg hc hnp
    have r := in8 (k' := k') (a' := a') (c' := c') (S' := S') (g' := g') (N' := N') (M' := M') (m' := m') (nm' := nm') (on' := on') (off' := off') hx hz hp hj hn d (t + 1) (by omega)
    refine Rounds.next (leads (l_TreeFirst_8_1 _ _ _ _ _ _ _ _ _ _ _ _ _ _ _ _ _ _ _ _ _ _ _ _ _ _ _ _ _ _ ⟨by simp, _, hpi, fun _ => ⟨by simp, _, _, _, _, _, _, _, _, _, _, _, _, hg, hnp, _, _, hc, fun h => (by cases h), fun _ => ?_⟩, fun h => absurd (df h) (by omega)⟩)) r
    rw [next_i ht (kids_len hx)]; exact ⟨rfl, rfl⟩
theorem out8 (hp : p.length ≤ 1000000) : ∀ (d i : Nat) (x : Nd), i + d = p.length → x.Ok → sz x ≤ 4000 → fnd q x = some (p.drop i) → ∀ {a' c' : Int} {S' : List AV} {g' : Bool} {N' M' m' : Int} {nm' : ByteArray} {on' off' : Int}, x.av = nd x.kind a' c' S' g' N' M' m' nm' on' off' (Nd.avs x.kids) →
    ∃ (a'' c'' : Int) (S'' : List AV) (g'' : Bool) (N'' M'' m'' : Int) (nm'' : ByteArray) (on'' off'' : Int) (K'' : List AV) (j : Int), R 8 0 (s_TreeFirst_8_0 q k a c S g N M m nm on off K (p.map iv) true x.kind a' c' S' g' N' M' m' nm' on' off' (Nd.avs x.kids) i) (.exit 0, x_TreeFirst_8_0_1 q k a c S g N M m nm on off K (p.map iv) true q a'' c'' S'' g'' N'' M'' m'' nm'' on'' off'' K'' j)
  | 0, i, x, hd, hx, hz, hf, a', c', S', g', N', M', m', nm', on', off', _ => by
    rw [List.drop_eq_nil_of_le (by omega)] at hf
    rcases fnd_kids q x [] hf with ⟨_, hk⟩ | ⟨_, j, hj, r, h1, _⟩
    · rw [hk]
      exact ⟨_, _, _, _, _, _, _, _, _, _, _, _, Rounds.last (by simp) (leads (l_TreeFirst_8_0 _ _ _ _ _ _ _ _ _ _ _ _ _ _ _ _ _ _ _ _ _ _ _ _ _ _ _ _ _ ⟨fun h => absurd (dt h) (by simp; omega), fun _ => ⟨rfl, rfl⟩⟩))⟩
    · cases h1
  | d + 1, i, x, hd, hx, hz, hf, a', c', S', g', N', M', m', nm', on', off', he => by
    have hi : i < p.length := by omega
    rcases fnd_kids q x _ hf with ⟨h1, _⟩ | ⟨hne, j, hj, r, h1, h2, h3⟩
    · have : (p.drop i).length = 0 := by rw [h1]; rfl
      simp at this; omega
    · rw [drop_at hi] at h1
      injection h1 with h1 h4
      have hpi : p[i]? = some (j : Int) := by rw [List.getElem?_eq_getElem hi, h1]
      have hpm : (p.map iv)[((i : Nat) : Int).toNat]? = some (iv (j : Int)) := by simp [hpi]
      have hin := in8 (q := q) (k := k) (a := a) (c := c) (S := S) (g := g) (N := N) (M := M) (m := m) (nm := nm) (on := on) (off := off) (K := K) (k' := x.kind) (a' := a') (c' := c') (S' := S') (g' := g') (N' := N') (M' := M') (m' := m') (nm' := nm') (on' := on') (off' := off') hx hz hpi hj h3 j 0 (by omega)
      have hg := avs_get x.kids hj
      have hy : ∃ (a1 c1 : Int) (S1 : List AV) (g1 : Bool) (N1 M1 m1 : Int) (nm1 : ByteArray) (on1 off1 : Int), x.kids[j].av = nd x.kids[j].kind a1 c1 S1 g1 N1 M1 m1 nm1 on1 off1 (Nd.avs x.kids[j].kids) := by
        generalize x.kids[j] = y
        cases y with
        | mk k a c s g N M m nm on off kids => exact ⟨a, c, _, g, N, M, m, nm, on, off, rfl⟩
      obtain ⟨a1, c1, S1, g1, N1, M1, m1, nm1, on1, off1, e1⟩ := hy
      obtain ⟨a2, c2, S2, g2, N2, M2, m2, nm2, on2, off2, K2, j2, r2⟩ := out8 hp d (i + 1) x.kids[j] (by omega) (kid_ok hx hj) (by have := kid_sz hj; omega) (by rw [h2, ← h4]) e1
      refine ⟨a2, c2, S2, g2, N2, M2, m2, nm2, on2, off2, K2, j2, Rounds.next (leads (l_TreeFirst_8_0 _ _ _ _ _ _ _ _ _ _ _ _ _ _ _ _ _ _ _ _ _ _ _ _ _ _ _ _ _ ⟨fun _ => ⟨fun h => (by cases h), fun _ => ⟨by simp, _, hpm, fun h => absurd (dt h) (by omega), fun _ => ⟨by simp, _, hpm, fun h => ?_, fun _ => ⟨fun h => absurd (by simpa using h) hne, fun _ => .inr ⟨_, _, _, _, _, _, _, _, _, _, _, _, _, _, _, _, _, _, _, _, _, _, _, _, _, _, _, _, _, hin, by simp, _, hpm, by simp, ?_⟩⟩⟩⟩⟩, fun h => ?_⟩)) r2⟩
      · have := dt h; rw [avs_len] at this; omega
      · rw [e1] at hg
        refine ⟨_, _, _, _, _, _, _, _, _, _, _, _, by simpa using hg, ?_⟩
        rw [next_i hi (by omega)]; exact ⟨rfl, rfl⟩
      · have := df h; simp at this; omega
theorem last8 {kids : List Nd} (hk : kids.length ≤ 9223372036854775807) (hok : ∀ n ∈ kids, n.Ok ∧ sz n ≤ 4000) (hn : ∀ (t : Nat) (ht : t < kids.length), fnd q kids[t] = none) : ∀ (d i : Nat), i + d = kids.length →
    ∃ j : Int, R 8 2 (s_TreeFirst_8_2 q k a c S g N M m nm on off (Nd.avs kids) (p.map iv) i) (.exit 4, x_TreeFirst_8_2_1 q k a c S g N M m nm on off (Nd.avs kids) (p.map iv) j)
  | 0, i, hd => ⟨_, Rounds.last (by simp) (leads (l_TreeFirst_8_2 _ _ _ _ _ _ _ _ _ _ _ _ _ _ _ _ ⟨fun h => absurd (dt h) (by rw [avs_len]; omega), fun _ => ⟨rfl, rfl⟩⟩))⟩
  | d + 1, i, hd => by
    have hi : i < kids.length := by omega
    obtain ⟨j, r⟩ := last8 hk hok hn d (i + 1) (by omega)
    have hm := hok kids[i] (List.getElem_mem hi)
    have hc := Find_ok kids[i] q hm.1 hm.2
    rw [hn i hi] at hc
    have hg := avs_get kids hi
    have hnp : npL [kids[i].av, iv q] = true := by simp [npL, np, np_av]
    obtain ⟨k1, a1, c1, s1, g1, N1, M1, m1, nm1, on1, off1, K1, e1, _, _⟩ := av_form kids[i]
    rw [e1] at hg hc hnp
    refine ⟨j, Rounds.next (leads (l_TreeFirst_8_2 _ _ _ _ _ _ _ _ _ _ _ _ _ _ _ _ ⟨fun _ => ⟨by simp, _, _, _, _, _, _, _, _, _, _, _, _, hg, hnp, _, _, hc, fun h => (by cases h), fun _ => ?_⟩, fun h => absurd hi (len_i h)⟩)) r⟩
    rw [next_i hi hk]; exact ⟨rfl, rfl⟩
end
theorem firsts (n : Nd) (q : Int) (h : n.Ok) : A 8 [n.av, iv q] [] (bv true) [] := by
  have a1 := Small_ok n h
  rw [small_sz] at a1
  have a2 := Check_ok n h
  have a3 := fun hs => Find_ok n q h hs
  have n1 := np_one n
  have n2 : npL [n.av, iv q] = true := by simp [npL, np, np_av]
  cases hf : fnd q n with
  | some p =>
    have hlen := fnd_len q n p hf
    rw [hf] at a3
    cases n with
    | mk k a c s g N M m nm on off kids =>
      refine done (w_TreeFirst _ _ _ _ _ _ _ _ _ _ _ _ _ _ ⟨awake, n1, _, a1, fun h => ⟨rfl, rfl⟩, fun g1 => ⟨n1, _, a2, fun _ => ⟨rfl, rfl⟩, fun _ => ?_⟩⟩)
      have g1 := dt (nf g1)
      obtain ⟨a2', c2, S2, g2, N2, M2, m2, nm2, on2, off2, K2, j2, r2⟩ := out8 (q := q) (k := k) (a := a) (c := c) (S := s.map rg) (g := g) (N := N) (M := M) (m := m) (nm := nm) (on := on) (off := off) (K := Nd.avs kids) (p := p) (by omega) p.length 0 (.mk k a c s g N M m nm on off kids) (by omega) h g1 (by rw [List.drop_zero]; exact hf) (a' := a) (c' := c) (S' := s.map rg) (g' := g) (N' := N) (M' := M) (m' := m) (nm' := nm) (on' := on) (off' := off) rfl
      refine ⟨n2, _, _, a3 g1, .inr ⟨_, _, _, _, _, _, _, _, _, _, _, _, _, _, _, _, _, _, _, _, _, _, _, _, _, _, _, _, r2, fun _ => ⟨?_, rfl⟩, fun h => (by cases h)⟩⟩
      simp
  | none =>
    rw [hf] at a3
    cases n with
    | mk k a c s g N M m nm on off kids =>
      refine done (w_TreeFirst _ _ _ _ _ _ _ _ _ _ _ _ _ _ ⟨awake, n1, _, a1, fun h => ⟨rfl, rfl⟩, fun g1 => ⟨n1, _, a2, fun _ => ⟨rfl, rfl⟩, fun _ => ?_⟩⟩)
      have g1 := dt (nf g1)
      have hkq : k ≠ q ∧ fnds q kids 0 = none := by
        simp only [fnd] at hf
        split at hf
        · cases hf
        · exact ⟨‹_›, hf⟩
      cases h with
      | mk hs hk hok =>
        have g1 : szs kids + 1 ≤ 4000 := g1
        obtain ⟨j, r⟩ := last8 (q := q) (k := k) (a := a) (c := c) (S := s.map rg) (g := g) (N := N) (M := M) (m := m) (nm := nm) (on := on) (off := off) (p := []) hk (fun n hn => ⟨hok n hn, by have := mem_sz hn; omega⟩) (fnds_none q kids 0 hkq.2) kids.length 0 (by omega)
        refine ⟨n2, _, _, a3 g1, .inr ⟨_, _, _, _, _, _, _, _, _, _, _, _, _, _, _, _, _, _, _, _, _, _, _, _, _, _, _, _, Rounds.last (by simp) (leads (l_TreeFirst_8_0 _ _ _ _ _ _ _ _ _ _ _ _ _ _ _ _ _ _ _ _ _ _ _ _ _ _ _ _ _ ⟨fun h => absurd (dt h) (by simp), fun _ => ⟨rfl, rfl⟩⟩)), fun h => (by cases h), fun _ => .inr ⟨_, _, _, _, _, _, _, _, _, _, _, _, _, _, _, r, fun h => ⟨?_, rfl⟩, fun h => ?_⟩⟩⟩
        · simp
        · simp at h; exact absurd h hkq.1
end Go.Proofs.Ytpnpeeloeifccaa.U
