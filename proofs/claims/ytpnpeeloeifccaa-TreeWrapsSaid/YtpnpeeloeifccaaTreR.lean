/- Trees: an argument in memory as a node. -/
import Derived.Test.YtpnpeeloeifccaaTre1
import Derived.Test.YtpnpeeloeifccaaVaiWa
namespace Go.Proofs.Ytpnpeeloeifccaa.U
open Go Go.Vai
section
variable {H : Type} {enc : TypeId × Value → H} {w : World}
theorem sizes : Try.prog.cellsOf 3 = 1 ∧ Try.prog.cellsOf 4 = 1 ∧ Try.prog.cellsOf 9 = 1 ∧ Try.prog.cellsOf 22 = 1 ∧ Try.prog.cellsOf 23 = 1 ∧ Try.prog.cellsOf 25 = 12 ∧ Try.prog.cellsOf 41 = 2 :=
  ⟨by kernel_rfl, by kernel_rfl, by kernel_rfl, by kernel_rfl, by kernel_rfl, by kernel_rfl, by kernel_rfl⟩
theorem fld {n t off i : Nat} {c : Value} {cs r : List Value} {xs : List (DataW H × List MemPlace)} (hs : Try.prog.cellsOf t = 1) (h : DataW.trod enc Try.prog w 0 (fun _ => true) true n t (List.take (Try.prog.cellsOf t) (List.drop off cs)) = xs[i]?) (hc : cs.drop off = c :: r) (hi : i < xs.length) :
    DataW.trod enc Try.prog w 0 (fun _ => true) true n t [c] = some xs[i] := by
  rw [hs, hc, List.getElem?_eq_getElem hi] at h
  exact h
theorem range_open {fuel : Nat} {cs : List Value} {y : DataW H × List MemPlace} (hy : DataW.trod enc Try.prog w 0 (fun _ => true) true fuel 41 cs = some y) : ∃ a : AV, (∃ r, a = rg r) ∧ itemR w (frameOf w) id 0 a cs := by
  obtain ⟨xs, n, _, _, hl, hx, hf⟩ := DataW.trod_struct Try.underlying41 hy
  rw [sizes.2.2.2.2.2.2] at hl
  match cs, hl with
  | [c0, c1], _ =>
    have hx : xs.length = 2 := hx
    have h0 := fld (t := 3) (off := 0) sizes.1 (hf 0 _ rfl) rfl (by omega)
    have h1 := fld (t := 3) (off := 1) sizes.1 (hf 1 _ rfl) rfl (by omega)
    obtain ⟨a, e0, _, _⟩ := DataW.trod_int Try.underlying3 h0
    obtain ⟨b, e1, _, _⟩ := DataW.trod_int Try.underlying3 h1
    injection e0 with e0
    injection e1 with e1
    subst e0 e1
    exact ⟨rg (a, b), ⟨_, rfl⟩, by simp [itemR, rg, cellsR, relF, leaf, isSc]⟩
theorem cells_cons {F : Nat → Nat} {x : AV} {u : Value} {r : List AV} {cs : List Value} (hl : leaf x = true) (hr : relF w F id 0 x u) (h : cellsR w F id 0 r cs) : cellsR w F id 0 (x :: r) (u :: cs) := by
  simp only [cellsR]
  exact ⟨u, cs, rfl, hl, hr, h⟩
theorem rgs_of : ∀ {l : List AV}, (∀ a ∈ l, ∃ r, a = rg r) → ∃ s : List (Int × Int), l = s.map rg
  | [], _ => ⟨[], rfl⟩
  | x :: l, h => by
    obtain ⟨r, hr⟩ := h x (by simp)
    obtain ⟨s, hs⟩ := rgs_of (l := l) (fun a ha => h a (by simp [ha]))
    exact ⟨r :: s, by rw [hr, hs]; rfl⟩
theorem nds_of : ∀ {l : List AV}, (∀ a ∈ l, ∃ n : Nd, n.Ok ∧ a = n.av) → ∃ s : List Nd, l = Nd.avs s ∧ ∀ n ∈ s, n.Ok
  | [], _ => ⟨[], rfl, fun _ h => by cases h⟩
  | x :: l, h => by
    obtain ⟨r, ho, hr⟩ := h x (by simp)
    obtain ⟨s, hs, hk⟩ := nds_of (l := l) (fun a ha => h a (by simp [ha]))
    refine ⟨r :: s, by rw [hr, hs]; rfl, fun n hn => ?_⟩
    rcases List.mem_cons.1 hn with rfl | hn
    · exact ho
    · exact hk n hn
theorem maxLen_le {n : Nat} (h : n ≤ maxLen) : n ≤ 9223372036854775807 := by unfold maxLen at h; omega
theorem node_open : ∀ (fuel : Nat) {cs : List Value} {y : DataW H × List MemPlace}, DataW.trod enc Try.prog w 0 (fun _ => true) true fuel 25 cs = some y → ∃ n : Nd, n.Ok ∧ itemR w (frameOf w) id 0 n.av cs := by
  intro fuel
  induction fuel using Nat.strongRecOn with
  | _ fuel ih =>
    intro cs y hy
    obtain ⟨xs, n, hn, _, hl, hx, hf⟩ := DataW.trod_struct Try.underlying25 hy
    obtain ⟨z3, z4, z9, z22, z23, z25, z41⟩ := sizes
    rw [z25] at hl
    match cs, hl with
    | [c0, c1, c2, c3, c4, c5, c6, c7, c8, c9, c10, c11], _ =>
      have hx : xs.length = 12 := hx
      have h0 := fld (t := 3) (off := 0) z3 (hf 0 _ rfl) rfl (by omega)
      have h1 := fld (t := 3) (off := 1) z3 (hf 1 _ rfl) rfl (by omega)
      have h2 := fld (t := 3) (off := 2) z3 (hf 2 _ rfl) rfl (by omega)
      have h3 := fld (t := 22) (off := 3) z22 (hf 3 _ rfl) rfl (by omega)
      have h4 := fld (t := 4) (off := 4) z4 (hf 4 _ rfl) rfl (by omega)
      have h5 := fld (t := 3) (off := 5) z3 (hf 5 _ rfl) rfl (by omega)
      have h6 := fld (t := 3) (off := 6) z3 (hf 6 _ rfl) rfl (by omega)
      have h7 := fld (t := 3) (off := 7) z3 (hf 7 _ rfl) rfl (by omega)
      have h8 := fld (t := 9) (off := 8) z9 (hf 8 _ rfl) rfl (by omega)
      have h9 := fld (t := 3) (off := 9) z3 (hf 9 _ rfl) rfl (by omega)
      have h10 := fld (t := 3) (off := 10) z3 (hf 10 _ rfl) rfl (by omega)
      have h11 := fld (t := 23) (off := 11) z23 (hf 11 _ rfl) rfl (by omega)
      obtain ⟨k, e0, _, _⟩ := DataW.trod_int Try.underlying3 h0
      obtain ⟨a, e1, _, _⟩ := DataW.trod_int Try.underlying3 h1
      obtain ⟨c, e2, _, _⟩ := DataW.trod_int Try.underlying3 h2
      obtain ⟨g, e4, _⟩ := DataW.trod_bool Try.underlying4 h4
      obtain ⟨N, e5, _, _⟩ := DataW.trod_int Try.underlying3 h5
      obtain ⟨M, e6, _, _⟩ := DataW.trod_int Try.underlying3 h6
      obtain ⟨m, e7, _, _⟩ := DataW.trod_int Try.underlying3 h7
      obtain ⟨nm, e8, _, _⟩ := DataW.trod_string Try.underlying9 h8
      obtain ⟨on, e9, _, _⟩ := DataW.trod_int Try.underlying3 h9
      obtain ⟨off, e10, _, _⟩ := DataW.trod_int Try.underlying3 h10
      obtain ⟨l3, A3, q3, e3, t3, r3, b3⟩ := slice_open (β := id) (h := 0) Try.underlying22 (fun a => ∃ r, a = rg r) (fun n cs y _ _ h => range_open h) h3
      obtain ⟨l11, A11, q11, e11, t11, r11, b11⟩ := slice_open (β := id) (h := 0) Try.underlying23 (fun a => ∃ n : Nd, n.Ok ∧ a = n.av) (fun n' cs y hn' _ h => by
        obtain ⟨m, ho, hi⟩ := ih n' (by omega) h
        exact ⟨m.av, ⟨m, ho, rfl⟩, hi⟩) h11
      obtain ⟨s, rfl⟩ := rgs_of t3
      obtain ⟨kids, rfl, hk⟩ := nds_of t11
      injection e0 with e0
      injection e1 with e1
      injection e2 with e2
      injection e3 with e3
      injection e4 with e4
      injection e5 with e5
      injection e6 with e6
      injection e7 with e7
      injection e8 with e8
      injection e9 with e9
      injection e10 with e10
      injection e11 with e11
      subst e0 e1 e2 e3 e4 e5 e6 e7 e8 e9 e10 e11
      refine ⟨.mk k a c s g N M m nm on off kids, .mk (maxLen_le (by simpa using b3)) (maxLen_le (by rw [avs_len] at b11; exact b11)) hk, ?_⟩
      simp only [Nd.av, itemR]
      have s1 : ∀ v, isSc v = true → relF w (frameOf w) id 0 (.sc v) v := fun v h => by simp only [relF]; exact ⟨trivial, h⟩
      rw [z41] at r3
      rw [z25] at r11
      refine cells_cons rfl (s1 _ rfl) (cells_cons rfl (s1 _ rfl) (cells_cons rfl (s1 _ rfl) (cells_cons rfl r3 (cells_cons rfl (s1 _ rfl) (cells_cons rfl (s1 _ rfl) (cells_cons rfl (s1 _ rfl) (cells_cons rfl (s1 _ rfl) (cells_cons rfl (s1 _ rfl) (cells_cons rfl (s1 _ rfl) (cells_cons rfl (s1 _ rfl) (cells_cons rfl r11 ?_)))))))))))
      simp only [cellsR]
theorem node_arg {v : Value} {d : DataW H} {p : List MemPlace} (hv : ∃ cs : Array Value, v = .agg cs ∧ cs.size = Try.prog.cellsOf 25) (h : DataW.Trod enc Try.prog w 0 (fun _ => true) true 25 v d p) : ∃ n : Nd, n.Ok ∧ relF w (frameOf w) id 0 n.av v := by
  obtain ⟨cs, rfl, _⟩ := hv
  obtain ⟨fuel, h⟩ := h
  obtain ⟨n, h1, h2⟩ := node_open fuel h
  refine ⟨n, h1, ?_⟩
  cases n with
  | mk k a c s g N M m nm on off kids =>
    simp only [Nd.av, itemR] at h2
    simp only [Nd.av, relF]
    exact ⟨cs.toList, by simp, h2⟩
end
/-- Arguments that are written no more. -/
theorem entry_args {P : Program} {w : World} {F β : Nat → Nat} {vs : List AV} {us : List Value} (hl : us.length = vs.length) (h : ∀ (i : Nat) (v : AV) (u : Value), vs[i]? = some v → us[i]? = some u → relF w F β 0 v u) : Entry P w F β (fun _ => none) vs us [] := by
  refine ⟨hl, fun i v u hv hu => ?_, fun b l hl => by simp at hl, fun g q hq => by cases hq⟩
  have := h i v u hv hu
  cases v with
  | cap o e l => simp only [relF] at this
  | _ => exact this
theorem rel_int {w : World} {F β : Nat → Nat} {n : Int} : relF w F β 0 (iv n) (.int .i64 n) := by simp [relF, isSc]
theorem rel_bool {w : World} {F β : Nat → Nat} {n : Bool} : relF w F β 0 (bv n) (.bool n) := by simp [relF, isSc]
end Go.Proofs.Ytpnpeeloeifccaa.U
