/- Sets: the sort does what is told of it. -/
import Derived.Test.YtkocppnbipjiiaaSetS
import Derived.Test.YtkocppnbipjiiaaSetY
import Derived.Test.YtkocppnbipjiiaaSetW
import Derived.Shelf.SlSortCmp.NoneTotal
namespace Go.Proofs.Ytkocppnbipjiiaa.U
open Go Go.Vai Go.Flo Go.Proofs Go.Shelf Go.RowKit Go.Lib Go.Sort
set_option linter.unusedVariables false
def encP (p : PairC) : Value := .complex .f64 (fl p.1.1) (fl p.1.2)
theorem rows_enc {w : World} {F β : Nat → Nat} {h : Nat} : ∀ (d : List PairC) (cs : List Value), rowsR w F β h 1 (d.map fun p => cz p.1) cs ↔ cs = d.map encP
  | [], cs => by simp only [List.map_nil, rowsR]
  | p :: d, cs => by
    simp only [List.map_cons, rowsR, cz, itemR]
    constructor
    · rintro ⟨c1, c2, rfl, _, ⟨rfl, _⟩, h⟩
      rw [(rows_enc d c2).1 h]
      rfl
    · rintro rfl
      exact ⟨[encP p], d.map encP, rfl, rfl, ⟨rfl, rfl⟩, (rows_enc d _).2 rfl⟩
def cfP (x y : PairC) : Int := if compare x.1.1 y.1.1 = .lt then -1 else if compare x.1.1 y.1.1 = .gt then 1 else 0
theorem lt_cfP : ltOf cfP = fun x y : PairC => decide (x.1.1 < y.1.1) := by
  funext x y
  unfold ltOf cfP
  rw [Bool.eq_iff_iff, decide_eq_true_iff, decide_eq_true_iff]
  by_cases h : x.1.1 < y.1.1
  · rw [if_pos (Int.compare_eq_lt.2 h)]
    exact ⟨fun _ => h, fun _ => by decide⟩
  · rw [if_neg (fun k => h (Int.compare_eq_lt.1 k))]
    refine ⟨fun k => ?_, fun k => absurd k h⟩
    split at k <;> omega
theorem swo_cfP : SWO (ltOf cfP) := by
  rw [lt_cfP]
  refine ⟨fun x => by simp, fun x y z h k => ?_, fun x y z h k => ?_⟩
  · simp only [decide_eq_true_eq] at *
    omega
  · simp only [decide_eq_false_iff_not] at *
    omega
theorem ordP (x y : PairC) : Ieee.double.order (fl x.1.1) (fl y.1.1) = some (compare x.1.1 y.1.1) := by
  obtain ⟨⟨a, a'⟩, h⟩ := x
  obtain ⟨⟨b, b'⟩, k⟩ := y
  unfold inC at h k
  simp only at *
  have h1 := (isF.mk h.1 h.2.1).order (isF.mk k.1 k.2.1)
  rwa [toI_fl h.1 h.2.1, toI_fl k.1 k.2.1] at h1
theorem lays_cmp (blk size : Nat) (w : World) : CmpLays1 pr 40 #[] encP cfP blk 0 size w := fun m os dk _ x y => by
  rw [Array.append_empty]
  have e1 : compare x.1.1 x.1.1 = .eq := by simp
  have e2 : compare y.1.1 y.1.1 = .eq := by simp
  have h := cmpW (fl x.1.1) (fl x.1.2) (fl y.1.1) (fl y.1.2) (sortWorld encP w blk 0 m dk os) _ (ordP x y) (by rw [ordP x x, e1]) (by rw [ordP y y, e2])
  refine h.mono ?_
  rintro e w' ⟨rfl, rfl⟩
  exact ⟨rfl, 0, #[], by rw [grow_empty]; rfl⟩
theorem holdsP {w : World} {g : Nat} {cur : Array Value} {e : TypeId} {ss : List PairC} (hb : w.heap[g]? = some (.cells cur e (0, 0))) (ht : cur.toList.take ss.length = ss.map encP) : Holds encP w g 0 ss.toArray := by
  intro j hj
  have hj' : j < ss.length := by simpa using hj
  refine ⟨?_, by simp [World.frozen?, hb]⟩
  have h1 : (cur.toList.take ss.length)[j]? = (ss.map encP)[j]? := by rw [ht]
  rw [List.getElem?_take_of_lt hj'] at h1
  simp only [World.cell?, hb, Nat.zero_add]
  simp only [Option.isSome_none, Bool.false_eq_true, if_false]
  rw [← Array.getElem?_toList, h1]
  simp [hj']
theorem heapP {w : World} {g n : Nat} {os : Array Obj} {cur : Array Value} {e : TypeId} {fr : Nat × Nat} (d : Array PairC) (hb : w.heap[g]? = some (.cells cur e fr)) :
    (sortWorld encP w g 0 n d os).heap[g]? = some (.cells (putCells encP 0 d cur) e fr) := by
  have hg : g < w.heap.size := (Array.getElem?_eq_some_iff.1 hb).1
  unfold sortWorld
  rw [heap_grow_old _ _ (by simpa using hg)]
  simp [putRow, mapBlock, Sort.ahead, Array.getElem?_modify, hb, onCells]
theorem heapQ {w : World} {g n k : Nat} {os : Array Obj} (d : Array PairC) (hk : k < w.heap.size) (hne : g ≠ k) : (sortWorld encP w g 0 n d os).heap[k]? = w.heap[k]? := by
  unfold sortWorld
  rw [heap_grow_old _ _ (by simpa using hk)]
  simp [putRow, mapBlock, Sort.ahead, Array.getElem?_modify, hne]
theorem take_putP (cur : Array Value) (ts : List PairC) (h : ts.length ≤ cur.size) : (putCells encP 0 ts.toArray cur).toList.take ts.length = ts.map encP := by
  apply List.ext_getElem?
  intro j
  by_cases hj : j < ts.length
  · rw [List.getElem?_take_of_lt hj, Array.getElem?_toList]
    simp [putCells, hj, show j < cur.size by omega]
  · rw [List.getElem?_take_eq_none (by omega), List.getElem?_eq_none (by simp; omega)]
theorem pdq_eq (d : List PairC) : pdq (ltOf cfP) d.toArray 0 d.toArray.size (Lib.bitLen d.toArray.size) true true = (sortP d).toArray := by
  rw [lt_cfP]
  unfold sortP
  simp
set_option maxRecDepth 100000 in
theorem sort_ok (d : List PairC) (hsz : d.length ≤ 1000000000000) : SortOk pr 39 49 (d.map fun p => cz p.1) 40 ((sortP d).map fun p => cz p.1) := by
  refine ⟨⟨_, Try.func39, by kernel_rfl, by kernel_rfl⟩, fun {w F β h O m v} r olt => ?_⟩
  obtain ⟨inner, ⟨hlen, hv⟩, hr, ho⟩ := r
  have e1 : sizeT pr 49 = 1 := by kernel_rfl
  rw [e1] at hr hlen hv ho
  have hi := (rows_enc d inner).1 hr
  subst hi
  obtain ⟨hp1, hp2, hp3⟩ := sortP_ok d
  rcases hv with ⟨rfl, h0⟩ | ⟨g, cap, cur, rfl, _, hb, h1, h2, h3, h4⟩
  · have hd : d = [] := by
      cases d with
      | nil => rfl
      | cons p d => exact absurd h0 (Nat.succ_ne_zero _)
    subst hd
    have hsp : sortP [] = [] := List.length_eq_zero_iff.1 hp1
    rw [hsp]
    have hc := AnyF.slices_SortFunc_none (ρ := ρ_lay6) { lay6 with } none 0 (.func (.func 40) #[] #[]) w
    change Calls pr 39 _ w _ at hc
    refine hc.mono ?_
    rintro e w' ⟨rfl, rfl⟩
    exact ⟨rfl, F, ⟨[], ⟨rfl, .inl ⟨rfl, rfl⟩⟩, by simp only [List.map_nil, rowsR], fun g hg => by simp [Value.ownBlock] at hg⟩, Step.refl _ _ _, fun _ _ => rfl⟩
  · have hg : g < w.heap.size := (Array.getElem?_eq_some_iff.1 hb).1
    rw [List.length_map] at h1 h4 ho
    have hH : Holds encP w g 0 d.toArray := holdsP hb (by rw [Nat.mul_one] at h4; exact h4)
    have hc := Any.slices_SortFunc_eq lay6 encP (fun _ => rfl) cfP swo_cfP 40 #[] g 0 cap d.toArray w (enters_of Try.func40 (by kernel_rfl) rfl) (lays_cmp g _ w) hH hg (by simp; omega)
    change Calls pr 39 _ w _ at hc
    rw [pdq_eq, List.size_toArray] at hc
    rw [List.length_map]
    refine hc.mono ?_
    rintro e w' ⟨rfl, n, os, rfl⟩
    have hF : F g = 0 := by
      have := (ho g (by simp [Value.ownBlock])).2
      simpa using this
    have hx : Ext w F (sortWorld encP w g 0 n (sortP d).toArray os) (fun b => if b < w.heap.size then F b else 0) := by
      refine ⟨fun b o u hob hcl => ?_, fun b hb' => ?_⟩
      · have hbl := cell_lt hcl
        have hne : g ≠ b := fun e => by
          subst e
          omega
        have := heapQ (n := n) (os := os) (sortP d).toArray hbl hne
        unfold World.cell? at hcl ⊢
        rwa [this]
      · (try simp only)
        rw [if_pos hb']
        exact Nat.le_refl _
    refine ⟨rfl, fun b => if b < w.heap.size then F b else 0, ⟨(sortP d).map encP, ⟨by rw [List.length_map, List.length_map, e1, Nat.mul_one], .inr ⟨g, cap, _, by rw [List.length_map, hp1], Nat.zero_le _, heapP _ hb, by rw [List.length_map, hp1]; exact h1, h2, by rw [e1]; simp [putCells, h3], ?_⟩⟩, by rw [e1]; exact (rows_enc _ _).2 rfl, fun g' hg' => ?_⟩, ⟨rfl, rfl, rfl, by simp [sortWorld, grow, putRow, mapBlock, Sort.ahead], fun b hb' hM => ⟨heapQ _ hb' (fun e => hM (by subst e; simp [Value.ownBlock])), by (try simp only); rw [if_pos hb']⟩, hx⟩, fun b hb' => by (try simp only); rw [if_pos hb']⟩
    · rw [e1, Nat.mul_one, List.length_map]
      exact take_putP cur _ (by rw [hp1, h3]; omega)
    · have := ho g' hg'
      refine ⟨this.1, ?_⟩
      have hlt := olt g' _ this.1
      (try simp only)
      rw [if_pos hlt]
      simpa using this.2
end Go.Proofs.Ytkocppnbipjiiaa.U
