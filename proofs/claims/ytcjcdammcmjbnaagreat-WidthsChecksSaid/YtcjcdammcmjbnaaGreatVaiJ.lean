/- What the machine's operations do: structs and slices that are made, cuts, stores. -/
import Derived.Test.YtcjcdammcmjbnaaGreatVaiI
import Derived.Great.BuildSlice
namespace Go.Vai
section
variable {P : Program} {w w' : World} {F F' : Nat → Nat} {β β' : Nat → Nat} {O O' : Nat → Option Own} {n : Nat} {s : St} {a : Act} {o : Oper} {ws : List W}
theorem cells_size {h : Nat} {x : AV} {c : List AV} {u : Value} (r : relF w F β h x u) (hc : cellsOf x = some c) : u.cells.size = c.length := by
 have := cellsR_length (cells_rel r hc)
 simpa using this
theorem cellsR_of {h : Nat} : ∀ {l : List AV} {cs : List Value}, cs.length = l.length → (∀ (j : Nat) (x : AV) (u : Value), l[j]? = some x → cs[j]? = some u → leaf x = true ∧ relF w F β h x u) → cellsR w F β h l cs
 | [], cs, hl, _ => by simp only [cellsR]; exact List.eq_nil_of_length_eq_zero hl
 | x :: l, cs, hl, hr => by
  cases cs with
  | nil => simp at hl
  | cons u cs =>
   simp only [cellsR]
   obtain ⟨h1, h2⟩ := hr 0 x u rfl rfl
   exact ⟨u, cs, rfl, h1, h2, cellsR_of (by simpa using hl) (fun j x u hx hu => hr (j + 1) x u (by simpa using hx) (by simpa using hu))⟩
theorem fill_sound {h : Nat} {place : Nat → Option (Nat × Nat)} : ∀ {is : List Nat} {vs : List AV} {us : List Value} {z c : List AV} {cells : Array Value}, listR w F β h vs us → is.length = vs.length → cellsR w F β h z cells.toList → fillG place z (is.zip vs) = some c →
  ∃ r, Instr.fill place cells (is.zip us) = some r ∧ cellsR w F β h c r.toList
 | [], vs, us, z, c, cells, hv, hl, hz, hf => by
  simp only [List.zip_nil_left, fillG] at hf
  injection hf with hf
  subst hf
  exact ⟨cells, rfl, hz⟩
 | i :: is, [], us, z, c, cells, hv, hl, hz, hf => by simp at hl
 | i :: is, v :: vs, us, z, c, cells, hv, hl, hz, hf => by
  simp only [listR] at hv
  obtain ⟨u, us', rfl, hu, hv⟩ := hv
  simp only [List.zip_cons_cons, fillG] at hf
  split at hf
  ·rename_i off sz cv hp hcv
   split at hf
   ·rename_i hb
    simp only [Bool.and_eq_true, Nat.ble_eq] at hb
    have hsz := beq_eq hb.1
    have hus := cells_size hu hcv
    have hcl := cells_rel hu hcv
    have hzl := cellsR_length hz
    simp only [Array.length_toList] at hzl
    obtain ⟨g1, g2⟩ := Go.Great.foldl_set off u.cells.toList 0 cells
    have hz' : cellsR w F β h (splice z off cv) ((u.cells.toList.zipIdx 0).foldl (fun cs (x : Value × Nat) => cs.setIfInBounds (off + x.2) x.1) cells).toList := by
     refine cellsR_of (by rw [splice_length hb.2, Array.length_toList, g1, hzl]) (fun j x y hx hy => ?_)
     rw [splice_get hb.2] at hx
     rw [Array.getElem?_toList, g2 j] at hy
     simp only [Nat.add_zero, Array.length_toList] at hy
     split at hx
     ·rename_i hj
      rw [if_pos ⟨hj.1, by omega, by omega⟩] at hy
      obtain ⟨y', hy', h3, h4⟩ := cellsR_get hcl hx
      rw [hy] at hy'
      injection hy' with hy'
      subst hy'
      exact ⟨h3, h4⟩
     ·rename_i hj
      rw [if_neg (by omega)] at hy
      obtain ⟨y', hy', h3, h4⟩ := cellsR_get hz hx
      rw [Array.getElem?_toList, hy] at hy'
      injection hy' with hy'
      subst hy'
      exact ⟨h3, h4⟩
    obtain ⟨r, h5, h6⟩ := fill_sound hv (by simpa using hl) hz' hf
    refine ⟨r, ?_, h6⟩
    simp only [List.zip_cons_cons, Instr.fill, hp]
    rw [if_neg (by simp; omega)]
    have e : u.cells.zipIdx.foldl (fun cs (x : Value × Nat) => cs.setIfInBounds (off + x.2) x.1) cells = (u.cells.toList.zipIdx 0).foldl (fun cs (x : Value × Nat) => cs.setIfInBounds (off + x.2) x.1) cells := by
     rw [← Array.foldl_toList, Array.toList_zipIdx]
    exact (congrArg (fun q => Instr.fill place q (is.zip us')) e).trans h5
   ·cases hf
  ·cases hf
theorem zip_parts {α β' : Type} (ps : List (Nat × α)) (f : α → β') : (ps.map (·.1)).zip (ps.map fun p => f p.2) = ps.map fun p => (p.1, f p.2) := by
 induction ps with
 | nil => rfl
 | cons p ps ih => simp [ih]
theorem ok_build (S : Sim P n s a w F β O) (hd : ∀ d, o.dst = some d → d < n) {t : TypeId} {ps : Array (Nat × Operand)} (ho : o.op = .build t ps)
  (h : ((shareAll P (ps.toList.map fun p => (partT P t p.1, p.2))).bind fun vs => match zeroT P t, placesT P t with
  | some z, some pl => (match fillG pl z ((ps.toList.map (·.1)).zip vs) with | some c => one o.dst (.agg c) | none => .fail)
  | _, _ => Q.fail).run s = some ws) : OpOk P n s a w F β O o ws := by
 obtain ⟨vs, h1, k1⟩ := Q.bind_some h
 clear h
 obtain ⟨hv, _⟩ := shareAll_sound S h1
 split at k1
 ·rename_i z pl hz hpl
  split at k1
  ·rename_i c hc
   obtain ⟨v, hrun, hzr, i, hi, hiz⟩ := zeroT_rel (w := w) (F := F) (β := β) (h := s.H.length) hz
   have hlen := listR_length hv
   simp only [List.length_map] at hlen
   obtain ⟨r, h5, h6⟩ := fill_sound hv (by simpa using hlen) hzr hc
   have e1 : (ps.toList.map (·.1)).zip ((ps.toList.map fun p => (partT P t p.1, p.2)).map fun p => a.eval p.2) = (ps.map fun (i, x) => (i, a.eval x)).toList := by
    rw [List.map_map, Array.toList_map]
    exact zip_parts ps.toList a.eval
   rw [e1] at h5
   refine finF S hd (u := .agg r) rfl (by simp only [relF]; exact ⟨r.toList, by simp, h6⟩) k1 ?_
   have hb : P.built t (ps.map fun (i, x) => (i, a.eval x)).toList = some r := by
    unfold placesT at hpl
    unfold Program.built
    split at hpl
    ·rename_i fs hu
     cases hm : fs.toList.mapM (fun f => (P.info? f.type).map fun i => (f.offset, i.size)) with
     | none => rw [hm] at hpl; cases hpl
     | some l =>
      rw [hm] at hpl
      injection hpl with hpl
      subst hpl
      simp only [hi, hu, hiz, hm]
      have : (fun i : Nat => l.toArray[i]?) = fun i : Nat => l[i]? := by funext i; simp
      rw [this]
      exact h5
    ·rename_i k e hu
     cases hm : P.info? e with
     | none => rw [hm] at hpl; cases hpl
     | some ie =>
      rw [hm] at hpl
      injection hpl with hpl
      subst hpl
      simp only [hi, hu, hiz, hm]
      exact h5
    ·cases hpl
   simp only [execOp, ho]
   rw [Sem.run_bind, run_build w t _ r hb]
   rfl
  ·cases k1
 ·cases k1
theorem dense_range : ∀ {l : List Nat} {i : Nat}, dense i l = true → l = (List.range l.length).map (i + ·)
 | [], i, _ => rfl
 | j :: l, i, h => by
  simp only [dense, Bool.and_eq_true] at h
  have h1 := beq_eq h.1
  subst h1
  have h2 := dense_range h.2
  simp only [List.length_cons, List.range_succ_eq_map, List.map_cons, Nat.add_zero, List.map_map]
  congr 1
  rw [h2]
  simp only [List.length_map, List.length_range]
  apply List.map_congr_left
  intro k _
  simp only [Function.comp_apply]
  omega
theorem rows_of {h sz : Nat} : ∀ {vs : List AV} {us : List Value}, listR w F β h vs us → sameSize sz vs = true → rowsR w F β h sz vs (us.flatMap fun v => v.cells.toList) ∧ ∀ u ∈ us, u.cells.size = sz
 | [], us, hv, _ => by simp only [listR] at hv; subst hv; simp [rowsR]
 | v :: vs, us, hv, hs => by
  simp only [listR] at hv
  obtain ⟨u, us', rfl, hu, hv⟩ := hv
  simp only [sameSize, Bool.and_eq_true] at hs
  cases hc : cellsOf v with
  | none => rw [hc] at hs; cases hs.1
  | some c =>
   rw [hc] at hs
   have hl := beq_eq hs.1
   have hsz := cells_size hu hc
   obtain ⟨h1, h2⟩ := rows_of hv hs.2
   simp only [List.flatMap_cons, rowsR]
   refine ⟨⟨_, _, rfl, by simp; omega, (item_cells hc).2 (cells_rel hu hc), h1⟩, fun x hx => ?_⟩
   rcases List.mem_cons.1 hx with rfl | hx
   ·omega
   ·exact h2 x hx
theorem flat_cells {h sz : Nat} : ∀ {vs : List AV} {us : List Value}, listR w F β h vs us → sameSize sz vs = true → cellsR w F β h (vs.flatMap fun v => (cellsOf v).getD []) (us.flatMap fun v => v.cells.toList)
 | [], us, hv, _ => by simp only [listR] at hv; subst hv; simp [cellsR]
 | v :: vs, us, hv, hs => by
  simp only [listR] at hv
  obtain ⟨u, us', rfl, hu, hv⟩ := hv
  simp only [sameSize, Bool.and_eq_true] at hs
  cases hc : cellsOf v with
  | none => rw [hc] at hs; cases hs.1
  | some c =>
   simp only [List.flatMap_cons, hc, Option.getD_some]
   exact cellsR_append (cells_rel hu hc) (flat_cells hv hs.2)
theorem ok_buildSlice (S : Sim P n s a w F β O) (hd : ∀ d, o.dst = some d → d < n) {t : TypeId} {m : Nat} {ps : Array (Nat × Operand)} {esc : Bool} (ho : o.op = .buildSlice t m ps) (hdst : o.dst.isSome = true)
  (h : ((shareAll P (ps.toList.map fun p => (partT P t p.1, p.2))).bind fun vs => match elemT P t with
  | some e => (match zeroT P e with
   | some z => if sameSize (sizeT P e) vs && Nat.ble 1 (sizeT P e) && dense 0 (ps.toList.map (·.1)) && Nat.beq vs.length m && Nat.ble (m * sizeT P e) 16777216 && Nat.ble 1 m && Nat.beq z.length (sizeT P e) then (if esc then .heap fun H _ => one o.dst (.hsl H.length 0 (sizeT P e) m m) [.hpush (vs.flatMap fun v => (cellsOf v).getD [])] else one o.dst (.cap false e vs)) else .fail
   | none => .fail)
  | none => Q.fail).run s = some ws) : OpOk P n s a w F β O o ws := by
 obtain ⟨vs, h1, k1⟩ := Q.bind_some h
 clear h
 obtain ⟨hv, _⟩ := shareAll_sound S h1
 obtain ⟨d, hd'⟩ := Option.isSome_iff_exists.1 hdst
 split at k1
 ·rename_i e he
  split at k1
  ·rename_i z hz
   split at k1
   ·rename_i hb
    simp only [Bool.and_eq_true, Nat.ble_eq] at hb
    obtain ⟨⟨⟨⟨⟨⟨b1, b2⟩, b3⟩, b4⟩, b5⟩, b6⟩, b7⟩ := hb
    have b4 := beq_eq b4
    have b7 := beq_eq b7
    obtain ⟨v, _, hzr, i, hi, hiz⟩ := zeroT_rel (w := w) (F := F) (β := β) (h := s.H.length) hz
    obtain ⟨hR, hsz⟩ := rows_of hv b1
    have his : i.size = sizeT P e := by simp [sizeT, hi]
    have hlen := listR_length hv
    have hu : P.underlying t = some (.slice e) := by
     unfold elemT at he
     split at he
     ·rename_i e' hu; injection he with he; rw [hu, he]
     ·cases he
    have hps : ps.toList.length = vs.length := by simpa using hlen
    have e1 : (ps.map fun (i, x) => (i, a.eval x)).toList = ((((ps.toList.map fun p => (partT P t p.1, p.2)).map fun p => a.eval p.2)).zipIdx 0).map fun x => (x.2, x.1) := by
     rw [Array.toList_map, List.map_map]
     have h2 := dense_range b3
     rw [← zip_parts ps.toList a.eval, h2]
     apply List.ext_getElem?
     intro k
     simp only [List.length_map, List.getElem?_map, List.getElem?_zipIdx, List.zip, List.getElem?_zipWith, Function.comp_def, Nat.zero_add]
     by_cases hk : k < ps.toList.length
     ·rw [List.getElem?_range hk]
      simp [List.getElem?_eq_getElem hk]
     ·rw [List.getElem?_eq_none (by simp at hk ⊢; omega)]
      simp [List.getElem?_eq_none (Nat.le_of_not_lt hk)]
    have hfill : Instr.fill (fun j => some (j * i.size, i.size)) ((Array.range (m * i.size)).map (v.cells[· % v.cells.size]!)) (ps.map fun (i, x) => (i, a.eval x)).toList = some ((((ps.toList.map fun p => (partT P t p.1, p.2)).map fun p => a.eval p.2)).flatMap fun v => v.cells.toList).toArray := by
     rw [e1]
     refine Go.Great.fill_whole (by omega) _ _ (fun u hu => by rw [his]; exact hsz u hu) ?_
     simp only [Array.size_map, Array.size_range]
     rw [hlen, b4]
    have hex : (execOp a.eval o).run P w = .ok (.value (.slice (some ⟨w.heap.size, 0, none⟩) m m)) (w.alloc (.cells ((((ps.toList.map fun p => (partT P t p.1, p.2)).map fun p => a.eval p.2)).flatMap fun v => v.cells.toList).toArray e)) := by
     simp only [execOp, ho]
     rw [Sem.run_bind, run_buildSlice w t e m _ _ i v hu hi hiz (by rw [his]; omega) (by rw [his]; intro h; rcases Nat.mul_eq_zero.1 h with h | h <;> omega) hfill]
     rfl
    intro next R hn
    refine wp_value hex (hn _ _ ?_)
    cases esc with
    | true =>
     have := one_some k1
     rw [this, hd']
     have hcl : cellsR w F β s.H.length (vs.flatMap fun v => (cellsOf v).getD []) (((ps.toList.map fun p => (partT P t p.1, p.2)).map fun p => a.eval p.2).flatMap fun v => v.cells.toList) := flat_cells hv b1
     have N := S.newHeapV (hd d hd') (T := e) (v := .hsl s.H.length 0 (sizeT P e) m m) (u := .slice (some ⟨w.heap.size, 0, none⟩) m m) hcl.z (fun w' F' β' h' hlt hb => by simp only [relF]; exact ⟨hlt, by rw [hb]⟩)
     exact N
    | false =>
    have := one_some k1
    rw [this, hd']
    have N := S.newRow (hd d hd') (cap := m) (rest := []) false hR (by rw [List.append_nil, rowsR_length hR, b4]) (by omega) (by unfold maxLen; have : m ≤ m * sizeT P e := Nat.le_mul_of_pos_right m (by omega); omega)
    rw [List.append_nil, b4] at N
    exact N
   ·cases k1
  ·cases k1
 ·cases k1
end
end Go.Vai
