/- What the machine's operations do: slices handed over, stores. -/
import Derived.Test.YtcjcdammcmjbnaaGreatVaiK
import Derived.Laws.MakeOwn
namespace Go.Vai
section
variable {P : Program} {w w' : World} {F F' : Nat → Nat} {β β' : Nat → Nat} {O O' : Nat → Option Own} {n : Nat} {s : St} {a : Act} {o : Oper} {ws : List W}
theorem give_sound (S : Sim P n s a w F β O) {t : TypeId} {x : Operand} {v : AV} (hx : (valO P t x).run s = some v) {r : AV × List W} (h : (give P t x v).run s = some r) :
  (∃ p ver own e l, s.valid p ver ∧ s.av p = .cap own e l ∧ r = (.cap own e l, [gone p]) ∧ valAt a w β p = some (a.eval x)) ∨
  (∃ e, elemT P t = some e ∧ r = (.cap true e [], []) ∧ a.eval x = .slice none 0 0) ∨
  (∃ y, r = (y, []) ∧ relF w F β s.H.length y (a.eval x) ∧ owns y = false ∧ y ≠ .undef) := by
 have hv := (valO_sound S hx).2 0
 have sh : ∀ {y : AV × List W}, ((share P v).bind fun v => Q.ret (v, ([] : List W))).run s = some y → ∃ z, y = (z, []) ∧ relF w F β s.H.length z (a.eval x) ∧ owns z = false ∧ z ≠ .undef := fun h => by
  obtain ⟨z, h1, k1⟩ := Q.bind_some h
  have := Q.ret_some k1
  subst this
  exact ⟨z, rfl, share_sound S hv h1⟩
 cases v with
 | ref p ver =>
  simp only [give] at h
  obtain ⟨⟨own, e, l⟩, h1, k1⟩ := Q.bind_some h
  obtain ⟨h2, h3⟩ := capAt_run h1
  have := Q.ret_some k1
  exact .inl ⟨p, ver, own, e, l, h2, h3, this.symm, (hv.2 h2).2⟩
 | sl m l =>
  simp only [give] at h
  split at h
  ·rename_i c
   split at h
   ·rename_i e he
    have := Q.ret_some h
    exact .inr (.inl ⟨e, he, this.symm, const_nil ⟨c, rfl⟩ hx⟩)
   ·cases h
  ·have := Q.ret_some h
   exact .inr (.inr ⟨_, this.symm, hv, rfl, by simp⟩)
 | sc _ => exact .inr (.inr (sh h))
 | agg _ => exact .inr (.inr (sh h))
 | ea _ => exact .inr (.inr (sh h))
 | fn _ _ => exact .inr (.inr (sh h))
 | ptr _ _ => exact .inr (.inr (sh h))
 | hsl _ _ _ _ _ => exact .inr (.inr (sh h))
 | undef => cases h
 | tup _ => cases h
 | cap _ _ _ => cases h
 | box _ => cases h
 | lptr _ _ _ => cases h
 | eaddr _ _ _ _ _ => cases h
theorem Nxt.trans {s1 s2 : St} {a1 a2 : Act} {w1 w2 : World} (N : Nxt P n s w F β O s1 a1 w1) (k : ∀ F1 β1 O1, Sim P n s1 a1 w1 F1 β1 O1 → Nxt P n s1 w1 F1 β1 O1 s2 a2 w2) : Nxt P n s w F β O s2 a2 w2 := by
 obtain ⟨F1, β1, O1, S1, t1, n1, b1, l1⟩ := N
 obtain ⟨F2, β2, O2, S2, t2, n2, b2, l2⟩ := k F1 β1 O1 S1
 refine ⟨F2, β2, O2, S2, t1.trans t2 (fun b hb hs => ?_), fun g hg => ?_, fun b hb => (b2 b (by omega)).trans (b1 b hb), by omega⟩
 ·rcases n1 b hs with h | h
  ·exact h
  ·omega
 ·rcases n2 g hg with h | h
  ·exact n1 g h
  ·exact .inr (Nat.le_trans t1.size h)
theorem cap_nil {h : Nat} {p : Pl} {b : Bool} {e : TypeId} : relCap P w F β h O p b e [] (.slice none 0 0) :=
 ⟨[], World.ownsRow_nil _ _ _ _, by simp only [rowsR], fun g hg => by simp [Value.ownBlock] at hg⟩
theorem ok_assign12 (S : Sim P n s a w F β O) (hd : ∀ d, o.dst = some d → d < n) {x : Operand} {b : Bool} (ho : o.op = .assign x) (hdst : o.dst.isSome = true)
  (h : ((valO P o.type x).bind fun v => (give P o.type x v).bind fun (v, ws) => match v with
   | .cap own e l => one o.dst (.cap (own && b) e l) ws
   | _ => Q.fail).run s = some ws) : OpOk P n s a w F β O o ws := by
 obtain ⟨v, h1, k1⟩ := Q.bind_some h
 obtain ⟨r, h2, k2⟩ := Q.bind_some k1
 clear h k1
 obtain ⟨d, hd'⟩ := Option.isSome_iff_exists.1 hdst
 have hrun : (execOp a.eval o).run P w = .ok (.value (a.eval x)) w := by simp [execOp, ho]
 intro next R hn
 refine wp_value hrun (hn _ _ ?_)
 rcases give_sound S h1 h2 with ⟨p, ver, own, e, l, h3, h4, rfl, h5⟩ | ⟨e, he, rfl, h5⟩ | ⟨y, rfl, h3, h4, _⟩
 ·rw [one_some k2, hd']
  obtain ⟨u, F1, O1, g1, S1, g2, g3, g4, g5⟩ := S.move h4 (.slot d) (own && b) (fun h => by simp only [Bool.and_eq_true] at h; exact h.1)
  rw [h5] at g1
  injection g1 with g1
  subst g1
  exact Nxt.after g3 g4 g5 (Nxt.here (S1.slot (hd d hd') (v := .cap (own && b) e l) (by rw [g5]; exact g2)) (Nat.le_refl _))
 ·rw [one_some k2, hd', h5]
  exact Nxt.here (S.slot (hd d hd') (v := .cap (true && b) e []) cap_nil) (Nat.le_refl _)
 ·cases y <;> first | (cases k2) | (cases h4)
theorem ok_moveC (S : Sim P n s a w F β O) (hd : ∀ d, o.dst = some d → d < n) {x : Operand} {b : Bool} (ho : o.op = .move x) (hdst : o.dst.isSome = true)
  (h : ((valO P o.type x).bind fun v => (give P o.type x v).bind fun (v, ws) => match v with
   | .cap own e l => one o.dst (.cap (own && b) e l) ws
   | _ => Q.fail).run s = some ws) : OpOk P n s a w F β O o ws := by
 obtain ⟨v, h1, k1⟩ := Q.bind_some h
 obtain ⟨r, h2, k2⟩ := Q.bind_some k1
 clear h k1
 obtain ⟨d, hd'⟩ := Option.isSome_iff_exists.1 hdst
 have hrun : (execOp a.eval o).run P w = .ok (.value (a.eval x)) w := by simp [execOp, ho]
 intro next R hn
 refine wp_value hrun (hn _ _ ?_)
 rcases give_sound S h1 h2 with ⟨p, ver, own, e, l, h3, h4, rfl, h5⟩ | ⟨e, he, rfl, h5⟩ | ⟨y, rfl, h3, h4, _⟩
 ·rw [one_some k2, hd']
  obtain ⟨u, F1, O1, g1, S1, g2, g3, g4, g5⟩ := S.move h4 (.slot d) (own && b) (fun h => by simp only [Bool.and_eq_true] at h; exact h.1)
  rw [h5] at g1
  injection g1 with g1
  subst g1
  exact Nxt.after g3 g4 g5 (Nxt.here (S1.slot (hd d hd') (v := .cap (own && b) e l) (by rw [g5]; exact g2)) (Nat.le_refl _))
 ·rw [one_some k2, hd', h5]
  exact Nxt.here (S.slot (hd d hd') (v := .cap (true && b) e []) cap_nil) (Nat.le_refl _)
 ·cases y <;> first | (cases k2) | (cases h4)
theorem rows_rep {h sz : Nat} {x : AV} {cs : List Value} (hc : cs.length = sz) (hx : itemR w F β h x cs) : ∀ k, rowsR w F β h sz (List.replicate k x) (List.replicate k cs).flatten
 | 0 => by simp [rowsR]
 | k + 1 => by
  simp only [List.replicate_succ, List.flatten_cons, rowsR]
  exact ⟨cs, _, rfl, hc, hx, rows_rep hc hx k⟩
theorem made_list (z : Array Value) (hz : 1 ≤ z.size) : ∀ k, (madeCells z (k * z.size)).toList = (List.replicate k z.toList).flatten
 | 0 => by simp [madeCells]
 | k + 1 => by
  have ih := made_list z hz k
  simp only [madeCells, Array.toList_map, Array.toList_range] at ih ⊢
  rw [List.replicate_succ', List.flatten_append, ← ih, Nat.add_mul, Nat.one_mul, List.range_add, List.map_append, List.map_map]
  congr 1
  simp only [List.flatten_cons, List.flatten_nil, List.append_nil]
  apply List.ext_getElem?
  intro j
  by_cases hj : j < z.size
  ·rw [List.getElem?_map, List.getElem?_range hj]
   simp only [Option.map_some, Function.comp_def]
   rw [Nat.add_comm, Nat.add_mul_mod_self_right, Nat.mod_eq_of_lt hj]
   simp [hj]
  ·rw [List.getElem?_eq_none (by simp; omega), List.getElem?_eq_none (by simp; omega)]
theorem item_of {h : Nat} {z : List AV} {cs : List Value} (r : cellsR w F β h z cs) (hz : 1 ≤ z.length) : itemR w F β h (itemOf z) cs := by
 match z, r with
 | [x], r =>
  simp only [cellsR] at r
  obtain ⟨u, c2, rfl, hx, hu, rfl⟩ := r
  exact (item_leaf hx).2 ⟨u, rfl, hu⟩
 | x :: y :: z, r => simp only [itemOf, itemR]; exact r
theorem ok_make (S : Sim P n s a w F β O) (hd : ∀ d, o.dst = some d → d < n) {t : TypeId} {x y : Operand} (ho : o.op = .makeSlice t x y) (hdst : o.dst.isSome = true)
  (h : ((valO P 0 x).bind fun v => (valO P 0 y).bind fun w => makeE P o t v w).run s = some ws) : OpOk P n s a w F β O o ws := by
 obtain ⟨v, h1, k1⟩ := Q.bind_some h
 obtain ⟨v2, h2, k2⟩ := Q.bind_some k1
 clear h k1
 obtain ⟨d, hd'⟩ := Option.isSome_iff_exists.1 hdst
 unfold makeE at k2
 split at k2
 ·rename_i i j e hi hj he
  split at k2
  ·rename_i z hz
   split at k2
   ·rename_i hb
    simp only [Bool.and_eq_true, Nat.ble_eq] at hb
    obtain ⟨⟨⟨b1, b2⟩, b3⟩, b4, b5⟩ := hb
    have b1 := beq_eq b1
    have b5 := beq_eq b5
    subst b1
    obtain ⟨k, hx⟩ := idx_sound ((valO_sound S h1).2 0) hi
    obtain ⟨k2', hy⟩ := idx_sound ((valO_sound S h2).2 0) hj
    obtain ⟨zv, _, hzr, ti, hti, htz⟩ := zeroT_rel (w := w) (F := F) (β := β) (h := s.H.length) hz
    have his : ti.size = sizeT P e := by simp [sizeT, hti]
    have hib : ti.bytes = bytesU P e := by simp [bytesU, hti]
    have hu := elem_slice he
    have hzl : zv.cells.toList.length = sizeT P e := by rw [cellsR_length hzr, b5]
    have hex : (execOp a.eval o).run P w = .ok (.value (.slice (some ⟨w.heap.size, 0, none⟩) i i)) (w.alloc (.cells (madeCells zv.cells (i * ti.size)) e)) := by
     have := run_make (P := P) w t e ti zv hu hti htz k k2' (i : Int) (i : Int) (by omega) (Int.le_refl _) (by
      have h : ((ti.bytes * i : Nat) : Int) ≤ 281474976710656 := by rw [hib, Nat.mul_comm]; omega
      rwa [Int.natCast_mul] at h) (by omega)
     simp only [Int.toNat_natCast] at this
     simp only [execOp, ho, hx, hy]
     rw [Sem.run_bind, this]
     rfl
    intro next R hn
    refine wp_value hex (hn _ _ ?_)
    rw [one_some k2, hd']
    have hzs : zv.cells.size = sizeT P e := by rw [← Array.length_toList]; exact hzl
    have hm : (madeCells zv.cells (i * ti.size)).toList = (List.replicate i zv.cells.toList).flatten := by
     rw [his, ← hzs]
     exact made_list zv.cells (by omega) i
    have hR := rows_rep (w := w) (F := F) (β := β) hzl (item_of hzr (by omega)) i
    have N := S.newRow (hd d hd') (cap := i) (rest := []) (e := e) true hR (by
     rw [List.append_nil, rowsR_length hR, List.length_replicate]) (by rw [List.length_replicate]; exact Nat.le_refl _) (by unfold maxLen; omega)
    rw [List.append_nil, ← hm, List.length_replicate] at N
    rw [Array.toArray_toList] at N
    exact N
   ·cases k2
  ·cases k2
 ·cases k2
theorem ok_len (S : Sim P n s a w F β O) (hd : ∀ d, o.dst = some d → d < n) {c : Call} {t : TypeId} {x : Operand} (ho : o.op = .call c) (hc : c.callee = .builtin .len) (hts : c.argTypes = #[t]) (hxs : c.args = #[x])
  (h : ((valO P t x).bind fun v => match v with
  | .sc (.string s) => (match P.underlying t with | some .string => one o.dst (.sc (.int .i64 s.size)) | _ => .fail)
  | .sl _ l => (match P.underlying t with | some (.slice _) => one o.dst (.sc (.int .i64 l.length)) | _ => .fail)
  | .ref p ver => (match P.underlying t with | some (.slice _) => (capAt p ver).bind fun (_, _, l) => one o.dst (.sc (.int .i64 l.length)) | _ => .fail)
  | .hsl _ _ _ len _ => (match P.underlying t with | some (.slice _) => one o.dst (.sc (.int .i64 len)) | _ => .fail)
  | _ => Q.fail).run s = some ws) : OpOk P n s a w F β O o ws := by
 obtain ⟨v, h1, k1⟩ := Q.bind_some h
 clear h
 have hv := (valO_sound S h1).2 0
 have hrun : ∀ {v' : Value}, (Builtin.len_ #[t] o.type #[a.eval x]).run P w = .ok v' w → (execOp a.eval o).run P w = .ok (.value v') w := fun h => by
  rw [builtin_run ho hc, hts, hxs]
  simp only [builtin, List.map_toArray, List.map_cons, List.map_nil, Sem.run_bind, h, Result.andThen_ok, Sem.run_pure]
 split at k1
 ·rename_i str
  have hx := (relS_sc hv).1
  split at k1
  ·rename_i hu
   refine finF S hd rfl (sc_rel rfl) k1 (hrun ?_)
   simp [Builtin.len_, run_underlying hu, hx, goInt]
  ·cases k1
 ·rename_i sz l
  obtain ⟨A, cp, inner, hx, _⟩ := relS_sl hv
  split at k1
  ·rename_i e hu
   refine finF S hd rfl (sc_rel rfl) k1 (hrun ?_)
   simp [Builtin.len_, run_underlying hu, hx, goInt]
  ·cases k1
 ·rename_i p ver
  split at k1
  ·rename_i e hu
   obtain ⟨⟨own, e', l⟩, h2, k2⟩ := Q.bind_some k1
   obtain ⟨h3, h4⟩ := capAt_run h2
   have h4 : s.av p = .cap own e' l := h4
   obtain ⟨u, g1, inner, hrow, _⟩ := cap_at S h4
   rw [(hv.2 h3).2] at g1
   injection g1 with g1
   subst g1
   obtain ⟨A, cp, hx⟩ : ∃ A cp, a.eval x = .slice A l.length cp := by
    rcases hrow with ⟨_, ⟨hx, hn⟩ | ⟨g, cap, cur, hx, _⟩⟩
    ·exact ⟨none, 0, by rw [hx, hn]⟩
    ·exact ⟨_, _, hx⟩
   refine finF S hd rfl (sc_rel rfl) k2 (hrun ?_)
   simp [Builtin.len_, run_underlying hu, hx, goInt]
  ·cases k1
 ·rename_i b off z len cp
  have hx : a.eval x = .slice (some ⟨β b, off, none⟩) len cp := by simp only [relS, relF] at hv; exact hv.2
  split at k1
  ·rename_i e hu
   refine finF S hd rfl (sc_rel rfl) k1 (hrun ?_)
   simp [Builtin.len_, run_underlying hu, hx, goInt]
  ·cases k1
 ·cases k1
theorem zeros_rel {h k : Nat} {z : List AV} {cs : List Value} (r : cellsR w F β h z cs) : cellsR w F β h (List.replicate k z).flatten (List.replicate k cs).flatten := by
 induction k with
 | zero => simp [cellsR]
 | succ k ih => simp only [List.replicate_succ, List.flatten_cons]; exact cellsR_append r ih
theorem zeroCells_list (z : Array Value) (k : Nat) : (Builtin.zeroCells z k).toList = (List.replicate k z.toList).flatten := by
 simp only [Builtin.zeroCells, Array.toList_map, Array.toList_range]
 induction k with
 | zero => simp
 | succ k ih =>
  rw [show (k + 1) * z.size = z.size + k * z.size by rw [Nat.add_mul]; omega, List.range_add, List.map_append, List.map_map, List.replicate_succ, List.flatten_cons]
  congr 1
  ·apply List.ext_getElem?
   intro i
   by_cases hi : i < z.size
   ·simp [Nat.mod_eq_of_lt hi, hi]
   ·simp [hi]
  ·rw [← ih]
   apply List.map_congr_left
   intro i _
   simp [Function.comp]
theorem ok_clear (S : Sim P n s a w F β O) (hd : ∀ d, o.dst = some d → d < n) {c : Call} {t : TypeId} {x : Operand} (ho : o.op = .call c) (hc : c.callee = .builtin .clear) (hts : c.argTypes = #[t]) (hxs : c.args = #[x])
  (h : ((valO P t x).bind fun v => match v, elemT P t with
  | .hsl b off sz len _, some e => (match zeroT P e with
   | some z => .heap fun H _ => (match H[b]? with
    | some l => if Nat.beq sz (sizeT P e) && Nat.ble 1 (sizeT P e) && Nat.ble 1 len && Nat.beq z.length (sizeT P e) && Nat.ble (off + len * sz) l.length then one o.dst (.tup []) [.hcell b off (List.replicate len z).flatten] else .fail
    | none => .fail)
   | none => .fail)
  | _, _ => Q.fail).run s = some ws) : OpOk P n s a w F β O o ws := by
 obtain ⟨v, h1, k1⟩ := Q.bind_some h
 clear h
 have hv := (valO_sound S h1).2 0
 split at k1
 ·rename_i b off sz len cp e he
  have hx : b < s.H.length ∧ a.eval x = .slice (some ⟨β b, off, none⟩) len cp := by simp only [relS, relF] at hv; exact hv
  have hu := elem_slice he
  split at k1
  ·rename_i z hz
   simp only [Q.run] at k1
   split at k1
   ·rename_i l hl
    split at k1
    ·rename_i hb
     simp only [Bool.and_eq_true, Nat.ble_eq] at hb
     obtain ⟨⟨⟨⟨b1, b2⟩, b3⟩, b4⟩, b5⟩ := hb
     have b1 := beq_eq b1
     have b4 := beq_eq b4
     subst b1
     obtain ⟨v0, hrun0, hzr, i, hi, hiz⟩ := zeroT_rel (w := w) (F := F) (β := β) (h := s.H.length) hz
     have hcs := zeros_rel (k := len) hzr
     have hlen : ((List.replicate len z).flatten).length = len * sizeT P e := by simp [b4]
     obtain ⟨cur, T, q1, q2, q3⟩ := S.storeHeap (c := (List.replicate len z).flatten) (us := (List.replicate len v0.cells.toList).flatten) (off := off) hl (by rw [hlen]; exact b5) (by
      refine ⟨cellsR_length hcs, cellsR_one hcs, fun j x u hx hu => ?_⟩
      obtain ⟨u', hu', hlf, hr⟩ := cellsR_get hcs hx
      rw [hu] at hu'
      injection hu' with hu'
      subst hu'
      cases x <;> first | exact ⟨hlf, hr⟩ | cases hlf)
     have hst := run_storeCells_at P (β b) off T (List.replicate len v0.cells.toList).flatten 0 cur w q1 (by simpa using q2) (cellsR_one hcs)
     simp only [Nat.add_zero] at hst
     have hrun : (execOp a.eval o).run P w = .ok (.value (.tuple #[])) (w.setRow (β b) (cur.toList.take off ++ (List.replicate len v0.cells.toList).flatten ++ cur.toList.drop (off + (List.replicate len v0.cells.toList).flatten.length)).toArray) := by
      rw [builtin_run ho hc, hts, hxs]
      have hz0 : (zeroValue e).run P w = .ok v0 w := hrun0
      have hne : len ≠ 0 := by omega
      simp only [builtin, List.map_toArray, List.map_cons, List.map_nil, hx.2]
      simp [Builtin.clear_, run_underlying hu, hne, hz0, zeroCells_list, hst]
     intro next R hn
     refine wp_value hrun (hn _ _ ?_)
     have := one_some k1
     rw [this]
     cases hdst : o.dst with
     | none => exact q3
     | some d =>
      refine q3.trans (fun F1 β1 O1 S1 => Nxt.here (S1.slotF (hd d hdst) (v := .tup []) (by simp only [relF, listR]; exact ⟨[], rfl, rfl⟩)) (Nat.le_refl _))
    ·cases k1
   ·cases k1
  ·cases k1
 ·cases k1
theorem vals_sound (S : Sim P n s a w F β O) : ∀ {ts : List (TypeId × Operand)} {vs : List AV} {cs : List Value}, (vals P ts).run s = some vs → vs.mapM scOf = some cs → ts.map (fun p => a.eval p.2) = cs
 | [], vs, cs, h, hc => by
  have := Q.ret_some h
  subst this
  simp at hc
  subst hc
  rfl
 | (t, x) :: r, vs, cs, h, hc => by
  simp only [vals] at h
  obtain ⟨v, h1, k1⟩ := Q.bind_some h
  obtain ⟨vs', h2, k2⟩ := Q.bind_some k1
  have := Q.ret_some k2
  subst this
  simp only [List.mapM_cons, Option.bind_eq_bind, Option.bind_eq_some_iff] at hc
  obtain ⟨y, hy, c', hc', hp⟩ := hc
  injection hp with hp
  subst hp
  simp only [List.map_cons]
  rw [vals_sound S h2 hc', scOf_sound ((valO_sound S h1).2 0) hy]
theorem ok_scalars (S : Sim P n s a w F β O) (hd : ∀ d, o.dst = some d → d < n) {c : Call} {b : Builtin} (ho : o.op = .call c) (hc : c.callee = .builtin b) (hlen : c.argTypes.size = c.args.size)
  (h : ((vals P (c.argTypes.toList.zip c.args.toList)).bind fun vs => match vs.mapM scOf with
   | some cs => (match pureOf P (builtin b c.argTypes o.type (c.args.map fun | .const _ => true | _ => false) cs.toArray) with
    | some (.value v) => if isSc v then one o.dst (.sc v) else .fail
    | _ => .fail)
   | none => Q.fail).run s = some ws) : OpOk P n s a w F β O o ws := by
 obtain ⟨vs, h1, k1⟩ := Q.bind_some h
 clear h
 split at k1
 ·rename_i cs hcs
  split at k1
  ·rename_i v hp
   split at k1
   ·rename_i hsc
    have h2 := vals_sound S h1 hcs
    have h3 : c.args.map a.eval = cs.toArray := by
     apply Array.ext'
     rw [Array.toList_map, ← h2]
     simp only []
     have : (c.argTypes.toList.zip c.args.toList).map (fun p => a.eval p.2) = ((c.argTypes.toList.zip c.args.toList).map (·.2)).map a.eval := by rw [List.map_map]; rfl
     rw [this, List.map_snd_zip (by simp [hlen])]
    refine finF S hd rfl (sc_rel hsc) k1 ?_
    rw [builtin_run ho hc, h3]
    exact pureOf_run hp
   ·cases k1
  ·cases k1
 ·cases k1
theorem valAt_boxes (S : Sim P n s a w F β O) (hb : ∀ g q, O g = some q → ((∃ i l, q = .pl (.slot i) ∧ (s.get i).1 = .box l) ∨ ∃ b, q = .hb b) → w'.heap[g]? = w.heap[g]?) {p : Pl} (hp : s.capped p) : valAt a w' β p = valAt a w β p := by
 obtain ⟨o, e, l0, hp⟩ := hp
 cases p with
 | slot n => rfl
 | lcell i off =>
  simp only [valAt]
  simp only [St.av] at hp
  split
  ·rename_i ad hu
   have := S.slots i _ hu
   revert this hp
   cases hv : (s.get i).1 with
   | box l =>
    intro _ r
    simp only [relS] at r
    obtain ⟨b, he, r⟩ := r
    injection he with he
    injection he with he
    subst he
    exact cell_block (hb _ _ r.own (.inl ⟨i, l, rfl, hv⟩))
   | _ => intro h _; cases h
  ·rfl
 | hcell b off =>
  simp only [valAt]
  simp only [St.av] at hp
  cases hl : s.H[b]? with
  | none => rw [hl] at hp; cases hp
  | some l => exact cell_block (hb _ _ (S.heap b l hl).own (.inr ⟨b, rfl⟩))
theorem Sim.turn (S : Sim P n s a w F β O) {m i off cap g : Nat} {e : TypeId} {l c cw : List AV} {x x' : AV} {us : List Value} (hl : (s.get m).1 = .cap true e l) (hm : a.tmps[m]? = some (.slice (some ⟨g, 0, none⟩) l.length cap))
  (hx : l[i]? = some x) (hcw : cellsOf x = some cw) (hfit : off + c.length ≤ cw.length) (hc : cellsR w F β s.H.length c us) (hx' : cellsOf x' = some (splice cw off c)) :
  ∃ cur T, w.heap[g]? = some (.cells cur T (0, 0)) ∧ i * sizeT P e + off + us.length ≤ cur.size ∧
   Nxt P n s w F β O (s.one (.turn m (.cap true e (l.set i x')))) a (w.setRow g (cur.toList.take (i * sizeT P e + off) ++ us ++ cur.toList.drop (i * sizeT P e + off + us.length)).toArray) := by
 have hm' : m < n := by
  rcases Nat.lt_or_ge m n with h | h
  ·exact h
  ·rw [S.out m h] at hl; cases hl
 have r := S.slots m _ hm
 rw [hl] at r
 obtain ⟨inner, ⟨hlen, hrow⟩, hR, hO⟩ := r
 obtain ⟨hOg, hFg⟩ := hO g rfl
 simp only [if_pos] at hFg
 rcases hrow with ⟨hn, _⟩ | ⟨g', cap', cur, he, hbase, hg, hnc, hcm, hcs, htake⟩
 ·cases hn
 injection he with he1 he2 he3
 injection he1 with he1
 injection he1 with he1
 subst he1
 subst he3
 have hil : i < l.length := (List.getElem?_eq_some_iff.1 hx).1
 have hus := cellsR_length hc
 obtain ⟨cs, hcs2, hcl, hit⟩ := rowsR_get hR hx
 have hcw2 := (item_cells hcw).1 hit
 have hcwl := cellsR_length hcw2
 have hend : i * sizeT P e + sizeT P e ≤ l.length * sizeT P e := by rw [← Nat.succ_mul]; exact Nat.mul_le_mul_right _ hil
 have hcap : l.length * sizeT P e ≤ cur.size := by rw [hcs]; exact Nat.mul_le_mul_right _ hnc
 have hcur : i * sizeT P e + off + us.length ≤ cur.size := by omega
 have hR' : rowsR w F β s.H.length (sizeT P e) (l.set i x') (inner.take (i * sizeT P e + off) ++ us ++ inner.drop (i * sizeT P e + off + us.length)) := by
  have e1 : l.set i x' = l.take i ++ x' :: l.drop (i + 1) := by
   rw [List.set_eq_take_append_cons_drop, if_pos hil]
  have hx2 : cellsR w F β s.H.length (splice cw off c) (cs.take off ++ us ++ cs.drop (off + us.length)) := by
   unfold splice
   rw [hus]
   exact cellsR_append (cellsR_append (cellsR_take hcw2 off) hc) (cellsR_drop hcw2 _)
  rw [e1]
  have e2 : inner.take (i * sizeT P e + off) ++ us ++ inner.drop (i * sizeT P e + off + us.length) = inner.take (i * sizeT P e) ++ ((cs.take off ++ us ++ cs.drop (off + us.length)) ++ inner.drop ((i + 1) * sizeT P e)) := by
   have hd : inner.drop (i * sizeT P e) = cs ++ inner.drop ((i + 1) * sizeT P e) := by
    have h3 : inner.drop ((i + 1) * sizeT P e) = (inner.drop (i * sizeT P e)).drop (sizeT P e) := by rw [List.drop_drop]; congr 1; rw [Nat.add_mul, Nat.one_mul]
    rw [h3, hcs2, List.take_append_drop]
   have h4 : inner = inner.take (i * sizeT P e) ++ (cs ++ inner.drop ((i + 1) * sizeT P e)) := by rw [← hd, List.take_append_drop]
   have hl1 : (inner.take (i * sizeT P e)).length = i * sizeT P e := by rw [List.length_take, hlen]; omega
   generalize inner.drop ((i + 1) * sizeT P e) = tl at h4 ⊢
   generalize hh : inner.take (i * sizeT P e) = hd' at h4 hl1 ⊢
   rw [h4]
   have h5 : (hd' ++ (cs ++ tl)).take (i * sizeT P e + off) = hd' ++ cs.take off := by
    rw [← hl1, List.take_length_add_append, List.take_append_of_le_length (by omega)]
   have h6 : (hd' ++ (cs ++ tl)).drop (i * sizeT P e + off + us.length) = cs.drop (off + us.length) ++ tl := by
    rw [← hl1, Nat.add_assoc, List.drop_length_add_append, List.drop_append_of_le_length (by omega)]
   rw [h5, h6]
   simp only [List.append_assoc]
  rw [e2]
  refine rowsR_append (rowsR_take hR i) ?_
  simp only [rowsR]
  exact ⟨_, _, rfl, by simp only [List.length_append, List.length_take, List.length_drop]; omega, (item_cells hx').2 hx2, rowsR_drop hR (i + 1)⟩
 generalize hrw : (cur.toList.take (i * sizeT P e + off) ++ us ++ cur.toList.drop (i * sizeT P e + off + us.length)).toArray = row
 have hrs : row.size = cur.size := by
  subst hrw
  simp only [List.size_toArray, List.length_append, List.length_take, List.length_drop, Array.length_toList]
  omega
 have hrt : row.toList.take (l.length * sizeT P e) = inner.take (i * sizeT P e + off) ++ us ++ inner.drop (i * sizeT P e + off + us.length) := by
  have h7 : cur.toList = inner ++ cur.toList.drop (l.length * sizeT P e) := by rw [← htake, List.take_append_drop]
  have h8 : row.toList = (inner.take (i * sizeT P e + off) ++ us ++ inner.drop (i * sizeT P e + off + us.length)) ++ cur.toList.drop (l.length * sizeT P e) := by
   rw [← hrw]
   generalize cur.toList.drop (l.length * sizeT P e) = tl at h7 ⊢
   simp only []
   rw [h7, List.take_append_of_le_length (by omega), List.drop_append_of_le_length (by omega)]
   simp only [List.append_assoc]
  rw [h8]
  have h9 : (inner.take (i * sizeT P e + off) ++ us ++ inner.drop (i * sizeT P e + off + us.length)).length = l.length * sizeT P e := by
   simp only [List.length_append, List.length_take, List.length_drop]
   omega
  rw [← h9]
  exact List.take_left
 have hExt : Ext w F (w.setRow g row) F := Ext.setRow row hFg
 have hkeep : ∀ b q, O b = some q → q ≠ .pl (.slot m) → (w.setRow g row).heap[b]? = w.heap[b]? := fun b q hq hne => setRow_other w g b row (fun e => by
  subst e
  rw [hOg] at hq
  injection hq with hq
  exact hne hq.symm)
 have T : Sim P n (s.one (.slot m (.cap true e (l.set i x')))) a (w.setRow g row) F β O := by
  have := S.slotW hm' (v := .cap true e (l.set i x')) (u := .slice (some ⟨g, 0, none⟩) l.length cap) hExt (fun b q hq _ hn => ⟨hkeep b q hq (fun h => hn (by rw [h]; rfl)), rfl, hq⟩) (fun _ _ => rfl) (fun b q hq => by simpa [World.setRow] using S.olt b q hq)
   ⟨_, ⟨by rw [List.length_set]; have := rowsR_length hR'; rw [List.length_set] at this; exact this, .inr ⟨g, cap, row, by rw [List.length_set], Nat.zero_le _, setRow_heap w g cur row _ (0, 0) hg, by rw [List.length_set]; exact hnc, hcm, by rw [hrs]; exact hcs, by rw [List.length_set]; exact hrt⟩⟩,
    rowsR.ext hExt (fun _ _ => rfl) (Nat.le_refl _) _ _ _ hR', fun b hb => by
     have : b = g := by simp [Value.ownBlock] at hb; exact hb.symm
     subst this
     simp only [if_pos]
     exact ⟨hOg, hFg⟩⟩
  rw [put_same hm] at this
  exact this
 refine ⟨cur, _, hg, hcur, ?_⟩
 rw [hrw]
 refine ⟨F, β, O, ⟨T.size, T.defers, fun j hj => ?_, fun j u hu => ?_, T.heap, T.olt⟩, Step.setRow _ hFg (by rw [hOg]; rfl), fun b hb => .inl hb, fun _ _ => rfl, Nat.le_refl _⟩
 ·have := T.out j hj
  simp only [St.one, get_set] at this ⊢
  split
  ·rename_i h; rw [if_pos h] at this; exact this
  ·rename_i h; rw [if_neg h] at this; exact this
 ·have rT := T.slots j u hu
  have hg1 : ∀ j, ((s.one (.turn m (.cap true e (l.set i x')))).get j).1 = ((s.one (.slot m (.cap true e (l.set i x')))).get j).1 := fun j => by
   simp only [St.one, get_set]
   split <;> rfl
  have hg2 : ∀ j, ((s.one (.turn m (.cap true e (l.set i x')))).get j).2 = (s.get j).2 := fun j => by
   simp only [St.one, get_set]
   split
   ·rename_i h; subst h; rfl
   ·rfl
  have hg3 : ∀ j, j ≠ m → ((s.one (.turn m (.cap true e (l.set i x')))).get j).1 = (s.get j).1 := fun j hj => by
   simp only [St.one, get_set]
   rw [if_neg (fun h => hj h.symm)]
  have hle : ∀ p ver, s.le p ver → (s.one (.turn m (.cap true e (l.set i x')))).le p ver := fun p ver h => by
   cases p with
   | hcell b off => exact h
   | slot k => simp only [St.le, hg2] at h ⊢; exact h
   | lcell k off => simp only [St.le, hg2] at h ⊢; exact h
  have hval : ∀ p ver, (s.one (.turn m (.cap true e (l.set i x')))).valid p ver → s.valid p ver := fun p ver h => by
   cases p with
   | hcell b off => exact h
   | slot k => simp only [St.valid, hg2] at h ⊢; exact h
   | lcell k off => simp only [St.valid, hg2] at h ⊢; exact h
  have hcap : ∀ p, s.capped p → (s.one (.turn m (.cap true e (l.set i x')))).capped p := fun p h => by
   cases p with
   | hcell b off => exact h
   | slot k =>
    by_cases hk : k = m
    ·subst hk
     exact ⟨true, e, l.set i x', by simp only [St.av, St.one, get_set, if_pos]⟩
    ·simp only [St.capped, St.av, hg3 k hk] at h ⊢; exact h
   | lcell k off =>
    by_cases hk : k = m
    ·subst hk
     obtain ⟨o, e, l, h⟩ := h
     simp only [St.av, hl] at h
     cases h
    ·simp only [St.capped, St.av, hg3 k hk] at h ⊢; exact h
  have hvt : ∀ p, s.capped p → valAt a (w.setRow g row) β p = valAt a w β p := fun p hp => valAt_boxes S (fun b q hq h => hkeep b q hq (by
   rcases h with ⟨j, l', rfl, h⟩ | ⟨b', rfl⟩
   ·intro h2
    injection h2 with h2
    injection h2 with h2
    subst h2
    rw [hl] at h
    cases h
   ·simp)) hp
  by_cases hj : j = m
  ·subst hj
   have hc1 : ((s.one (.turn j (.cap true e (l.set i x')))).get j).1 = .cap true e (l.set i x') := by simp only [St.one, get_set, if_pos]
   have hc2 : ((s.one (.slot j (.cap true e (l.set i x')))).get j).1 = .cap true e (l.set i x') := by simp only [St.one, get_set, if_pos]
   rw [hc2] at rT
   rw [hc1]
   exact rT
  ·have rS := S.slots j u hu
   have hT : ((s.one (.slot m (.cap true e (l.set i x')))).get j).1 = (s.get j).1 := by
    simp only [St.one, get_set]
    rw [if_neg (fun h => hj h.symm)]
   rw [hT] at rT
   rw [hg3 j hj]
   revert rS rT
   cases (s.get j).1 with
   | ref p ver => exact fun rT rS => ⟨hle _ _ rS.1, fun h => ⟨hcap _ (rS.2 (hval _ _ h)).1, (hvt p (rS.2 (hval _ _ h)).1).trans (rS.2 (hval _ _ h)).2⟩⟩
   | eaddr p ver sz k off =>
    intro rT rS
    refine ⟨hle _ _ rS.1, fun h => ?_⟩
    obtain ⟨h1, g1, m1, c1, h2, h3⟩ := rS.2 (hval _ _ h)
    exact ⟨hcap _ h1, g1, m1, c1, (hvt p h1).trans h2, h3⟩
   | lptr k ver off =>
    intro rT rS
    refine ⟨by rw [hg2]; exact rS.1, fun h => ?_⟩
    rw [hg2] at h
    obtain ⟨⟨l1, h1⟩, h2⟩ := rS.2 h
    have hk : k ≠ m := fun e => by subst e; rw [hl] at h1; cases h1
    exact ⟨⟨l1, by rw [hg3 k hk]; exact h1⟩, h2⟩
   | _ => exact fun rT _ => rT
end
end Go.Vai
