/- What the machine's operations do: variables, scalars, slices, functions. -/
import Derived.Test.YtcjcdammcmjbnaaGreatVaiH
import Derived.Laws.BytesArg
import Derived.Lib.ConvBytes
namespace Go.Vai
section
variable {P : Program} {w w' : World} {F F' : Nat → Nat} {β β' : Nat → Nat} {O O' : Nat → Option Own} {n : Nat} {s : St} {a : Act} {o : Oper} {ws : List W}
theorem pureOf_run {α : Type} {x : Sem α} {v : α} (h : pureOf P x = some v) : x.run P w = .ok v w := by
 induction x with
 | pure a => simp only [pureOf] at h; injection h with h; subst h; rfl
 | program k ih => simp only [pureOf] at h; simp only [Sem.run]; exact ih _ h
 | mark m k ih => simp only [pureOf] at h; simp only [Sem.run]; exact ih h
 | _ => simp only [pureOf] at h; cases h
theorem ofSem_some {x : Sem Value} {v : AV} (h : (ofSem P x).run s = some v) : ∃ c, v = .sc c ∧ isSc c = true ∧ x.run P w = .ok c w := by
 unfold ofSem at h
 split at h
 ·rename_i c hc
  split at h
  ·rename_i hs
   have := Q.ret_some h
   subst this
   exact ⟨c, rfl, hs, pureOf_run hc⟩
  ·cases h
 ·cases h
theorem scOf_go {h : Nat} : ∀ {l : List AV} {cs us : List Value}, scOf.go l = some cs → cellsR w F β h l us → us = cs
 | [], cs, us, hg, hr => by
  simp only [scOf.go] at hg
  injection hg with hg
  subst hg
  simp only [cellsR] at hr
  exact hr
 | x :: l, cs, us, hg, hr => by
  simp only [cellsR] at hr
  obtain ⟨u, c2, rfl, hx, hu, hr⟩ := hr
  cases x with
  | sc c =>
   simp only [scOf.go] at hg
   cases hl : scOf.go l with
   | none => rw [hl] at hg; cases hg
   | some ds =>
    rw [hl] at hg
    simp only [Option.map_some] at hg
    injection hg with hg
    subst hg
    rw [scOf_go hl hr]
    simp only [relF] at hu
    rw [hu.1]
  | _ => simp only [scOf.go] at hg; cases hg
theorem scOf_sound {i : Nat} {v : AV} {c u : Value} (r : relS P w F β s.H.length O s a i v u) (h : scOf v = some c) : u = c := by
 cases v with
 | sc k => simp only [scOf] at h; injection h with h; subst h; exact (relS_sc r).1
 | agg l =>
  simp only [scOf] at h
  obtain ⟨us, hu, hr⟩ := relS_agg r
  cases hl : scOf.go l with
  | none => rw [hl] at h; cases h
  | some cs =>
   rw [hl] at h
   simp only [Option.map_some] at h
   injection h with h
   subst h
   rw [hu, scOf_go hl hr]
 | _ => simp only [scOf] at h; cases h
theorem ok_binOp (S : Sim P n s a w F β O) (hd : ∀ d, o.dst = some d → d < n) {op : BinOp} {t t' : TypeId} {x y : Operand} (ho : o.op = .binOp op t x y t')
  (h : ((valO P t x).bind fun a => (valO P t y).bind fun b => match scOf a, scOf b with
  | some a, some b => (ofSem P (do eqGuard op t x y a b; binOp op t a b)).bind fun v => one o.dst v
  | _, _ => Q.fail).run s = some ws) : OpOk P n s a w F β O o ws := by
 obtain ⟨v1, h1, k1⟩ := Q.bind_some h
 obtain ⟨v2, h2, k2⟩ := Q.bind_some k1
 clear h k1
 split at k2
 ·rename_i c1 c2 e1 e2
  obtain ⟨v, h3, k3⟩ := Q.bind_some k2
  obtain ⟨c, rfl, hs, hrun⟩ := ofSem_some (w := w) h3
  have r1 := scOf_sound ((valO_sound S h1).2 0) e1
  have r2 := scOf_sound ((valO_sound S h2).2 0) e2
  refine finF S hd rfl (sc_rel hs) k3 ?_
  simp only [execOp, ho, r1, r2]
  rw [Sem.run_bind, hrun]
  rfl
 ·cases k2
theorem ok_unOp (S : Sim P n s a w F β O) (hd : ∀ d, o.dst = some d → d < n) {op : UnOp} {t : TypeId} {x : Operand} (ho : o.op = .unOp op t x)
  (h : ((valO P 0 x).bind fun a => match a with | .sc a => (ofSem P (Op.unary op a)).bind fun v => one o.dst v | _ => Q.fail).run s = some ws) : OpOk P n s a w F β O o ws := by
 obtain ⟨v1, h1, k1⟩ := Q.bind_some h
 have r1 := (valO_sound S h1).2 0
 cases v1 with
 | sc c1 =>
  obtain ⟨v, h3, k3⟩ := Q.bind_some k1
  obtain ⟨c, rfl, hs, hrun⟩ := ofSem_some (w := w) h3
  refine finF S hd rfl (sc_rel hs) k3 ?_
  simp only [execOp, ho, (relS_sc r1).1]
  rw [Sem.run_bind, hrun]
  rfl
 | _ => cases k1
theorem bytesT_some {t e : TypeId} (h : bytesT P t = some e) : P.underlying t = some (.slice e) ∧ P.underlying e = some (.int .u8) := by
 unfold bytesT at h
 split at h
 ·rename_i e' he
  split at h
  ·rename_i h8
   injection h with h
   subst h
   exact ⟨he, h8⟩
  ·cases h
 ·cases h
theorem strT_true {t : TypeId} (h : strT P t = true) : P.underlying t = some .string := by
 unfold strT at h
 split at h
 ·assumption
 ·cases h
theorem bytesOf_rows {h : Nat} : ∀ {l : List AV} {b : List UInt8} {inner : List Value}, bytesOf l = some b → rowsR w F β h 1 l inner → ∃ ns : List Int, inner = ns.map (Value.int .u8) ∧ b = ns.map fun n => UInt8.ofNat n.toNat
 | [], b, inner, hb, hr => by
  simp only [bytesOf] at hb
  injection hb with hb
  simp only [rowsR] at hr
  exact ⟨[], hr, hb.symm⟩
 | x :: l, b, inner, hb, hr => by
  unfold bytesOf at hb
  split at hb
  ·rename_i h1; cases h1
  ·rename_i k r h1
   injection h1 with h1 h2
   subst h1; subst h2
   split at hb
   ·rename_i b' hb'
    injection hb with hb
    simp only [rowsR] at hr
    obtain ⟨c1, c2, rfl, hl, h3, h4⟩ := hr
    simp only [itemR] at h3
    obtain ⟨ns, h5, h6⟩ := bytesOf_rows hb' h4
    refine ⟨k :: ns, ?_, ?_⟩
    ·rw [h3.1, h5]; rfl
    ·rw [← hb, h6]; rfl
   ·cases hb
  ·cases hb
theorem rows_bytes {h : Nat} : ∀ (l : List UInt8), rowsR w F β h 1 (l.map fun b => AV.sc (.int .u8 b.toNat)) (l.map fun b => Value.int .u8 b.toNat)
 | [] => by simp only [List.map_nil, rowsR]
 | b :: l => by
  simp only [List.map_cons, rowsR]
  exact ⟨[_], _, rfl, rfl, by simp only [itemR]; exact ⟨trivial, rfl⟩, rows_bytes l⟩
theorem foldl_bytes (ns : List Int) : ns.foldl (fun r n => r.push (UInt8.ofNat n.toNat)) ByteArray.empty = ⟨(ns.map fun n => UInt8.ofNat n.toNat).toArray⟩ := by
 rw [foldl_push_bytes]
 simp [ByteArray.empty, ByteArray.emptyWithCapacity]
 rfl
theorem Sim.bytes (S : Sim P n s a w F β O) {d : Nat} (hd : d < n) (e : TypeId) (x : ByteArray) :
  Nxt P n s w F β O (s.one (.slot d (.sl 1 (bytesAV x)))) (a.put (some d) (.slice (some ⟨w.heap.size, 0, none⟩) x.size (grownCap w x.size 0 e))) (Lib.bytesWorld w e x) := by
 have hx : Ext w F (Lib.bytesWorld w e x) (fun g => if g = w.heap.size then x.size else F g) := ⟨fun b off u _ hc => by rw [Lib.bytesWorld_old w e x _ (cell_lt hc)]; exact hc, fun b hb => by
  rw [if_neg (by omega)]; exact Nat.le_refl _⟩
 have A := S.world (O' := O) hx (fun g q hq _ => ⟨Lib.bytesWorld_at_old w e x g (S.olt g q hq), if_neg (by have := S.olt g q hq; omega), hq⟩) (fun _ _ => rfl) (fun g q hq => by have := S.olt g q hq; rw [Lib.bytesWorld_size]; omega)
 have hlen : (bytesAV x).length = x.size := by unfold bytesAV; rw [List.length_map, Array.length_toList]; rfl
 refine ⟨_, β, O, A.slotF hd ?_, ⟨rfl, rfl, rfl, by rw [Lib.bytesWorld_size]; omega, fun b hb _ => ⟨Lib.bytesWorld_at_old w e x b hb, if_neg (by omega)⟩, hx⟩, fun g h => .inl h, fun _ _ => rfl, Nat.le_refl _⟩
 simp only [relF]
 refine ⟨_, _, _, by rw [hlen], by rw [hlen]; exact grownCap_ge w x.size 0 e, rows_bytes x.data.toList, .inr ⟨w.heap.size, 0, rfl, fun j u hj => ?_⟩⟩
 have hjl : j < x.data.toList.length := by
  rcases Nat.lt_or_ge j x.data.toList.length with h | h
  ·exact h
  ·rw [List.getElem?_eq_none (by simpa using h)] at hj; cases hj
 have hjs : j < x.size := by rw [Array.length_toList] at hjl; exact hjl
 rw [Nat.zero_add]
 refine ⟨?_, by show j < if w.heap.size = w.heap.size then _ else _; rw [if_pos rfl]; exact hjs⟩
 rw [Lib.bytesWorld_cell w e x j hjs]
 rw [List.getElem?_map, List.getElem?_eq_getElem hjl] at hj
 simp only [Option.map_some] at hj
 injection hj with hj
 rw [← hj, List.getD_eq_getElem?_getD, List.getElem?_eq_getElem hjl]
 rfl
theorem freeze_heap (w : World) (b k : Nat) {cur : Array Value} {e : TypeId} (h : w.heap[b]? = some (.cells cur e (0, 0))) (g : Nat) : (w.freeze ⟨b, k, none⟩ 1).heap[g]? = if g = b then some (.cells cur e (k, k + 1)) else w.heap[g]? := by
 unfold World.freeze
 rw [if_neg (by omega)]
 show (w.heap.modify b _)[g]? = _
 rw [Array.getElem?_modify]
 by_cases hg : b = g
 ·subst hg; rw [if_pos rfl, if_pos rfl, h]; rfl
 ·rw [if_neg hg, if_neg (fun h => hg h.symm)]
theorem Sim.freeze (S : Sim P n s a w F β O) {p : Pl} {own : Bool} {e : TypeId} {l : List AV} {d : Nat} (hd : d < n) (hp : s.av p = .cap own e l) {u : Value} (hr : relCap P w F β s.H.length O p own e l u) (hl : 1 ≤ l.length) :
  ∃ b cap cur, u = .slice (some ⟨b, 0, none⟩) l.length cap ∧ w.heap[b]? = some (.cells cur e (0, 0)) ∧ ∀ k, Nxt P n s w F β O ((s.one (gone p)).one (.slot d (.sl (sizeT P e) l))) (a.put (some d) u) (w.freeze ⟨b, k, none⟩ 1) := by
 obtain ⟨inner, ⟨hlen, h0 | ⟨b, cap, cur, rfl, _, hh, h1, h2, h3, h4⟩⟩, hrows, hO⟩ := hr
 ·omega
 refine ⟨b, cap, cur, rfl, hh, fun k => ?_⟩
 obtain ⟨A, nh, hH⟩ := S.take hp
 obtain ⟨o1, o2⟩ := hO b rfl
 have hz := freeze_heap w b k hh
 have hcell : ∀ g off, (w.freeze ⟨b, k, none⟩ 1).cell? ⟨g, off, none⟩ = w.cell? ⟨g, off, none⟩ := fun g off => by
  by_cases hg : g = b
  ·subst hg
   rw [cell_of_row _ g off cur e (k, k + 1) (by rw [hz, if_pos rfl]), cell_of_row w g off cur e (0, 0) hh]
  ·exact World.cell?_of_block (by rw [hz, if_neg hg])
 have hs : (w.freeze ⟨b, k, none⟩ 1).heap.size = w.heap.size := by
  unfold World.freeze
  rw [if_neg (by omega)]
  show (w.heap.modify b _).size = _
  exact Array.size_modify
 have hx : Ext w F (w.freeze ⟨b, k, none⟩ 1) (fun g => if g = b then l.length * sizeT P e else F g) := ⟨fun g off u _ hc => by rw [hcell]; exact hc, fun g _ => by
  show F g ≤ if g = b then _ else _
  split
  ·rename_i h; rw [h, o2]; split <;> omega
  ·exact Nat.le_refl _⟩
 have B := A.world (O' := O) hx (fun g q hq hh' => by
  have hne : g ≠ b := fun h => by
   rw [h, o1] at hq
   injection hq with hq
   rw [← hq] at hh'
   exact nh hh'
  exact ⟨by rw [hz, if_neg hne], if_neg hne, hq⟩) (fun _ _ => rfl) (fun g q hq => by rw [hs]; exact S.olt g q hq)
 refine ⟨_, β, O, B.slotF hd ?_, ⟨rfl, rfl, rfl, by rw [hs]; exact Nat.le_refl _, fun g hg hM => ?_, hx⟩, fun g h => .inl h, fun _ _ => rfl, ?_⟩
 ·simp only [relF]
  rw [hH]
  refine ⟨_, cap, inner, rfl, h1, rowsR.ext hx (fun _ _ => rfl) (Nat.le_refl _) _ l inner hrows, .inr ⟨b, 0, rfl, fun j u hj => ?_⟩⟩
  have hjl : j < inner.length := by
   rcases Nat.lt_or_ge j inner.length with h | h
   ·exact h
   ·rw [List.getElem?_eq_none h] at hj; cases hj
  rw [Nat.zero_add]
  refine ⟨?_, by show j < if b = b then _ else _; rw [if_pos rfl, ← hlen]; exact hjl⟩
  rw [hcell, cell_of_row w b j cur e (0, 0) hh]
  rw [← h4, List.getElem?_take_of_lt (by omega), Array.getElem?_toList] at hj
  exact hj
 ·have hne : g ≠ b := fun h => hM (by show (O g).isSome = true; rw [h, o1]; rfl)
  exact ⟨by rw [hz, if_neg hne], if_neg hne⟩
 ·show s.H.length ≤ (s.one (gone p)).H.length
  rw [hH]; exact Nat.le_refl _
theorem ok_same (S : Sim P n s a w F β O) (hd : ∀ d, o.dst = some d → d < n) {t u : TypeId} {x : Operand} (ho : o.op = .convert t u x) (htu : (Nat.beq t u && (bytesT P t).isSome) = true)
  (h : ((valO P t x).bind fun v => sameE P o v).run s = some ws) : OpOk P n s a w F β O o ws := by
 simp only [Bool.and_eq_true] at htu
 have := beq_eq htu.1
 subst this
 obtain ⟨e0, he0⟩ := Option.isSome_iff_exists.1 htu.2
 obtain ⟨v1, h1, k1⟩ := Q.bind_some h
 have r1 := (valO_sound S h1).2 0
 unfold sameE at k1
 split at k1
 ·rename_i p ver d hdst
  obtain ⟨⟨own, e, l⟩, h2, k2⟩ := Q.bind_some k1
  obtain ⟨h3, h4⟩ := capAt_run h2
  obtain ⟨_, h5⟩ := r1
  obtain ⟨_, h6⟩ := h5 h3
  obtain ⟨u', h7, h8⟩ := cap_at S h4
  rw [h6] at h7
  injection h7 with h7
  subst h7
  simp only at k2
  split at k2
  ·rename_i hl
   obtain ⟨b, cap, cur, e1, e2, N⟩ := S.freeze (hd d hdst) h4 h8 (Nat.le_of_ble_eq_true hl)
   have hw := one_some k2
   have hrun : (execOp a.eval o).run P w = .ok (.value (.slice (some ⟨b, 0, none⟩) l.length cap)) (w.freeze ⟨b, cur.size, none⟩ 1) := by
    have hsh : w.shape? b = some (e, cur.size) := by unfold World.shape?; rw [e2]
    simp only [execOp, ho, e1]
    rw [Sem.run_bind]
    simp [convert, run_underlying (bytesT_some he0).1, run_underlying (bytesT_some he0).2, markStringish, hsh, Result.andThen]
   intro next R hn
   refine wp_value hrun (hn _ _ ?_)
   rw [hw, hdst]
   have := N cur.size
   rw [e1] at this
   exact this
  ·cases k2
 ·cases k1
theorem ok_convert (S : Sim P n s a w F β O) (hd : ∀ d, o.dst = some d → d < n) {t u : TypeId} {x : Operand} (ho : o.op = .convert t u x)
  (h : ((shareO P t x).bind fun v => convE P o t u v).run s = some ws) : OpOk P n s a w F β O o ws := by
 obtain ⟨v1, h1, k1⟩ := Q.bind_some h
 have r1 := (shareO_sound S h1).1
 unfold convE at k1
 split at k1
 ·rename_i e sz l he hu
  split at k1
  ·rename_i hc
   simp only [Bool.and_eq_true] at hc
   have hsz := beq_eq hc.1
   subst hsz
   split at k1
   ·rename_i c hv
    unfold strV at hv
    split at hv
    ·rename_i b hb
     injection hv with hv
     subst hv
     simp only [relF] at r1
     obtain ⟨A, cp, inner, e1, e2, e3, e4⟩ := r1
     obtain ⟨ns, rfl, rfl⟩ := bytesOf_rows hb e3
     have hlen : ns.length = l.length := by have := rowsR_length e3; simpa using this
     refine finF S hd rfl (sc_rel rfl) k1 ?_
     simp only [execOp, ho, e1]
     rw [Sem.run_bind, run_convert_bytes_string w t u e _ _ _ (bytesT_some he).1 (bytesT_some he).2 (strT_true hc.2)]
     cases A with
     | none =>
      have : ns = [] := by
       rcases e4 with h | ⟨b, o', h, _⟩
       ·simpa using h
       ·cases h
      subst this
      rfl
     | some A =>
      have hl : (loadCells A ns.length).run P w = .ok (ns.map (Value.int .u8)).toArray w := by
       have := run_loadCells_list (P := P) w A (ns.map (Value.int .u8)) (fun j v hj => by
        rcases e4 with h | ⟨b, o', h, hcell⟩
        ·rw [h] at hj; simp at hj
        ·injection h with h
         subst h
         rw [addr_add]
         exact (hcell j v hj).1)
       simpa using this
      rw [← hlen, run_bytesToString w A ns.length cp ns hl, foldl_bytes]
      rfl
    ·cases hv
   ·cases k1
  ·cases k1
 ·rename_i e x' he hu
  split at k1
  ·rename_i hst
   split at k1
   ·rename_i d hdst
    simp only [relF] at r1
    have hw := one_some k1
    have hrun : (execOp a.eval o).run P w = .ok (.value (.slice (some ⟨w.heap.size, 0, none⟩) x'.size (grownCap w x'.size 0 e))) (Lib.bytesWorld w e x') := by
     simp only [execOp, ho, r1.1]
     rw [Sem.run_bind, Lib.run_convert_string_bytes w t u e x' (strT_true hst) (bytesT_some hu).1 (bytesT_some hu).2]
     rfl
    intro next R hn
    refine wp_value hrun (hn _ _ ?_)
    rw [hw, hdst]
    exact S.bytes (hd d hdst) e x'
   ·cases k1
  ·cases k1
 ·rename_i c1 he hu
  obtain ⟨v, h3, k3⟩ := Q.bind_some k1
  obtain ⟨c, rfl, hs, hrun⟩ := ofSem_some (w := w) h3
  simp only [relF] at r1
  refine finF S hd rfl (sc_rel hs) k3 ?_
  simp only [execOp, ho, r1.1]
  rw [Sem.run_bind, hrun]
  rfl
 ·cases k1
theorem zeroGo_rel {h : Nat} : ∀ {cs : List Value} {ts : List TypeId} {z : List AV}, zeroGo P cs ts = some z → cellsR w F β h z cs
 | [], ts, z, hz => by
  simp only [zeroGo] at hz
  injection hz with hz
  subst hz
  simp only [cellsR]
 | c :: cs, ts, z, hz => by
  simp only [zeroGo] at hz
  split at hz
  ·rename_i x y hx hy
   injection hz with hz
   subst hz
   simp only [cellsR]
   refine ⟨c, cs, rfl, ?_, (ofConst_rel hx).1, zeroGo_rel hy⟩
   unfold ofConst at hx
   split at hx
   ·injection hx with hx; subst hx; rfl
   ·split at hx
    ·injection hx with hx; subst hx; rfl
    ·cases hx
  ·cases hz
theorem zeroT_rel {h : Nat} {t : TypeId} {z : List AV} (hz : zeroT P t = some z) : ∃ v, (zeroValue t).run P w = .ok v w ∧ cellsR w F β h z v.cells.toList ∧ ∃ i, P.info? t = some i ∧ i.zero = some v := by
 unfold zeroT at hz
 split at hz
 ·rename_i i hi
  split at hz
  ·rename_i v hv
   refine ⟨v, ?_, zeroGo_rel hz, _, hi, hv⟩
   simp [zeroValue, typeInfo, hi, hv]
  ·cases hz
 ·cases hz
theorem toList_toArray (cs : Array Value) : cs.toList.toArray = cs := by simp
theorem zeroGo_capRow {h : Nat} : ∀ {cs : List Value} {ts : List TypeId} {z : List AV}, zeroGo P cs ts = some z → cellsZ w F β h (capRow P z ts) cs
 | [], ts, z, hz => by
  simp only [zeroGo] at hz
  injection hz with hz
  subst hz
  exact ⟨rfl, fun j x u hx => by simp [capRow] at hx⟩
 | c :: cs, ts, z, hz => by
  simp only [zeroGo] at hz
  split at hz
  ·rename_i x y hx hy
   injection hz with hz
   subst hz
   obtain ⟨i1, i2⟩ : cellsZ w F β h (capRow P y ts.tail) cs := zeroGo_capRow hy
   refine ⟨by simp only [capRow, List.length_cons, i1], fun j v u hv hu => ?_⟩
   cases j with
   | succ j => exact i2 j v u (by simpa [capRow] using hv) (by simpa using hu)
   | zero =>
    simp only [capRow, List.getElem?_cons_zero, Option.some.injEq] at hv hu
    subst hu
    have hl : leaf x = true := by
     unfold ofConst at hx
     split at hx
     ·injection hx with hx; subst hx; rfl
     ·split at hx
      ·injection hx with hx; subst hx; rfl
      ·cases hx
    split at hv
    ·rename_i k e _ he
     subst hv
     refine .inr ⟨_, _, rfl, ?_⟩
     unfold ofConst at hx
     split at hx
     ·rfl
     ·split at hx
      ·injection hx with hx; cases hx
      ·cases hx
    ·subst hv
     exact .inl ⟨hl, (ofConst_rel hx).1⟩
  ·cases hz
theorem zeroT_capZ {h : Nat} {t : TypeId} {m : Nat} {z : List AV} (hz : zeroT P t = some z) : ∃ v, (zeroValue t).run P w = .ok v w ∧ cellsZ w F β h (capZ P t m z) v.cells.toList := by
 obtain ⟨v, h1, h2, i, hi, hiz⟩ := zeroT_rel (w := w) (F := F) (β := β) (h := h) hz
 refine ⟨v, h1, ?_⟩
 unfold capZ
 split
 ·exact h2.z
 split
 ·unfold zeroT at hz
  rw [hi] at hz
  simp only [hiz] at hz
  exact zeroGo_capRow hz
 ·split
  ·rename_i e k he
   unfold zeroT at hz
   rw [hi] at hz
   simp only [hiz] at hz
   have : v.cells.toList = [.slice none 0 0] := by
    revert hz
    cases v.cells.toList with
    | nil => intro hz; simp [zeroGo] at hz
    | cons x r =>
     intro hz
     simp only [zeroGo] at hz
     split at hz
     ·rename_i a b ha hb
      injection hz with hz
      injection hz with hz1 hz2
      subst hz1 hz2
      have hr : r = [] := by
       cases r with
       | nil => rfl
       | cons y r' =>
        simp only [zeroGo] at hb
        split at hb
        ·injection hb with hb; cases hb
        ·cases hb
      subst hr
      unfold ofConst at ha
      split at ha
      ·rfl
      ·split at ha
       ·injection ha with ha; cases ha
       ·cases ha
     ·cases hz
   rw [this]
   exact ⟨rfl, fun j x u hx hu => by
    cases j with
    | zero => simp at hx hu; subst hx hu; exact .inr ⟨_, _, rfl, rfl⟩
    | succ j => simp at hx⟩
  ·exact h2.z
theorem ok_alloc (S : Sim P n s a w F β O) (hd : ∀ d, o.dst = some d → d < n) {t : TypeId} {m : Nat} {esc : Bool} (ho : o.op = .alloc t) (hdst : o.dst.isSome = true)
  (h : ((Q.lift ((zeroT P t).map (capZ P t m))).bind fun z => if esc then .heap fun H _ => one o.dst (.ptr H.length 0) [.hpush z] else one o.dst (.box z)).run s = some ws) : OpOk P n s a w F β O o ws := by
 obtain ⟨z, h1, k1⟩ := Q.bind_some h
 obtain ⟨z0, h0, rfl⟩ := Option.map_eq_some_iff.1 (Q.lift_some h1)
 obtain ⟨v, hrun, hz⟩ := zeroT_capZ (w := w) (F := F) (β := β) (h := s.H.length) (m := m) h0
 obtain ⟨d, hd'⟩ := Option.isSome_iff_exists.1 hdst
 intro next R hn
 have hex : (execOp a.eval o).run P w = .ok (.value (.pointer (some ⟨w.heap.size, 0, none⟩))) (w.alloc (.cells v.cells t)) := by
  simp only [execOp, ho, Instr.alloc, Sem.run_bind, hrun, Result.andThen_ok, newVar, newRow, run_newObj, Sem.run_pure]
  rfl
 refine wp_value hex (hn _ _ ?_)
 rw [hd']
 cases esc with
 | true =>
  have := one_some k1
  rw [this, hd']
  have N := S.newHeap (hd d hd') (T := t) hz
  rw [toList_toArray] at N
  exact N
 | false =>
  have := one_some k1
  rw [this, hd']
  have N := S.newBox (hd d hd') (T := t) hz
  rw [toList_toArray] at N
  exact N
theorem cells_rel {h : Nat} {x : AV} {c : List AV} {u : Value} (r : relF w F β h x u) (hc : cellsOf x = some c) : cellsR w F β h c u.cells.toList := by
 cases x with
 | agg l =>
  simp only [cellsOf] at hc
  injection hc with hc
  subst hc
  simp only [relF] at r
  obtain ⟨cs, rfl, r⟩ := r
  simpa [Value.cells] using r
 | _ =>
  all_goals
   simp only [cellsOf] at hc
   split at hc
   ·rename_i hl
    injection hc with hc
    subst hc
    have h1 := relF_one hl r
    have : u.cells.toList = [u] := by cases u <;> first | rfl | (simp [Value.oneCell'] at h1)
    rw [this]
    simp only [cellsR]
    exact ⟨u, [], rfl, hl, r, rfl⟩
   ·cases hc
theorem Sim.newFrozen (S : Sim P n s a w F β O) {d : Nat} (hd : d < n) {z : List AV} {cs : List Value} {T : TypeId} (hz : cellsR w F β s.H.length z cs) :
  Nxt P n s w F β O (s.one (.slot d (.ea z))) (a.put (some d) (.pointer (some ⟨w.heap.size, 0, none⟩))) (w.alloc (.cells cs.toArray T)) := by
 have A := S.alloc (.cells cs.toArray T) cs.length (.pl (.slot d))
 refine ⟨_, β, _, A.slot hd ?_, Step.alloc _ _ _ _ _, fun g hg => ?_, fun _ _ => rfl, Nat.le_refl _⟩
 ·show relF _ _ _ _ _ _
  simp only [relF]
  refine ⟨w.heap.size, 0, cs, rfl, cellsR.ext (Ext.alloc w F (.cells cs.toArray T) cs.length) (fun _ _ => rfl) (Nat.le_refl s.H.length) z cs hz, .inr ⟨w.heap.size, 0, rfl, fun j u hj => ⟨?_, ?_⟩⟩⟩
  ·unfold World.cell?
   rw [heap_alloc_new]
   simp [hj]
  ·have := (List.getElem?_eq_some_iff.1 hj).1
   simp only [if_true]
   omega
 ·split at hg
  ·rename_i h; exact .inr (by omega)
  ·exact .inl hg
theorem ok_box (S : Sim P n s a w F β O) (hd : ∀ d, o.dst = some d → d < n) {t : TypeId} {x : Operand} {frz esc : Bool} (ho : o.op = .box t x) (hdst : o.dst.isSome = true)
  (h : ((shareO P t x).bind fun v => (Q.lift (cellsOf v)).bind fun z => if Nat.beq z.length (sizeT P t) then
   (if frz then one o.dst (.ea z) else if esc then .heap fun H _ => one o.dst (.ptr H.length 0) [.hpush z] else one o.dst (.box z)) else .fail).run s = some ws) : OpOk P n s a w F β O o ws := by
 obtain ⟨v, h1, k1⟩ := Q.bind_some h
 obtain ⟨z, h2, k2⟩ := Q.bind_some k1
 clear h k1
 obtain ⟨hr, _, _⟩ := shareO_sound S h1
 have hz := cells_rel hr (Q.lift_some h2)
 obtain ⟨d, hd'⟩ := Option.isSome_iff_exists.1 hdst
 split at k2
 ·intro next R hn
  have hex : (execOp a.eval o).run P w = .ok (.value (.pointer (some ⟨w.heap.size, 0, none⟩))) (w.alloc (.cells (a.eval x).cells t)) := by
   simp only [execOp, ho, Instr.box, Sem.run_bind, Result.andThen_ok, newVar, newRow, run_newObj, Sem.run_pure]
   rfl
  refine wp_value hex (hn _ _ ?_)
  rw [hd']
  cases frz with
  | true =>
   have := one_some k2
   rw [this, hd']
   have N := S.newFrozen (hd d hd') (T := t) hz
   rw [toList_toArray] at N
   exact N
  | false =>
  simp only [Bool.false_eq_true, if_false] at k2
  cases esc with
  | true =>
   have := one_some k2
   rw [this, hd']
   have N := S.newHeap (hd d hd') (T := t) hz.z
   rw [toList_toArray] at N
   exact N
  | false =>
   have := one_some k2
   rw [this, hd']
   have N := S.newBox (hd d hd') (T := t) hz.z
   rw [toList_toArray] at N
   exact N
 ·cases k2
theorem ok_makeFunc (S : Sim P n s a w F β O) (hd : ∀ d, o.dst = some d → d < n) {g : FuncId} {first cs : Array Operand} (ho : o.op = .makeFunc (.func g) first cs) (hf : first.size = 0)
  (h : ((shareAll P (cs.toList.map fun x => (0, x))).bind fun vs => one o.dst (.fn g vs)).run s = some ws) : OpOk P n s a w F β O o ws := by
 obtain ⟨vs, h1, k1⟩ := Q.bind_some h
 obtain ⟨h2, _⟩ := shareAll_sound S h1
 have hfe : first = #[] := by simpa using hf
 subst hfe
 refine finF S hd (u := .func (.func g) #[] (cs.map a.eval)) rfl ?_ k1 ?_
 ·simp only [relF]
  refine ⟨_, ?_, h2⟩
  congr 1
  apply Array.ext'
  simp [List.map_map, Function.comp_def]
 ·simp [execOp, ho, Instr.makeFunc]
end
end Go.Vai
