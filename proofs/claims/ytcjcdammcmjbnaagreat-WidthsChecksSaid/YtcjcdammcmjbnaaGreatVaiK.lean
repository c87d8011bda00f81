/- What the machine's operations do: slices that are appended to, cut, handed over. -/
import Derived.Test.YtcjcdammcmjbnaaGreatVaiJ
namespace Go.Vai
section
variable {P : Program} {w w' : World} {F F' : Nat → Nat} {β β' : Nat → Nat} {O O' : Nat → Option Own} {n : Nat} {s : St} {a : Act} {o : Oper} {ws : List W}
theorem Nxt.after {s1 s' : St} {a' : Act} {F1 : Nat → Nat} {O1 : Nat → Option Own} (st : Step w F w F1 (fun g => (O g).isSome)) (ho : ∀ g, (O1 g).isSome → (O g).isSome) (hH : s1.H.length = s.H.length) (N : Nxt P n s1 w F1 β O1 s' a' w') : Nxt P n s w F β O s' a' w' := by
  obtain ⟨F2, β2, O2, h1, h2, h3, h4, h5⟩ := N
  refine ⟨F2, β2, O2, h1, st.trans h2 (fun b _ hb => ho b hb), fun g hg => ?_, fun b hb => h4 b (by omega), by omega⟩
  rcases h3 g hg with h | h
  · exact .inl (ho g h)
  · exact .inr h
theorem addr0 (g j : Nat) : (⟨g, 0, none⟩ : Addr).add j = ⟨g, j, none⟩ := by rw [addr_add, Nat.zero_add]
theorem run_app {t ty e : TypeId} {i : TypeInfo} {z : Value} (ht : P.underlying t = some (.slice e)) (hi : P.info? e = some i) (hz : i.zero = some z) (hzs : z.cells.size = i.size) (hsz : 0 < i.size)
    {v : Value} {k : Nat} {xs : List Value} (hown : w.ownsRow 0 e i.size v k xs) {A : Option Addr} {m c : Nat} {news : List Value} (hl : news.length = m * i.size)
    (hA : news = [] ∨ ∃ ad, A = some ad ∧ ∀ j u, news[j]? = some u → w.cell? (ad.add j) = some u) (h1 : ∀ u ∈ news, u.oneCell' = true) (h63 : k + m ≤ maxLen) (hb : (k + m) * i.bytes ≤ 140737488355328) :
    ∃ v' w', (Builtin.append_ #[t, t] ty #[v, .slice A m c]).run P w = .ok v' w' ∧ w'.ownsRow 0 e i.size v' (k + m) (xs ++ news) ∧ w'.os = w.os ∧ w'.tape = w.tape ∧ w'.output = w.output ∧ w.heap.size ≤ w'.heap.size ∧
      (∀ g, g < w.heap.size → v.ownBlock ≠ some g → w'.heap[g]? = w.heap[g]?) ∧ (v'.ownBlock = v.ownBlock ∨ ((∀ g, g < w.heap.size → w'.heap[g]? = w.heap[g]?) ∧ ∀ g, v'.ownBlock = some g → w.heap.size ≤ g)) := by
  have hsmall : k + m ≤ 9223372036854775807 := by simp only [maxLen] at h63; omega
  by_cases hn : news = []
  · subst hn
    have hm : m = 0 := by
      rcases Nat.mul_eq_zero.1 hl.symm with h | h
      · exact h
      · omega
    subst hm
    refine ⟨v, w, ?_, by simpa using hown, rfl, rfl, rfl, Nat.le_refl _, fun _ _ _ => rfl, .inl rfl⟩
    rcases hown.2 with ⟨rfl, rfl⟩ | ⟨g, cap, cur, rfl, _, _, hnc, _⟩ <;> cases A <;>
      simp [Builtin.append_, run_underlying ht, sizeOf, typeInfo, Builtin.lenOf, Builtin.firstCells, loadCells, loadCellsFrom, storeCells, *]
  · obtain ⟨ad, rfl, hc⟩ := hA.resolve_left hn
    have hm : 0 < m := by
      rcases Nat.eq_zero_or_pos m with h | h
      · subst h; exact absurd (List.eq_nil_of_length_eq_zero (by simpa using hl)) hn
      · exact h
    have hlen : (xs ++ news).length = (k + m) * i.size := by rw [List.length_append, hown.1, hl, Nat.add_mul]
    have new : ∀ (old : Nat), old < k + m → (w.drew.alloc (.cells (xs.toArray ++ news.toArray ++ Builtin.zeroCells z.cells (grownCap w (k + m) old e - (k + m))) e)).ownsRow 0 e i.size
        (.slice (some ⟨w.heap.size, 0, none⟩) (k + m) (grownCap w (k + m) old e)) (k + m) (xs ++ news) := fun old ho => by
      have hge := grownCap_ge w (k + m) old e
      refine ⟨hlen, .inr ⟨w.heap.size, _, _, rfl, Nat.zero_le _, heap_alloc_new w.drew _, hge, grownCap_le_maxLen w (k + m) old e h63, ?_, ?_⟩⟩
      · simp only [Array.size_append, List.size_toArray, size_zeroCells, hzs, hown.1, hl, ← Nat.add_mul]
        congr 1
        omega
      · simp only [Array.toList_append]
        rw [← hlen]
        exact List.take_left
    have hblock : ∀ (ob : Obj) g, g < w.heap.size → (w.drew.alloc ob).heap[g]? = w.heap[g]? := fun ob g hg => heap_alloc_old w.drew ob g hg
    rcases hown.2 with ⟨rfl, rfl⟩ | ⟨g, cap, cur, rfl, _, hg, hnc, hcm, hcs, htake⟩
    · have hx : xs = [] := List.eq_nil_of_length_eq_zero (by simpa using hown.1)
      subst hx
      have hr := run_append_nil (P := P) w t ty e i z ht hi hz ad m c news hl hc hm (by omega) (by simp only [Nat.zero_add] at hb; omega)
      have hN := new 0 (by omega)
      simp only [Nat.zero_add, List.nil_append, Array.empty_append] at hN ⊢
      exact ⟨_, _, hr, hN, rfl, rfl, rfl, by simp, fun g hg _ => hblock _ g hg, .inr ⟨fun g hg => hblock _ g hg, fun g hg => by simp [Value.ownBlock] at hg; omega⟩⟩
    · by_cases hroom : k + m ≤ cap
      · have hfit : k * i.size + news.length ≤ cur.size := by rw [hl, hcs, ← Nat.add_mul]; exact Nat.mul_le_mul_right _ hroom
        have hr := run_append_room (P := P) w t ty e i ht hi g k cap cur hg ad m c news hl hc h1 hroom hfit
        refine ⟨_, _, hr, ⟨hlen, .inr ⟨g, cap, _, rfl, Nat.zero_le _, setRow_heap w g cur _ e _ hg, hroom, hcm, ?_, ?_⟩⟩, rfl, rfl, rfl, by simp, fun b _ hbn => setRow_other w g b _ (fun e => hbn (by rw [e]; rfl)), .inl rfl⟩
        · simp only [List.size_toArray, List.length_append, List.length_take, List.length_drop, Array.length_toList]
          omega
        · simp only []
          rw [htake, ← hlen]
          exact List.take_left
      · have holds : ∀ j u, xs[j]? = some u → w.cell? ((⟨g, 0, none⟩ : Addr).add j) = some u := fun j u hj => hown.cells (g := g) rfl j u hj
        have hr := run_append_grow (P := P) w t ty e i z ht hi hz ⟨g, 0, none⟩ k cap xs hown.1 holds ad m c news hl hc (by omega) (by omega) (growslice_fits (by omega) hb)
        exact ⟨_, _, hr, new cap (by omega), rfl, rfl, rfl, by simp, fun b hb _ => hblock _ b hb, .inr ⟨fun b hb => hblock _ b hb, fun b hb => by simp [Value.ownBlock] at hb; omega⟩⟩
theorem Sim.app (S : Sim P n s a w F β O) {d : Nat} (hd : d < n) {e : TypeId} {own : Bool} {l m : List AV} {v x : Value} {i : TypeInfo} {z : Value} {t ty : TypeId} (ht : P.underlying t = some (.slice e)) (hi : P.info? e = some i) (hz : i.zero = some z) (hzs : z.cells.size = i.size) (hsz : 0 < i.size)
    (hv : relCap P w F β s.H.length O (.slot d) own e l v) (hx : relF w F β s.H.length (.sl i.size m) x) (h63 : l.length + m.length ≤ maxLen) (hb : (l.length + m.length) * i.bytes ≤ 140737488355328) :
    ∃ v' w', (Builtin.append_ #[t, t] ty #[v, x]).run P w = .ok v' w' ∧ Nxt P n s w F β O (s.one (.slot d (.cap own e (l ++ m)))) (a.put (some d) v') w' := by
  have hS : sizeT P e = i.size := by simp [sizeT, hi]
  obtain ⟨inner, hrow, hR, hO⟩ := hv
  simp only [relF] at hx
  obtain ⟨A, c, news, rfl, hlc, hRn, hmem⟩ := hx
  rw [hS] at hrow hR
  have hlx := rowsR_length hR
  have hln := rowsR_length hRn
  obtain ⟨v', w', hrun, hown, h1, h2, h3, h4, h5, h6⟩ := run_app (P := P) (w := w) (ty := ty) ht hi hz hzs hsz hrow (A := A) (m := m.length) (c := c) hln
    (by rcases hmem with h | ⟨b, q, he, h⟩
        · exact .inl h
        · exact .inr ⟨_, he, fun j u hu => by rw [addr_add]; exact (h j u hu).1⟩) (rowsR_one hRn) h63 hb
  refine ⟨v', w', hrun, ?_⟩
  let F' : Nat → Nat := fun g => if v'.ownBlock = some g then (if own then 0 else (l ++ m).length * i.size) else F g
  let O' : Nat → Option Own := fun g => if v'.ownBlock = some g then some (.pl (.slot d)) else O g
  have hvlt : ∀ g, v'.ownBlock = some g → g < w'.heap.size := fun g hg => (hown.lt g hg).2
  have hOld : ∀ g, v.ownBlock = some g → O g = some (.pl (.slot d)) ∧ F g = if own then 0 else l.length * i.size := fun g hg => by
    have := hO g hg; rw [hS] at this; exact this
  have hkeep : ∀ g, g < w.heap.size → v.ownBlock ≠ some g → w'.heap[g]? = w.heap[g]? ∧ F' g = F g ∧ O' g = O g := fun g hg hne => by
    have hne' : v'.ownBlock ≠ some g := by
      rcases h6 with h6 | ⟨_, h6⟩
      · rw [h6]; exact hne
      · intro h; have := h6 g h; omega
    exact ⟨h5 g hg hne, by simp only [F']; rw [if_neg hne'], by simp only [O']; rw [if_neg hne']⟩
  have hExt : Ext w F w' F' := by
    refine ⟨fun b q u hq hc => ?_, fun b hb => ?_⟩
    · have hlt := cell_lt hc
      by_cases hvb : v.ownBlock = some b
      · rcases h6 with h6 | ⟨h6, _⟩
        · obtain ⟨_, hF⟩ := hOld b hvb
          cases own with
          | true => simp at hF; omega
          | false =>
            simp only [Bool.false_eq_true, if_false] at hF
            rw [hF] at hq
            have hget : inner[q]? = some inner[q] := List.getElem?_eq_getElem (by omega)
            have e1 := hrow.cells hvb q _ hget
            rw [addr0] at e1
            rw [e1] at hc
            injection hc with hc
            subst hc
            have e2 := hown.cells (h6.trans hvb) q inner[q] (by rw [List.getElem?_append_left (by omega)]; exact hget)
            rw [addr0] at e2
            exact e2
        · rw [cell_block (w := w) (h6 b hlt)]; exact hc
      · rw [cell_block (w := w) (hkeep b hlt hvb).1]; exact hc
    · by_cases hvb : v.ownBlock = some b
      · simp only [F']
        split
        · rename_i h
          rw [(hOld b hvb).2]
          cases own
          · simp only [Bool.false_eq_true, if_false, List.length_append]; exact Nat.mul_le_mul_right _ (by omega)
          · simp
        · exact Nat.le_refl _
      · rw [(hkeep b hb hvb).2.1]; exact Nat.le_refl _
  refine ⟨F', β, O', ?_, ⟨h1, h2, h3, h4, fun g hg hM => ?_, hExt⟩, fun g hg => ?_, fun _ _ => rfl, by exact Nat.le_refl _⟩
  · refine S.slotW hd hExt (fun g q hq hh hn => ?_) (fun _ _ => rfl) (fun g q hq => ?_) ⟨inner ++ news, ?_, ?_, fun g hg => ?_⟩
    · have := hkeep g (S.olt g q hq) (fun hvb => by
        rw [(hOld g hvb).1] at hq
        injection hq with hq
        subst hq
        exact hn rfl)
      exact ⟨this.1, this.2.1, this.2.2.trans hq⟩
    · simp only [O'] at hq
      split at hq
      · rename_i h; exact hvlt g h
      · exact Nat.lt_of_lt_of_le (S.olt g q hq) h4
    · rw [hS, List.length_append]; exact hown
    · rw [hS]
      exact rowsR.ext hExt (fun _ _ => rfl) (Nat.le_refl _) _ _ _ (rowsR_append hR hRn)
    · simp only [O', F']
      rw [if_pos hg, if_pos hg, hS]
      exact ⟨rfl, rfl⟩
  · have := hkeep g hg (fun hvb => hM (by rw [(hOld g hvb).1]; rfl))
    exact ⟨this.1, this.2.1⟩
  · simp only [O'] at hg
    split at hg
    · rename_i h
      rcases h6 with h6 | ⟨_, h6⟩
      · rw [h6] at h; exact .inl (by rw [(hOld g h).1]; rfl)
      · exact .inr (h6 g h)
    · exact .inl hg
theorem builtin_run {c : Call} {b : Builtin} (ho : o.op = .call c) (hc : c.callee = .builtin b) :
    (execOp a.eval o).run P w = (builtin b c.argTypes o.type (c.args.map fun | .const _ => true | _ => false) (c.args.map a.eval)).run P w := by
  simp only [execOp, ho, resolve, hc, Sem.run_bind, Sem.run_pure, Result.andThen_ok, invoke]
  rfl
theorem elem_slice {t e : TypeId} (h : elemT P t = some e) : P.underlying t = some (.slice e) := by
  unfold elemT at h
  split at h
  · rename_i e' hu; injection h with h; rw [hu, h]
  · cases h
theorem arr1 {α : Type} {x : Array α} {a : α} (h : x.toList = [a]) : x = #[a] := by apply Array.ext'; simpa using h
theorem arr2 {α : Type} {x : Array α} {a b : α} (h : x.toList = [a, b]) : x = #[a, b] := by apply Array.ext'; simpa using h
theorem const_nil {t : TypeId} {x : Operand} {m : Nat} (hx : ∃ v, x = .const v) (h : (valO P t x).run s = some (.sl m [])) : a.eval x = .slice none 0 0 := by
  obtain ⟨v, rfl⟩ := hx
  have h := Q.lift_some h
  unfold ofConst at h
  split at h
  · rfl
  · split at h
    · cases h
    · cases h
theorem room_sound {e : TypeId} {sz k m : Nat} (h : roomE P e sz k m = true) : ∃ i z, P.info? e = some i ∧ i.zero = some z ∧ z.cells.size = i.size ∧ 0 < i.size ∧ sz = i.size ∧ k + m ≤ maxLen ∧ (k + m) * i.bytes ≤ 140737488355328 := by
  unfold roomE at h
  cases hi : P.info? e with
  | none => simp [hi] at h
  | some i =>
    simp only [hi, Bool.and_eq_true, decide_eq_true_eq, Nat.ble_eq] at h
    obtain ⟨⟨⟨⟨h1, h2⟩, h3⟩, h4⟩, h5⟩ := h
    have h3 := beq_eq h3
    simp only [sizeT, hi] at h3
    cases hz : i.zero with
    | none => simp [hz] at h5
    | some z =>
      simp only [hz] at h5
      have h5 := beq_eq h5
      exact ⟨i, z, rfl, hz, by omega, by omega, h3, by simpa [maxLen] using h2, h1⟩
theorem ok_append (S : Sim P n s a w F β O) (hd : ∀ d, o.dst = some d → d < n) {c : Call} {t : TypeId} {x y : Operand} (ho : o.op = .call c) (hc : c.callee = .builtin .append) (hts : c.argTypes = #[t, t]) (hxs : c.args = #[x, y]) (hdst : o.dst.isSome = true)
    {e : TypeId} (he : elemT P t = some e) (h : ((valO P t x).bind fun a => (shareO P t y).bind fun m =>
        match m with
        | .sl sz m => (match a with
          | .sl _ [] => (match x with | .const _ => if roomE P e sz 0 m.length then one o.dst (.cap true e m) else .fail | _ => .fail)
          | .ref p ver => (capAt p ver).bind fun (own, e', l) => if Nat.beq e e' && roomE P e sz l.length m.length then one o.dst (.cap own e (l ++ m)) [gone p] else .fail
          | _ => .fail)
        | _ => Q.fail).run s = some ws) : OpOk P n s a w F β O o ws := by
  obtain ⟨v, h1, k1⟩ := Q.bind_some h
  obtain ⟨m, h2, k2⟩ := Q.bind_some k1
  clear h k1
  have hv := valO_sound S h1
  obtain ⟨hm, _⟩ := shareO_sound S h2
  obtain ⟨d, hd'⟩ := Option.isSome_iff_exists.1 hdst
  have hu := elem_slice he
  have hrun : ∀ {v' : Value} {w' : World}, (Builtin.append_ #[t, t] o.type #[a.eval x, a.eval y]).run P w = .ok v' w' → (execOp a.eval o).run P w = .ok (.value v') w' := fun h => by
    rw [builtin_run ho hc, hts, hxs]
    simp only [builtin, List.map_toArray, List.map_cons, List.map_nil, Sem.run_bind, h, Result.andThen_ok, Sem.run_pure]
  cases m with
  | sl sz m =>
    simp only [] at k2
    split at k2
    · rename_i sz'
      split at k2
      · rename_i c0
        split at k2
        · rename_i hr
          obtain ⟨i, z, hi, hz, hzs, hsz, rfl, h63, hb⟩ := room_sound hr
          have hx := const_nil (a := a) ⟨c0, rfl⟩ h1
          have hrow : relCap P w F β s.H.length O (.slot d) true e [] (.slice none 0 0) := ⟨[], World.ownsRow_nil _ _ _ _, by simp only [rowsR], fun g hg => by simp [Value.ownBlock] at hg⟩
          obtain ⟨v', w', g1, g2⟩ := S.app (hd d hd') (ty := o.type) hu hi hz hzs hsz hrow hm (by simpa using h63) (by simpa using hb)
          intro next R hn
          refine wp_value (hrun (by rw [hx]; exact g1)) (hn _ _ ?_)
          rw [one_some k2, hd']
          exact g2
        · cases k2
      · cases k2
    · rename_i p ver
      obtain ⟨⟨own, e', l⟩, h3, k3⟩ := Q.bind_some k2
      clear k2
      obtain ⟨h4, h5⟩ := capAt_run h3
      simp only [] at k3
      split at k3
      · rename_i hr
        simp only [Bool.and_eq_true] at hr
        have hee := beq_eq hr.1
        subst hee
        obtain ⟨i, z, hi, hz, hzs, hsz, rfl, h63, hb⟩ := room_sound hr.2
        obtain ⟨u, F1, O1, g1, S1, g2, g3, g4, g5⟩ := S.move h5 (.slot d) own (fun h => h)
        have hxu := ((hv.2 0).2 h4).2
        rw [g1] at hxu
        injection hxu with hxu
        obtain ⟨v', w', g6, g7⟩ := S1.app (hd d hd') (ty := o.type) hu hi hz hzs hsz (by rw [g5]; exact g2) (by rw [g5]; exact relF.ext g3.ext (fun _ _ => rfl) (Nat.le_refl _) _ _ hm) h63 hb
        intro next R hn
        refine wp_value (hrun (by rw [← hxu]; exact g6)) (hn _ _ ?_)
        rw [one_some k3, hd']
        exact g7.after g3 g4 g5
      · cases k3
    · cases k2
  | _ => cases k2
def bnd : Option Nat → Option Value → Prop
  | none, none => True
  | some j, some u => ∃ k i, u = .int k i ∧ 0 ≤ i ∧ i.toNat = j
  | _, _ => False
theorem optIdx_sound (S : Sim P n s a w F β O) {t : TypeId} {x : Option Operand} {r : Option Nat} (h : (optIdx P t x).run s = some r) : bnd r (x.map a.eval) := by
  cases x with
  | none => have := Q.ret_some h; subst this; trivial
  | some x =>
    simp only [optIdx] at h
    obtain ⟨v, h1, k1⟩ := Q.bind_some h
    have hv := (valO_sound S h1).2 0
    cases hj : idxOf v with
    | none => rw [hj] at k1; cases k1
    | some j =>
      rw [hj] at k1
      have := Q.ret_some k1
      subst this
      obtain ⟨k, i, rfl, h2, h3⟩ : ∃ k i, v = .sc (.int k i) ∧ 0 ≤ i ∧ i.toNat = j := by
        unfold idxOf at hj
        split at hj
        · split at hj
          · injection hj with hj; exact ⟨_, _, rfl, by assumption, hj⟩
          · cases hj
        · cases hj
      exact ⟨k, i, (relS_sc hv).1, h2, h3⟩
theorem bounds_run {b : Bool} {len cap : Nat} {lo hi : Option Nat} {vl vh : Option Value} (hl : bnd lo vl) (hh : bnd hi vh) (h1 : lo.getD 0 ≤ hi.getD len) (h2 : hi.getD len ≤ cap) :
    (Instr.sliceBounds b len cap vl vh none).run P w = .ok (lo.getD 0, hi.getD len, cap) w := by
  have key : ∀ {j : Nat} {i : Int} {k : IntKind} {y : Nat} {code : BoundsCode}, 0 ≤ i → i.toNat = j → j ≤ y → (Instr.sliceBound (.int k i) y code).run P w = .ok j w := fun {j i k y code} h0 h1 h2 => by
    rw [run_sliceBound _ _ _ _ _ h0 (by omega), h1]
  cases hi with
  | none =>
    cases vh with
    | some _ => exact hh.elim
    | none =>
      cases lo with
      | none =>
        cases vl with
        | some _ => exact hl.elim
        | none => simp [Instr.sliceBounds]
      | some l =>
        cases vl with
        | none => exact hl.elim
        | some ul =>
          obtain ⟨k, i, rfl, h3, h4⟩ := hl
          simp only [Option.getD_some, Option.getD_none] at h1 h2
          simp only [Instr.sliceBounds, Sem.run_bind, Sem.run_pure, Result.andThen_ok, key h3 h4 h1, Option.getD_some, Option.getD_none]
  | some hi =>
    cases vh with
    | none => exact hh.elim
    | some uh =>
      obtain ⟨kh, ih, rfl, h5, h6⟩ := hh
      simp only [Option.getD_some] at h1 h2
      cases lo with
      | none =>
        cases vl with
        | some _ => exact hl.elim
        | none => simp only [Instr.sliceBounds, Sem.run_bind, Sem.run_pure, Result.andThen_ok, key h5 h6 h2, Option.getD_some, Option.getD_none]
      | some l =>
        cases vl with
        | none => exact hl.elim
        | some ul =>
          obtain ⟨k, i, rfl, h3, h4⟩ := hl
          simp only [Option.getD_some] at h1
          simp only [Instr.sliceBounds, Sem.run_bind, Sem.run_pure, Result.andThen_ok, key h5 h6 h2, key h3 h4 h1, Option.getD_some]
theorem cut_run {t e : TypeId} {x : Operand} {l h : Option Operand} {lo hi : Option Nat} {A : Option Addr} {len cap : Nat} (ho : o.op = .slice t x l h none) (hu : P.underlying t = some (.slice e)) (hs : 1 ≤ sizeT P e) (hx : a.eval x = .slice A len cap)
    (hl : bnd lo (l.map a.eval)) (hh : bnd hi (h.map a.eval)) (h1 : lo.getD 0 ≤ hi.getD len) (h2 : hi.getD len ≤ cap) :
    (execOp a.eval o).run P w = .ok (.value (.slice (if cap = lo.getD 0 then A else A.map (·.add (lo.getD 0 * sizeT P e))) (hi.getD len - lo.getD 0) (cap - lo.getD 0))) w := by
  simp only [execOp, ho, Instr.sliceAt, Instr.slice, Sem.run_bind, run_underlying hu, Result.andThen_ok, hx, Option.map_none, bounds_run hl hh h1 h2, sizeOf_run hs, Sem.run_pure]
theorem cutF {h : Nat} {sz lo hi cap : Nat} {l : List AV} {A : Option Addr} {inner : List Value} (hr : rowsR w F β h sz l inner) (hm : memAt w F A inner) (h1 : lo ≤ hi) (h2 : hi ≤ l.length) (h3 : l.length ≤ cap) :
    relF w F β h (.sl sz ((l.take hi).drop lo)) (.slice (if cap = lo then A else A.map (·.add (lo * sz))) (hi - lo) (cap - lo)) := by
  have hrow := rowsR_drop (rowsR_take hr hi) lo
  have hlen : ((l.take hi).drop lo).length = hi - lo := by rw [List.length_drop, List.length_take]; omega
  simp only [relF]
  refine ⟨_, _, _, by rw [hlen], by omega, hrow, ?_⟩
  by_cases hc : cap = lo
  · left
    have := rowsR_length hrow
    exact List.eq_nil_of_length_eq_zero (by rw [this, hlen, show hi - lo = 0 by omega]; simp)
  · rw [if_neg hc]
    rcases hm with h | ⟨b, q, he, h⟩
    · subst h; left; simp
    · subst he
      right
      refine ⟨b, q + lo * sz, by simp [addr_add], fun j u hj => ?_⟩
      rw [List.getElem?_drop, List.getElem?_take] at hj
      split at hj
      · have := h _ u hj
        rw [show q + lo * sz + j = q + (lo * sz + j) by omega]
        exact this
      · cases hj
theorem ok_slice (S : Sim P n s a w F β O) (hd : ∀ d, o.dst = some d → d < n) {t : TypeId} {x : Operand} {lo hi : Option Operand} (ho : o.op = .slice t x lo hi none) (hdst : o.dst.isSome = true)
    (h : ((valO P t x).bind fun v => (optIdx P 0 lo).bind fun lo => (optIdx P 0 hi).bind fun hi => match v, P.underlying t with
    | .sc (.string s), some .string => if Nat.ble (lo.getD 0) (hi.getD s.size) && Nat.ble (hi.getD s.size) s.size then one o.dst (.sc (.string (s.extract (lo.getD 0) (hi.getD s.size)))) else .fail
    | .sl sz l, some (.slice e) => if Nat.beq sz (sizeT P e) && Nat.ble (lo.getD 0) (hi.getD l.length) && Nat.ble (hi.getD l.length) l.length && Nat.ble 1 (sizeT P e) then one o.dst (.sl sz ((l.take (hi.getD l.length)).drop (lo.getD 0))) else .fail
    | .ref p ver, some (.slice e) => (capAt p ver).bind fun (own, e', l) =>
      if Nat.beq e e' && Nat.ble (lo.getD 0) (hi.getD l.length) && Nat.ble (hi.getD l.length) l.length && Nat.ble 1 (sizeT P e) then
        (match own, lo with
        | true, none => one o.dst (.cap true e (l.take (hi.getD l.length))) [gone p]
        | false, _ => one o.dst (.sl (sizeT P e) ((l.take (hi.getD l.length)).drop (lo.getD 0)))
        | _, _ => .fail) else .fail
    | .hsl b off sz len cap, some (.slice e) => if Nat.beq sz (sizeT P e) && Nat.ble (lo.getD 0) (hi.getD len) && Nat.ble (hi.getD len) len && Nat.ble len cap && Nat.ble 1 (sizeT P e) then one o.dst (.hsl b (if Nat.beq cap (lo.getD 0) then off else off + lo.getD 0 * sz) sz (hi.getD len - lo.getD 0) (cap - lo.getD 0)) else .fail
    | _, _ => Q.fail).run s = some ws) : OpOk P n s a w F β O o ws := by
  obtain ⟨v, h1, k1⟩ := Q.bind_some h
  obtain ⟨rl, h2, k2⟩ := Q.bind_some k1
  obtain ⟨rh, h3, k3⟩ := Q.bind_some k2
  clear h k1 k2
  have hv := valO_sound S h1
  have hl := optIdx_sound S h2
  have hh := optIdx_sound S h3
  obtain ⟨d, hd'⟩ := Option.isSome_iff_exists.1 hdst
  split at k3
  · rename_i str hu
    have hx := (relS_sc (hv.2 0)).1
    split at k3
    · rename_i hb
      simp only [Bool.and_eq_true, Nat.ble_eq] at hb
      refine finF S hd rfl (sc_rel rfl) k3 ?_
      simp only [execOp, ho, Instr.sliceAt, Instr.slice, Sem.run_bind, run_underlying hu, Result.andThen_ok, hx, Option.map_none, Option.isSome_none, Bool.false_eq_true, if_false, bounds_run hl hh hb.1 hb.2, Sem.run_pure]
    · cases k3
  · rename_i sz l e hu
    obtain ⟨A, c, inner, hx, hlc, hR, hm⟩ := relS_sl (hv.2 0)
    split at k3
    · rename_i hb
      simp only [Bool.and_eq_true, Nat.ble_eq] at hb
      obtain ⟨⟨⟨b1, b2⟩, b3⟩, b4⟩ := hb
      have b1 := beq_eq b1
      subst b1
      exact finF S hd rfl (cutF hR hm b2 b3 hlc) k3 (cut_run ho hu b4 hx hl hh b2 (by omega))
    · cases k3
  · rename_i p ver e hu
    obtain ⟨⟨own, e', l⟩, h4, k4⟩ := Q.bind_some k3
    clear k3
    obtain ⟨h5, h6⟩ := capAt_run h4
    have h6 : s.av p = .cap own e' l := h6
    have hxp := ((hv.2 0).2 h5).2
    simp only [] at k4
    split at k4
    · rename_i hb
      simp only [Bool.and_eq_true, Nat.ble_eq] at hb
      obtain ⟨⟨⟨b1, b2⟩, b3⟩, b4⟩ := hb
      have b1 := beq_eq b1
      subst b1
      split at k4
      · obtain ⟨u, F1, O1, g1, S1, ⟨inner, hrow, hR, hO⟩, g3, g4, g5⟩ := S.move h6 (.slot d) true (fun _ => rfl)
        rw [g1] at hxp
        injection hxp with hxp
        subst hxp
        simp only [Option.getD_none] at b2
        obtain ⟨A, c, hx, hlc, hA⟩ : ∃ A c, a.eval x = .slice A l.length c ∧ l.length ≤ c ∧ w.ownsRow 0 e (sizeT P e) (.slice A (rh.getD l.length) c) (rh.getD l.length) (inner.take (rh.getD l.length * sizeT P e)) ∧ Value.ownBlock (.slice A (rh.getD l.length) c) = Value.ownBlock (a.eval x) := by
          rcases hrow with ⟨hlen, ⟨hx, hn⟩ | ⟨g, cap, cur, hx, q1, q2, q3, q4, q5, q6⟩⟩
          · have : rh.getD l.length = 0 := by omega
            refine ⟨none, 0, by rw [hx, hn], by omega, ?_, by rw [hx]; rfl⟩
            rw [this]
            simpa using World.ownsRow_nil w 0 e (sizeT P e)
          · refine ⟨_, cap, hx, q3, ⟨?_, .inr ⟨g, cap, cur, rfl, q1, q2, by omega, q4, q5, ?_⟩⟩, by rw [hx]; rfl⟩
            · rw [List.length_take, hlen]; exact Nat.min_eq_left (Nat.mul_le_mul_right _ b3)
            · rw [← q6, List.take_take]; congr 1; exact (Nat.min_eq_left (Nat.mul_le_mul_right _ b3)).symm
        have hcut := cut_run (w := w) (lo := none) ho hu b4 hx hl hh b2 (by omega)
        have e0 : (if c = 0 then A else A.map (·.add (0 * sizeT P e))) = A := by
          split
          · rfl
          · cases A with
            | none => rfl
            | some ad => simp [Addr.add]
        simp only [Option.getD_none, e0, Nat.sub_zero] at hcut
        intro next R hn
        refine wp_value hcut (hn _ _ ?_)
        rw [one_some k4, hd']
        refine Nxt.after g3 g4 g5 (Nxt.here (S1.slot (hd d hd') (v := .cap true e (l.take (rh.getD l.length))) ⟨inner.take (rh.getD l.length * sizeT P e), ?_, ?_, fun g hg => ?_⟩) (Nat.le_refl _))
        · rw [List.length_take, Nat.min_eq_left b3]; exact hA.1
        · rw [g5]; exact rowsR_take hR _
        · rw [hA.2] at hg
          exact hO g hg
      · obtain ⟨u, g1, g2⟩ := cap_at S h6
        rw [g1] at hxp
        injection hxp with hxp
        subst hxp
        have hF := relCap_sl g2
        simp only [relF] at hF
        obtain ⟨A, c, inner, hx, hlc, hR, hm⟩ := hF
        exact finF S hd rfl (cutF hR hm b2 b3 hlc) k4 (cut_run ho hu b4 hx hl hh b2 (by omega))
      · cases k4
    · cases k4
  · rename_i b off sz len cap e hu
    have hx : b < s.H.length ∧ a.eval x = .slice (some ⟨β b, off, none⟩) len cap := by have := hv.2 0; simp only [relS, relF] at this; exact this
    split at k3
    · rename_i hb
      simp only [Bool.and_eq_true, Nat.ble_eq] at hb
      obtain ⟨⟨⟨⟨b1, b2⟩, b3⟩, b4⟩, b5⟩ := hb
      have b1 := beq_eq b1
      subst b1
      have hcut := cut_run (w := w) (o := o) ho hu b5 hx.2 hl hh b2 (by omega)
      refine finF S hd rfl ?_ k3 hcut
      simp only [relF]
      refine ⟨hx.1, ?_⟩
      cases hc : Nat.beq cap (rl.getD 0) with
      | true => rw [if_pos (beq_eq hc), if_pos rfl]
      | false =>
        rw [if_neg (fun h => by rw [h] at hc; simp at hc), if_neg (by simp)]
        simp only [Option.map_some, addr_add]
    · cases k3
  · cases k3
end
end Go.Vai
