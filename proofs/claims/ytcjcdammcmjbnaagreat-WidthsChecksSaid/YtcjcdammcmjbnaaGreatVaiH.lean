/- What the machine's operations do: addresses, loads, fields, indexes. -/
import Derived.Test.YtcjcdammcmjbnaaGreatVaiG
namespace Go.Vai
section
variable {P : Program} {w w' : World} {F F' : Nat → Nat} {β β' : Nat → Nat} {O O' : Nat → Option Own} {n : Nat} {s : St} {a : Act} {o : Oper} {ws : List W}
theorem addr_of {v v' : AV} {u : Value} {k : Nat} {i : Nat} (r : relS P w F β s.H.length O s a i v u) (hk : addOff k v = some v')
  (hu : ∃ b q, u = .pointer (some ⟨b, q, none⟩)) : owns v' = false ∧ ∃ b q, u = .pointer (some ⟨b, q, none⟩) ∧ ∀ i, relS P w F β s.H.length O s a i v' (.pointer (some ⟨b, q + k, none⟩)) := by
 obtain ⟨b, q, rfl⟩ := hu
 cases v with
 | lptr m ver off =>
  injection hk with hk
  subst hk
  refine ⟨rfl, b, q, rfl, fun i => ⟨r.1, fun h => ?_⟩⟩
  obtain ⟨h1, b', h2, h3⟩ := r.2 h
  injection h3 with h3
  injection h3 with h3
  injection h3 with h3 h4
  subst h3
  subst h4
  exact ⟨h1, _, h2, rfl⟩
 | ptr b' off =>
  injection hk with hk
  subst hk
  obtain ⟨h1, h2⟩ := relS_ptr r
  injection h2 with h2
  injection h2 with h2
  injection h2 with h2 h3
  subst h2
  subst h3
  exact ⟨rfl, _, _, rfl, fun i => by simp only [relS, relF]; exact ⟨h1, trivial⟩⟩
 | ea l =>
  injection hk with hk
  subst hk
  obtain ⟨b', q', inner, h1, h2, h3⟩ := relS_ea r
  injection h1 with h1
  injection h1 with h1
  injection h1 with h1 h4
  subst h1
  subst h4
  refine ⟨rfl, _, _, rfl, fun i => ?_⟩
  simp only [relS, relF]
  refine ⟨_, _, inner.drop k, rfl, cellsR_drop h2 k, ?_⟩
  rcases h3 with h3 | ⟨b2, q2, h4, h5⟩
  ·subst h3; exact .inl (by simp)
  ·injection h4 with h4
   injection h4 with h4 h6
   subst h4
   subst h6
   refine .inr ⟨_, _, rfl, fun j x hx => ?_⟩
   rw [List.getElem?_drop] at hx
   have := h5 _ x hx
   rw [show q + k + j = q + (k + j) by omega]
   exact this
 | eaddr p ver sz j off =>
  injection hk with hk
  subst hk
  refine ⟨rfl, b, q, rfl, fun i => ⟨r.1, fun h => ?_⟩⟩
  obtain ⟨h1, g, m, c, h2, h3⟩ := r.2 h
  injection h3 with h3
  injection h3 with h3
  injection h3 with h3 h4
  subst h3
  subst h4
  exact ⟨h1, _, m, c, h2, by rw [Nat.add_assoc]⟩
 | _ => cases hk
theorem field_run {t : TypeId} {x : Operand} {i off : Nat} {u : TypeId} {b q : Nat} (ho : o.op = .fieldAddr t x i) (hf : fieldOf P t i = some (off, u)) (hx : a.eval x = .pointer (some ⟨b, q, none⟩)) :
  (execOp a.eval o).run P w = .ok (.value (.pointer (some ⟨b, q + off, none⟩))) w := by
 unfold fieldOf at hf
 split at hf
 ·rename_i fs hu
  split at hf
  ·rename_i fd hfd
   split at hf
   ·cases hf
   ·rename_i hz
    injection hf with hf
    injection hf with hf1 hf2
    subst hf1
    have hs : 1 ≤ sizeT P fd.type := by
     rcases Nat.eq_zero_or_pos (sizeT P fd.type) with h | h
     ·rw [h] at hz; exact absurd rfl hz
     ·exact h
    simp only [execOp, ho, Sem.run_bind, Instr.fieldAt, run_underlying hu, Result.andThen_ok, hfd, hx, Instr.sureAddr, Sem.run_pure, fieldPlace, sizeOf_run hs]
    rw [if_neg (by omega)]
    simp [addr_add]
  ·cases hf
 ·cases hf
theorem ok_fieldAddr (S : Sim P n s a w F β O) (hd : ∀ d, o.dst = some d → d < n) {t : TypeId} {x : Operand} {i : Nat} (ho : o.op = .fieldAddr t x i)
  (h : ((valO P 0 x).bind fun v => (known v).bind fun _ => match fieldOf P t i with | some (off, _) => (Q.lift (addOff off v)).bind fun v => one o.dst v | none => .fail).run s = some ws) : OpOk P n s a w F β O o ws := by
 obtain ⟨v, h1, h⟩ := Q.bind_some h
 obtain ⟨_, h2, h⟩ := Q.bind_some h
 have r := (valO_sound S h1).2 0
 have hk := known_sound r h2
 split at h
 ·rename_i off u hf
  obtain ⟨v', h3, h⟩ := Q.bind_some h
  obtain ⟨h4, b, q, h5, h6⟩ := addr_of r (Q.lift_some h3) hk
  exact fin S hd h4 h6 h (field_run ho hf h5)
 ·cases h
theorem run_loadAgg {t : TypeId} {b q : Nat} {cs : List Value} (ha : aggO P t = some true) (hs : 1 ≤ sizeT P t) (hl : cs.length = sizeT P t) (hc : ∀ j v, cs[j]? = some v → w.cell? ⟨b, q + j, none⟩ = some v) :
  (loadVar t ⟨b, q, none⟩).run P w = .ok (.agg cs.toArray) w := by
 have h := run_loadCells_list (P := P) w ⟨b, q, none⟩ cs (fun j v hv => by rw [addr_add]; exact hc j v hv)
 rw [hl] at h
 simp only [loadVar, Sem.run_bind, isAgg_run ha, Result.andThen_ok, if_pos, sizeOf_run hs, h, Sem.run_pure]
theorem run_loadOne {t : TypeId} {ad : Addr} {v : Value} (ha : aggO P t = some false) (hc : w.cell? ad = some v) : (loadVar t ad).run P w = .ok v w := by
 simp only [loadVar, Sem.run_bind, isAgg_run ha, Result.andThen_ok, Bool.false_eq_true, if_false, run_load, hc]
theorem load_run {t : TypeId} {x : Operand} {ad : Addr} {u : Value} (ho : o.op = .load t x) (hx : a.eval x = .pointer (some ad)) (h : (loadVar t ad).run P w = .ok u w) : (execOp a.eval o).run P w = .ok (.value u) w := by
 simp [execOp, ho, hx, Instr.loadAt, Instr.sureAddr, h]
theorem loadF_sound {h : Nat} {t : TypeId} {l : List AV} {off : Nat} {v : AV} {b q : Nat} {inner : List Value} (hr : (loadF P t l off).run s = some v) (hc : cellsR w F β h l inner) (hm : ∀ j u, inner[j]? = some u → w.cell? ⟨b, q + j, none⟩ = some u) :
  ∃ u, (loadVar t ⟨b, q + off, none⟩).run P w = .ok u w ∧ relF w F β h v u ∧ owns v = false := by
 unfold loadF at hr
 split at hr
 ·rename_i ha
  split at hr
  ·rename_i hb
   have hr := Q.ret_some hr
   subst hr
   simp only [Bool.and_eq_true, Nat.ble_eq] at hb
   have hlen := cellsR_length hc
   have hc2 := cellsR_take (cellsR_drop hc off) (sizeT P t)
   refine ⟨_, run_loadAgg ha hb.2 (cs := (inner.drop off).take (sizeT P t)) (by rw [List.length_take, List.length_drop]; omega) (fun j u hj => ?_), by simp only [relF]; exact ⟨_, rfl, hc2⟩, rfl⟩
   rw [List.getElem?_take] at hj
   split at hj
   ·rw [List.getElem?_drop] at hj
    rw [Nat.add_assoc]
    exact hm _ u hj
   ·cases hj
  ·cases hr
 ·rename_i ha
  split at hr
  ·rename_i v0 hv
   have hr := Q.ret_some hr
   subst hr
   obtain ⟨u, hu, hlx, hru⟩ := cellsR_get hc hv
   exact ⟨u, run_loadOne ha (hm off u hu), hru, by cases v0 <;> first | rfl | cases hlx⟩
  ·cases hr
 ·cases hr
theorem sharedCell_sound {h : Nat} {p : Pl} {x y : AV} {u : Value} (r : relCell P w F β h O p x u) (hy : sharedCell P x = some y) : leaf y = true ∧ relF w F β h y u := by
 cases x with
 | cap o e l =>
  cases o with
  | true => simp [sharedCell, leaf] at hy
  | false =>
   simp only [sharedCell] at hy
   injection hy with hy
   subst hy
   exact ⟨rfl, relCap_sl r⟩
 | undef => simp [sharedCell, leaf] at hy
 | _ =>
  simp only [sharedCell] at hy
  split at hy
  ·injection hy with hy
   subst hy
   exact r
  ·cases hy
theorem sharedCells_sound {h : Nat} {pc : Nat → Pl} : ∀ {l c : List AV} {us : List Value} {k : Nat}, us.length = l.length → (∀ j x u, l[j]? = some x → us[j]? = some u → relCell P w F β h O (pc (k + j)) x u) → l.mapM (sharedCell P) = some c → cellsR w F β h c us
 | [], c, us, k, hl, _, hm => by
  simp at hm
  subst hm
  simp only [cellsR]
  exact List.eq_nil_of_length_eq_zero hl
 | x :: l, c, us, k, hl, hr, hm => by
  cases us with
  | nil => simp at hl
  | cons u us =>
   simp only [List.mapM_cons, Option.bind_eq_bind, Option.bind_eq_some_iff] at hm
   obtain ⟨y, hy, c', hc', hp⟩ := hm
   injection hp with hp
   subst hp
   obtain ⟨h1, h2⟩ := sharedCell_sound (hr 0 x u rfl rfl) hy
   have := sharedCells_sound (pc := pc) (k := k + 1) (by simpa using hl) (fun j x u hx hu => by have := hr (j + 1) x u (by simpa using hx) (by simpa using hu); rw [show k + 1 + j = k + (j + 1) by omega]; exact this) hc'
   simp only [cellsR]
   exact ⟨u, us, rfl, h1, h2, this⟩
theorem loadC_sound {h : Nat} {t : TypeId} {l : List AV} {off : Nat} {v : AV} {b : Nat} {q : Own} {pc : Nat → Pl} {ver : Nat} (hr : (loadC P t pc ver l off).run s = some v) (hb : boxAt P w F β h O q pc b l)
  (hp : ∀ j o e m, l[j]? = some (.cap o e m) → s.le (pc j) ver ∧ s.capped (pc j) ∧ ∀ u, w.cell? ⟨b, j, none⟩ = some u → valAt a w β (pc j) = some u) :
  ∃ u, (loadVar t ⟨b, off, none⟩).run P w = .ok u w ∧ owns v = false ∧ ∀ i, relS P w F β h O s a i v u := by
 obtain ⟨cs, T, h1, h2, h3, h4, h5⟩ := hb
 have hcell : ∀ j, w.cell? ⟨b, j, none⟩ = cs[j]? := fun j => cell_of_row w b j cs T (0, 0) h1
 unfold loadC at hr
 split at hr
 ·rename_i ha
  split at hr
  ·rename_i hb
   simp only [Bool.and_eq_true, Nat.ble_eq] at hb
   split at hr
   ·rename_i c hc
    have hr := Q.ret_some hr
    subst hr
    have hlen : ((cs.toList.drop off).take (sizeT P t)).length = sizeT P t := by rw [List.length_take, List.length_drop, Array.length_toList]; omega
    have hcR : cellsR w F β h c ((cs.toList.drop off).take (sizeT P t)) := by
     refine sharedCells_sound (O := O) (pc := pc) (k := off) ?_ (fun j x u hx hu => ?_) hc
     ·rw [hlen, List.length_take, List.length_drop]; omega
     ·rw [List.getElem?_take] at hx hu
      split at hx
      ·rename_i hj
       rw [if_pos hj] at hu
       rw [List.getElem?_drop] at hx hu
       exact h5 _ x u hx (by simpa using hu)
      ·cases hx
    refine ⟨_, run_loadAgg ha hb.2 hlen (fun j u hj => ?_), rfl, fun i => by simp only [relS, relF]; exact ⟨_, rfl, hcR⟩⟩
    rw [List.getElem?_take] at hj
    split at hj
    ·rw [List.getElem?_drop] at hj
     rw [hcell]
     simpa using hj
    ·cases hj
   ·cases hr
  ·cases hr
 ·rename_i ha
  split at hr
  ·rename_i v0 hv
   have hr := Q.ret_some hr
   subst hr
   have hlt : off < cs.size := by rw [h4]; exact (List.getElem?_eq_some_iff.1 hv).1
   have hu : cs[off]? = some cs[off] := Array.getElem?_eq_getElem hlt
   have r := h5 off v0 _ hv hu
   have hc : w.cell? ⟨b, off, none⟩ = some cs[off] := (hcell off).trans hu
   refine ⟨cs[off], run_loadOne ha hc, ?_, fun i => ?_⟩
   ·cases v0 <;> first | rfl | cases r.1
   ·cases v0 with
    | cap o e m =>
     obtain ⟨h6, h7, h8⟩ := hp off o e m hv
     exact ⟨h6, fun _ => ⟨h7, h8 _ hc⟩⟩
    | undef => simp only [seen, relS, relF]
    | _ => exact relS_F r.2
  ·cases hr
 ·cases hr
theorem ok_load (S : Sim P n s a w F β O) (hd : ∀ d, o.dst = some d → d < n) {t : TypeId} {x : Operand} (ho : o.op = .load t x)
  (h : ((valO P 0 x).bind fun v => match v with
  | .lptr s ver off => .slot s fun b ver' => if Nat.beq ver ver' then (match b with | .box l => (loadC P t (.lcell s) ver l off).bind fun v => one o.dst v | _ => .fail) else .fail
  | .ptr b off => .heap fun H hv => match H[b]? with | some l => (loadC P t (.hcell b) hv l off).bind fun v => one o.dst v | none => .fail
  | .ea l => (loadF P t l 0).bind fun v => one o.dst v
  | .eaddr p ver sz i off => (capAt p ver).bind fun (_, e, l) => match (l[i]?).bind cellsOf with
   | some c => if Nat.beq sz (sizeT P e) then (loadF P t c off).bind fun v => one o.dst v else .fail
   | none => .fail
  | _ => Q.fail).run s = some ws) : OpOk P n s a w F β O o ws := by
 obtain ⟨v, h1, h⟩ := Q.bind_some h
 have r := (valO_sound S h1).2 0
 cases v with
 | lptr m ver off =>
  simp only [Q.run] at h
  split at h
  ·rename_i hb
   have hver := (beq_eq hb).symm
   obtain ⟨_, b, hm, hu⟩ := r.2 hver
   have rm := S.slots m _ hm
   revert h rm
   cases hg : (s.get m).1 with
   | box l =>
    intro h rm
    obtain ⟨b', he, hbox⟩ := rm
    injection he with he
    injection he with he
    injection he with he
    subst he
    obtain ⟨v, h2, h⟩ := Q.bind_some h
    obtain ⟨u, h3, h4, h5⟩ := loadC_sound (a := a) h2 hbox (fun j o e m' hj => ⟨Nat.le_of_eq hver.symm, box_capped hg hj, fun u hc => by simp only [valAt, hm]; exact hc⟩)
    exact fin S hd h4 h5 h (load_run ho hu h3)
   | _ => intro h; cases h
  ·cases h
 | ptr b off =>
  obtain ⟨hbl, hu⟩ := relS_ptr r
  simp only [Q.run] at h
  split at h
  ·rename_i l hl
   obtain ⟨v, h2, h⟩ := Q.bind_some h
   obtain ⟨u, h3, h4, h5⟩ := loadC_sound (a := a) h2 (S.heap b l hl) (fun j o e m' hj => ⟨Nat.le_refl _, heap_capped hl hj, fun u hc => hc⟩)
   exact fin S hd h4 h5 h (load_run ho hu h3)
  ·cases h
 | ea l =>
  obtain ⟨b, q, inner, hu, hc, hm⟩ := relS_ea r
  obtain ⟨v, h2, h⟩ := Q.bind_some h
  have hmem : ∀ j u, inner[j]? = some u → w.cell? ⟨b, q + j, none⟩ = some u := fun j u hj => by
   rcases hm with hm | ⟨b', q', he, hm⟩
   ·subst hm; simp at hj
   ·injection he with he
    injection he with he he2
    subst he
    subst he2
    exact (hm j u hj).1
  obtain ⟨u, h3, h4, h5⟩ := loadF_sound h2 hc hmem
  exact finF S hd h5 h4 h (load_run ho hu h3)
 | eaddr p ver sz i off =>
  obtain ⟨⟨own, e, l⟩, h2, h⟩ := Q.bind_some h
  obtain ⟨h3, h4⟩ := capAt_run h2
  obtain ⟨_, g, m, c, h5, hu⟩ := r.2 h3
  obtain ⟨u', h6, inner, ⟨hlen, hrow⟩, hR, hO⟩ := cap_at S h4
  rw [h5] at h6
  injection h6 with h6
  subst h6
  rcases hrow with ⟨hn, _⟩ | ⟨g', cap, cur, he, _, hg, hnc, hcm, hcs, htake⟩
  ·cases hn
  ·injection he with he1 he2 he3
   injection he1 with he1
   injection he1 with he1
   subst he1
   simp only [] at h
   split at h
   ·rename_i c0 hc0
    split at h
    ·rename_i hsz
     have hsz := beq_eq hsz
     obtain ⟨v, h7, h⟩ := Q.bind_some h
     cases hi : l[i]? with
     | none => rw [hi] at hc0; cases hc0
     | some x =>
      rw [hi] at hc0
      obtain ⟨cs, hcs2, hcl, hit⟩ := rowsR_get hR hi
      have hcR := (item_cells hc0).1 hit
      have hmem : ∀ j u, cs[j]? = some u → w.cell? ⟨g, i * sz + j, none⟩ = some u := fun j u hj => by
       rw [cell_of_row w g _ cur e (0, 0) hg, hsz]
       rw [hcs2, List.getElem?_take] at hj
       split at hj
       ·rw [List.getElem?_drop, ← htake, List.getElem?_take] at hj
        split at hj
        ·simpa using hj
        ·cases hj
       ·cases hj
      obtain ⟨u, h8, h9, h10⟩ := loadF_sound h7 hcR hmem
      exact finF S hd h10 h9 h (load_run ho hu h8)
    ·cases h
   ·cases h
 | _ => cases h
theorem loadF_part {h : Nat} {t : TypeId} {l : List AV} {off : Nat} {v : AV} {inner : List Value} (hr : (loadF P t l off).run s = some v) (hc : cellsR w F β h l inner) :
  ∃ u, (part t inner.toArray off).run P w = .ok u w ∧ relF w F β h v u ∧ owns v = false := by
 unfold loadF at hr
 split at hr
 ·rename_i ha
  split at hr
  ·rename_i hb
   have hr := Q.ret_some hr
   subst hr
   simp only [Bool.and_eq_true, Nat.ble_eq] at hb
   have hc2 := cellsR_take (cellsR_drop hc off) (sizeT P t)
   refine ⟨.agg ((inner.drop off).take (sizeT P t)).toArray, ?_, by simp only [relF]; exact ⟨_, rfl, hc2⟩, rfl⟩
   simp only [part, Sem.run_bind, isAgg_run ha, Result.andThen_ok, if_pos, sizeOf_run hb.2, Sem.run_pure]
   congr 2
   apply Array.ext'
   simp [List.extract_eq_take_drop]
  ·cases hr
 ·rename_i ha
  split at hr
  ·rename_i v0 hv
   have hr := Q.ret_some hr
   subst hr
   obtain ⟨u, hu, hlx, hru⟩ := cellsR_get hc hv
   refine ⟨u, ?_, hru, by cases v0 <;> first | rfl | cases hlx⟩
   simp only [part, Sem.run_bind, isAgg_run ha, Result.andThen_ok, Bool.false_eq_true, if_false, List.getElem?_toArray, hu, Sem.run_pure]
  ·cases hr
 ·cases hr
theorem ok_field (S : Sim P n s a w F β O) (hd : ∀ d, o.dst = some d → d < n) {t : TypeId} {x : Operand} {i : Nat} (ho : o.op = .field t x i)
  (h : ((valO P 0 x).bind fun v => match v, fieldOf P t i with
  | .agg l, some (off, u) => (loadF P u l off).bind fun v => one o.dst v
  | _, _ => Q.fail).run s = some ws) : OpOk P n s a w F β O o ws := by
 obtain ⟨v, h1, h⟩ := Q.bind_some h
 have r := (valO_sound S h1).2 0
 cases v with
 | agg l =>
  obtain ⟨cs, hu, hc⟩ := relS_agg r
  cases hf : fieldOf P t i with
  | none => rw [hf] at h; cases h
  | some p =>
   obtain ⟨off, ft⟩ := p
   rw [hf] at h
   obtain ⟨v, h2, h⟩ := Q.bind_some h
   obtain ⟨u, h3, h4, h5⟩ := loadF_part h2 hc
   refine finF S hd h5 h4 h ?_
   unfold fieldOf at hf
   split at hf
   ·rename_i fs hus
    split at hf
    ·rename_i fd hfd
     split at hf
     ·cases hf
     ·injection hf with hf
      injection hf with hf1 hf2
      subst hf1
      subst hf2
      simp only [execOp, ho, Sem.run_bind, Instr.field, run_underlying hus, Result.andThen_ok, hfd, hu, asAgg, Sem.run_pure, h3]
    ·cases hf
   ·cases hf
 | _ => cases h
theorem idx_sound {v : AV} {u : Value} {i k : Nat} (r : relS P w F β s.H.length O s a i v u) (h : idxOf v = some k) : ∃ kk, u = .int kk (k : Int) := by
 cases v with
 | sc c =>
  cases c with
  | int kk m =>
   simp only [idxOf] at h
   split at h
   ·rename_i hm
    injection h with h
    refine ⟨kk, ?_⟩
    rw [(relS_sc r).1]
    congr 1
    omega
   ·cases h
  | _ => cases h
 | _ => cases h
theorem ok_index (S : Sim P n s a w F β O) (hd : ∀ d, o.dst = some d → d < n) {t : TypeId} {x y : Operand} (ho : o.op = .index t x y)
  (h : ((valO P 0 x).bind fun v => (valO P 0 y).bind fun w => match v, idxOf w, P.underlying t with
  | .agg l, some i, some (.array n e) => if Nat.blt i n && Nat.ble 1 (sizeT P e) then (loadF P e l (i * sizeT P e)).bind fun v => one o.dst v else .fail
  | .sc (.string s), some i, some .string => (match s[i]? with | some b => one o.dst (.sc (.int .u8 b.toNat)) | none => .fail)
  | _, _, _ => Q.fail).run s = some ws) : OpOk P n s a w F β O o ws := by
 obtain ⟨v, h1, k1⟩ := Q.bind_some h
 obtain ⟨vi, h2, k2⟩ := Q.bind_some k1
 clear h k1
 have r := (valO_sound S h1).2 0
 have ri := (valO_sound S h2).2 0
 split at k2
 ·rename_i l i n' e hi hu
  split at k2
  ·rename_i hb
   simp only [Bool.and_eq_true, Nat.blt_eq, Nat.ble_eq] at hb
   obtain ⟨kk, hy⟩ := idx_sound ri hi
   obtain ⟨cs, hx, hc⟩ := relS_agg r
   obtain ⟨v, h3, k3⟩ := Q.bind_some k2
   obtain ⟨u, h4, h5, h6⟩ := loadF_part h3 hc
   refine finF S hd h6 h5 k3 ?_
   simp only [execOp, ho, Sem.run_bind, Instr.index, hx, hy, asIntOf, Sem.run_pure, run_underlying hu, Result.andThen_ok]
   rw [if_pos (by omega)]
   simp only [Sem.run_bind, sizeOf_run hb.2, Result.andThen_ok, Int.toNat_natCast, h4]
  ·cases k2
 ·rename_i sb i hi hu
  split at k2
  ·rename_i b hb
   obtain ⟨kk, hy⟩ := idx_sound ri hi
   have hx := (relS_sc r).1
   refine finF S hd rfl (sc_rel rfl) k2 ?_
   simp only [execOp, ho, Sem.run_bind, Instr.index, hx, hy, asIntOf, Sem.run_pure, run_underlying hu, Result.andThen_ok]
   rw [if_pos (by omega)]
   simp only [Int.toNat_natCast, hb, Sem.run_pure, Result.andThen_ok]
  ·cases k2
 ·cases k2
theorem ok_indexAddr (S : Sim P n s a w F β O) (hd : ∀ d, o.dst = some d → d < n) {t : TypeId} {x y : Operand} (ho : o.op = .indexAddr t x y)
  (h : ((valO P t x).bind fun v => (valO P 0 y).bind fun w => match idxOf w, P.underlying t with
  | some i, some (.slice e) => (match v with
   | .sl sz l => if Nat.beq sz (sizeT P e) && Nat.ble 1 sz then (match (l[i]?).bind cellsOf with | some c => one o.dst (.ea c) | none => .fail) else .fail
   | .ref p ver => (capAt p ver).bind fun (_, e', l) => if Nat.beq e e' && Nat.blt i l.length && Nat.ble 1 (sizeT P e) then one o.dst (.eaddr p ver (sizeT P e) i 0) else .fail
   | .hsl b off sz len _ => if Nat.beq sz (sizeT P e) && Nat.blt i len && Nat.ble 1 (sizeT P e) then one o.dst (.ptr b (off + i * sz)) else .fail
   | _ => .fail)
  | some i, some (.array n e) => if Nat.blt i n && Nat.ble 1 (sizeT P e) then (known v).bind fun _ => (Q.lift (addOff (i * sizeT P e) v)).bind fun v => one o.dst v else .fail
  | _, _ => Q.fail).run s = some ws) : OpOk P n s a w F β O o ws := by
 obtain ⟨v, h1, k1⟩ := Q.bind_some h
 obtain ⟨vi, h2, k2⟩ := Q.bind_some k1
 clear h k1
 have r := (valO_sound S h1).2 0
 have ri := (valO_sound S h2).2 0
 split at k2
 ·rename_i i e hi hu
  obtain ⟨kk, hy⟩ := idx_sound ri hi
  cases v with
  | sl sz l =>
   simp only [] at k2
   split at k2
   ·rename_i hb
    simp only [Bool.and_eq_true, Nat.ble_eq] at hb
    have hsz := beq_eq hb.1
    split at k2
    ·rename_i c hc
     obtain ⟨A, cap, inner, hx, hl, hR, hm⟩ := relS_sl r
     cases hli : l[i]? with
     | none => rw [hli] at hc; cases hc
     | some x0 =>
      rw [hli] at hc
      obtain ⟨cs, hcs, hcl, hit⟩ := rowsR_get hR hli
      have hcR := (item_cells hc).1 hit
      have hlt : i < l.length := (List.getElem?_eq_some_iff.1 hli).1
      have hne : inner ≠ [] := fun e => by
       subst e
       simp at hcs
       subst hcs
       simp at hcl
       omega
      rcases hm with hm | ⟨b, q, rfl, hm⟩
      ·exact absurd hm hne
      ·have hmem : memAt w F (some ⟨b, q + i * sz, none⟩) cs := .inr ⟨b, q + i * sz, rfl, fun j u hj => by
        rw [hcs, List.getElem?_take] at hj
        split at hj
        ·rw [List.getElem?_drop] at hj
         have := hm _ u hj
         rw [← Nat.add_assoc] at this
         exact this
        ·cases hj⟩
       refine finF S hd (u := .pointer (some ⟨b, q + i * sz, none⟩)) rfl (by simp only [relF]; exact ⟨_, _, cs, rfl, hcR, hmem⟩) k2 ?_
       simp only [execOp, ho, Sem.run_bind, Instr.indexAt, hx, hy, asIntOf, Sem.run_pure, run_underlying hu, Result.andThen_ok]
       rw [if_pos (by omega)]
       rw [hsz] at hb
       simp only [Sem.run_bind, sizeOf_run hb.2, Result.andThen_ok, Int.toNat_natCast, Sem.run_pure, addr_add, hsz]
    ·cases k2
   ·cases k2
  | ref p ver =>
   obtain ⟨⟨own, e', l⟩, h3, k2⟩ := Q.bind_some k2
   simp only [] at k2
   split at k2
   ·rename_i hb
    simp only [Bool.and_eq_true, Nat.blt_eq, Nat.ble_eq] at hb
    have he := beq_eq hb.1.1
    subst he
    obtain ⟨h4, h5⟩ := capAt_run h3
    obtain ⟨h6, h7⟩ := r.2 h4
    obtain ⟨u', h8, inner, ⟨hlen, hrow⟩, hR, hO⟩ := cap_at S h5
    rw [h7] at h8
    injection h8 with h8
    rcases hrow with ⟨hn, hz⟩ | ⟨g, cap, cur, hv, _, hg, hnc, hcm, hcs, htake⟩
    ·have hz' : l.length = 0 := hz
     omega
    ·have hx : a.eval x = .slice (some ⟨g, 0, none⟩) l.length cap := h8.trans hv
     refine fin S hd (v := .eaddr p ver (sizeT P e) i 0) (u := .pointer (some ⟨g, i * sizeT P e, none⟩)) rfl (fun _ => ⟨r.1, fun _ => ⟨h6, g, l.length, cap, h7.trans (by rw [hx]), rfl⟩⟩) k2 ?_
     simp only [execOp, ho, Sem.run_bind, Instr.indexAt, hx, hy, asIntOf, Sem.run_pure, run_underlying hu, Result.andThen_ok]
     rw [if_pos (by omega)]
     simp only [Sem.run_bind, sizeOf_run hb.2, Result.andThen_ok, Int.toNat_natCast, Sem.run_pure, addr_add, Nat.zero_add]
   ·cases k2
  | hsl b off sz len cp =>
   simp only [] at k2
   split at k2
   ·rename_i hb
    simp only [Bool.and_eq_true, Nat.blt_eq, Nat.ble_eq] at hb
    have hsz := beq_eq hb.1.1
    subst hsz
    have r' : b < s.H.length ∧ a.eval x = .slice (some ⟨β b, off, none⟩) len cp := by simp only [relS, relF] at r; exact r
    refine finF S hd (v := .ptr b (off + i * sizeT P e)) (u := .pointer (some ⟨β b, off + i * sizeT P e, none⟩)) rfl (by simp only [relF]; exact ⟨r'.1, trivial⟩) k2 ?_
    simp only [execOp, ho, Sem.run_bind, Instr.indexAt, r'.2, hy, asIntOf, Sem.run_pure, run_underlying hu, Result.andThen_ok]
    rw [if_pos (by omega)]
    simp only [Sem.run_bind, sizeOf_run hb.2, Result.andThen_ok, Int.toNat_natCast, Sem.run_pure, addr_add]
   ·cases k2
  | _ => cases k2
 ·rename_i i n' e hi hu
  obtain ⟨kk, hy⟩ := idx_sound ri hi
  split at k2
  ·rename_i hb
   simp only [Bool.and_eq_true, Nat.blt_eq, Nat.ble_eq] at hb
   obtain ⟨_, h3, k2⟩ := Q.bind_some k2
   obtain ⟨v', h4, k2⟩ := Q.bind_some k2
   obtain ⟨h5, b, q, hx, h6⟩ := addr_of r (Q.lift_some h4) (known_sound r h3)
   refine fin S hd h5 h6 k2 ?_
   simp only [execOp, ho, Sem.run_bind, Instr.indexAt, hx, hy, asIntOf, Sem.run_pure, run_underlying hu, Result.andThen_ok, Instr.sureAddr]
   rw [if_pos (by omega)]
   simp only [Sem.run_bind, sizeOf_run hb.2, Result.andThen_ok, Int.toNat_natCast, Sem.run_pure, addr_add]
  ·cases k2
 ·cases k2
end
end Go.Vai
