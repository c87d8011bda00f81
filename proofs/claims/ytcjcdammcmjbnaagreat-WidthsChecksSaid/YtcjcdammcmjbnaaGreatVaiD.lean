/- Operands, sharing, giving: what they are in the machine. -/
import Derived.Test.YtcjcdammcmjbnaaGreatVaiC
namespace Go.Vai
theorem Q.run_bind {α β : Type} (s : St) (q : Q α) (k : α → Q β) : (q.bind k).run s = (q.run s).bind fun a => (k a).run s := by
 induction q with
 | ret a => rfl
 | slot n f ih => exact ih _ _
 | heap f ih => exact ih _ _
 | fail => rfl
theorem Q.bind_some {α β : Type} {s : St} {q : Q α} {k : α → Q β} {b : β} (h : (q.bind k).run s = some b) : ∃ a, q.run s = some a ∧ (k a).run s = some b := by
 rw [Q.run_bind] at h
 exact Option.bind_eq_some_iff.1 h
theorem Q.lift_some {α : Type} {s : St} {x : Option α} {b : α} (h : (Q.lift x).run s = some b) : x = some b := by
 cases x with
 | none => cases h
 | some a => exact h
theorem Q.ret_some {α : Type} {s : St} {a b : α} (h : (Q.ret a).run s = some b) : a = b := by
 injection h
def owns : AV → Bool
 | .cap _ _ _ | .box _ => true
 | _ => false
theorem beq_eq {a b : Nat} (h : Nat.beq a b = true) : a = b := Nat.eq_of_beq_eq_true h
section
variable {P : Program} {w w' : World} {F F' : Nat → Nat} {β β' : Nat → Nat} {h : Nat} {O O' : Nat → Option Own} {n : Nat} {s : St} {a : Act}
theorem relS_F {i : Nat} {v : AV} {u : Value} (hr : relF w F β h v u) : relS P w F β h O s a i v u := by
 cases v <;> first | exact hr | (simp only [relF] at hr)
theorem ofConst_rel {sz : Nat} {v : Value} {x : AV} (hc : ofConst sz v = some x) : relF w F β h x v ∧ owns x = false := by
 unfold ofConst at hc
 split at hc
 ·injection hc with hc
  subst hc
  simp only [relF, owns, and_true]
  exact ⟨none, 0, [], rfl, Nat.le_refl _, by simp [rowsR], .inl rfl⟩
 ·split at hc
  ·rename_i hs
   injection hc with hc
   subst hc
   exact ⟨by simp [relF, hs], rfl⟩
  ·cases hc
theorem cap_at (S : Sim P n s a w F β O) {p : Pl} {o : Bool} {e : TypeId} {l : List AV} (hp : s.av p = .cap o e l) : ∃ u, valAt a w β p = some u ∧ relCap P w F β s.H.length O p o e l u := by
 cases p with
 | slot m =>
  simp only [St.av] at hp
  have hm : m < n := by
   rcases Nat.lt_or_ge m n with h | h
   ·exact h
   ·rw [S.out m h] at hp; cases hp
  have hu : a.tmps[m]? = some (a.tmps[m]'(by rw [S.size]; exact hm)) := Array.getElem?_eq_getElem _
  have r := S.slots m _ hu
  rw [hp] at r
  exact ⟨_, hu, r⟩
 | lcell m off =>
  simp only [St.av] at hp
  cases hb : (s.get m).1 with
  | box c =>
   rw [hb] at hp
   have hm : m < n := by
    rcases Nat.lt_or_ge m n with h | h
    ·exact h
    ·rw [S.out m h] at hb; cases hb
   have hu : a.tmps[m]? = some (a.tmps[m]'(by rw [S.size]; exact hm)) := Array.getElem?_eq_getElem _
   have r := S.slots m _ hu
   rw [hb] at r
   obtain ⟨b, he, cs, T, h1, h2, h3, h4, h5⟩ := r
   have hc : c[off]? = some (.cap o e l) := by
    cases hx : c[off]? with
    | none => simp only [hx] at hp; cases hp
    | some x => simp only [hx, Option.getD_some] at hp; rw [hp]
   have hlt : off < cs.size := by rw [h4]; exact (List.getElem?_eq_some_iff.1 hc).1
   have hcs : cs[off]? = some cs[off] := Array.getElem?_eq_getElem hlt
   refine ⟨cs[off], ?_, h5 off _ _ hc hcs⟩
   simp only [valAt, hu, he]
   rw [cell_of_row w b off cs T (0, 0) h1]
   exact hcs
  | _ => rw [hb] at hp; cases hp
 | hcell b off =>
  simp only [St.av] at hp
  cases hb : s.H[b]? with
  | none => rw [hb] at hp; cases hp
  | some c =>
   rw [hb] at hp
   obtain ⟨cs, T, h1, h2, h3, h4, h5⟩ := S.heap b c hb
   have hc : c[off]? = some (.cap o e l) := by
    cases hx : c[off]? with
    | none => simp only [hx] at hp; cases hp
    | some x => simp only [hx, Option.getD_some] at hp; rw [hp]
   have hlt : off < cs.size := by rw [h4]; exact (List.getElem?_eq_some_iff.1 hc).1
   have hcs : cs[off]? = some cs[off] := Array.getElem?_eq_getElem hlt
   refine ⟨cs[off], ?_, h5 off _ _ hc hcs⟩
   simp only [valAt]
   rw [cell_of_row w _ off cs T (0, 0) h1]
   exact hcs
theorem capAt_run {p : Pl} {ver : Nat} {r : Bool × TypeId × List AV} (h : (capAt p ver).run s = some r) : s.valid p ver ∧ s.av p = .cap r.1 r.2.1 r.2.2 := by
 cases p with
 | slot m =>
  simp only [capAt, Q.run] at h
  split at h
  ·rename_i hb
   refine ⟨(beq_eq hb).symm, ?_⟩
   split at h
   ·rename_i hv
    have := Q.ret_some h
    subst this
    exact hv
   ·cases h
  ·cases h
 | lcell m off =>
  simp only [capAt, Q.run] at h
  split at h
  ·rename_i hb
   refine ⟨(beq_eq hb).symm, ?_⟩
   split at h
   ·rename_i hv
    split at h
    ·rename_i hc
     have := Q.ret_some h
     subst this
     simp only [St.av, hv, hc]; rfl
    ·cases h
   ·cases h
  ·cases h
 | hcell b off =>
  simp only [capAt, Q.run] at h
  split at h
  ·rename_i hb
   refine ⟨(beq_eq hb).symm, ?_⟩
   split at h
   ·rename_i hv
    split at h
    ·rename_i hc
     have := Q.ret_some h
     subst this
     simp only [St.av, hv, hc]; rfl
    ·cases h
   ·cases h
  ·cases h
theorem valO_sound (S : Sim P n s a w F β O) {t : TypeId} {x : Operand} {v : AV} (hr : (valO P t x).run s = some v) : owns v = false ∧ ∀ i, relS P w F β s.H.length O s a i v (a.eval x) := by
 cases x with
 | tmp m =>
  simp only [valO, Q.run] at hr
  injection hr with hr
  cases hm : a.tmps[m]? with
  | none =>
   have : n ≤ m := by rw [← S.size]; simpa using hm
   rw [S.out m this] at hr
   subst hr
   exact ⟨rfl, fun i => by simp only [relS, relF]⟩
  | some u =>
   have r := S.slots m u hm
   have he : a.eval (.tmp m) = u := by simp [Act.eval, hm]
   rw [he]
   revert hr r
   cases hg : (s.get m).1 with
   | cap o e l =>
    intro hr r
    subst hr
    exact ⟨rfl, fun i => ⟨Nat.le_refl _, fun _ => ⟨⟨o, e, l, hg⟩, hm⟩⟩⟩
   | box l =>
    intro hr r
    subst hr
    obtain ⟨b, rfl, _⟩ := r
    exact ⟨rfl, fun i => ⟨Nat.le_refl _, fun _ => ⟨⟨l, hg⟩, b, hm, rfl⟩⟩⟩
   | _ => intro hr r; subst hr; exact ⟨rfl, fun i => r⟩
 | const c =>
  simp only [valO] at hr
  obtain ⟨h1, h2⟩ := ofConst_rel (w := w) (F := F) (β := β) (h := s.H.length) (Q.lift_some hr)
  exact ⟨h2, fun i => relS_F h1⟩
 | global g => cases hr
 | func g =>
  simp only [valO] at hr
  have hr := Q.ret_some hr
  subst hr
  exact ⟨rfl, fun i => by simp only [relS, relF]; exact ⟨[], rfl, by simp [listR]⟩⟩
theorem relCap_sl {p : Pl} {e : TypeId} {l : List AV} {u : Value} (r : relCap P w F β h O p false e l u) : relF w F β h (.sl (sizeT P e) l) u := by
 obtain ⟨inner, ⟨h1, h2⟩, h3, h4⟩ := r
 simp only [relF]
 rcases h2 with ⟨rfl, hn⟩ | ⟨g, cap, cur, rfl, _, hg, hnc, hcm, hcs, htake⟩
 ·refine ⟨none, 0, inner, by rw [hn], by omega, h3, .inl ?_⟩
  rw [hn, Nat.zero_mul] at h1
  exact List.eq_nil_of_length_eq_zero h1
 ·refine ⟨_, cap, inner, rfl, hnc, h3, .inr ⟨g, 0, rfl, fun j x hj => ?_⟩⟩
  obtain ⟨_, hF⟩ := h4 g rfl
  have hlt : j < inner.length := (List.getElem?_eq_some_iff.1 hj).1
  rw [cell_of_row w g _ cur e (0, 0) hg]
  rw [← htake] at hj
  simp only [Nat.zero_add]
  refine ⟨?_, by rw [hF]; simp only [if_neg (show ¬ (false = true) by simp)]; omega⟩
  rw [List.getElem?_take] at hj
  split at hj
  ·simpa using hj
  ·cases hj
theorem share_sound (S : Sim P n s a w F β O) {i : Nat} {v x : AV} {u : Value} (r : relS P w F β s.H.length O s a i v u) (hr : (share P v).run s = some x) : relF w F β s.H.length x u ∧ owns x = false ∧ x ≠ .undef := by
 cases v with
 | ref p ver =>
  simp only [share] at hr
  obtain ⟨⟨o, e, l⟩, h1, h2⟩ := Q.bind_some hr
  obtain ⟨h3, h4⟩ := capAt_run h1
  cases o with
  | true => cases h2
  | false =>
   have h2 := Q.ret_some h2
   subst h2
   obtain ⟨_, h5⟩ := r
   obtain ⟨_, h6⟩ := h5 h3
   obtain ⟨u', h7, h8⟩ := cap_at S h4
   rw [h6] at h7
   injection h7 with h7
   subst h7
   exact ⟨relCap_sl h8, rfl, by simp⟩
 | sc c => have := Q.ret_some hr; subst this; exact ⟨r, rfl, by simp⟩
 | sl m l => have := Q.ret_some hr; subst this; exact ⟨r, rfl, by simp⟩
 | agg l => have := Q.ret_some hr; subst this; exact ⟨r, rfl, by simp⟩
 | ea l => have := Q.ret_some hr; subst this; exact ⟨r, rfl, by simp⟩
 | fn f l => have := Q.ret_some hr; subst this; exact ⟨r, rfl, by simp⟩
 | ptr b o => have := Q.ret_some hr; subst this; exact ⟨r, rfl, by simp⟩
 | hsl b o z l c => have := Q.ret_some hr; subst this; exact ⟨r, rfl, by simp⟩
 | _ => cases hr
theorem shareO_sound (S : Sim P n s a w F β O) {t : TypeId} {o : Operand} {x : AV} (hr : (shareO P t o).run s = some x) : relF w F β s.H.length x (a.eval o) ∧ owns x = false ∧ x ≠ .undef := by
 obtain ⟨v, h1, h2⟩ := Q.bind_some hr
 exact share_sound S ((valO_sound S h1).2 0) h2
theorem shareAll_sound (S : Sim P n s a w F β O) : ∀ {ts : List (TypeId × Operand)} {xs : List AV}, (shareAll P ts).run s = some xs → listR w F β s.H.length xs (ts.map fun p => a.eval p.2) ∧ ∀ x ∈ xs, owns x = false ∧ x ≠ .undef
 | [], xs, hr => by have := Q.ret_some hr; subst this; simp [listR]
 | (t, o) :: r, xs, hr => by
  simp only [shareAll] at hr
  obtain ⟨x, h1, h2⟩ := Q.bind_some hr
  obtain ⟨ys, h3, h4⟩ := Q.bind_some h2
  have := Q.ret_some h4
  subst this
  obtain ⟨h5, h6⟩ := shareAll_sound S h3
  obtain ⟨h7, h8⟩ := shareO_sound S h1
  refine ⟨by simp only [List.map_cons, listR]; exact ⟨_, _, rfl, h7, h5⟩, fun y hy => ?_⟩
  rcases List.mem_cons.1 hy with rfl | hy
  ·exact h8
  ·exact h6 y hy
end
end Go.Vai
