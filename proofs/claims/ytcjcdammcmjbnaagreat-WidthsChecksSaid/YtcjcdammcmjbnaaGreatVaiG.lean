/- What the machine's operations do, one by one: those that only read. -/
import Derived.Test.YtcjcdammcmjbnaaGreatVaiF
import Derived.Laws.Slices
namespace Go.Vai
open Go.RowKit (Below)
section
variable {P : Program} {w w' : World} {F F' : Nat → Nat} {β β' : Nat → Nat} {O O' : Nat → Option Own} {n : Nat} {s : St} {a : Act} {o : Oper} {ws : List W}
theorem wp_value {w1 : World} {v : Value} {next : Act → World → Prop} {R : Exit → Act → World → Prop} (h : (execOp a.eval o).run P w = .ok (.value v) w1) (hn : next (a.put o.dst v) w1) : o.wp P a w next R := by
 unfold Oper.wp
 rw [h]
 exact hn
theorem wp_none {w1 : World} {next : Act → World → Prop} {R : Exit → Act → World → Prop} (h : (execOp a.eval o).run P w = .ok .skip w1) (hd : o.dst = none) (hn : next a w1) : o.wp P a w next R := by
 unfold Oper.wp
 rw [h]
 simp only [Oper.upon, hd, Act.put]
 exact hn
def OpOk (P : Program) (n : Nat) (s : St) (a : Act) (w : World) (F : Nat → Nat) (β : Nat → Nat) (O : Nat → Option Own) (o : Oper) (ws : List W) : Prop :=
 ∀ (next : Act → World → Prop) (R : Exit → Act → World → Prop), (∀ a' w', Nxt P n s w F β O (s.apply ws) a' w' → next a' w') → o.wp P a w next R
theorem relS_slot {h d i : Nat} {v x : AV} {u y : Value} (hv : owns v = false) (r : relS P w F β h O s a i v u) : relS P w F β h O (s.one (.slot d x)) (a.put (some d) y) i v u := by
 have hle : ∀ (p : Pl) ver, s.le p ver → (s.one (.slot d x)).le p ver := fun p ver h => by
  cases p with
  | hcell b off => exact h
  | slot m =>
   simp only [St.le, St.one, get_set] at h ⊢
   by_cases e : d = m
   ·subst e; rw [if_pos rfl]; exact Nat.le_succ_of_le h
   ·rw [if_neg e]; exact h
  | lcell m off =>
   simp only [St.le, St.one, get_set] at h ⊢
   by_cases e : d = m
   ·subst e; rw [if_pos rfl]; exact Nat.le_succ_of_le h
   ·rw [if_neg e]; exact h
 have hval : ∀ (p : Pl) ver, s.le p ver → (s.one (.slot d x)).valid p ver → s.valid p ver ∧ (s.capped p → (s.one (.slot d x)).capped p ∧ valAt (a.put (some d) y) w β p = valAt a w β p) := fun p ver h h' => by
  cases p with
  | slot m =>
   simp only [St.le, St.valid, St.one, get_set] at h h' ⊢
   by_cases hm : d = m
   ·subst hm; simp at h'; omega
   ·rw [if_neg hm] at h'
    refine ⟨h', fun hc => ⟨?_, ?_⟩⟩
    ·simpa only [St.capped, St.av, get_set, if_neg hm] using hc
    ·simp only [valAt, put_get, if_neg hm]
  | lcell m off =>
   simp only [St.le, St.valid, St.one, get_set] at h h' ⊢
   by_cases hm : d = m
   ·subst hm; simp at h'; omega
   ·rw [if_neg hm] at h'
    refine ⟨h', fun hc => ⟨?_, ?_⟩⟩
    ·simpa only [St.capped, St.av, get_set, if_neg hm] using hc
    ·simp only [valAt, put_get, if_neg hm]
  | hcell b off => exact ⟨h', fun hc => ⟨hc, rfl⟩⟩
 cases v with
 | ref p ver =>
  obtain ⟨h1, h2⟩ := r
  refine ⟨hle p ver h1, fun hv' => ?_⟩
  obtain ⟨h3, h4⟩ := hval p ver h1 hv'
  obtain ⟨h5, h6⟩ := h2 h3
  exact ⟨(h4 h5).1, (h4 h5).2.trans h6⟩
 | lptr m ver off =>
  obtain ⟨h1, h2⟩ := r
  refine ⟨hle (.slot m) ver h1, fun hv' => ?_⟩
  obtain ⟨h3, h4⟩ := hval (.slot m) ver h1 hv'
  have hm : d ≠ m := fun e => by subst e; simp only [St.one, get_set] at hv'; simp at hv'; omega
  obtain ⟨⟨l, h5⟩, b, h6, h7⟩ := h2 h3
  refine ⟨⟨l, by simp only [St.one, get_set, if_neg hm]; exact h5⟩, b, ?_, h7⟩
  rw [put_get, if_neg hm]
  exact h6
 | eaddr p ver sz j off =>
  obtain ⟨h1, h2⟩ := r
  refine ⟨hle p ver h1, fun hv' => ?_⟩
  obtain ⟨h3, h4⟩ := hval p ver h1 hv'
  obtain ⟨h5, g, m, c, h6, h7⟩ := h2 h3
  exact ⟨(h4 h5).1, g, m, c, (h4 h5).2.trans h6, h7⟩
 | cap o e l => cases hv
 | box l => cases hv
 | _ => exact r
def dstW (d : Option Tmp) (v : AV) : List W := match d with | some d => [.slot d v] | none => []
theorem one_some {d : Option Tmp} {v : AV} {pre ws : List W} (h : (one d v pre).run s = some ws) : ws = pre ++ dstW d v := by
 unfold one at h
 cases d with
 | none => have := Q.ret_some h; subst this; simp [dstW]
 | some d => have := Q.ret_some h; subst this; rfl
theorem fin (S : Sim P n s a w F β O) (hd : ∀ d, o.dst = some d → d < n) {v : AV} {u : Value} (hv : owns v = false) (r : ∀ i, relS P w F β s.H.length O s a i v u) (h : (one o.dst v).run s = some ws)
  (hrun : (execOp a.eval o).run P w = .ok (.value u) w) : OpOk P n s a w F β O o ws := by
 intro next R hn
 refine wp_value hrun (hn _ _ ?_)
 have hw := one_some h
 rw [hw]
 cases hdst : o.dst with
 | none => exact Nxt.here S (Nat.le_refl _)
 | some d => exact Nxt.here (S.slot (hd d hdst) (relS_slot hv (r d))) (Nat.le_refl _)
theorem finF (S : Sim P n s a w F β O) (hd : ∀ d, o.dst = some d → d < n) {v : AV} {u : Value} (hv : owns v = false) (r : relF w F β s.H.length v u) (h : (one o.dst v).run s = some ws)
  (hrun : (execOp a.eval o).run P w = .ok (.value u) w) : OpOk P n s a w F β O o ws := fin S hd hv (fun _ => relS_F r) h hrun
theorem ok_move (S : Sim P n s a w F β O) (hd : ∀ d, o.dst = some d → d < n) {x : Operand} (ho : o.op = .move x) (h : ((valO P o.type x).bind fun v => one o.dst v).run s = some ws) : OpOk P n s a w F β O o ws := by
 obtain ⟨v, h1, h2⟩ := Q.bind_some h
 obtain ⟨h3, h4⟩ := valO_sound S h1
 refine fin S hd h3 h4 h2 ?_
 simp [execOp, ho]
theorem ok_assign0 (S : Sim P n s a w F β O) (hd : ∀ d, o.dst = some d → d < n) {x : Operand} (ho : o.op = .assign x) (h : ((shareO P o.type x).bind fun v => one o.dst v).run s = some ws) : OpOk P n s a w F β O o ws := by
 obtain ⟨v, h1, h2⟩ := Q.bind_some h
 obtain ⟨h3, h4, _⟩ := shareO_sound S h1
 refine finF S hd h4 h3 h2 ?_
 simp [execOp, ho]
theorem relS_sc {h i : Nat} {c v : Value} (r : relS P w F β h O s a i (.sc c) v) : v = c ∧ isSc c = true := by simp only [relS, relF] at r; exact r
theorem relS_sl {h i sz : Nat} {l : List AV} {v : Value} (r : relS P w F β h O s a i (.sl sz l) v) : ∃ A c inner, v = .slice A l.length c ∧ l.length ≤ c ∧ rowsR w F β h sz l inner ∧ memAt w F A inner := by simp only [relS, relF] at r; exact r
theorem relS_agg {h i : Nat} {l : List AV} {v : Value} (r : relS P w F β h O s a i (.agg l) v) : ∃ cs, v = .agg cs.toArray ∧ cellsR w F β h l cs := by simp only [relS, relF] at r; exact r
theorem relS_ea {h i : Nat} {l : List AV} {v : Value} (r : relS P w F β h O s a i (.ea l) v) : ∃ b o inner, v = .pointer (some ⟨b, o, none⟩) ∧ cellsR w F β h l inner ∧ memAt w F (some ⟨b, o, none⟩) inner := by simp only [relS, relF] at r; exact r
theorem relS_ptr {h i b o : Nat} {v : Value} (r : relS P w F β h O s a i (.ptr b o) v) : b < h ∧ v = .pointer (some ⟨β b, o, none⟩) := by simp only [relS, relF] at r; exact r
theorem relS_fn {h i : Nat} {f : FuncId} {l : List AV} {v : Value} (r : relS P w F β h O s a i (.fn f l) v) : ∃ vs, v = .func (.func f) #[] vs.toArray ∧ listR w F β h l vs := by simp only [relS, relF] at r; exact r
theorem sc_rel {h : Nat} {c : Value} (hc : isSc c = true) : relF w F β h (.sc c) c := by simp only [relF]; exact ⟨trivial, hc⟩
theorem ok_pick (S : Sim P n s a w F β O) (hd : ∀ d, o.dst = some d → d < n) {c x y : Operand} (ho : o.op = .pick c x y)
  (h : ((valO P 0 c).bind fun c => (valO P o.type x).bind fun a => (valO P o.type y).bind fun b => match c with | .sc (.bool t) => one o.dst (if t then a else b) | _ => Q.fail).run s = some ws) : OpOk P n s a w F β O o ws := by
 obtain ⟨vc, h1, h⟩ := Q.bind_some h
 obtain ⟨vx, h2, h⟩ := Q.bind_some h
 obtain ⟨vy, h3, h⟩ := Q.bind_some h
 have hc := (valO_sound S h1).2 0
 have hx := valO_sound S h2
 have hy := valO_sound S h3
 cases vc with
 | sc k =>
  cases k with
  | bool t =>
   have hc : a.eval c = .bool t := (relS_sc hc).1
   cases t with
   | true => exact fin S hd hx.1 hx.2 h (by simp [execOp, ho, hc, asBool])
   | false => exact fin S hd hy.1 hy.2 h (by simp [execOp, ho, hc, asBool])
  | _ => cases h
 | _ => cases h
theorem known_sound {v : AV} {u : Value} {i : Nat} {x : Unit} (r : relS P w F β s.H.length O s a i v u) (h : (known v).run s = some x) : ∃ b q, u = .pointer (some ⟨b, q, none⟩) := by
 cases v with
 | lptr m ver off =>
  simp only [known, Q.run] at h
  split at h
  ·rename_i hb
   obtain ⟨_, b, _, hu⟩ := r.2 (beq_eq hb).symm
   exact ⟨_, _, hu⟩
  ·cases h
 | eaddr p ver sz i off =>
  obtain ⟨_, h5, _⟩ := Q.bind_some h
  obtain ⟨_, g, m, c, _, hu⟩ := r.2 (capAt_run h5).1
  exact ⟨_, _, hu⟩
 | ptr b off => exact ⟨_, _, (relS_ptr r).2⟩
 | ea l =>
  obtain ⟨b, off, _, hu, _⟩ := relS_ea r
  exact ⟨_, _, hu⟩
 | _ => cases h
theorem nil_run {x : Operand} (ho : o.op = .nilCheck x) (hx : (∃ ad, a.eval x = .pointer (some ad)) ∨ ∃ f vs, a.eval x = .func (.func f) #[] vs) : (execOp a.eval o).run P w = .ok (.value (a.eval x)) w := by
 rcases hx with ⟨ad, hx⟩ | ⟨f, vs, hx⟩ <;> simp [execOp, ho, hx]
theorem ok_nilCheck (S : Sim P n s a w F β O) (hd : ∀ d, o.dst = some d → d < n) {x : Operand} (ho : o.op = .nilCheck x)
  (h : ((valO P o.type x).bind fun v => match v with | .fn _ _ => one o.dst v | _ => (known v).bind fun _ => one o.dst v).run s = some ws) : OpOk P n s a w F β O o ws := by
 obtain ⟨v, h1, h⟩ := Q.bind_some h
 obtain ⟨h3, h4⟩ := valO_sound S h1
 have key : ((known v).bind fun _ => one o.dst v).run s = some ws → OpOk P n s a w F β O o ws := fun h => by
  obtain ⟨_, h5, h⟩ := Q.bind_some h
  obtain ⟨b, q, hu⟩ := known_sound (h4 0) h5
  exact fin S hd h3 h4 h (nil_run ho (.inl ⟨_, hu⟩))
 cases v with
 | fn f l =>
  obtain ⟨vs, hu, _⟩ := relS_fn (h4 0)
  exact fin S hd h3 h4 h (nil_run ho (.inr ⟨f, _, hu⟩))
 | _ => exact key h
theorem addr_add (b o k : Nat) : (⟨b, o, none⟩ : Addr).add k = ⟨b, o + k, none⟩ := by unfold Addr.add; split <;> simp_all
theorem extract_ok (S : Sim P n s a w F β O) (hd : ∀ d, o.dst = some d → d < n) {x : Operand} {i : Nat} (ho : o.op = .extract x i)
  (h : ((valO P 0 x).bind fun v => match v with | .tup l => (match l[i]? with | some v => one o.dst v | none => .fail) | _ => Q.fail).run s = some ws) : OpOk P n s a w F β O o ws := by
 obtain ⟨v, h1, h⟩ := Q.bind_some h
 obtain ⟨h3, h4⟩ := valO_sound S h1
 split at h
 ·rename_i l
  have r := h4 0
  simp only [relS, relF] at r
  obtain ⟨vs, hv, hr⟩ := r
  split at h
  ·rename_i y hy
   obtain ⟨u, hu, hru⟩ := listR_get hr hy
   refine finF S hd ?_ hru h ?_
   ·cases y <;> first | rfl | (simp only [relF] at hru)
   ·simp [execOp, ho, hv, Instr.extract, hu]
  ·cases h
 ·cases h
theorem isAgg_run {t : TypeId} {b : Bool} (h : aggO P t = some b) : (isAgg t).run P w = .ok b w := by
 unfold aggO at h
 split at h <;> first | (rename_i hu; injection h with h; subst h; simp [isAgg, run_underlying hu]) | cases h
theorem sizeOf_run {t : TypeId} (h : 1 ≤ sizeT P t) : (sizeOf t).run P w = .ok (sizeT P t) w := by
 unfold sizeT at h ⊢
 cases hi : P.info? t with
 | none => rw [hi] at h; simp at h
 | some i => simp [sizeOf, typeInfo, hi]
end
end Go.Vai
