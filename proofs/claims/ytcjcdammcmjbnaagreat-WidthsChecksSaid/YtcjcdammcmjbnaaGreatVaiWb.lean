/- What must hold along a tree, with contracts: of what is asked there must be an answer, and with every answer one must go on. -/
import Derived.Test.YtcjcdammcmjbnaaGreatVaiW
namespace Go.Vai
inductive GV where
  | av (v : AV)
  | va (v : Value)
  | res (r : AV) (H : HH) (p : Prop)
  | exit (e : Ex) (s : St) (p : Prop)
mutual
inductive HS : Type 1 where
  | stop
  | ev (n : Nat) (h : HS)
  | split (a b : HS)
  | one (t : Bool) (h : HS)
  | ask (T : TG)
inductive TG : Type 1 where
  | done (v : GV) (h : HS)
  | ex (α : Type) (k : α → TG)
  | or (a b : TG)
end
def TG.some : TG → (GV → Prop) → Prop
  | .done v _, K => K v
  | .ex _ k, K => ∃ a, (k a).some K
  | .or a b, K => a.some K ∨ b.some K
section
variable {P : Program} {fh : FuncId → FH} {ext : FuncId → Option (List AV → HH → Option (AV × HH))}
variable (P fh ext) in
def TX.holds {α : Type} (t : TX α) (v : GV) : Prop :=
  match t, v with
  | .getO _ o _, .av v => o = some v
  | .val o _, .va v => o = some v
  | .res g vs H _, .res r H' p => p ∧ Ans P fh ext g vs H r H'
  | .loop f nt c s _, .exit e s' p => p ∧ Rounds (run P fh ext) P fh f nt c s (e, s')
  | _, _ => False
variable (P fh ext)
mutual
def TX.wq {α : Type} (Q : α → Prop) : HS → TX α → Prop
  | .stop, t => match t with | .ok a => Q a | _ => False
  | .ev n h, t => TX.wq Q h (TX.evs P fh ext n t)
  | .split h1 h2, t => match t with | .dec b k => (b = true → TX.wq Q h1 (k true)) ∧ (b = false → TX.wq Q h2 (k false)) | _ => False
  | .one x h, t => match t with | .dec b k => b = x ∧ TX.wq Q h (k x) | _ => False
  | .ask T, t => (T.some fun v => t.holds P fh ext v) ∧ TX.wall Q T t
def TX.wall {α : Type} (Q : α → Prop) : TG → TX α → Prop
  | .done v h, t => match t, v with
    | .getO _ o k, .av v => o = some v → TX.wq Q h (k v)
    | .val o k, .va v => o = some v → TX.wq Q h (k v)
    | .res _ _ _ k, .res r H' p => p → TX.wq Q h (k r H')
    | .loop _ _ _ _ k, .exit e s' p => p → TX.wq Q h (k e s')
    | _, _ => False
  | .ex _ k, t => ∀ a, TX.wall Q (k a) t
  | .or a b, t => TX.wall Q a t ∧ TX.wall Q b t
end
variable {P fh ext}
mutual
theorem wq_run {α : Type} {Q : α → Prop} : ∀ (h : HS) (t : TX α), TX.wq P fh ext Q h t → ∃ r, t.Run P fh ext r ∧ Q r
  | .stop, t, h => by
    simp only [TX.wq] at h
    cases t with
    | ok a => exact ⟨a, rfl, h⟩
    | _ => exact h.elim
  | .ev n h', t, h => by
    simp only [TX.wq] at h
    obtain ⟨r, h1, h2⟩ := wq_run h' _ h
    exact ⟨r, evs_run h1, h2⟩
  | .split a b, t, h => by
    simp only [TX.wq] at h
    cases t with
    | dec b k =>
      cases b with
      | true => obtain ⟨r, h1, h2⟩ := wq_run a _ (h.1 rfl)
                exact ⟨r, h1, h2⟩
      | false => obtain ⟨r, h1, h2⟩ := wq_run b _ (h.2 rfl)
                 exact ⟨r, h1, h2⟩
    | _ => exact h.elim
  | .one x h', t, h => by
    simp only [TX.wq] at h
    cases t with
    | dec b k =>
      obtain ⟨h1, h2⟩ := h
      subst h1
      obtain ⟨r, h1, h2⟩ := wq_run h' _ h2
      exact ⟨r, h1, h2⟩
    | _ => exact h.elim
  | .ask T, t, h => by
    simp only [TX.wq] at h
    exact wall_run T t h.1 h.2
theorem wall_run {α : Type} {Q : α → Prop} : ∀ (T : TG) (t : TX α), (T.some fun v => t.holds P fh ext v) → TX.wall P fh ext Q T t → ∃ r, t.Run P fh ext r ∧ Q r
  | .done v h', t, h, k => by
    simp only [TG.some] at h
    simp only [TX.wall] at k
    cases t with
    | getO ty o kk =>
      cases v with
      | av v =>
        have h : o = some v := h
        obtain ⟨r, h1, h2⟩ := wq_run h' _ (k h)
        exact ⟨r, ⟨v, h, h1⟩, h2⟩
      | _ => exact h.elim
    | val o kk =>
      cases v with
      | va v =>
        have h : o = some v := h
        obtain ⟨r, h1, h2⟩ := wq_run h' _ (k h)
        exact ⟨r, ⟨v, h, h1⟩, h2⟩
      | _ => exact h.elim
    | res g vs H kk =>
      cases v with
      | res r0 H' p =>
        have h : p ∧ Ans P fh ext g vs H r0 H' := h
        obtain ⟨r, h1, h2⟩ := wq_run h' _ (k h.1)
        exact ⟨r, ⟨r0, H', h.2, h1⟩, h2⟩
      | _ => exact h.elim
    | loop f nt c s kk =>
      cases v with
      | exit e s' p =>
        have h : p ∧ Rounds (run P fh ext) P fh f nt c s (e, s') := h
        obtain ⟨r, h1, h2⟩ := wq_run h' _ (k h.1)
        exact ⟨r, ⟨e, s', h.2, h1⟩, h2⟩
      | _ => exact h.elim
    | _ => cases v <;> exact h.elim
  | .ex _ kk, t, h, k => by
    simp only [TG.some] at h
    simp only [TX.wall] at k
    obtain ⟨a, h⟩ := h
    exact wall_run (kk a) t h (k a)
  | .or a b, t, h, k => by
    simp only [TG.some] at h
    simp only [TX.wall] at k
    rcases h with h | h
    · exact wall_run a t h k.1
    · exact wall_run b t h k.2
end
variable {f : FuncId} {nt : Nat}
theorem Ans.wq {Q : AV → HH → Prop} {args : List AV} {H : HH} {C : Prop} (hx : ext f = none) (h : HS) (e : C = TX.wq P fh ext (fun p => Q p.1 p.2) h (bodyU P fh f args H)) (hC : C) : ∃ r H', Ans P fh ext f args H r H' ∧ Q r H' := by
  rw [e] at hC
  obtain ⟨⟨r, H'⟩, h1, h2⟩ := wq_run _ _ hC
  exact ⟨r, H', bodyU_run hx h1, h2⟩
theorem Leads.wq {Q : Ex → St → Prop} {c : Code} {s : St} {C : Prop} (h : HS) (e : C = TX.wq P fh ext (fun p => Q p.1 p.2) h (execU P fh f nt c s fun e s => .ok (e, s))) (hC : C) : ∃ e s', Leads (run P fh ext) P fh f nt c s (e, s') ∧ Q e s' := by
  rw [e] at hC
  obtain ⟨⟨e, s'⟩, h1, h2⟩ := wq_run _ _ hC
  obtain ⟨e2, s2, h3, h4⟩ := execU_run h1
  have h4 : (e, s') = (e2, s2) := h4
  injection h4 with h5 h6
  subst h5 h6
  exact ⟨_, _, h3, h2⟩
end
end Go.Vai
