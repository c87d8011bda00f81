/- Operations, regions, code. -/
import Derived.Test.YtcjcdammcmjbnaaGreatVaiO
namespace Go.Vai
section
variable {P : Program} {w w' : World} {F F' : Nat → Nat} {β β' : Nat → Nat} {O O' : Nat → Option Own} {n h h' : Nat} {s : St} {a : Act} {o : Oper} {ws : List W} {fh : FuncId → FH} {f : FuncId} {call : FuncId → List AV → HH → Option (AV × HH)}
theorem ok_builtin (S : Sim P n s a w F β O) (hd : ∀ d, o.dst = some d → d < n) {c : Call} {b : Builtin} (ho : o.op = .call c) (hc : c.callee = .builtin b) (hs : shapeOk o = true) (h : (builtinE P o b c.argTypes.toList c.args.toList).run s = some ws) : OpOk P n s a w F β O o ws := by
 have scal : (if Nat.beq c.argTypes.toList.length c.args.toList.length then (vals P (c.argTypes.toList.zip c.args.toList)).bind fun vs => match vs.mapM scOf with
   | some cs => (match pureOf P (builtin b c.argTypes.toList.toArray o.type (c.args.toList.toArray.map fun | .const _ => true | _ => false) cs.toArray) with
    | some (.value v) => if isSc v then one o.dst (.sc v) else .fail
    | _ => .fail)
   | none => Q.fail
   else Q.fail).run s = some ws → OpOk P n s a w F β O o ws := fun h => by
  split at h
  ·rename_i hl
   have hl := beq_eq hl
   simp only [Array.length_toList] at hl
   simp only [Array.toArray_toList] at h
   exact ok_scalars S hd ho hc hl h
  ·cases h
 unfold builtinE at h
 split at h
 ·rename_i t x hts hxs
  exact ok_len S hd ho hc (arr1 hts) (arr1 hxs) h
 ·rename_i t x hts hxs
  exact ok_clear S hd ho hc (arr1 hts) (arr1 hxs) h
 ·rename_i t u x y hts hxs
  split at h
  ·rename_i htu
   have htu := beq_eq htu
   subst htu
   split at h
   ·rename_i e he
    have hdst : o.dst.isSome = true := by
     unfold shapeOk at hs
     rw [ho] at hs
     simp only [hc] at hs
     exact hs
    exact ok_append S hd ho hc (arr2 hts) (arr2 hxs) hdst he h
   ·cases h
  ·cases h
 ·exact scal h
 ·exact scal h
 ·exact scal h
 ·exact scal h
 ·exact scal h
 ·cases h
theorem ok_eff (hG : Good P call) (S : Sim P n s a w F β O) (hd : ∀ d, o.dst = some d → d < n) (hs : shapeOk o = true) (h : (eff P fh f call o).run s = some ws) : OpOk P n s a w F β O o ws := by
 have hsh := hs
 unfold shapeOk at hsh
 unfold eff at h
 split at h
 ·rename_i x ho
  split at h
  ·exact ok_move S hd ho h
  ·rename_i m hm
   have hds : o.dst.isSome = true := by
    cases hx : o.dst with
    | none => rw [hx] at hm; exact absurd rfl (hm)
    | some d => rfl
   exact ok_moveC S hd ho hds h
 ·rename_i t x y ho
  rw [ho] at hsh
  exact ok_make S hd ho hsh h
 ·rename_i x ho
  rw [ho] at hsh
  split at h
  ·exact ok_assign0 S hd ho h
  ·exact ok_assign12 S hd ho hsh h
 ·exact ok_pick S hd ‹_› h
 ·rename_i t ho
  rw [ho] at hsh
  exact ok_alloc S hd ho hsh h
 ·rename_i t x ho
  rw [ho] at hsh
  exact ok_box S hd ho hsh h
 ·exact ok_nilCheck S hd ‹_› h
 ·exact ok_fieldAddr S hd ‹_› h
 ·exact ok_load S hd ‹_› h
 ·rename_i t x y ho
  rw [ho] at hsh
  exact ok_store S ho (by simpa using hsh) h
 ·exact ok_build S hd ‹_› h
 ·rename_i t m ps ho
  rw [ho] at hsh
  exact ok_buildSlice S hd ho hsh h
 ·exact extract_ok S hd ‹_› h
 ·exact ok_field S hd ‹_› h
 ·exact ok_index S hd ‹_› h
 ·exact ok_indexAddr S hd ‹_› h
 ·rename_i t x lo hi ho
  rw [ho] at hsh
  exact ok_slice S hd ho hsh h
 ·rename_i g first cs ho
  split at h
  ·rename_i hf
   exact ok_makeFunc S hd ho hf h
  ·cases h
 ·exact ok_binOp S hd ‹_› h
 ·exact ok_unOp S hd ‹_› h
 ·split at h
  ·exact ok_same S hd ‹_› ‹_› h
  ·exact ok_convert S hd ‹_› h
 ·rename_i c ho
  split at h
  ·rename_i b hc
   exact ok_builtin S hd ho hc hs h
  ·rename_i gx hc
   exact ok_value S hd hG ho hc h
  ·cases h
 ·cases h
end
end Go.Vai
