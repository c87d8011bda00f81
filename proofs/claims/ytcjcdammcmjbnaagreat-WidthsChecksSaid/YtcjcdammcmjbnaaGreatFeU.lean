/- The references' front end: rows; words for what its functions ask and answer. -/
import Derived.Test.YtcjcdammcmjbnaaGreatWidC
import Derived.Handy
namespace Go.Proofs.YtcjcdammcmjbnaaGreat.U
open Go Go.Vai
set_option linter.unusedVariables false
def Bs (l : List AV) : Prop := ∀ v ∈ l, ∃ n : Int, 0 ≤ n ∧ n < 256 ∧ v = .sc (.int .u8 n)
def Is (l : List AV) : Prop := ∀ v ∈ l, ∃ n : Int, v = iv n
def Rs (l : List AV) : Prop := ∀ v ∈ l, ∃ a b : Int, v = .agg [iv a, iv b]
theorem wr (n : Int) : IntKind.wrap .i64 n = (n + 9223372036854775808) % 18446744073709551616 - 9223372036854775808 := by rw [IntKind.wrap_i64]
theorem wr8 (n : Int) : IntKind.wrap .u8 n = n % 256 := by rw [IntKind.wrap_u8]
theorem Bs.nil : Bs [] := fun v h => by cases h
theorem Bs.cons {n : Int} {l : List AV} (h0 : 0 ≤ n) (h1 : n < 256) (h : Bs l) : Bs (.sc (.int .u8 n) :: l) := fun v hv => by
 rcases List.mem_cons.1 hv with rfl | hv
 ·exact ⟨n, h0, h1, rfl⟩
 ·exact h v hv
theorem Bs.consw {n : Int} {l : List AV} (h : Bs l) : Bs (.sc (.int .u8 (IntKind.wrap .u8 n)) :: l) := Bs.cons (by rw [wr8]; omega) (by rw [wr8]; omega) h
theorem Bs.consm {n : Int} {l : List AV} (h : Bs l) : Bs (.sc (.int .u8 (n % 256)) :: l) := Bs.cons (by omega) (by omega) h
theorem Bs.get {l : List AV} (h : Bs l) {i : Nat} (hi : i < l.length) : ∃ n : Int, l[i]? = some (.sc (.int .u8 n)) := by
 obtain ⟨n, _, _, e⟩ := h l[i] (List.getElem_mem hi)
 exact ⟨n, by rw [List.getElem?_eq_getElem hi, e]⟩
theorem Bs.elem {l : List AV} (h : Bs l) {i : Nat} {n : Int} (e : l[i]? = some (.sc (.int .u8 n))) : 0 ≤ n ∧ n < 256 := by
 obtain ⟨m, h0, h1, h2⟩ := h _ (List.mem_of_getElem? e)
 injection h2 with h2
 injection h2 with _ h2
 omega
theorem Bs.take {l : List AV} (h : Bs l) (n : Nat) : Bs (l.take n) := fun v hv => h v (List.mem_of_mem_take hv)
theorem Bs.drop {l : List AV} (h : Bs l) (n : Nat) : Bs (l.drop n) := fun v hv => h v (List.mem_of_mem_drop hv)
theorem Bs.str {l : List AV} (h : Bs l) : ∃ b : ByteArray, (match bytesOf l with | some b => some (Value.string { data := b.toArray }) | none => none) = some (Value.string b) := by
 have : ∃ b, bytesOf l = some b := by
  induction l with
  | nil => exact ⟨_, rfl⟩
  | cons x l ih =>
   obtain ⟨n, _, _, rfl⟩ := h x (by simp)
   obtain ⟨b, hb⟩ := ih fun v hv => h v (by simp [hv])
   exact ⟨UInt8.ofNat n.toNat :: b, by simp only [bytesOf, hb]⟩
 obtain ⟨b, hb⟩ := this
 exact ⟨⟨b.toArray⟩, by rw [hb]⟩
theorem Bs.strlen {l : List AV} (h : Bs l) {b : ByteArray} (e : (match bytesOf l with | some b => some (Value.string { data := b.toArray }) | none => none) = some (Value.string b)) : b.size = l.length := by
 have : ∀ (l : List AV) (x : List UInt8), Bs l → bytesOf l = some x → x.length = l.length := by
  intro l
  induction l with
  | nil => intro x _ hx; simp only [bytesOf] at hx; injection hx with hx; subst hx; rfl
  | cons v l ih =>
   intro x h hx
   obtain ⟨n, _, _, rfl⟩ := h v (by simp)
   simp only [bytesOf] at hx
   cases hb : bytesOf l with
   | none => rw [hb] at hx; cases hx
   | some b =>
    rw [hb] at hx
    injection hx with hx
    subst hx
    simp only [List.length_cons, ih b (fun v hv => h v (by simp [hv])) hb]
 cases hb : bytesOf l with
 | none => rw [hb] at e; cases e
 | some x =>
  rw [hb] at e
  injection e with e
  injection e with e
  subst e
  rw [← this l x h hb]
  show x.toArray.size = _
  rw [List.size_toArray]
theorem np_of {l : List AV} (h : ∀ v ∈ l, np v = true) : npL l = true := by
 induction l with
 | nil => rfl
 | cons x l ih => simp only [npL, h x (by simp), ih fun v hv => h v (by simp [hv]), Bool.and_self]
theorem Bs.np {l : List AV} (h : Bs l) : npL l = true := np_of fun v hv => by obtain ⟨n, _, _, rfl⟩ := h v hv; rfl
theorem Rs.np {l : List AV} (h : Rs l) : npL l = true := np_of fun v hv => by obtain ⟨a, b, rfl⟩ := h v hv; rfl
theorem Is.np {l : List AV} (h : Is l) : npL l = true := np_of fun v hv => by obtain ⟨a, rfl⟩ := h v hv; rfl
theorem str_get {s : ByteArray} {i : Nat} (h : i < s.size) : ∃ x : UInt8, (Option.map (fun b : UInt8 => Value.int IntKind.u8 ((b.toNat : Nat) : Int)) s[i]?) = some (.int .u8 (Int.ofNat x.toNat)) := by
 refine ⟨s[i], ?_⟩
 have : s[i]? = some s[i] := by simp [h]
 rw [this]
 rfl
theorem u8_lt (x : UInt8) : Int.ofNat x.toNat < 256 ∧ 0 ≤ Int.ofNat x.toNat := by
 have := x.toNat_lt
 simp only [Int.ofNat_eq_natCast]
 omega
theorem bytes_len (s : ByteArray) : (bytesAV s).length = s.size := by
 unfold bytesAV
 rw [List.length_map, Array.length_toList]
 rfl
theorem Bs.bytes (s : ByteArray) : Bs (bytesAV s) := fun v hv => by
 simp only [bytesAV, List.mem_map] at hv
 obtain ⟨b, _, rfl⟩ := hv
 exact ⟨b.toNat, by omega, by have := b.toNat_lt; omega, rfl⟩
def bytesOfT (P : Program) (e : TypeId) : Nat := match P.info? e with | some i => i.bytes | none => 0
theorem roomD_eq (P : Program) (e n m : Nat) : roomD P e n m = (decide ((n + m) * bytesOfT P e ≤ 140737488355328) && decide (n + m ≤ 9223372036854775807)) := rfl
theorem room_of {e n m : Nat} (hb : Nat.ble (bytesOfT pr e) 200 = true) (h : n + m ≤ 100000000000) : roomD pr e n m = true := by
 have hb := Nat.le_of_ble_eq_true hb
 rw [roomD_eq]
 revert hb
 generalize bytesOfT pr e = z
 intro hb
 have : (n + m) * z ≤ 100000000000 * 200 := Nat.mul_le_mul h hb
 simp only [Bool.and_eq_true, decide_eq_true_eq]
 exact ⟨by omega, by omega⟩
theorem Is.get {l : List AV} (h : Is l) {i : Nat} (hi : i < l.length) : ∃ n : Int, l[i]? = some (iv n) := by
 obtain ⟨n, e⟩ := h l[i] (List.getElem_mem hi)
 exact ⟨n, by rw [List.getElem?_eq_getElem hi, e]⟩
theorem Is.nil : Is [] := fun v h => by cases h
theorem Is.cons {n : Int} {l : List AV} (h : Is l) : Is (iv n :: l) := fun v hv => by
 rcases List.mem_cons.1 hv with rfl | hv
 ·exact ⟨n, rfl⟩
 ·exact h v hv
theorem Is.app {l m : List AV} (h : Is l) (k : Is m) : Is (l ++ m) := fun v hv => by
 rcases List.mem_append.1 hv with hv | hv
 ·exact h v hv
 ·exact k v hv
theorem Is.take {l : List AV} (h : Is l) (n : Nat) : Is (l.take n) := fun v hv => h v (List.mem_of_mem_take hv)
theorem Is.drop {l : List AV} (h : Is l) (n : Nat) : Is (l.drop n) := fun v hv => h v (List.mem_of_mem_drop hv)
theorem Rs.get {l : List AV} (h : Rs l) {i : Nat} (hi : i < l.length) : ∃ a b : Int, l[i]? = some (.agg [iv a, iv b]) := by
 obtain ⟨a, b, e⟩ := h l[i] (List.getElem_mem hi)
 exact ⟨a, b, by rw [List.getElem?_eq_getElem hi, e]⟩
theorem Rs.nil : Rs [] := fun v h => by cases h
theorem Rs.cons {a b : Int} {l : List AV} (h : Rs l) : Rs (.agg [iv a, iv b] :: l) := fun v hv => by
 rcases List.mem_cons.1 hv with rfl | hv
 ·exact ⟨a, b, rfl⟩
 ·exact h v hv
theorem Rs.app {l m : List AV} (h : Rs l) (k : Rs m) : Rs (l ++ m) := fun v hv => by
 rcases List.mem_append.1 hv with hv | hv
 ·exact h v hv
 ·exact k v hv
theorem Rs.set {l : List AV} (h : Rs l) (i : Nat) (a b : Int) : Rs (l.set i (.agg [iv a, iv b])) := fun v hv => by
 rcases List.mem_or_eq_of_mem_set hv with hv | rfl
 ·exact h v hv
 ·exact ⟨a, b, rfl⟩
def Ws (l : List AV) : Prop := ∀ v ∈ l, ∃ (a b : Int) (c d : ByteArray) (o : Int), v = .agg [iv a, iv b, sv c, sv d, iv o] ∧ 1 ≤ c.size
theorem Ws.get {l : List AV} (h : Ws l) {i : Nat} (hi : i < l.length) : ∃ (a b : Int) (c d : ByteArray) (o : Int), l[i]? = some (.agg [iv a, iv b, sv c, sv d, iv o]) := by
 obtain ⟨a, b, c, d, o, e, _⟩ := h l[i] (List.getElem_mem hi)
 exact ⟨a, b, c, d, o, by rw [List.getElem?_eq_getElem hi, e]⟩
theorem Ws.elem {l : List AV} (h : Ws l) {i : Nat} {a b : Int} {c d : ByteArray} {o : Int} (e : l[i]? = some (.agg [iv a, iv b, sv c, sv d, iv o])) : 1 ≤ c.size := by
 obtain ⟨a', b', c', d', o', h1, h2⟩ := h _ (List.mem_of_getElem? e)
 injection h1 with h1
 simp only [List.cons.injEq, AV.sc.injEq, Value.string.injEq, and_true] at h1
 obtain ⟨_, _, rfl, _⟩ := h1
 exact h2
def wsB : List AV → Bool
 | [] => true
 | .agg [.sc (.int .i64 _), .sc (.int .i64 _), .sc (.string c), .sc (.string _), .sc (.int .i64 _)] :: r => Nat.ble 1 c.size && wsB r
 | _ => false
theorem Ws.of : ∀ {l : List AV}, wsB l = true → Ws l
 | [], _ => fun v hv => by cases hv
 | .agg [.sc (.int .i64 a), .sc (.int .i64 b), .sc (.string c), .sc (.string d), .sc (.int .i64 o)] :: r, h => fun v hv => by
  simp only [wsB, Bool.and_eq_true, Nat.ble_eq] at h
  rcases List.mem_cons.1 hv with rfl | hv
  ·exact ⟨a, b, c, d, o, rfl, h.1⟩
  ·exact Ws.of h.2 v hv
theorem bs_size (l : List Nat) : (bs l).size = l.length := by
 unfold bs
 show (List.map Nat.toUInt8 l).toArray.size = _
 rw [List.size_toArray, List.length_map]
def hexv (c : Int) : Int := if 48 ≤ c ∧ c ≤ 57 then c - 48 else if 97 ≤ c ∧ c ≤ 102 then c - 87 else if 65 ≤ c ∧ c ≤ 70 then c - 55 else -1
def isB (S : ByteArray) (i : Int) (s : ByteArray) : Bool := s.toList.isPrefixOf (S.toList.drop i.toNat)
def byteAt (S : ByteArray) (i : Int) : Int := match (S.toList.drop i.toNat).head? with | some b => (b.toNat : Int) | none => -1
theorem size_toList (s : ByteArray) : s.toList.length = s.size := by rw [ByteArray.toList_eq, Array.length_toList]; rfl
theorem isB_le {S s : ByteArray} {i : Int} (h0 : 0 ≤ i) (hi : i ≤ S.size) (h : isB S i s = true) : i + s.size ≤ S.size := by
 have h1 := (List.isPrefixOf_iff_prefix.1 h).length_le
 rw [List.length_drop, size_toList, size_toList] at h1
 omega
theorem is_eq {S s : ByteArray} {i : Int} (h0 : 0 ≤ i) (hi : i + s.size ≤ S.size) : ((S.extract i.toNat (i + s.size).toNat).toList == s.toList) = isB S i s := by
 have e : (S.extract i.toNat (i + s.size).toNat).toList = (S.toList.drop i.toNat).take s.toList.length := by
  rw [ByteArray.toList_eq (S.extract _ _), ByteArray.data_extract, Array.toList_extract, ← ByteArray.toList_eq S, size_toList, List.extract_eq_take_drop]
  congr 1
  omega
 rw [e]
 unfold isB
 rw [Bool.eq_iff_iff, beq_iff_eq, List.isPrefixOf_iff_prefix, List.prefix_iff_eq_take]
 exact ⟨fun h => h.symm, fun h => h.symm⟩
theorem is_false {S s : ByteArray} {i : Int} (h0 : 0 ≤ i) (hs : 1 ≤ s.size) (hi : ¬ i + s.size ≤ S.size) : isB S i s = false := by
 cases h : isB S i s with
 | false => rfl
 | true =>
  have h1 := (List.isPrefixOf_iff_prefix.1 h).length_le
  rw [List.length_drop, size_toList, size_toList] at h1
  omega
theorem room_wide {e n m : Nat} (hb : Nat.ble (bytesOfT pr e) 16 = true) (h : n + m ≤ 5000000000000) : roomD pr e n m = true := by
 have hb := Nat.le_of_ble_eq_true hb
 rw [roomD_eq]
 revert hb
 generalize bytesOfT pr e = z
 intro hb
 have : (n + m) * z ≤ 5000000000000 * 16 := Nat.mul_le_mul h hb
 simp only [Bool.and_eq_true, decide_eq_true_eq]
 exact ⟨by omega, by omega⟩
end Go.Proofs.YtcjcdammcmjbnaaGreat.U
