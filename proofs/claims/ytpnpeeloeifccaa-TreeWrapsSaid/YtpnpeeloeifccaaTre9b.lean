/- Two ranges compared. -/
import Derived.Test.YtpnpeeloeifccaaTre9
namespace Go.Proofs.Ytpnpeeloeifccaa.U
open Go Go.Vai
theorem pureOf_bind {α β : Type} (P : Program) (x : Sem α) (f : α → Sem β) : pureOf P (x >>= f) = (pureOf P x).bind fun a => pureOf P (f a) := by
  show pureOf P (x.bind f) = _
  induction x with
  | pure a => rfl
  | program k ih => simp only [Sem.bind, pureOf, ih]
  | mark a k ih => simp only [Sem.bind, pureOf, ih]
  | _ => rfl
theorem eqInt (d : Nat) (a c : Int) : pureOf pr (Op.equalIn (d + 1) 3 (.int .i64 a) (.int .i64 c)) = some (a == c) := by
  unfold Op.equalIn
  rw [pureOf_bind]
  have h : pureOf pr (underlying 3) = some (.int .i64) := by kernel_rfl
  rw [h]
  rfl
theorem eq41 (n : Nat) (a b c d : Int) : pureOf pr (Op.equalIn (n + 2) 41 (.agg #[.int .i64 a, .int .i64 b]) (.agg #[.int .i64 c, .int .i64 d])) = some (a == c && b == d) := by
  rw [Op.equalIn]
  rw [pureOf_bind]
  have h : pureOf pr (underlying 41) = some (.struct #[{ name := "Lo", type := 3, offset := 0, embedded := false, tag := "", pkgPath := "", byteOffset := 0 }, { name := "Hi", type := 3, offset := 1, embedded := false, tag := "", pkgPath := "", byteOffset := 8 }]) := by kernel_rfl
  rw [h]
  simp only [Option.bind_some]
  rw [pureOf_bind]
  have h2 : pureOf pr program = some pr := by kernel_rfl
  rw [h2]
  simp only [Option.bind_some]
  have h3 : pr.stoodInHeld 41 = false := by kernel_rfl
  rw [h3]
  simp only [Bool.false_eq_true, if_false]
  rw [pureOf_bind]
  rw [← Array.forIn_toList]
  simp only [List.forIn_cons, List.forIn_nil]
  have p1 : ∀ u v : Int, pureOf pr (Go.part 3 #[.int .i64 u, .int .i64 v] 0) = some (.int .i64 u) := fun u v => by kernel_rfl
  have p2 : ∀ u v : Int, pureOf pr (Go.part 3 #[.int .i64 u, .int .i64 v] 1) = some (.int .i64 v) := fun u v => by kernel_rfl
  have n1 : ("Lo" ≠ "_") = True := by simp
  have n2 : ("Hi" ≠ "_") = True := by simp
  have e1 : ∀ x : Bool, pureOf pr (Op.equalIn (n + 1) 3 (.int .i64 a) (.int .i64 c)) = some (a == c) := fun _ => eqInt n a c
  have pp : ∀ {α : Type} (x : α), pureOf pr (pure x : Sem α) = some x := fun x => rfl
  simp only [n1, if_true, pureOf_bind, p1, Option.bind_some, eqInt]
  cases h4 : (a == c) <;> cases h5 : (b == d) <;> simp [pureOf_bind, p2, n2, eqInt, pp, h5]
theorem rng_neq (a b c d : Int) (x y : Operand) : binV pr .neq 41 x y (.agg #[.int .i64 a, .int .i64 b]) (.agg #[.int .i64 c, .int .i64 d]) = some (.bool (!(a == c && b == d))) := by
  unfold binV
  rw [pureOf_bind]
  have h1 : pureOf pr (eqGuard .neq 41 x y (.agg #[.int .i64 a, .int .i64 b]) (.agg #[.int .i64 c, .int .i64 d])) = some () := by kernel_rfl
  rw [h1]
  simp only [Option.bind_some, binOp]
  rw [pureOf_bind]
  have h2 : pureOf pr (Op.equal 41 (.agg #[.int .i64 a, .int .i64 b]) (.agg #[.int .i64 c, .int .i64 d])) = some (a == c && b == d) := eq41 9998 a b c d
  rw [h2]
  rfl
end Go.Proofs.Ytpnpeeloeifccaa.U
