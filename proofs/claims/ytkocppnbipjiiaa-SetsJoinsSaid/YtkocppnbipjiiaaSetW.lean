import Derived.Shelf.SlSortCmp.Whole1
import Derived.Test.YtkocppnbipjiiaaProg
import Derived.Test.YtkocppnbipjiiaaFlo
import Derived.KernelRfl
namespace Go.Proofs.Ytkocppnbipjiiaa.U
open Go Go.Proofs Go.Shelf Go.RowKit Go.Lib Go.Sort Go.Flo
theorem nanW (x : Nat) (W : World) (h1 : Ieee.double.order x x = some .eq) : Calls Try.prog 51 #[.float .f64 x] W fun e w' => e = .returned (.bool false) ∧ w' = W := by
  have b1 : ∀ W, Sem.run Try.prog (binOp .neq 60 (.float .f64 x) (.float .f64 x)) W = .ok (.bool (!(Ieee.double.order x x == some .eq))) W := fun W => by kernel_rfl
  rw [h1] at b1
  clear h1
  go_enter Try.func51, Try.ntmps51
  go_wp2
  all_goals first | (go_ret; exact ⟨rfl, rfl⟩) | trace_state
theorem cmpF (x a : Nat) (W : World) (k : Ordering) (hk : Ieee.double.order x a = some k) (h1 : Ieee.double.order x x = some .eq) (h2 : Ieee.double.order a a = some .eq) : Calls Try.prog 41 #[.float .f64 x, .float .f64 a] W fun e w' => e = .returned (.int .i64 (if k = .lt then -1 else if k = .gt then 1 else 0)) ∧ w' = W := by
  have b1 : ∀ W, Sem.run Try.prog (binOp .lss 60 (.float .f64 x) (.float .f64 a)) W = .ok (.bool (Ieee.double.order x a == some .lt)) W := fun W => by kernel_rfl
  have b2 : ∀ W, Sem.run Try.prog (binOp .gtr 60 (.float .f64 x) (.float .f64 a)) W = .ok (.bool (Ieee.double.order x a == some .gt)) W := fun W => by kernel_rfl
  rw [hk] at b1 b2
  have n1 := fun W => nanW x W h1
  have n2 := fun W => nanW a W h2
  clear h1 h2 hk
  go_enter Try.func41, Try.ntmps41
  cases k <;> go_wp2_with (go_at_call 51; first | (refine (n1 _).mono ?_; rintro e w' ⟨rfl, rfl⟩) | (refine (n2 _).mono ?_; rintro e w' ⟨rfl, rfl⟩))
  all_goals first | (go_ret; exact ⟨rfl, rfl⟩) | trace_state
theorem cmpW (x y a b : Nat) (W : World) (k : Ordering) (hk : Ieee.double.order x a = some k) (h1 : Ieee.double.order x x = some .eq) (h2 : Ieee.double.order a a = some .eq) : Calls Try.prog 40 #[.complex .f64 x y, .complex .f64 a b] W fun e w' => e = .returned (.int .i64 (if k = .lt then -1 else if k = .gt then 1 else 0)) ∧ w' = W := by
  have r1 : ∀ (x y : Nat) (W : World), Sem.run Try.prog (Builtin.real_ #[49] 60 #[Value.complex .f64 x y]) W = .ok (.float .f64 x) W := fun x y W => by kernel_rfl
  have hc := fun W => cmpF x a W k hk h1 h2
  clear hk h1 h2
  generalize (if k = .lt then -1 else if k = .gt then 1 else 0 : Int) = r at hc ⊢
  go_enter Try.func40, Try.ntmps40
  go_wp2_with (go_at_call 41; refine (hc _).mono ?_; rintro e w' ⟨rfl, rfl⟩)
  all_goals first | (go_ret; exact ⟨rfl, rfl⟩) | trace_state
end Go.Proofs.Ytkocppnbipjiiaa.U
