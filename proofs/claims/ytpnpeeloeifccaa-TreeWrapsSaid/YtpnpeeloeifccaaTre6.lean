/- Trees: a small tree (closed); the law of counts. -/
import Derived.Test.YtpnpeeloeifccaaTre5
import Derived.Test.YtpnpeeloeifccaaTreR
namespace Go.Proofs.Ytpnpeeloeifccaa.U
open Go Go.Vai
theorem awake : A 10 [] [] (bv true) [] := Ans.at 300 (by kernel_rfl)
theorem counts (n : Nd) (h : n.Ok) : A 4 [n.av] [] (bv true) [] := by
  have h1 := Size_ok n h
  have h2 := rSize_ok n h
  have h3 := Small_ok n h
  have h4 := fun hs => Depth_ok n h hs
  have h5 := rDepth_ok n h
  have h6 := small_sz n
  have h7 := np_one n
  revert h1 h2 h3 h4 h5 h6 h7
  generalize hx : 4000 - cnt n 4000 = x
  generalize small n = sm
  generalize hc : cap 301 (ht n) = q
  generalize sz n = z
  cases n with
  | mk k a c s g N M m nm on off kids =>
    intro h1 h2 h3 h4 h5 h6 h7
    refine done (w_TreeCounts _ _ _ _ _ _ _ _ _ _ _ _ (fun r H => r = bv true ∧ H = []) ⟨awake, h7, _, h1, h7, _, h2, fun h => ?_, fun _ => ⟨h7, _, h3, fun _ => ⟨rfl, rfl⟩, fun h => ⟨h7, _, h4 ?_, h7, _, h5, ?_⟩⟩⟩)
    · simp at h
    · have : sm = true := by simpa using h
      rw [this] at h6
      exact dt h6.symm
    · simp
end Go.Proofs.Ytpnpeeloeifccaa.U
