/- The interpreter with values that are not known: functions; the walk of a law. -/
import Derived.Test.YtcjcdammcmjbnaaGreatVaiX
import Derived.Below
namespace Go.Vai
section
variable {P : Program} {fh : FuncId → FH} {f : FuncId} {E : FuncId → List AV → HH → AV → HH → Prop} {call : Nat → FuncId → List AV → HH → Option (AV × HH)}
abbrev Ans (P : Program) (fh : FuncId → FH) (ext : FuncId → Option (List AV → HH → Option (AV × HH))) : FuncId → List AV → HH → AV → HH → Prop := Comes (run P fh ext)
theorem law_calls {ext : FuncId → Option (List AV → HH → Option (AV × HH))} (hf : f < 1000000) (hext : GoodX P ext) {vs : List AV} (h : Ans P fh ext f vs [] (.sc (.bool true)) []) {w : World} {us : List Value} {F β : Nat → Nat} (hE : Entry P w F β (fun _ => none) vs us []) :
  Calls P f us.toArray w fun e w' => e = .returned (.bool true) ∧ Go.RowKit.Below w.heap.size w w' := by
 obtain ⟨N, hN⟩ := h
 have G := run_sound (fh := fh) hext N
 refine Calls.mono (G.does hf (hN N (Nat.le_refl _)) hE) ?_
 rintro e w' ⟨v, F', O', rfl, B⟩
 obtain ⟨t, hr⟩ := B.res
 have hv : v = .bool true := by
  have : relF w' F' β ([] : HH).length (.sc (.bool true)) v := hr
  simp only [relF] at this
  exact this.1
 subst hv
 exact ⟨rfl, B.step.os, B.step.tape, B.step.output, B.step.size, fun k hk => (B.step.block k hk (by simp)).1⟩
end
end Go.Vai
