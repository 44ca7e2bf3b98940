/- Plain proofs of what the laws of layer 10 answer. No condition. -/
import Derived.Test.YtbaciogbhjcdoaaW10l
set_option linter.unusedVariables false
set_option linter.unusedSimpArgs false
namespace Go.Proofs.Ytbaciogbhjcdoaa
theorem lTakes_wp {n : GNfa} {w : List UInt8} (hp : w.length ≤ 140737488351232) : wp_lTakes n w (fun r0 => r0 = ((nTakes n w).1 && decide ((nTakes n w).2 = 0))) := ⟨hp, rfl⟩
set_option maxRecDepth 100000 in
theorem lAwake_wp : wp_lAwake (fun r0 => r0 = true) := ⟨by decide, by decide, by decide +kernel⟩
theorem lNfaTakes_wp {n : GNfa} {w : List UInt8} (hp : n.Starts.length ≤ 17592186044416 ∧ n.Ends.length ≤ 17592186044416 ∧ w.length ≤ 140737488351232) : wp_lNfaTakes n w (fun r0 => r0 = true) := by
  refine ⟨⟨hp.1, hp.2.1⟩, ?_⟩
  split
  · rfl
  · simp [hp.1, hp.2.1, hp.2.2]
end Go.Proofs.Ytbaciogbhjcdoaa
