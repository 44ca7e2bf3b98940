/- Plain proofs of what the laws of layer 10 answer. No condition. -/
import Derived.Test.YtbaciogbhjcdoaaW10l
set_option linter.unusedVariables false
set_option linter.unusedSimpArgs false
namespace Go.Proofs.Ytbaciogbhjcdoaa
set_option maxRecDepth 100000 in
theorem lAwake_wp : wp_lAwake (fun r0 => r0 = true) := ⟨by decide, by decide, by decide +kernel⟩
end Go.Proofs.Ytbaciogbhjcdoaa
