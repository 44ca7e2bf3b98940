/- Two words. No condition. -/
import Derived.Test.YtbaciogbhjcdoaaW10m
set_option linter.unusedVariables false
namespace Go.Proofs.Ytbaciogbhjcdoaa
theorem mul64_wp {x y : BitVec 64} : wp_mul64 x y (fun r0 r1 => r0 = mulHi x y ∧ r1 = (x * y)) := ⟨rfl, rfl⟩
theorem mulU_wp {x y : BitVec 64} : wp_mulU x y (fun r0 r1 => r0 = mulHi x y ∧ r1 = (x * y)) := ⟨rfl, rfl⟩
end Go.Proofs.Ytbaciogbhjcdoaa
