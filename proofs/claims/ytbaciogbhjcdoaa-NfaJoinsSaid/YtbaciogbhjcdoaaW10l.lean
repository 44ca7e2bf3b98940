/- What some functions compute, as plain formulas. No condition. -/
import Derived.Test.YtbaciogbhjcdoaaP10r
set_option linter.unusedVariables false
set_option linter.unusedSimpArgs false
set_option maxRecDepth 20000
namespace Go.Proofs.Ytbaciogbhjcdoaa
def wp_lAwake  (Q : Bool → Prop) : Prop :=
  ([97, 98, 99, 99].length ≤ 140737488351232) ∧
  ([97, 99].length ≤ 140737488351232) ∧
  Q ((((((decide ((nText [97, 98]).2 = 0) && decide ((nStar (nSet (BSet.ofL [99]))).2 = (nText [97, 98]).2)) && decide ((nCat ((nText [97, 98]).1) ((nStar (nSet (BSet.ofL [99]))).1)).2 = (nText [97, 98]).2)) && (nTakes ((nCat ((nText [97, 98]).1) ((nStar (nSet (BSet.ofL [99]))).1)).1) [97, 98, 99, 99]).1) && decide ((nTakes ((nCat ((nText [97, 98]).1) ((nStar (nSet (BSet.ofL [99]))).1)).1) [97, 98, 99, 99]).2 = (nText [97, 98]).2)) && (!(nTakes ((nCat ((nText [97, 98]).1) ((nStar (nSet (BSet.ofL [99]))).1)).1) [97, 99]).1)) && decide ((nTakes ((nCat ((nText [97, 98]).1) ((nStar (nSet (BSet.ofL [99]))).1)).1) [97, 99]).2 = (nText [97, 98]).2))
end Go.Proofs.Ytbaciogbhjcdoaa
