/- What some functions compute, as plain formulas. No condition. -/
import Derived.Test.YtbaciogbhjcdoaaP10r
set_option linter.unusedVariables false
set_option linter.unusedSimpArgs false
set_option maxRecDepth 20000
namespace Go.Proofs.Ytbaciogbhjcdoaa
def wp_lTakes (n : GNfa) (w : List UInt8) (Q : Bool → Prop) : Prop :=
  (w.length ≤ 140737488351232) ∧
  Q ((nTakes n w).1 && decide ((nTakes n w).2 = 0))
def wp_lAwake  (Q : Bool → Prop) : Prop :=
  ([97, 98, 99, 99].length ≤ 140737488351232) ∧
  ([97, 99].length ≤ 140737488351232) ∧
  Q ((((((decide ((nText [97, 98]).2 = 0) && decide ((nStar (nSet (BSet.ofL [99]))).2 = (nText [97, 98]).2)) && decide ((nCat ((nText [97, 98]).1) ((nStar (nSet (BSet.ofL [99]))).1)).2 = (nText [97, 98]).2)) && (nTakes ((nCat ((nText [97, 98]).1) ((nStar (nSet (BSet.ofL [99]))).1)).1) [97, 98, 99, 99]).1) && decide ((nTakes ((nCat ((nText [97, 98]).1) ((nStar (nSet (BSet.ofL [99]))).1)).1) [97, 98, 99, 99]).2 = (nText [97, 98]).2)) && (!(nTakes ((nCat ((nText [97, 98]).1) ((nStar (nSet (BSet.ofL [99]))).1)).1) [97, 99]).1)) && decide ((nTakes ((nCat ((nText [97, 98]).1) ((nStar (nSet (BSet.ofL [99]))).1)).1) [97, 99]).2 = (nText [97, 98]).2))
def wp_lNfaTakes (n : GNfa) (w : List UInt8) (Q : Bool → Prop) : Prop :=
  (n.Starts.length ≤ 17592186044416 ∧ n.Ends.length ≤ 17592186044416) ∧
  if ((!nFew n) || decide (100 < (w.length : Int))) then
    Q true
  else
    (w.length ≤ 140737488351232) ∧
    ((n.Starts.length ≤ 17592186044416 ∧ n.Ends.length ≤ 17592186044416) ∧ w.length ≤ 140737488351232) ∧
    Q ((true && ((nTakes n w).1 == (nTakes n w).1)) && decide ((nTakes n w).2 = (nTakes n w).2))
end Go.Proofs.Ytbaciogbhjcdoaa
