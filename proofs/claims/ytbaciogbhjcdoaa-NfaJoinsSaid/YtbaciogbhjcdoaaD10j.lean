/- How often: plain functions. No condition. -/
import Derived.Test.YtbaciogbhjcdoaaP10r
set_option linter.unusedVariables false
set_option linter.unusedSimpArgs false
namespace Go.Proofs.Ytbaciogbhjcdoaa
/-- an automaton, again and again behind another -/
def repCat (a : GNfa) : Nat → GNfa × Int → GNfa × Int
  | 0, s => s
  | k + 1, s => if s.2 = 0 then repCat a k (nCat s.1 a) else s
def nNone : GNfa := (nText []).1
def nRep (a : GNfa) (least most : Int) : GNfa × Int :=
  if nRight a && rTimes least most then
    let s := repCat a least.toNat (nNone, 0)
    if s.2 = 0 ∧ most = -1 then (if (nStar a).2 = 0 then nCat s.1 (nStar a).1 else (nZero, (nStar a).2))
    else if least < most ∧ s.2 = 0 ∧ (nAlt a nNone).2 ≠ 0 then (nZero, (nAlt a nNone).2) else repCat (nAlt a nNone).1 (most - least).toNat s
  else (nZero, 1)
end Go.Proofs.Ytbaciogbhjcdoaa
