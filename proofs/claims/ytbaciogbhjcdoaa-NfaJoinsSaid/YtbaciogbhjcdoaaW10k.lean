/- What some functions compute, as plain formulas. No condition. -/
import Derived.Test.YtbaciogbhjcdoaaP10j
import Derived.Test.YtbaciogbhjcdoaaD10p
set_option linter.unusedVariables false
set_option linter.unusedSimpArgs false
set_option maxRecDepth 20000
namespace Go.Proofs.Ytbaciogbhjcdoaa
def wp_nfaRep (a : GNfa) (least : Int) (most : Int) (Q : GNfa → Int → Prop) : Prop :=
  if (([a].any fun n => decide (nCheck n ≠ 0)) || (!((decide (0 ≤ least) && decide (least ≤ 64)) && ((decide (least ≤ most) && decide (most ≤ 64)) || (decide (most = (-1)) && decide (least ≤ 1)))))) then
    Q (⟨(0 : Int), [], [], []⟩ : GNfa) 1
  else
    ([a].length = 1 ∧ 0 ≤ least ∧ least ≤ 64) ∧
    ∃ K_51 : (List GNfa) → Prop,
    ((if decide (most < 0) then
        if (!decide ((nStar a).2 = 0)) then
          Q (⟨(0 : Int), [], [], []⟩ : GNfa) ((nStar a).2)
        else
          (((List.replicate least.toNat ([a].getD 0 default)).length + 1) * 80 ≤ 140737488355328) ∧
          K_51 ((List.replicate least.toNat ([a].getD 0 default)) ++ [((nStar a).1)])
      else
        K_51 (List.replicate least.toNat ([a].getD 0 default)))) ∧
    ∀ parts, K_51 parts →
    ((i64 (most - least)) ∧
      ∃ I_86 : GNfa → (List GNfa) → Nat → Prop,
        I_86 ((nText ([] : List UInt8)).1) parts 0 ∧
        ∀ (xnone : GNfa) (parts2 : List GNfa) (k : Nat), I_86 xnone parts2 k →
        if decide ((k : Int) < (most - least)) then
          if (!decide ((nAlt a xnone).2 = 0)) then
            Q (⟨(0 : Int), [], [], []⟩ : GNfa) ((nAlt a xnone).2)
          else
            ((parts2.length + 1) * 80 ≤ 140737488355328) ∧
            (i64 ((k : Int) + 1)) ∧
            I_86 xnone (parts2 ++ [((nAlt a xnone).1)]) (k + 1)
        else
          ∃ K_131 : GNfa → Int → Prop,
          ((∃ I_141 : GNfa → Int → Nat → Prop,
              I_141 xnone 0 0 ∧
              ∀ (n2 : GNfa) (e2 : Int) (k2 : Nat), I_141 n2 e2 k2 → k2 ≤ parts2.length →
              if decide ((k2 : Int) < (parts2.length : Int)) then
                if (!decide ((nCat n2 (parts2.getD k2 default)).2 = 0)) then
                  K_131 ((nCat n2 (parts2.getD k2 default)).1) ((nCat n2 (parts2.getD k2 default)).2)
                else
                  I_141 ((nCat n2 (parts2.getD k2 default)).1) ((nCat n2 (parts2.getD k2 default)).2) (k2 + 1)
              else
                K_131 n2 e2)) ∧
          ∀ n e, K_131 n e →
          (Q n e))
def wp_lNfaJoins (a : GNfa) (b : GNfa) (least : Int) (most : Int) (Q : Bool → Prop) : Prop :=
  (a.Starts.length ≤ 17592186044416 ∧ a.Ends.length ≤ 17592186044416) ∧
  ((!nFew a) = false → b.Starts.length ≤ 17592186044416 ∧ b.Ends.length ≤ 17592186044416) ∧
  if ((((!nFew a) || (!nFew b)) || (decide (6 < least) && decide (least ≤ 64))) || (decide (6 < most) && decide (most ≤ 64))) then
    Q true
  else
    ((a.Starts.length ≤ 17592186044416 ∧ a.Ends.length ≤ 17592186044416) ∧ (b.Starts.length ≤ 17592186044416 ∧ b.Ends.length ≤ 17592186044416)) ∧
    if ((((!decide (((nCat a b).1) = ((nCat a b).1))) || (!decide ((nCat a b).2 = (nCat a b).2))) || (!decide (((nAlt a b).1) = ((nAlt a b).1)))) || (!decide ((nAlt a b).2 = (nAlt a b).2))) then
      Q false
    else
      ((a.Starts.length ≤ 17592186044416 ∧ a.Ends.length ≤ 17592186044416)) ∧
      Q ((((true && decide (((nStar a).1) = ((nStar a).1))) && decide ((nStar a).2 = (nStar a).2)) && decide (((nRep a least most).1) = ((nRep a least most).1))) && decide ((nRep a least most).2 = (nRep a least most).2))
end Go.Proofs.Ytbaciogbhjcdoaa
