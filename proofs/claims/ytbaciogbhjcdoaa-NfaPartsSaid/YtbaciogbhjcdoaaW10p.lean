/- What some functions compute, as plain formulas. No condition. -/
import Derived.Test.YtbaciogbhjcdoaaD10p
set_option linter.unusedVariables false
set_option linter.unusedSimpArgs false
set_option maxRecDepth 20000
namespace Go.Proofs.Ytbaciogbhjcdoaa
def wp_lTk (n : GNfa) (w : List UInt8) (Q : Bool → Prop) : Prop :=
  (w.length ≤ 140737488351232) ∧
  Q ((nTakes n w).1 && decide ((nTakes n w).2 = 0))
def wp_lNfaParts (a : GNfa) (b : GNfa) (s : List UInt8) (t : BSet) (w : List UInt8) (Q : Bool → Prop) : Prop :=
  (a.Starts.length ≤ 17592186044416 ∧ a.Ends.length ≤ 17592186044416) ∧
  ((!nFew a) = false → b.Starts.length ≤ 17592186044416 ∧ b.Ends.length ≤ 17592186044416) ∧
  if ((((!nFew a) || (!nFew b)) || decide (100 < (s.length : Int))) || decide (12 < (w.length : Int))) then
    Q true
  else
    ((!decide ((nText s).2 = 0)) = false → s.length ≤ 140737488351232) ∧
    (((!decide ((nText s).2 = 0)) || (!nTk ((nText s).1) s)) = false → w.length ≤ 140737488351232) ∧
    ((((!decide ((nText s).2 = 0)) || (!nTk ((nText s).1) s)) || (!(nTk ((nText s).1) w == decide (s = w)))) = false → w.length ≤ 140737488351232) ∧
    ((decide ((w.length : Int) = 1)) = true ∧ (((!decide ((nText s).2 = 0)) || (!nTk ((nText s).1) s)) || (!(nTk ((nText s).1) w == decide (s = w)))) = false → (0 : Int) ≤ 0 ∧ 0 < (w.length : Int)) ∧
    if ((((!decide ((nText s).2 = 0)) || (!nTk ((nText s).1) s)) || (!(nTk ((nText s).1) w == decide (s = w)))) || (!(nTk (if (((!decide ((nText s).2 = 0)) || (!nTk ((nText s).1) s)) || (!(nTk ((nText s).1) w == decide (s = w)))) = false then nSet t else (⟨(0 : Int), [], [], []⟩ : GNfa)) w == (decide ((w.length : Int) = 1) && t.has (w.getD 0 0).toNat)))) then
      Q false
    else
      if ((!decide ((nCat a b).2 = 0)) || (!decide ((nAlt a b).2 = 0))) then
        Q true
      else
        ∃ (I_91 : Bool → Int → Prop) (μ_92 : Bool → Int → Nat),
          I_91 false 0 ∧
          ∀ (parted : Bool) (i : Int), I_91 parted i →
          if decide (i ≤ (w.length : Int)) then
            (parted = false → (0 : Int) ≤ i ∧ i ≤ (w.length : Int)) ∧
            (parted = false → (w.take i.toNat).length ≤ 140737488351232) ∧
            ((nTk a (w.take i.toNat)) = true ∧ parted = false → (0 : Int) ≤ i ∧ i ≤ (w.length : Int)) ∧
            ((nTk a (w.take i.toNat)) = true ∧ parted = false → (w.drop i.toNat).length ≤ 140737488351232) ∧
            (i64 (i + 1)) ∧
            I_91 (parted || (nTk a (w.take i.toNat) && nTk b (w.drop i.toNat))) (i + 1) ∧ μ_92 (parted || (nTk a (w.take i.toNat) && nTk b (w.drop i.toNat))) (i + 1) < μ_92 parted i
          else
            (true = true → w.length ≤ 140737488351232) ∧
            ((true && (nTk ((nCat a b).1) w == parted)) = true → w.length ≤ 140737488351232) ∧
            ((true && (nTk ((nCat a b).1) w == parted)) = true → w.length ≤ 140737488351232) ∧
            ((nTk a w) = false ∧ (true && (nTk ((nCat a b).1) w == parted)) = true → w.length ≤ 140737488351232) ∧
            Q ((true && (nTk ((nCat a b).1) w == parted)) && (nTk ((nAlt a b).1) w == (nTk a w || nTk b w)))
end Go.Proofs.Ytbaciogbhjcdoaa
