/- What some functions compute, as plain formulas. No condition. -/
import Derived.Test.YtbaciogbhjcdoaaP15
set_option linter.unusedVariables false
set_option linter.unusedSimpArgs false
set_option maxRecDepth 20000
namespace Go.Proofs.Ytbaciogbhjcdoaa
def wp_lAwake15  (Q : Bool → Prop) : Prop :=
  Q (((decide (((fOuts (⟨2, [(⟨(0 : Int), ([] : List UInt8)⟩ : GTip)], [(⟨1, [121]⟩ : GTip)], [(⟨(0 : Int), 1, BSet.ofL [97], [120], true⟩ : GArc)]⟩ : GFst) [97]).1) = [[120, 97, 121]]) && decide ((fOuts (⟨2, [(⟨(0 : Int), ([] : List UInt8)⟩ : GTip)], [(⟨1, [121]⟩ : GTip)], [(⟨(0 : Int), 1, BSet.ofL [97], [120], true⟩ : GArc)]⟩ : GFst) [97]).2 = 0)) && (fHas (⟨2, [(⟨(0 : Int), ([] : List UInt8)⟩ : GTip)], [(⟨1, [121]⟩ : GTip)], [(⟨(0 : Int), 1, BSet.ofL [97], [120], true⟩ : GArc)]⟩ : GFst) [97] [120, 97, 121]).1) && decide ((fHas (⟨2, [(⟨(0 : Int), ([] : List UInt8)⟩ : GTip)], [(⟨1, [121]⟩ : GTip)], [(⟨(0 : Int), 1, BSet.ofL [97], [120], true⟩ : GArc)]⟩ : GFst) [97] [120, 97, 121]).2 = (fOuts (⟨2, [(⟨(0 : Int), ([] : List UInt8)⟩ : GTip)], [(⟨1, [121]⟩ : GTip)], [(⟨(0 : Int), 1, BSet.ofL [97], [120], true⟩ : GArc)]⟩ : GFst) [97]).2))
def wp_lFstOne (t : GFst) (x : GArc) (w : List UInt8) (Q : Bool → Prop) : Prop :=
  (fSane t) ∧
  if (((!fFew t) || decide (600 < (x.Out.length : Int))) || decide (5 < (w.length : Int))) then
    Q true
  else
    ((0 + t.Arcs.length) * 72 ≤ 140737488355328) ∧
    ((([] ++ t.Arcs).length + 1) * 72 ≤ 140737488355328) ∧
    if ((!decide ((fOuts t w).2 = 0)) || (!decide ((fOuts (⟨t.States, t.Starts, t.Ends, (([] ++ t.Arcs) ++ [x])⟩ : GFst) w).2 = 0))) then
      Q (true && (decide ((fOuts t w).2 = 0) || (!decide ((fOuts (⟨t.States, t.Starts, t.Ends, (([] ++ t.Arcs) ++ [x])⟩ : GFst) w).2 = 0))))
    else
      ∃ (I_65 : Int → Int → Prop) (μ_66 : Int → Int → Nat),
        I_65 0 0 ∧
        ∀ (k : Int) (i : Int), I_65 k i →
        if (decide (i < (((fOuts (⟨t.States, t.Starts, t.Ends, (([] ++ t.Arcs) ++ [x])⟩ : GFst) w).1).length : Int)) && decide (k < (((fOuts t w).1).length : Int))) then
          ((0 : Int) ≤ i ∧ i < (((fOuts (⟨t.States, t.Starts, t.Ends, (([] ++ t.Arcs) ++ [x])⟩ : GFst) w).1).length : Int)) ∧
          ((0 : Int) ≤ k ∧ k < (((fOuts t w).1).length : Int)) ∧
          if decide ((((fOuts (⟨t.States, t.Starts, t.Ends, (([] ++ t.Arcs) ++ [x])⟩ : GFst) w).1).getD i.toNat default) = (((fOuts t w).1).getD k.toNat default)) then
            (i64 (k + 1)) ∧
            (i64 (i + 1)) ∧
            I_65 (k + 1) (i + 1) ∧ μ_66 (k + 1) (i + 1) < μ_66 k i
          else
            (i64 (i + 1)) ∧
            I_65 k (i + 1) ∧ μ_66 k (i + 1) < μ_66 k i
        else
          Q (true && decide (k = (((fOuts t w).1).length : Int)))
def wp_lFstSort (t : GFst) (w : List UInt8) (xat : Int) (Q : Bool → Prop) : Prop :=
  (fSane t) ∧
  if ((!fFew t) || decide (5 < (w.length : Int))) then
    Q true
  else
    if (!decide ((fSort t).2 = 0)) then
      Q (true && decide (fCheck t = (fSort t).2))
    else
      if ((((!decide ((fSort ((fSort t).1)).2 = 0)) || (!decide (((fSort t).1) = ((fSort ((fSort t).1)).1)))) || (!decide ((fOuts t w).2 = (fOuts ((fSort t).1) w).2))) || (!decide (((fOuts t w).1) = ((fOuts ((fSort t).1) w).1)))) then
        Q false
      else
        if (decide (xat < 0) || decide ((t.Arcs.length : Int) ≤ xat)) then
          Q true
        else
          ((0 : Int) ≤ xat ∧ xat < (t.Arcs.length : Int)) ∧
          ((1 + t.Arcs.length) * 72 ≤ 140737488355328) ∧
          Q ((true && decide ((fSort (⟨t.States, t.Starts, t.Ends, ([(t.Arcs.getD xat.toNat default)] ++ t.Arcs)⟩ : GFst)).2 = 0)) && decide (((fSort (⟨t.States, t.Starts, t.Ends, ([(t.Arcs.getD xat.toNat default)] ++ t.Arcs)⟩ : GFst)).1) = ((fSort t).1)))
def wp_lFstIn (t : GFst) (w : List UInt8) (Q : Bool → Prop) : Prop :=
  (fSane t) ∧
  if ((!fFew t) || decide (5 < (w.length : Int))) then
    Q true
  else
    if ((!decide ((fOuts t w).2 = 0)) || (!decide ((fInN t).2 = 0))) then
      Q ((true && decide ((((fOuts t w).1).length : Int) = 0)) && (decide ((fOuts t w).2 = (fInN t).2) || decide ((fOuts t w).2 = 2)))
    else
      (w.length ≤ 140737488351232) ∧
      Q (((true && decide (nCheck ((fInN t).1) = 0)) && decide ((nTakes ((fInN t).1) w).2 = 0)) && ((nTakes ((fInN t).1) w).1 == decide (0 < (((fOuts t w).1).length : Int))))
end Go.Proofs.Ytbaciogbhjcdoaa
