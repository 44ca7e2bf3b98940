/- What some functions compute, as plain formulas. No condition. -/
import Derived.Test.YtbaciogbhjcdoaaP10
set_option linter.unusedVariables false
set_option linter.unusedSimpArgs false
set_option maxRecDepth 20000
namespace Go.Proofs.Ytbaciogbhjcdoaa
def wp_rStates (l : List Int) (n : Int) (Q : Bool → Prop) : Prop :=
  ∃ I_3 : Nat → Prop,
    I_3 0 ∧
    ∀ (i : Nat), I_3 i → i ≤ l.length →
    if decide ((i : Int) < (l.length : Int)) then
      ((decide (0 < (i : Int))) = true ∧ (decide ((l.getD i default) < 0) || decide (n ≤ (l.getD i default))) = false → i64 ((i : Int) - 1)) ∧
      ((decide (0 < (i : Int))) = true ∧ (decide ((l.getD i default) < 0) || decide (n ≤ (l.getD i default))) = false → (0 : Int) ≤ ((i : Int) - 1) ∧ ((i : Int) - 1) < (l.length : Int)) ∧
      ((decide (0 < (i : Int))) = true ∧ (decide ((l.getD i default) < 0) || decide (n ≤ (l.getD i default))) = false → (0 : Int) ≤ ((i : Int) - 1) ∧ ((i : Int) - 1) < (l.length : Int)) ∧
      if ((decide ((l.getD i default) < 0) || decide (n ≤ (l.getD i default))) || (decide (0 < (i : Int)) && decide ((l.getD i default) ≤ (l.getD ((i : Int) - 1).toNat default)))) then
        Q false
      else
        I_3 (i + 1)
    else
      Q true
def wp_rRight (n : GNfa) (Q : Bool → Prop) : Prop :=
  ((decide (n.States < 0) || decide (4096 < n.States)) = false → n.Starts.length ≤ 17592186044416) ∧
  (((decide (n.States < 0) || decide (4096 < n.States)) || (!nStates n.Starts n.States)) = false → n.Ends.length ≤ 17592186044416) ∧
  if ((((decide (n.States < 0) || decide (4096 < n.States)) || (!nStates n.Starts n.States)) || (!nStates n.Ends n.States)) || decide (65536 < (n.Edges.length : Int))) then
    Q false
  else
    ∃ I_13 : Nat → Prop,
      I_13 0 ∧
      ∀ (i : Nat), I_13 i → i ≤ n.Edges.length →
      if decide ((i : Int) < (n.Edges.length : Int)) then
        if ((((decide ((n.Edges.getD i default).From < 0) || decide (n.States ≤ (n.Edges.getD i default).From)) || decide ((n.Edges.getD i default).To < 0)) || decide (n.States ≤ (n.Edges.getD i default).To)) || decide ((n.Edges.getD i default).Set = BSet.zero)) then
          Q false
        else
          I_13 (i + 1)
      else
        Q true
def wp_rIn (s : Int) (l : List Int) (Q : Bool → Prop) : Prop :=
  ∃ I_3 : Nat → Prop,
    I_3 0 ∧
    ∀ (i : Nat), I_3 i → i ≤ l.length →
    if decide ((i : Int) < (l.length : Int)) then
      if decide ((l.getD i default) = s) then
        Q true
      else
        I_3 (i + 1)
    else
      Q false
def wp_rFew (n : GNfa) (Q : Bool → Prop) : Prop :=
  (((decide (n.States ≤ 40) || decide (4096 < n.States)) && decide ((n.Edges.length : Int) ≤ 120)) = true → i64 ((n.Starts.length : Int) + (n.Ends.length : Int))) ∧
  Q (((decide (n.States ≤ 40) || decide (4096 < n.States)) && decide ((n.Edges.length : Int) ≤ 120)) && decide (((n.Starts.length : Int) + (n.Ends.length : Int)) ≤ 100))
end Go.Proofs.Ytbaciogbhjcdoaa
