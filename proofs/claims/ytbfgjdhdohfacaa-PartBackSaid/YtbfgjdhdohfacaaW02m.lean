/- What some functions compute, as plain formulas. No condition. -/
import Derived.Test.YtbfgjdhdohfacaaD02m
set_option linter.unusedVariables false
set_option linter.unusedSimpArgs false
set_option maxRecDepth 20000
namespace Go.Proofs.Ytbfgjdhdohfacaa
def wp_lPartMore (l : List BSet) (more : List BSet) (Q : Bool → Prop) : Prop :=
  if (decide (20 < (l.length : Int)) || decide (20 < (more.length : Int))) then
    Q true
  else
    ((0 + l.length) * 32 ≤ 140737488355328) ∧
    ((([] ++ l).length + more.length) * 32 ≤ 140737488355328) ∧
    if ((((!decide (pE l = 0)) || (!decide (pE (([] ++ l) ++ more) = 0))) || (!decide (pE (pP l) = 0))) || (!decide ((pP l) = (pP (pP l))))) then
      Q false
    else
      ∃ I_32 : Nat → Prop,
        I_32 0 ∧
        ∀ (i : Nat), I_32 i → i ≤ (pP (([] ++ l) ++ more)).length →
        if decide ((i : Int) < ((pP (([] ++ l) ++ more)).length : Int)) then
          ∃ I_40 : Int → Nat → Prop,
            I_40 0 0 ∧
            ∀ (n : Int) (k : Nat), I_40 n k → k ≤ (pP l).length →
            if decide ((k : Int) < ((pP l).length : Int)) then
              if decide (((pP l).getD k default).band ((pP (([] ++ l) ++ more)).getD i default) = ((pP (([] ++ l) ++ more)).getD i default)) then
                (i64 (n + 1)) ∧
                I_40 (n + 1) (k + 1)
              else
                if (!decide (((pP l).getD k default).band ((pP (([] ++ l) ++ more)).getD i default) = BSet.zero)) then
                  Q false
                else
                  I_40 n (k + 1)
            else
              if (!decide (n = 1)) then
                Q false
              else
                I_32 (i + 1)
        else
          Q (true && decide (((pP l).length : Int) ≤ ((pP (([] ++ l) ++ more)).length : Int)))
def wp_lPartBack (l : List BSet) (xclass : List Int) (Q : Bool → Prop) : Prop :=
  if (decide (30 < (l.length : Int)) || decide (300 < (xclass.length : Int))) then
    Q true
  else
    if ((((!decide (pE l = 0)) || (!decide (cE (pP l) = 0))) || (!decide (sE (cC (pP l)) = 0))) || (!decide ((pP l) = (sS (cC (pP l)))))) then
      Q false
    else
      ∃ I_24 : Nat → Prop,
        I_24 0 ∧
        ∀ (i : Nat), I_24 i → i ≤ l.length →
        if decide ((i : Int) < (l.length : Int)) then
          ∃ I_37 : BSet → Nat → Prop,
            I_37 BSet.zero 0 ∧
            ∀ (all : BSet) (k : Nat), I_37 all k → k ≤ (oO (pP l) (l.getD i default)).length →
            if decide ((k : Int) < ((oO (pP l) (l.getD i default)).length : Int)) then
              if (decide (((oO (pP l) (l.getD i default)).getD k default) < 0) || decide (((pP l).length : Int) ≤ ((oO (pP l) (l.getD i default)).getD k default))) then
                Q false
              else
                ((0 : Int) ≤ ((oO (pP l) (l.getD i default)).getD k default) ∧ ((oO (pP l) (l.getD i default)).getD k default) < ((pP l).length : Int)) ∧
                I_37 (all.bor ((pP l).getD ((oO (pP l) (l.getD i default)).getD k default).toNat default)) (k + 1)
            else
              if ((!decide (oE (pP l) (l.getD i default) = 0)) || (!decide (all = (l.getD i default)))) then
                Q false
              else
                I_24 (i + 1)
        else
          if (!decide (sE xclass = 0)) then
            Q (true && decide (((sS xclass).length : Int) = 0))
          else
            Q ((true && decide (cE (sS xclass) = 0)) && decide ((cC (sS xclass)) = xclass))
end Go.Proofs.Ytbfgjdhdohfacaa
