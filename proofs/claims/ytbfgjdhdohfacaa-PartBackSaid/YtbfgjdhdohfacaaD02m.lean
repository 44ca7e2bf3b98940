/- What the functions of layer 2 answer, as plain functions. No condition. -/
import Derived.Test.YtbfgjdhdohfacaaPlain02e
import Derived.Test.YtbfgjdhdohfacaaSep5
set_option linter.unusedVariables false
set_option linter.unusedSimpArgs false
namespace Go.Proofs.Ytbfgjdhdohfacaa
def pP (l : List BSet) : List BSet := if l.length ≤ 1024 then parts l else []
def pE (l : List BSet) : Int := if l.length ≤ 1024 then 0 else 2
def cC (l : List BSet) : List Int := if rightB l then cls l else []
def cE (l : List BSet) : Int := if rightB l then 0 else 1
def sS (c : List Int) : List BSet := if okB c then partsK c 256 else []
def sE (c : List Int) : Int := if okB c then 0 else 1
def oO (l : List BSet) (s : BSet) : List Int := ((overB l s).getD []).map fun (n : Nat) => (n : Int)
def oE (l : List BSet) (s : BSet) : Int := if (overB l s).isSome then 0 else 1
end Go.Proofs.Ytbfgjdhdohfacaa
