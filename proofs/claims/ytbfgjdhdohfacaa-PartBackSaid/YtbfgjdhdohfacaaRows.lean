/-
  No cell of these rows narrows 'for every input' (looked for: loops, veiled, ifaces, maps, wideKeys, modest, calm, conditions, laid).
  DERIVED. THE GIVEN ROWS OF THIS SEAT. 11 by the template 'for every input the law returns true; each argument reads behind the call as it read before'; 0 by the template 'total and deterministic' (their statements: YtbfgjdhdohfacaaTotals.lean).
  GIVEN WITH THE SEED: the statements are not yours to turn. If you find one false, say at which input.
  Laid BY PROGRAM, IN A SANDBOX (cutbox-rows.mjs): the forced cells as the released guide's own fill.sh prints them over the translation 8c03d2b23a70ff92… (all of the seat's roots in one cut). By AI agents, Wed Nov 11 2026. No macro, syntax, notation, axiom, sorry.
-/
import Derived.Test.YtbfgjdhdohfacaaChecked
import GoSem.Claim
import GoSem.ClaimJoined
import GoSem.ClaimMapViews
import Derived.JoinedTies
import Derived.KernelRfl
namespace Go.Proofs.Ytbfgjdhdohfacaa
/- THE CELL 'sum', in the pinned program and in every row, IS THE sha256 OF THE DUMP (.gsa) THAT YtbfgjdhdohfacaaProg.lean LOADS. Nothing in Lean hashes anything: it is a label: what it is worth is what the hold of that sum in a sandbox is worth. -/
noncomputable def Try.pinned : Pinned := { name := "ytbfgjdhdohfacaa", sum := "8c03d2b23a70ff92f01cdf0e6109dfbc9ccc9dfd9e754d8cd8f486995e4aa2fa", checked := Try.checked }
namespace Rows
def none {H : Type} : Left H := { results := [], args := [] }

/-- 'whittlelaw03.TextLag': WHATEVER THE INPUT: true; the input reads as it did. -/
def textLagSpec : ChangeSpec := { name := "textLag", fn := fun _ => fun
  | [d1, d2, d3] => { results := [.lit (.bool true)], args := [d1, d2, d3] }
  | _ => none }
def textLagRow : OpenClaim := { program := "ytbfgjdhdohfacaa", sum := "8c03d2b23a70ff92f01cdf0e6109dfbc9ccc9dfd9e754d8cd8f486995e4aa2fa", func := "whittle/whittlelaw03.TextLag", spec := "textLag", apart := false }
def TextLagSaid : Prop := textLagRow.holds Try.pinned (OpenSpec.ofChange textLagSpec)

/-- ITS FALSE NEIGHBOUR: 'it returns false'. Refute it at one input. -/
def textLagWrong : ChangeSpec := { name := "textLag", fn := fun _ => fun
  | [d1, d2, d3] => { results := [.lit (.bool false)], args := [d1, d2, d3] }
  | _ => none }
def TextLagWrongFalsely : Prop := textLagRow.holds Try.pinned (OpenSpec.ofChange textLagWrong)

/-- 'whittlelaw01.SetMakes': WHATEVER THE INPUT: true; the input reads as it did. -/
def setMakesSpec : ChangeSpec := { name := "setMakes", fn := fun _ => fun
  | [d1, d2, d3, d4] => { results := [.lit (.bool true)], args := [d1, d2, d3, d4] }
  | _ => none }
def setMakesRow : OpenClaim := { program := "ytbfgjdhdohfacaa", sum := "8c03d2b23a70ff92f01cdf0e6109dfbc9ccc9dfd9e754d8cd8f486995e4aa2fa", func := "whittle/whittlelaw01.SetMakes", spec := "setMakes", unfollowed := true, recurses := true, apart := false }
def SetMakesSaid : Prop := setMakesRow.holds Try.pinned (OpenSpec.ofChange setMakesSpec)

/-- ITS FALSE NEIGHBOUR: 'it returns false'. Refute it at one input. -/
def setMakesWrong : ChangeSpec := { name := "setMakes", fn := fun _ => fun
  | [d1, d2, d3, d4] => { results := [.lit (.bool false)], args := [d1, d2, d3, d4] }
  | _ => none }
def SetMakesWrongFalsely : Prop := setMakesRow.holds Try.pinned (OpenSpec.ofChange setMakesWrong)

/-- 'whittlelaw01.SetRows': WHATEVER THE INPUT: true; the input reads as it did. -/
def setRowsSpec : ChangeSpec := { name := "setRows", fn := fun _ => fun
  | [d1, d2, d3] => { results := [.lit (.bool true)], args := [d1, d2, d3] }
  | _ => none }
def setRowsRow : OpenClaim := { program := "ytbfgjdhdohfacaa", sum := "8c03d2b23a70ff92f01cdf0e6109dfbc9ccc9dfd9e754d8cd8f486995e4aa2fa", func := "whittle/whittlelaw01.SetRows", spec := "setRows", unfollowed := true, recurses := true, apart := false }
def SetRowsSaid : Prop := setRowsRow.holds Try.pinned (OpenSpec.ofChange setRowsSpec)

/-- ITS FALSE NEIGHBOUR: 'it returns false'. Refute it at one input. -/
def setRowsWrong : ChangeSpec := { name := "setRows", fn := fun _ => fun
  | [d1, d2, d3] => { results := [.lit (.bool false)], args := [d1, d2, d3] }
  | _ => none }
def SetRowsWrongFalsely : Prop := setRowsRow.holds Try.pinned (OpenSpec.ofChange setRowsWrong)

/-- 'whittlelaw03.TextLcp': WHATEVER THE INPUT: true; the input reads as it did. -/
def textLcpSpec : ChangeSpec := { name := "textLcp", fn := fun _ => fun
  | [d1, d2, d3, d4] => { results := [.lit (.bool true)], args := [d1, d2, d3, d4] }
  | _ => none }
def textLcpRow : OpenClaim := { program := "ytbfgjdhdohfacaa", sum := "8c03d2b23a70ff92f01cdf0e6109dfbc9ccc9dfd9e754d8cd8f486995e4aa2fa", func := "whittle/whittlelaw03.TextLcp", spec := "textLcp", apart := false }
def TextLcpSaid : Prop := textLcpRow.holds Try.pinned (OpenSpec.ofChange textLcpSpec)

/-- ITS FALSE NEIGHBOUR: 'it returns false'. Refute it at one input. -/
def textLcpWrong : ChangeSpec := { name := "textLcp", fn := fun _ => fun
  | [d1, d2, d3, d4] => { results := [.lit (.bool false)], args := [d1, d2, d3, d4] }
  | _ => none }
def TextLcpWrongFalsely : Prop := textLcpRow.holds Try.pinned (OpenSpec.ofChange textLcpWrong)

/-- 'whittlelaw02.PartDoes': WHATEVER THE INPUT: true; the input reads as it did. -/
def partDoesSpec : ChangeSpec := { name := "partDoes", fn := fun _ => fun
  | [d] => { results := [.lit (.bool true)], args := [d] }
  | _ => none }
def partDoesRow : OpenClaim := { program := "ytbfgjdhdohfacaa", sum := "8c03d2b23a70ff92f01cdf0e6109dfbc9ccc9dfd9e754d8cd8f486995e4aa2fa", func := "whittle/whittlelaw02.PartDoes", spec := "partDoes", unfollowed := true, recurses := true, apart := false }
def PartDoesSaid : Prop := partDoesRow.holds Try.pinned (OpenSpec.ofChange partDoesSpec)

/-- ITS FALSE NEIGHBOUR: 'it returns false'. Refute it at one input. -/
def partDoesWrong : ChangeSpec := { name := "partDoes", fn := fun _ => fun
  | [d] => { results := [.lit (.bool false)], args := [d] }
  | _ => none }
def PartDoesWrongFalsely : Prop := partDoesRow.holds Try.pinned (OpenSpec.ofChange partDoesWrong)

/-- 'whittlelaw02.PartSame': WHATEVER THE INPUT: true; the input reads as it did. -/
def partSameSpec : ChangeSpec := { name := "partSame", fn := fun _ => fun
  | [d1, d2] => { results := [.lit (.bool true)], args := [d1, d2] }
  | _ => none }
def partSameRow : OpenClaim := { program := "ytbfgjdhdohfacaa", sum := "8c03d2b23a70ff92f01cdf0e6109dfbc9ccc9dfd9e754d8cd8f486995e4aa2fa", func := "whittle/whittlelaw02.PartSame", spec := "partSame", unfollowed := true, recurses := true, apart := false }
def PartSameSaid : Prop := partSameRow.holds Try.pinned (OpenSpec.ofChange partSameSpec)

/-- ITS FALSE NEIGHBOUR: 'it returns false'. Refute it at one input. -/
def partSameWrong : ChangeSpec := { name := "partSame", fn := fun _ => fun
  | [d1, d2] => { results := [.lit (.bool false)], args := [d1, d2] }
  | _ => none }
def PartSameWrongFalsely : Prop := partSameRow.holds Try.pinned (OpenSpec.ofChange partSameWrong)

/-- 'whittlelaw02.PartMore': WHATEVER THE INPUT: true; the input reads as it did. -/
def partMoreSpec : ChangeSpec := { name := "partMore", fn := fun _ => fun
  | [d1, d2] => { results := [.lit (.bool true)], args := [d1, d2] }
  | _ => none }
def partMoreRow : OpenClaim := { program := "ytbfgjdhdohfacaa", sum := "8c03d2b23a70ff92f01cdf0e6109dfbc9ccc9dfd9e754d8cd8f486995e4aa2fa", func := "whittle/whittlelaw02.PartMore", spec := "partMore", unfollowed := true, recurses := true, apart := false }
def PartMoreSaid : Prop := partMoreRow.holds Try.pinned (OpenSpec.ofChange partMoreSpec)

/-- ITS FALSE NEIGHBOUR: 'it returns false'. Refute it at one input. -/
def partMoreWrong : ChangeSpec := { name := "partMore", fn := fun _ => fun
  | [d1, d2] => { results := [.lit (.bool false)], args := [d1, d2] }
  | _ => none }
def PartMoreWrongFalsely : Prop := partMoreRow.holds Try.pinned (OpenSpec.ofChange partMoreWrong)

/-- 'whittlelaw01.SetLaws': WHATEVER THE INPUT: true; the input reads as it did. -/
def setLawsSpec : ChangeSpec := { name := "setLaws", fn := fun _ => fun
  | [d1, d2] => { results := [.lit (.bool true)], args := [d1, d2] }
  | _ => none }
def setLawsRow : OpenClaim := { program := "ytbfgjdhdohfacaa", sum := "8c03d2b23a70ff92f01cdf0e6109dfbc9ccc9dfd9e754d8cd8f486995e4aa2fa", func := "whittle/whittlelaw01.SetLaws", spec := "setLaws", unfollowed := true, recurses := true, apart := false }
def SetLawsSaid : Prop := setLawsRow.holds Try.pinned (OpenSpec.ofChange setLawsSpec)

/-- ITS FALSE NEIGHBOUR: 'it returns false'. Refute it at one input. -/
def setLawsWrong : ChangeSpec := { name := "setLaws", fn := fun _ => fun
  | [d1, d2] => { results := [.lit (.bool false)], args := [d1, d2] }
  | _ => none }
def SetLawsWrongFalsely : Prop := setLawsRow.holds Try.pinned (OpenSpec.ofChange setLawsWrong)

/-- 'whittlelaw01.SetTurns': WHATEVER THE INPUT: true; the input reads as it did. -/
def setTurnsSpec : ChangeSpec := { name := "setTurns", fn := fun _ => fun
  | [d1, d2] => { results := [.lit (.bool true)], args := [d1, d2] }
  | _ => none }
def setTurnsRow : OpenClaim := { program := "ytbfgjdhdohfacaa", sum := "8c03d2b23a70ff92f01cdf0e6109dfbc9ccc9dfd9e754d8cd8f486995e4aa2fa", func := "whittle/whittlelaw01.SetTurns", spec := "setTurns", unfollowed := true, recurses := true, apart := false }
def SetTurnsSaid : Prop := setTurnsRow.holds Try.pinned (OpenSpec.ofChange setTurnsSpec)

/-- ITS FALSE NEIGHBOUR: 'it returns false'. Refute it at one input. -/
def setTurnsWrong : ChangeSpec := { name := "setTurns", fn := fun _ => fun
  | [d1, d2] => { results := [.lit (.bool false)], args := [d1, d2] }
  | _ => none }
def SetTurnsWrongFalsely : Prop := setTurnsRow.holds Try.pinned (OpenSpec.ofChange setTurnsWrong)

/-- 'whittlelaw02.PartSets': WHATEVER THE INPUT: true; the input reads as it did. -/
def partSetsSpec : ChangeSpec := { name := "partSets", fn := fun _ => fun
  | [d1, d2, d3] => { results := [.lit (.bool true)], args := [d1, d2, d3] }
  | _ => none }
def partSetsRow : OpenClaim := { program := "ytbfgjdhdohfacaa", sum := "8c03d2b23a70ff92f01cdf0e6109dfbc9ccc9dfd9e754d8cd8f486995e4aa2fa", func := "whittle/whittlelaw02.PartSets", spec := "partSets", unfollowed := true, recurses := true, apart := false }
def PartSetsSaid : Prop := partSetsRow.holds Try.pinned (OpenSpec.ofChange partSetsSpec)

/-- ITS FALSE NEIGHBOUR: 'it returns false'. Refute it at one input. -/
def partSetsWrong : ChangeSpec := { name := "partSets", fn := fun _ => fun
  | [d1, d2, d3] => { results := [.lit (.bool false)], args := [d1, d2, d3] }
  | _ => none }
def PartSetsWrongFalsely : Prop := partSetsRow.holds Try.pinned (OpenSpec.ofChange partSetsWrong)

/-- 'whittlelaw02.PartBack': WHATEVER THE INPUT: true; the input reads as it did. -/
def partBackSpec : ChangeSpec := { name := "partBack", fn := fun _ => fun
  | [d1, d2] => { results := [.lit (.bool true)], args := [d1, d2] }
  | _ => none }
def partBackRow : OpenClaim := { program := "ytbfgjdhdohfacaa", sum := "8c03d2b23a70ff92f01cdf0e6109dfbc9ccc9dfd9e754d8cd8f486995e4aa2fa", func := "whittle/whittlelaw02.PartBack", spec := "partBack", unfollowed := true, recurses := true, apart := false }
def PartBackSaid : Prop := partBackRow.holds Try.pinned (OpenSpec.ofChange partBackSpec)

/-- ITS FALSE NEIGHBOUR: 'it returns false'. Refute it at one input. -/
def partBackWrong : ChangeSpec := { name := "partBack", fn := fun _ => fun
  | [d1, d2] => { results := [.lit (.bool false)], args := [d1, d2] }
  | _ => none }
def PartBackWrongFalsely : Prop := partBackRow.holds Try.pinned (OpenSpec.ofChange partBackWrong)

/- THE SECOND FORM. 'bulk': how many values and letters a reading holds, each counted each time it is reached (what is shared counts as often as it is met; a slice's spare places count too). A statement '..UptoSaid' is the law's where the arguments, and the package variables that the reading takes, are together of bulk at most 1048576: NARROWER than '..Said'. Prove '..Said' where nothing that the law and all that it calls make is longer than what came in: it says more and counts as full. Else prove '..UptoSaid'. A law counts once. -/
mutual
def uptoBulk {H : Type} : DataW H → Nat
  | .lit (.string bytes) => bytes.length + 1
  | .lit _ => 1
  | .nil => 1
  | .ptr d => uptoBulk d + 1
  | .slice elems spare => uptoBulkAll elems + uptoBulkAll spare + 1
  | .agg parts => uptoBulkAll parts + 1
  | .iface _ d => uptoBulk d + 1
  | .map entries => uptoBulkEntries entries + 1
  | .held _ => 1
def uptoBulkAll {H : Type} : List (DataW H) → Nat
  | [] => 0
  | d :: r => uptoBulk d + uptoBulkAll r
def uptoBulkEntries {H : Type} : List (Lit × DataW H) → Nat
  | [] => 0
  | x :: r => uptoBulkEntry x + uptoBulkEntries r
def uptoBulkEntry {H : Type} : Lit × DataW H → Nat
  | (.string bytes, d) => bytes.length + uptoBulk d + 1
  | (_, d) => uptoBulk d + 1
 end
def uptoSmall : (H : Type) → List (DataW H) → Bool := fun _ ds => decide (uptoBulkAll ds ≤ 1048576)
def OpenSpec.upto (s : _root_.Go.ChangeSpec) : _root_.Go.OpenSpec := { _root_.Go.OpenSpec.ofChange s with cond := some uptoSmall }

/-- 'whittlelaw03.TextLag', WHERE WHAT IT READS IS OF BULK AT MOST 1048576: true; the input reads as it did. -/
def textLagUptoRow : OpenClaim := { program := "ytbfgjdhdohfacaa", sum := "8c03d2b23a70ff92f01cdf0e6109dfbc9ccc9dfd9e754d8cd8f486995e4aa2fa", func := "whittle/whittlelaw03.TextLag", spec := "textLag", apart := false, narrowed := true }
def TextLagUptoSaid : Prop := textLagUptoRow.holds Try.pinned (OpenSpec.upto textLagSpec)

/-- 'whittlelaw01.SetMakes', WHERE WHAT IT READS IS OF BULK AT MOST 1048576: true; the input reads as it did. -/
def setMakesUptoRow : OpenClaim := { program := "ytbfgjdhdohfacaa", sum := "8c03d2b23a70ff92f01cdf0e6109dfbc9ccc9dfd9e754d8cd8f486995e4aa2fa", func := "whittle/whittlelaw01.SetMakes", spec := "setMakes", unfollowed := true, recurses := true, apart := false, narrowed := true }
def SetMakesUptoSaid : Prop := setMakesUptoRow.holds Try.pinned (OpenSpec.upto setMakesSpec)

/-- 'whittlelaw01.SetRows', WHERE WHAT IT READS IS OF BULK AT MOST 1048576: true; the input reads as it did. -/
def setRowsUptoRow : OpenClaim := { program := "ytbfgjdhdohfacaa", sum := "8c03d2b23a70ff92f01cdf0e6109dfbc9ccc9dfd9e754d8cd8f486995e4aa2fa", func := "whittle/whittlelaw01.SetRows", spec := "setRows", unfollowed := true, recurses := true, apart := false, narrowed := true }
def SetRowsUptoSaid : Prop := setRowsUptoRow.holds Try.pinned (OpenSpec.upto setRowsSpec)

/-- 'whittlelaw03.TextLcp', WHERE WHAT IT READS IS OF BULK AT MOST 1048576: true; the input reads as it did. -/
def textLcpUptoRow : OpenClaim := { program := "ytbfgjdhdohfacaa", sum := "8c03d2b23a70ff92f01cdf0e6109dfbc9ccc9dfd9e754d8cd8f486995e4aa2fa", func := "whittle/whittlelaw03.TextLcp", spec := "textLcp", apart := false, narrowed := true }
def TextLcpUptoSaid : Prop := textLcpUptoRow.holds Try.pinned (OpenSpec.upto textLcpSpec)

/-- 'whittlelaw02.PartDoes', WHERE WHAT IT READS IS OF BULK AT MOST 1048576: true; the input reads as it did. -/
def partDoesUptoRow : OpenClaim := { program := "ytbfgjdhdohfacaa", sum := "8c03d2b23a70ff92f01cdf0e6109dfbc9ccc9dfd9e754d8cd8f486995e4aa2fa", func := "whittle/whittlelaw02.PartDoes", spec := "partDoes", unfollowed := true, recurses := true, apart := false, narrowed := true }
def PartDoesUptoSaid : Prop := partDoesUptoRow.holds Try.pinned (OpenSpec.upto partDoesSpec)

/-- 'whittlelaw02.PartSame', WHERE WHAT IT READS IS OF BULK AT MOST 1048576: true; the input reads as it did. -/
def partSameUptoRow : OpenClaim := { program := "ytbfgjdhdohfacaa", sum := "8c03d2b23a70ff92f01cdf0e6109dfbc9ccc9dfd9e754d8cd8f486995e4aa2fa", func := "whittle/whittlelaw02.PartSame", spec := "partSame", unfollowed := true, recurses := true, apart := false, narrowed := true }
def PartSameUptoSaid : Prop := partSameUptoRow.holds Try.pinned (OpenSpec.upto partSameSpec)

/-- 'whittlelaw02.PartMore', WHERE WHAT IT READS IS OF BULK AT MOST 1048576: true; the input reads as it did. -/
def partMoreUptoRow : OpenClaim := { program := "ytbfgjdhdohfacaa", sum := "8c03d2b23a70ff92f01cdf0e6109dfbc9ccc9dfd9e754d8cd8f486995e4aa2fa", func := "whittle/whittlelaw02.PartMore", spec := "partMore", unfollowed := true, recurses := true, apart := false, narrowed := true }
def PartMoreUptoSaid : Prop := partMoreUptoRow.holds Try.pinned (OpenSpec.upto partMoreSpec)

/-- 'whittlelaw01.SetLaws', WHERE WHAT IT READS IS OF BULK AT MOST 1048576: true; the input reads as it did. -/
def setLawsUptoRow : OpenClaim := { program := "ytbfgjdhdohfacaa", sum := "8c03d2b23a70ff92f01cdf0e6109dfbc9ccc9dfd9e754d8cd8f486995e4aa2fa", func := "whittle/whittlelaw01.SetLaws", spec := "setLaws", unfollowed := true, recurses := true, apart := false, narrowed := true }
def SetLawsUptoSaid : Prop := setLawsUptoRow.holds Try.pinned (OpenSpec.upto setLawsSpec)

/-- 'whittlelaw01.SetTurns', WHERE WHAT IT READS IS OF BULK AT MOST 1048576: true; the input reads as it did. -/
def setTurnsUptoRow : OpenClaim := { program := "ytbfgjdhdohfacaa", sum := "8c03d2b23a70ff92f01cdf0e6109dfbc9ccc9dfd9e754d8cd8f486995e4aa2fa", func := "whittle/whittlelaw01.SetTurns", spec := "setTurns", unfollowed := true, recurses := true, apart := false, narrowed := true }
def SetTurnsUptoSaid : Prop := setTurnsUptoRow.holds Try.pinned (OpenSpec.upto setTurnsSpec)

/-- 'whittlelaw02.PartSets', WHERE WHAT IT READS IS OF BULK AT MOST 1048576: true; the input reads as it did. -/
def partSetsUptoRow : OpenClaim := { program := "ytbfgjdhdohfacaa", sum := "8c03d2b23a70ff92f01cdf0e6109dfbc9ccc9dfd9e754d8cd8f486995e4aa2fa", func := "whittle/whittlelaw02.PartSets", spec := "partSets", unfollowed := true, recurses := true, apart := false, narrowed := true }
def PartSetsUptoSaid : Prop := partSetsUptoRow.holds Try.pinned (OpenSpec.upto partSetsSpec)

/-- 'whittlelaw02.PartBack', WHERE WHAT IT READS IS OF BULK AT MOST 1048576: true; the input reads as it did. -/
def partBackUptoRow : OpenClaim := { program := "ytbfgjdhdohfacaa", sum := "8c03d2b23a70ff92f01cdf0e6109dfbc9ccc9dfd9e754d8cd8f486995e4aa2fa", func := "whittle/whittlelaw02.PartBack", spec := "partBack", unfollowed := true, recurses := true, apart := false, narrowed := true }
def PartBackUptoSaid : Prop := partBackUptoRow.holds Try.pinned (OpenSpec.upto partBackSpec)

end Rows
end Go.Proofs.Ytbfgjdhdohfacaa
