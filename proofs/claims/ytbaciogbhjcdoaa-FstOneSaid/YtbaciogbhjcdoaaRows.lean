/-
  No cell of these rows narrows 'for every input' (looked for: loops, veiled, ifaces, maps, wideKeys, modest, calm, conditions, laid).
  DERIVED. THE GIVEN ROWS OF THIS SEAT. 6 by the template 'for every input the law returns true; each argument reads behind the call as it read before'; 0 by the template 'total and deterministic' (their statements: YtbaciogbhjcdoaaTotals.lean).
  GIVEN WITH THE SEED: the statements are not yours to turn. If you find one false, say at which input.
  Laid BY PROGRAM, IN A SANDBOX (cutbox-rows.mjs): the forced cells as the released guide's own fill.sh prints them over the translation 72ee84de550045c1… (all of the seat's roots in one cut). By AI agents, Wed Nov 11 2026. No macro, syntax, notation, axiom, sorry.
-/
import Derived.Test.YtbaciogbhjcdoaaChecked
import GoSem.Claim
import GoSem.ClaimJoined
import GoSem.ClaimMapViews
import Derived.JoinedTies
import Derived.KernelRfl
namespace Go.Proofs.Ytbaciogbhjcdoaa
/- THE CELL 'sum', in the pinned program and in every row, IS THE sha256 OF THE DUMP (.gsa) THAT YtbaciogbhjcdoaaProg.lean LOADS. Nothing in Lean hashes anything: it is a label: what it is worth is what the hold of that sum in a sandbox is worth. -/
noncomputable def Try.pinned : Pinned := { name := "ytbaciogbhjcdoaa", sum := "72ee84de550045c1b1812fc76f556f130bdd0ad29303826e46083d2c4c30e1b8", checked := Try.checked }
namespace Rows
def none {H : Type} : Left H := { results := [], args := [] }

/-- 'whittlelaw10.NfaTakes': WHATEVER THE INPUT: true; the input reads as it did. -/
def nfaTakesSpec : ChangeSpec := { name := "nfaTakes", fn := fun _ => fun
  | [d1, d2] => { results := [.lit (.bool true)], args := [d1, d2] }
  | _ => none }
def nfaTakesRow : OpenClaim := { program := "ytbaciogbhjcdoaa", sum := "72ee84de550045c1b1812fc76f556f130bdd0ad29303826e46083d2c4c30e1b8", func := "whittle/whittlelaw10.NfaTakes", spec := "nfaTakes", unfollowed := true, recurses := true, plainKeys := false, apart := false }
def NfaTakesSaid : Prop := nfaTakesRow.holds Try.pinned (OpenSpec.ofChange nfaTakesSpec)

/-- ITS FALSE NEIGHBOUR: 'it returns false'. Refute it at one input. -/
def nfaTakesWrong : ChangeSpec := { name := "nfaTakes", fn := fun _ => fun
  | [d1, d2] => { results := [.lit (.bool false)], args := [d1, d2] }
  | _ => none }
def NfaTakesWrongFalsely : Prop := nfaTakesRow.holds Try.pinned (OpenSpec.ofChange nfaTakesWrong)

/-- 'whittlelaw10.NfaParts': WHATEVER THE INPUT: true; the input reads as it did. -/
def nfaPartsSpec : ChangeSpec := { name := "nfaParts", fn := fun _ => fun
  | [d1, d2, d3, d4, d5] => { results := [.lit (.bool true)], args := [d1, d2, d3, d4, d5] }
  | _ => none }
def nfaPartsRow : OpenClaim := { program := "ytbaciogbhjcdoaa", sum := "72ee84de550045c1b1812fc76f556f130bdd0ad29303826e46083d2c4c30e1b8", func := "whittle/whittlelaw10.NfaParts", spec := "nfaParts", unfollowed := true, recurses := true, plainKeys := false, apart := false }
def NfaPartsSaid : Prop := nfaPartsRow.holds Try.pinned (OpenSpec.ofChange nfaPartsSpec)

/-- ITS FALSE NEIGHBOUR: 'it returns false'. Refute it at one input. -/
def nfaPartsWrong : ChangeSpec := { name := "nfaParts", fn := fun _ => fun
  | [d1, d2, d3, d4, d5] => { results := [.lit (.bool false)], args := [d1, d2, d3, d4, d5] }
  | _ => none }
def NfaPartsWrongFalsely : Prop := nfaPartsRow.holds Try.pinned (OpenSpec.ofChange nfaPartsWrong)

/-- 'whittlelaw10.NfaJoins': WHATEVER THE INPUT: true; the input reads as it did. -/
def nfaJoinsSpec : ChangeSpec := { name := "nfaJoins", fn := fun _ => fun
  | [d1, d2, d3, d4] => { results := [.lit (.bool true)], args := [d1, d2, d3, d4] }
  | _ => none }
def nfaJoinsRow : OpenClaim := { program := "ytbaciogbhjcdoaa", sum := "72ee84de550045c1b1812fc76f556f130bdd0ad29303826e46083d2c4c30e1b8", func := "whittle/whittlelaw10.NfaJoins", spec := "nfaJoins", unfollowed := true, recurses := true, plainKeys := false, apart := false }
def NfaJoinsSaid : Prop := nfaJoinsRow.holds Try.pinned (OpenSpec.ofChange nfaJoinsSpec)

/-- ITS FALSE NEIGHBOUR: 'it returns false'. Refute it at one input. -/
def nfaJoinsWrong : ChangeSpec := { name := "nfaJoins", fn := fun _ => fun
  | [d1, d2, d3, d4] => { results := [.lit (.bool false)], args := [d1, d2, d3, d4] }
  | _ => none }
def NfaJoinsWrongFalsely : Prop := nfaJoinsRow.holds Try.pinned (OpenSpec.ofChange nfaJoinsWrong)

/-- 'whittlelaw15.FstOne': WHATEVER THE INPUT: true; the input reads as it did. -/
def fstOneSpec : ChangeSpec := { name := "fstOne", fn := fun _ => fun
  | [d1, d2, d3] => { results := [.lit (.bool true)], args := [d1, d2, d3] }
  | _ => none }
def fstOneRow : OpenClaim := { program := "ytbaciogbhjcdoaa", sum := "72ee84de550045c1b1812fc76f556f130bdd0ad29303826e46083d2c4c30e1b8", func := "whittle/whittlelaw15.FstOne", spec := "fstOne", inPlace := ["internal/bytealg.abigen_runtime_cmpstring"], unfollowed := true, recurses := true, plainKeys := false, apart := false }
def FstOneSaid : Prop := fstOneRow.holds Try.pinned (OpenSpec.ofChange fstOneSpec)

/-- ITS FALSE NEIGHBOUR: 'it returns false'. Refute it at one input. -/
def fstOneWrong : ChangeSpec := { name := "fstOne", fn := fun _ => fun
  | [d1, d2, d3] => { results := [.lit (.bool false)], args := [d1, d2, d3] }
  | _ => none }
def FstOneWrongFalsely : Prop := fstOneRow.holds Try.pinned (OpenSpec.ofChange fstOneWrong)

/-- 'whittlelaw15.FstSort': WHATEVER THE INPUT: true; the input reads as it did. -/
def fstSortSpec : ChangeSpec := { name := "fstSort", fn := fun _ => fun
  | [d1, d2, d3] => { results := [.lit (.bool true)], args := [d1, d2, d3] }
  | _ => none }
def fstSortRow : OpenClaim := { program := "ytbaciogbhjcdoaa", sum := "72ee84de550045c1b1812fc76f556f130bdd0ad29303826e46083d2c4c30e1b8", func := "whittle/whittlelaw15.FstSort", spec := "fstSort", inPlace := ["internal/bytealg.abigen_runtime_cmpstring"], unfollowed := true, recurses := true, plainKeys := false, apart := false }
def FstSortSaid : Prop := fstSortRow.holds Try.pinned (OpenSpec.ofChange fstSortSpec)

/-- ITS FALSE NEIGHBOUR: 'it returns false'. Refute it at one input. -/
def fstSortWrong : ChangeSpec := { name := "fstSort", fn := fun _ => fun
  | [d1, d2, d3] => { results := [.lit (.bool false)], args := [d1, d2, d3] }
  | _ => none }
def FstSortWrongFalsely : Prop := fstSortRow.holds Try.pinned (OpenSpec.ofChange fstSortWrong)

/-- 'whittlelaw15.FstIn': WHATEVER THE INPUT: true; the input reads as it did. -/
def fstInSpec : ChangeSpec := { name := "fstIn", fn := fun _ => fun
  | [d1, d2] => { results := [.lit (.bool true)], args := [d1, d2] }
  | _ => none }
def fstInRow : OpenClaim := { program := "ytbaciogbhjcdoaa", sum := "72ee84de550045c1b1812fc76f556f130bdd0ad29303826e46083d2c4c30e1b8", func := "whittle/whittlelaw15.FstIn", spec := "fstIn", inPlace := ["internal/bytealg.abigen_runtime_cmpstring"], unfollowed := true, recurses := true, plainKeys := false, apart := false }
def FstInSaid : Prop := fstInRow.holds Try.pinned (OpenSpec.ofChange fstInSpec)

/-- ITS FALSE NEIGHBOUR: 'it returns false'. Refute it at one input. -/
def fstInWrong : ChangeSpec := { name := "fstIn", fn := fun _ => fun
  | [d1, d2] => { results := [.lit (.bool false)], args := [d1, d2] }
  | _ => none }
def FstInWrongFalsely : Prop := fstInRow.holds Try.pinned (OpenSpec.ofChange fstInWrong)

/- THE SECOND FORM. 'bulk': how many values and letters a reading holds, each counted each time it is reached (what is shared counts as often as it is met; a slice's spare places count too). A statement '..UptoSaid' is the law's where the arguments, and the package variables that the reading takes, are together of bulk at most 1048576: NARROWER than '..Said'. Prove '..Said' where nothing that the law and all that it calls make is longer than what came in: it says more and counts as full. Else prove '..UptoSaid'. A law counts once. -/
mutual
def uptoBulk {H : Type} : DataW H → Nat
  | .lit (.string bytes) => bytes.length + 1
  | .lit _ => 1
  | .nil => 1
  | .ptr d => uptoBulk d + 1
  | .slice elems spare => uptoBulkAll elems + uptoBulkAll spare + 1
  | .agg parts => uptoBulkAll parts + 1
  | .iface _ d => uptoBulk d + 1
  | .map entries => uptoBulkEntries entries + 1
  | .held _ => 1
def uptoBulkAll {H : Type} : List (DataW H) → Nat
  | [] => 0
  | d :: r => uptoBulk d + uptoBulkAll r
def uptoBulkEntries {H : Type} : List (Lit × DataW H) → Nat
  | [] => 0
  | x :: r => uptoBulkEntry x + uptoBulkEntries r
def uptoBulkEntry {H : Type} : Lit × DataW H → Nat
  | (.string bytes, d) => bytes.length + uptoBulk d + 1
  | (_, d) => uptoBulk d + 1
 end
def uptoSmall : (H : Type) → List (DataW H) → Bool := fun _ ds => decide (uptoBulkAll ds ≤ 1048576)
def OpenSpec.upto (s : _root_.Go.ChangeSpec) : _root_.Go.OpenSpec := { _root_.Go.OpenSpec.ofChange s with cond := some uptoSmall }

/-- 'whittlelaw10.NfaTakes', WHERE WHAT IT READS IS OF BULK AT MOST 1048576: true; the input reads as it did. -/
def nfaTakesUptoRow : OpenClaim := { program := "ytbaciogbhjcdoaa", sum := "72ee84de550045c1b1812fc76f556f130bdd0ad29303826e46083d2c4c30e1b8", func := "whittle/whittlelaw10.NfaTakes", spec := "nfaTakes", unfollowed := true, recurses := true, plainKeys := false, apart := false, narrowed := true }
def NfaTakesUptoSaid : Prop := nfaTakesUptoRow.holds Try.pinned (OpenSpec.upto nfaTakesSpec)

/-- 'whittlelaw10.NfaParts', WHERE WHAT IT READS IS OF BULK AT MOST 1048576: true; the input reads as it did. -/
def nfaPartsUptoRow : OpenClaim := { program := "ytbaciogbhjcdoaa", sum := "72ee84de550045c1b1812fc76f556f130bdd0ad29303826e46083d2c4c30e1b8", func := "whittle/whittlelaw10.NfaParts", spec := "nfaParts", unfollowed := true, recurses := true, plainKeys := false, apart := false, narrowed := true }
def NfaPartsUptoSaid : Prop := nfaPartsUptoRow.holds Try.pinned (OpenSpec.upto nfaPartsSpec)

/-- 'whittlelaw10.NfaJoins', WHERE WHAT IT READS IS OF BULK AT MOST 1048576: true; the input reads as it did. -/
def nfaJoinsUptoRow : OpenClaim := { program := "ytbaciogbhjcdoaa", sum := "72ee84de550045c1b1812fc76f556f130bdd0ad29303826e46083d2c4c30e1b8", func := "whittle/whittlelaw10.NfaJoins", spec := "nfaJoins", unfollowed := true, recurses := true, plainKeys := false, apart := false, narrowed := true }
def NfaJoinsUptoSaid : Prop := nfaJoinsUptoRow.holds Try.pinned (OpenSpec.upto nfaJoinsSpec)

/-- 'whittlelaw15.FstOne', WHERE WHAT IT READS IS OF BULK AT MOST 1048576: true; the input reads as it did. -/
def fstOneUptoRow : OpenClaim := { program := "ytbaciogbhjcdoaa", sum := "72ee84de550045c1b1812fc76f556f130bdd0ad29303826e46083d2c4c30e1b8", func := "whittle/whittlelaw15.FstOne", spec := "fstOne", inPlace := ["internal/bytealg.abigen_runtime_cmpstring"], unfollowed := true, recurses := true, plainKeys := false, apart := false, narrowed := true }
def FstOneUptoSaid : Prop := fstOneUptoRow.holds Try.pinned (OpenSpec.upto fstOneSpec)

/-- 'whittlelaw15.FstSort', WHERE WHAT IT READS IS OF BULK AT MOST 1048576: true; the input reads as it did. -/
def fstSortUptoRow : OpenClaim := { program := "ytbaciogbhjcdoaa", sum := "72ee84de550045c1b1812fc76f556f130bdd0ad29303826e46083d2c4c30e1b8", func := "whittle/whittlelaw15.FstSort", spec := "fstSort", inPlace := ["internal/bytealg.abigen_runtime_cmpstring"], unfollowed := true, recurses := true, plainKeys := false, apart := false, narrowed := true }
def FstSortUptoSaid : Prop := fstSortUptoRow.holds Try.pinned (OpenSpec.upto fstSortSpec)

/-- 'whittlelaw15.FstIn', WHERE WHAT IT READS IS OF BULK AT MOST 1048576: true; the input reads as it did. -/
def fstInUptoRow : OpenClaim := { program := "ytbaciogbhjcdoaa", sum := "72ee84de550045c1b1812fc76f556f130bdd0ad29303826e46083d2c4c30e1b8", func := "whittle/whittlelaw15.FstIn", spec := "fstIn", inPlace := ["internal/bytealg.abigen_runtime_cmpstring"], unfollowed := true, recurses := true, plainKeys := false, apart := false, narrowed := true }
def FstInUptoSaid : Prop := fstInUptoRow.holds Try.pinned (OpenSpec.upto fstInSpec)

end Rows
end Go.Proofs.Ytbaciogbhjcdoaa
