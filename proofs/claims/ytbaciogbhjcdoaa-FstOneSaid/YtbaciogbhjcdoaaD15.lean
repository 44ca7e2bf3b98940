/- Plain functions of layer 15. No condition. -/
import Derived.Test.YtbaciogbhjcdoaaTy15
import Derived.Test.YtbaciogbhjcdoaaD10
import Derived.Test.YtbaciogbhjcdoaaSrt
set_option linter.unusedVariables false
set_option linter.unusedSimpArgs false
namespace Go.Proofs.Ytbaciogbhjcdoaa
def orL : List Int → Int
  | [] => 0
  | a :: l => orZ a (orL l)
def cmpTip (a b : GTip) : Int := orZ (cmpI a.State b.State) (cmpS a.Out b.Out)
def wds (s : BSet) : List (BitVec 64) := [s.a, s.b, s.c, s.d]
def b2i (b : Bool) : Int := if b then 1 else 0
def cmpArc (a b : GArc) : Int := orZ (cmpI a.From b.From) (orZ (cmpI a.To b.To) (orZ (cmpL cmpW (wds a.Set) (wds b.Set)) (orZ (cmpS a.Out b.Out) (cmpI (b2i a.Copy) (b2i b.Copy)))))
def fIn (t : GFst) (s : Int) : Bool := decide (0 ≤ s) && decide (s < t.States)
def fTipBad (t : GFst) (x : GTip) : Bool := !fIn t x.State || decide ((1024 : Int) < x.Out.length)
def fArcOk (t : GFst) (x : GArc) : Bool := fIn t x.From && fIn t x.To && !decide (x.Set = BSet.zero) && decide (x.Out.length ≤ 1024)
def fRight (t : GFst) : Bool := decide (0 ≤ t.States) && decide (t.States ≤ 1024) && decide (t.Arcs.length ≤ 16384) && decide (t.Starts.length ≤ 1024) && decide (t.Ends.length ≤ 1024) && (t.Starts.all fun x => !fTipBad t x) && (t.Ends.all fun x => !fTipBad t x) && t.Arcs.all (fArcOk t)
def fCheck (t : GFst) : Int := if fRight t then 0 else 1
/-- what comes out of an arc by a byte -/
def fOutB (x : GArc) (b : UInt8) : List UInt8 := x.Out ++ (if x.Copy then [b] else [])
/-- the pairs behind a byte -/
def fRaw (t : GFst) (at' : List GTip) (b : UInt8) : List GTip := at'.flatMap fun p => (t.Arcs.filter fun x => decide (x.From = p.State) && x.Set.has b.toNat).map fun x => ⟨x.To, p.Out ++ fOutB x b⟩
def fReach (t : GFst) (w : List UInt8) : List GTip := w.foldl (fRaw t) t.Starts
section
variable {α : Type} [DecidableEq α]
/-- each once -/
def dd : List α → List α
  | [] => []
  | a :: l => if a ∈ l then dd l else a :: dd l
def card (l : List α) : Nat := (dd l).length
end
def keys {K V : Type} (l : List (K × V)) : List K := l.map Prod.fst
/-- a table with just these keys -/
def KeysOf {K V : Type} (m : List (K × V)) (l : List K) : Prop := (keys m).Nodup ∧ ∀ q, q ∈ keys m ↔ q ∈ l
def fMany (t : GFst) (w : List UInt8) : Bool := (List.range (w.length + 1)).any fun k => decide (4096 < card (fReach t (w.take k)))
def fOutRaw (t : GFst) (at' : List GTip) : List (List UInt8) := at'.flatMap fun p => (t.Ends.filter fun x => decide (x.State = p.State)).map fun x => p.Out ++ x.Out
def fOuts (t : GFst) (w : List UInt8) : List (List UInt8) × Int :=
  if fRight t then (if 256 < w.length then ([], 2) else if fMany t w then ([], 2) else (ordL cmpS (fOutRaw t (fReach t w)), 0)) else ([], 1)
def fHas (t : GFst) (w out : List UInt8) : Bool × Int := ((fOuts t w).1.contains out, (fOuts t w).2)
def fStates (l : List GTip) : List Int := ordL cmpI (l.map (·.State))
def fNfa (t : GFst) : GNfa := ⟨t.States, fStates t.Starts, fStates t.Ends, t.Arcs.map fun x => ⟨x.From, x.To, x.Set⟩⟩
def fInN (t : GFst) : GNfa × Int := if fRight t then (fNfa t, 0) else (nZero, 1)
def fZero : GFst := ⟨0, [], [], []⟩
def fSrt (t : GFst) : GFst := ⟨t.States, ordL cmpTip t.Starts, ordL cmpTip t.Ends, ordL cmpArc t.Arcs⟩
def fSort (t : GFst) : GFst × Int := if fRight t then (fSrt t, 0) else (fZero, 1)
/-! ## the reference's -/
def fSize (t : GFst) : Nat := t.Starts.length + t.Ends.length + t.Arcs.length + (t.Starts.map fun x => x.Out.length / 40).sum + (t.Ends.map fun x => x.Out.length / 40).sum + (t.Arcs.map fun x => x.Out.length / 40).sum
def fFew (t : GFst) : Bool := decide (fSize t ≤ 60) && (decide (t.States ≤ 20) || decide (1024 < t.States))
/-- of a size that a machine has -/
def fSane (t : GFst) : Prop := (t.Starts.length ≤ 17592186044416 ∧ t.Ends.length ≤ 17592186044416 ∧ t.Arcs.length ≤ 17592186044416) ∧ (∀ x ∈ t.Starts, x.Out.length ≤ 140737488351232) ∧ (∀ x ∈ t.Ends, x.Out.length ≤ 140737488351232) ∧ ∀ x ∈ t.Arcs, x.Out.length ≤ 140737488351232
/-! ## the laws -/
def fMore (t : GFst) (x : GArc) : GFst := ⟨t.States, t.Starts, t.Ends, t.Arcs ++ [x]⟩
end Go.Proofs.Ytbaciogbhjcdoaa
