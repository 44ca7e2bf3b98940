/- Plain functions of layer 10. No condition. -/
import Derived.Test.YtbaciogbhjcdoaaTy10
set_option linter.unusedVariables false
set_option linter.unusedSimpArgs false
namespace Go.Proofs.Ytbaciogbhjcdoaa
/-- states that rise, each below n -/
def nStatesK (n : Int) : Int → List Int → Bool
  | _, [] => true
  | last, s :: l => decide (last < s) && decide (s < n) && nStatesK n s l
def nStates (l : List Int) (n : Int) : Bool := nStatesK n (-1) l
def nIn (n : GNfa) (s : Int) : Bool := decide (0 ≤ s) && decide (s < n.States)
def nEdge (n : GNfa) (x : GEdge) : Bool := nIn n x.From && nIn n x.To && !decide (x.Set = BSet.zero)
def nRight (n : GNfa) : Bool := decide (0 ≤ n.States) && decide (n.States ≤ 4096) && decide (n.Edges.length ≤ 65536) && nStates n.Starts n.States && nStates n.Ends n.States && n.Edges.all (nEdge n)
def nCheck (n : GNfa) : Int := if nRight n then 0 else 1
def membersL (l : List Int) : List (Int × Bool) := l.foldl (fun m s => aput m s true) []
def idxF {α : Type} (p : α → Bool) (l : List α) : Int := match l.findIdx? p with | some i => (i : Int) | none => -1
/-- the states behind a byte -/
def nStep (n : GNfa) (at' : List Int) (b : UInt8) : List Int := (n.Edges.filter fun x => at'.contains x.From && x.Set.has b.toNat).map (·.To)
def nRun (n : GNfa) (w : List UInt8) : List Int := w.foldl (nStep n) n.Starts
def nAcc (n : GNfa) (w : List UInt8) : Bool := n.Ends.any fun s => (nRun n w).contains s
def nTakes (n : GNfa) (w : List UInt8) : Bool × Int := if nRight n then (nAcc n w, 0) else (false, 1)
def nEmpty (n : GNfa) : Bool := n.Starts.any fun s => n.Ends.contains s
def nZero : GNfa := ⟨0, [], [], []⟩
/-! ## building -/
def nbEdge (b : Gnfa_builder) (x : GEdge) : Gnfa_builder := if 65536 ≤ b.Nfa.Edges.length then { b with full := true } else { b with Nfa := { b.Nfa with Edges := b.Nfa.Edges ++ [x] } }
def nbEdges (b : Gnfa_builder) (l : List GEdge) : Gnfa_builder := l.foldl nbEdge b
def eBy (by' : Int) (x : GEdge) : GEdge := ⟨x.From + by', x.To + by', x.Set⟩
def nbPut (b : Gnfa_builder) (n : GNfa) (by' : Int) : Gnfa_builder := nbEdges b (n.Edges.map (eBy by'))
def nbEnd (b : Gnfa_builder) : GNfa × Int := if b.full || decide (4096 < b.Nfa.States) then (nZero, 2) else (b.Nfa, 0)
/-- of many edges: as the document says -/
def nEnd (n : GNfa) : GNfa × Int := if decide (4096 < n.States) || decide (65536 < n.Edges.length) then (nZero, 2) else (n, 0)
def nText (s : List UInt8) : GNfa × Int := if s.length ≤ 256 then (⟨(s.length : Int) + 1, [0], [(s.length : Int)], s.zipIdx.map fun p => ⟨(p.2 : Int), (p.2 : Int) + 1, BSet.ofL [p.1]⟩⟩, 0) else (nZero, 2)
def nSet (s : BSet) : GNfa := ⟨2, [0], [1], if s = BSet.zero then [] else [⟨0, 1, s⟩]⟩
def nAltE (a b : GNfa) : GNfa := ⟨a.States + b.States, a.Starts ++ b.Starts.map (· + a.States), a.Ends ++ b.Ends.map (· + a.States), a.Edges ++ b.Edges.map (eBy a.States)⟩
def nAlt (a b : GNfa) : GNfa × Int := if nRight a && nRight b then nEnd (nAltE a b) else (nZero, 1)
def nCatE (a b : GNfa) : GNfa :=
  ⟨a.States + b.States, if nEmpty a then a.Starts ++ b.Starts.map (· + a.States) else a.Starts, if nEmpty b then a.Ends ++ b.Ends.map (· + a.States) else b.Ends.map (· + a.States),
    a.Edges ++ b.Edges.map (eBy a.States) ++ (a.Edges.filter fun x => a.Ends.contains x.To).flatMap fun x => b.Starts.map fun s => ⟨x.From, s + a.States, x.Set⟩⟩
def nCat (a b : GNfa) : GNfa × Int := if nRight a && nRight b then nEnd (nCatE a b) else (nZero, 1)
def nStarX (a : GNfa) (x : GEdge) : List GEdge :=
  (if a.Starts.contains x.From then [⟨a.States, x.To, x.Set⟩] else []) ++ (if a.Ends.contains x.To then [⟨x.From, a.States, x.Set⟩] else []) ++ (if a.Starts.contains x.From && a.Ends.contains x.To then [⟨a.States, a.States, x.Set⟩] else [])
def nStarE (a : GNfa) : GNfa := ⟨a.States + 1, [a.States], [a.States], a.Edges ++ a.Edges.flatMap (nStarX a)⟩
def nStar (a : GNfa) : GNfa × Int := if nRight a then nEnd (nStarE a) else (nZero, 1)
/-- few states and edges -/
def nFew (n : GNfa) : Bool := (decide (n.States ≤ 40) || decide (4096 < n.States)) && decide (n.Edges.length ≤ 120) && decide (n.Starts.length + n.Ends.length ≤ 100)
def rTimes (least most : Int) : Bool := decide (0 ≤ least) && decide (least ≤ 64) && (decide (most = -1) && decide (least ≤ 1) || decide (least ≤ most) && decide (most ≤ 64))
end Go.Proofs.Ytbaciogbhjcdoaa
