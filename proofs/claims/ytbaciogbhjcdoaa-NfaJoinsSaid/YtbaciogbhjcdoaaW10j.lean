/- What some functions compute, as plain formulas. No condition. -/
import Derived.Test.YtbaciogbhjcdoaaD10j
set_option linter.unusedVariables false
set_option linter.unusedSimpArgs false
set_option maxRecDepth 20000
namespace Go.Proofs.Ytbaciogbhjcdoaa
def wp_rInts (a : List Int) (b : List Int) (Q : Bool → Prop) : Prop :=
  if (!decide ((a.length : Int) = (b.length : Int))) then
    Q false
  else
    ∃ I_8 : Nat → Prop,
      I_8 0 ∧
      ∀ (i : Nat), I_8 i → i ≤ a.length →
      if decide ((i : Int) < (a.length : Int)) then
        ((0 : Int) ≤ (i : Int) ∧ (i : Int) < (b.length : Int)) ∧
        if (!decide ((a.getD i default) = (b.getD i default))) then
          Q false
        else
          I_8 (i + 1)
      else
        Q true
def wp_rEmpty (n : GNfa) (Q : Bool → Prop) : Prop :=
  ∃ I_9 : Nat → Prop,
    I_9 0 ∧
    ∀ (i : Nat), I_9 i → i ≤ n.Starts.length →
    if decide ((i : Int) < (n.Starts.length : Int)) then
      if n.Ends.contains (n.Starts.getD i default) then
        Q true
      else
        I_9 (i + 1)
    else
      Q false
def wp_rSame (a : GNfa) (b : GNfa) (Q : Bool → Prop) : Prop :=
  if ((((!decide (a.States = b.States)) || (!decide (a.Starts = b.Starts))) || (!decide (a.Ends = b.Ends))) || (!decide ((a.Edges.length : Int) = (b.Edges.length : Int)))) then
    Q false
  else
    ∃ I_20 : Nat → Prop,
      I_20 0 ∧
      ∀ (i : Nat), I_20 i → i ≤ a.Edges.length →
      if decide ((i : Int) < (a.Edges.length : Int)) then
        ((0 : Int) ≤ (i : Int) ∧ (i : Int) < (b.Edges.length : Int)) ∧
        if (!decide ((a.Edges.getD i default) = (b.Edges.getD i default))) then
          Q false
        else
          I_20 (i + 1)
      else
        Q true
def wp_rText (s : List UInt8) (Q : GNfa → Int → Prop) : Prop :=
  if decide (256 < (s.length : Int)) then
    Q (⟨(0 : Int), [], [], []⟩ : GNfa) 2
  else
    (i64 ((s.length : Int) + 1)) ∧
    ∃ I_21 : GNfa → Nat → Prop,
      I_21 (⟨((s.length : Int) + 1), [0], [(s.length : Int)], []⟩ : GNfa) 0 ∧
      ∀ (n : GNfa) (i : Nat), I_21 n i → i ≤ s.length →
      if decide ((i : Int) < (s.length : Int)) then
        (i64 ((i : Int) + 1)) ∧
        ((0 : Int) ≤ (i : Int) ∧ (i : Int) ≤ ((i : Int) + 1) ∧ ((i : Int) + 1) ≤ (s.length : Int)) ∧
        (((s.take ((i : Int) + 1).toNat).drop i).length ≤ 9223372036854775807) ∧
        ((n.Edges.length + 1) * 48 ≤ 140737488355328) ∧
        I_21 (⟨n.States, n.Starts, n.Ends, (n.Edges ++ [(⟨(i : Int), ((i : Int) + 1), BSet.ofL ((s.take ((i : Int) + 1).toNat).drop i)⟩ : GEdge)])⟩ : GNfa) (i + 1)
      else
        Q n 0
def wp_rShift (l : List Int) (xby : Int) (Q : (List Int) → Prop) : Prop :=
  ∃ I_5 : (List Int) → Nat → Prop,
    I_5 [] 0 ∧
    ∀ (out : List Int) (i : Nat), I_5 out i → i ≤ l.length →
    if decide ((i : Int) < (l.length : Int)) then
      (i64 ((l.getD i default) + xby)) ∧
      ((out.length + 1) * 8 ≤ 140737488355328) ∧
      I_5 (out ++ [((l.getD i default) + xby)]) (i + 1)
    else
      Q out
def wp_rBoth (l : List Int) (m : List Int) (Q : (List Int) → Prop) : Prop :=
  ((0 + l.length) * 8 ≤ 140737488355328) ∧
  ((([] ++ l).length + m.length) * 8 ≤ 140737488355328) ∧
  Q (([] ++ l) ++ m)
def wp_rShifted (l : List GEdge) (xby : Int) (Q : (List GEdge) → Prop) : Prop :=
  ∃ I_5 : (List GEdge) → Nat → Prop,
    I_5 [] 0 ∧
    ∀ (out : List GEdge) (i : Nat), I_5 out i → i ≤ l.length →
    if decide ((i : Int) < (l.length : Int)) then
      (i64 ((l.getD i default).From + xby)) ∧
      (i64 ((l.getD i default).To + xby)) ∧
      ((out.length + 1) * 48 ≤ 140737488355328) ∧
      I_5 (out ++ [(⟨((l.getD i default).From + xby), ((l.getD i default).To + xby), (l.getD i default).Set⟩ : GEdge)]) (i + 1)
    else
      Q out
def wp_rEnd (n : GNfa) (Q : GNfa → Int → Prop) : Prop :=
  if (decide (4096 < n.States) || decide (65536 < (n.Edges.length : Int))) then
    Q (⟨(0 : Int), [], [], []⟩ : GNfa) 2
  else
    Q n 0
def wp_rAlt (a : GNfa) (b : GNfa) (Q : GNfa → Int → Prop) : Prop :=
  (a.Starts.length ≤ 17592186044416 ∧ a.Ends.length ≤ 17592186044416) ∧
  ((!nRight a) = false → b.Starts.length ≤ 17592186044416 ∧ b.Ends.length ≤ 17592186044416) ∧
  if ((!nRight a) || (!nRight b)) then
    Q (⟨(0 : Int), [], [], []⟩ : GNfa) 1
  else
    (i64 (a.States + b.States)) ∧
    ((b.Starts.length ≤ 4096 ∧ ∀ s ∈ b.Starts, 0 ≤ s ∧ s ≤ 4096) ∧ 0 ≤ a.States ∧ a.States ≤ 4096) ∧
    (a.Starts.length ≤ 4096 ∧ (b.Starts.map (· + a.States)).length ≤ 4096) ∧
    ((b.Ends.length ≤ 4096 ∧ ∀ s ∈ b.Ends, 0 ≤ s ∧ s ≤ 4096) ∧ 0 ≤ a.States ∧ a.States ≤ 4096) ∧
    (a.Ends.length ≤ 4096 ∧ (b.Ends.map (· + a.States)).length ≤ 4096) ∧
    ((0 + a.Edges.length) * 48 ≤ 140737488355328) ∧
    ((b.Edges.length ≤ 65536 ∧ ∀ x ∈ b.Edges, i64 (x.From + a.States) ∧ i64 (x.To + a.States))) ∧
    ((([] ++ a.Edges).length + (b.Edges.map (eBy a.States)).length) * 48 ≤ 140737488355328) ∧
    Q ((nEnd (⟨(a.States + b.States), (a.Starts ++ (b.Starts.map (· + a.States))), (a.Ends ++ (b.Ends.map (· + a.States))), (([] ++ a.Edges) ++ (b.Edges.map (eBy a.States)))⟩ : GNfa)).1) ((nEnd (⟨(a.States + b.States), (a.Starts ++ (b.Starts.map (· + a.States))), (a.Ends ++ (b.Ends.map (· + a.States))), (([] ++ a.Edges) ++ (b.Edges.map (eBy a.States)))⟩ : GNfa)).2)
def wp_rCat (a : GNfa) (b : GNfa) (Q : GNfa → Int → Prop) : Prop :=
  (a.Starts.length ≤ 17592186044416 ∧ a.Ends.length ≤ 17592186044416) ∧
  ((!nRight a) = false → b.Starts.length ≤ 17592186044416 ∧ b.Ends.length ≤ 17592186044416) ∧
  if ((!nRight a) || (!nRight b)) then
    Q (⟨(0 : Int), [], [], []⟩ : GNfa) 1
  else
    ((b.Starts.length ≤ 4096 ∧ ∀ s ∈ b.Starts, 0 ≤ s ∧ s ≤ 4096) ∧ 0 ≤ a.States ∧ a.States ≤ 4096) ∧
    (i64 (a.States + b.States)) ∧
    (a.Starts.length ≤ 4096 ∧ ([] : List Int).length ≤ 4096) ∧
    ((b.Ends.length ≤ 4096 ∧ ∀ s ∈ b.Ends, 0 ≤ s ∧ s ≤ 4096) ∧ 0 ≤ a.States ∧ a.States ≤ 4096) ∧
    ∃ K_83 : GNfa → Prop,
    ((if nEmpty a then
        (a.Starts.length ≤ 4096 ∧ (b.Starts.map (· + a.States)).length ≤ 4096) ∧
        K_83 (⟨(a.States + b.States), (a.Starts ++ (b.Starts.map (· + a.States))), (b.Ends.map (· + a.States)), []⟩ : GNfa)
      else
        K_83 (⟨(a.States + b.States), (a.Starts ++ ([] : List Int)), (b.Ends.map (· + a.States)), []⟩ : GNfa))) ∧
    ∀ n, K_83 n →
    (∃ K_100 : GNfa → Prop,
      ((if nEmpty b then
          (a.Ends.length ≤ 4096 ∧ n.Ends.length ≤ 4096) ∧
          K_100 (⟨n.States, n.Starts, (a.Ends ++ n.Ends), n.Edges⟩ : GNfa)
        else
          K_100 n)) ∧
      ∀ n2, K_100 n2 →
      (((n2.Edges.length + a.Edges.length) * 48 ≤ 140737488355328) ∧
        ((b.Edges.length ≤ 65536 ∧ ∀ x ∈ b.Edges, i64 (x.From + a.States) ∧ i64 (x.To + a.States))) ∧
        (((n2.Edges ++ a.Edges).length + (b.Edges.map (eBy a.States)).length) * 48 ≤ 140737488355328) ∧
        ∃ (I_130 : GNfa → Int → Prop) (μ_131 : GNfa → Int → Nat),
          I_130 (⟨n2.States, n2.Starts, n2.Ends, ((n2.Edges ++ a.Edges) ++ (b.Edges.map (eBy a.States)))⟩ : GNfa) 0 ∧
          ∀ (n3 : GNfa) (i : Int), I_130 n3 i →
          if (decide (i < (a.Edges.length : Int)) && decide ((n3.Edges.length : Int) ≤ 65536)) then
            ((0 : Int) ≤ i ∧ i < (a.Edges.length : Int)) ∧
            if a.Ends.contains ((a.Edges.getD i.toNat default).To) then
              ∃ I_144 : GNfa → Nat → Prop,
                I_144 n3 0 ∧
                ∀ (n4 : GNfa) (k : Nat), I_144 n4 k → k ≤ (b.Starts.map (· + a.States)).length →
                if decide ((k : Int) < ((b.Starts.map (· + a.States)).length : Int)) then
                  ((n4.Edges.length + 1) * 48 ≤ 140737488355328) ∧
                  I_144 (⟨n4.States, n4.Starts, n4.Ends, (n4.Edges ++ [(⟨(a.Edges.getD i.toNat default).From, ((b.Starts.map (· + a.States)).getD k default), (a.Edges.getD i.toNat default).Set⟩ : GEdge)])⟩ : GNfa) (k + 1)
                else
                  (i64 (i + 1)) ∧
                  I_130 n4 (i + 1) ∧ μ_131 n4 (i + 1) < μ_131 n3 i
            else
              (i64 (i + 1)) ∧
              I_130 n3 (i + 1) ∧ μ_131 n3 (i + 1) < μ_131 n3 i
          else
            Q ((nEnd n3).1) ((nEnd n3).2)))
def wp_rStar (a : GNfa) (Q : GNfa → Int → Prop) : Prop :=
  (a.Starts.length ≤ 17592186044416 ∧ a.Ends.length ≤ 17592186044416) ∧
  if (!nRight a) then
    Q (⟨(0 : Int), [], [], []⟩ : GNfa) 1
  else
    (i64 (a.States + 1)) ∧
    ((0 + a.Edges.length) * 48 ≤ 140737488355328) ∧
    ∃ I_37 : GNfa → Nat → Prop,
      I_37 (⟨(a.States + 1), [a.States], [a.States], ([] ++ a.Edges)⟩ : GNfa) 0 ∧
      ∀ (n : GNfa) (i : Nat), I_37 n i → i ≤ a.Edges.length →
      if decide ((i : Int) < (a.Edges.length : Int)) then
        ∃ K_51 : GNfa → Prop,
        ((if a.Starts.contains ((a.Edges.getD i default).From) then
            ((n.Edges.length + 1) * 48 ≤ 140737488355328) ∧
            K_51 (⟨n.States, n.Starts, n.Ends, (n.Edges ++ [(⟨a.States, (a.Edges.getD i default).To, (a.Edges.getD i default).Set⟩ : GEdge)])⟩ : GNfa)
          else
            K_51 n)) ∧
        ∀ n2, K_51 n2 →
        (∃ K_65 : GNfa → Prop,
          ((if a.Ends.contains ((a.Edges.getD i default).To) then
              ((n2.Edges.length + 1) * 48 ≤ 140737488355328) ∧
              K_65 (⟨n2.States, n2.Starts, n2.Ends, (n2.Edges ++ [(⟨(a.Edges.getD i default).From, a.States, (a.Edges.getD i default).Set⟩ : GEdge)])⟩ : GNfa)
            else
              K_65 n2)) ∧
          ∀ n3, K_65 n3 →
          (if (a.Starts.contains ((a.Edges.getD i default).From) && a.Ends.contains ((a.Edges.getD i default).To)) then
              ((n3.Edges.length + 1) * 48 ≤ 140737488355328) ∧
              I_37 (⟨n3.States, n3.Starts, n3.Ends, (n3.Edges ++ [(⟨a.States, a.States, (a.Edges.getD i default).Set⟩ : GEdge)])⟩ : GNfa) (i + 1)
            else
              I_37 n3 (i + 1)))
      else
        Q ((nEnd n).1) ((nEnd n).2)
def wp_rTimes (least : Int) (most : Int) (Q : Bool → Prop) : Prop :=
  Q ((decide (0 ≤ least) && decide (least ≤ 64)) && ((decide (most = (-1)) && decide (least ≤ 1)) || (decide (least ≤ most) && decide (most ≤ 64))))
def wp_rRep (a : GNfa) (least : Int) (most : Int) (Q : GNfa → Int → Prop) : Prop :=
  (a.Starts.length ≤ 17592186044416 ∧ a.Ends.length ≤ 17592186044416) ∧
  if ((!nRight a) || (!rTimes least most)) then
    Q (⟨(0 : Int), [], [], []⟩ : GNfa) 1
  else
    ∃ (I_44 : GNfa → Int → Int → Prop) (μ_45 : GNfa → Int → Int → Nat),
      I_44 ((nText ([] : List UInt8)).1) 0 0 ∧
      ∀ (n : GNfa) (e : Int) (i : Int), I_44 n e i →
      if (decide (i < least) && decide (e = 0)) then
        ((n.Starts.length ≤ 17592186044416 ∧ n.Ends.length ≤ 17592186044416) ∧ (a.Starts.length ≤ 17592186044416 ∧ a.Ends.length ≤ 17592186044416)) ∧
        (i64 (i + 1)) ∧
        I_44 ((nCat n a).1) ((nCat n a).2) (i + 1) ∧ μ_45 ((nCat n a).1) ((nCat n a).2) (i + 1) < μ_45 n e i
      else
        if (decide (e = 0) && decide (most = (-1))) then
          ((a.Starts.length ≤ 17592186044416 ∧ a.Ends.length ≤ 17592186044416)) ∧
          if (!decide ((nStar a).2 = 0)) then
            Q (⟨(0 : Int), [], [], []⟩ : GNfa) ((nStar a).2)
          else
            ((n.Starts.length ≤ 17592186044416 ∧ n.Ends.length ≤ 17592186044416) ∧ (((nStar a).1).Starts.length ≤ 17592186044416 ∧ ((nStar a).1).Ends.length ≤ 17592186044416)) ∧
            Q ((nCat n ((nStar a).1)).1) ((nCat n ((nStar a).1)).2)
        else
          ∃ (I_102 : GNfa → Int → Int → Prop) (μ_103 : GNfa → Int → Int → Nat),
            I_102 n e least ∧
            ∀ (n2 : GNfa) (e2 : Int) (i2 : Int), I_102 n2 e2 i2 →
            if (decide (i2 < most) && decide (e2 = 0)) then
              ((a.Starts.length ≤ 17592186044416 ∧ a.Ends.length ≤ 17592186044416) ∧ (((nText ([] : List UInt8)).1).Starts.length ≤ 17592186044416 ∧ ((nText ([] : List UInt8)).1).Ends.length ≤ 17592186044416)) ∧
              if (!decide ((nAlt a ((nText ([] : List UInt8)).1)).2 = 0)) then
                Q (⟨(0 : Int), [], [], []⟩ : GNfa) ((nAlt a ((nText ([] : List UInt8)).1)).2)
              else
                ((n2.Starts.length ≤ 17592186044416 ∧ n2.Ends.length ≤ 17592186044416) ∧ (((nAlt a ((nText ([] : List UInt8)).1)).1).Starts.length ≤ 17592186044416 ∧ ((nAlt a ((nText ([] : List UInt8)).1)).1).Ends.length ≤ 17592186044416)) ∧
                (i64 (i2 + 1)) ∧
                I_102 ((nCat n2 ((nAlt a ((nText ([] : List UInt8)).1)).1)).1) ((nCat n2 ((nAlt a ((nText ([] : List UInt8)).1)).1)).2) (i2 + 1) ∧ μ_103 ((nCat n2 ((nAlt a ((nText ([] : List UInt8)).1)).1)).1) ((nCat n2 ((nAlt a ((nText ([] : List UInt8)).1)).1)).2) (i2 + 1) < μ_103 n2 e2 i2
            else
              Q n2 e2
end Go.Proofs.Ytbaciogbhjcdoaa
