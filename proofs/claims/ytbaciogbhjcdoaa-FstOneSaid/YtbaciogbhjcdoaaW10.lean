/- What some functions compute, as plain formulas. No condition. -/
import Derived.Test.YtbaciogbhjcdoaaD10
set_option linter.unusedVariables false
set_option linter.unusedSimpArgs false
set_option maxRecDepth 20000
namespace Go.Proofs.Ytbaciogbhjcdoaa
def wp_nfaStates (l : List Int) (n : Int) (Q : Bool → Prop) : Prop :=
  ∃ I_4 : Int → Nat → Prop,
    I_4 (-1) 0 ∧
    ∀ (last : Int) (k : Nat), I_4 last k → k ≤ l.length →
    if decide ((k : Int) < (l.length : Int)) then
      if (decide ((l.getD k default) ≤ last) || decide (n ≤ (l.getD k default))) then
        Q false
      else
        I_4 (l.getD k default) (k + 1)
    else
      Q true
def wp_nfaMembers (l : List Int) (Q : (List (Int × Bool)) → Prop) : Prop :=
  ∃ I_7 : (List (Int × Bool)) → Nat → Prop,
    I_7 [] 0 ∧
    ∀ (m : List (Int × Bool)) (k : Nat), I_7 m k → k ≤ l.length →
    if decide ((k : Int) < (l.length : Int)) then
      I_7 (aput m (l.getD k default) true) (k + 1)
    else
      Q m
def wp_nfaCheck1 (s : Int) (c0 : GNfa) (Q : Bool → Prop) : Prop :=
  Q (decide (0 ≤ s) && decide (s < c0.States))
def wp_nfaCheck (n : GNfa) (Q : Int → Prop) : Prop :=
  if ((((decide (n.States < 0) || decide (4096 < n.States)) || decide (65536 < (n.Edges.length : Int))) || (!nStates n.Starts n.States)) || (!nStates n.Ends n.States)) then
    Q 1
  else
    ∃ I_11 : Nat → Prop,
      I_11 0 ∧
      ∀ (k : Nat), I_11 k → k ≤ n.Edges.length →
      if decide ((k : Int) < (n.Edges.length : Int)) then
        if (((!nIn n ((n.Edges.getD k default).From)) || (!nIn n ((n.Edges.getD k default).To))) || decide ((n.Edges.getD k default).Set = BSet.zero)) then
          Q 1
        else
          I_11 (k + 1)
      else
        Q 0
def wp_nfaWrong1 (n : GNfa) (Q : Bool → Prop) : Prop :=
  Q (!decide (nCheck n = 0))
def wp_indexNfa (s : List GNfa) (f : (GNfa → Bool)) (Q : Int → Prop) : Prop :=
  ∃ I_14 : Nat → Prop,
    I_14 0 ∧
    ∀ (k : Nat), I_14 k → k ≤ s.length →
    if decide ((k : Int) < (s.length : Int)) then
      if (f (s.getD k default)) then
        Q (k : Int)
      else
        I_14 (k + 1)
    else
      Q (-1)
def wp_containsNfa (s : List GNfa) (f : (GNfa → Bool)) (Q : Bool → Prop) : Prop :=
  Q (decide (0 ≤ idxF f s))
def wp_nfaWrong (l : List GNfa) (Q : Bool → Prop) : Prop :=
  Q (l.any (fun q0 => decide (nCheck q0 ≠ 0)))
def wp_nfaTakes1 (s : Int) (c0 : List (Int × Bool)) (Q : Bool → Prop) : Prop :=
  Q ((aget c0 s).getD false)
def wp_indexInt (s : List Int) (f : (Int → Bool)) (Q : Int → Prop) : Prop :=
  ∃ I_8 : Nat → Prop,
    I_8 0 ∧
    ∀ (k : Nat), I_8 k → k ≤ s.length →
    if decide ((k : Int) < (s.length : Int)) then
      if (f (s.getD k default)) then
        Q (k : Int)
      else
        I_8 (k + 1)
    else
      Q (-1)
def wp_containsInt (s : List Int) (f : (Int → Bool)) (Q : Bool → Prop) : Prop :=
  Q (decide (0 ≤ idxF f s))
def wp_nfaTakes (n : GNfa) (w : List UInt8) (Q : Bool → Int → Prop) : Prop :=
  if ([n].any fun n => decide (nCheck n ≠ 0)) then
    Q false 1
  else
    ∃ I_27 : (List (Int × Bool)) → Nat → Prop,
      I_27 (membersL n.Starts) 0 ∧
      ∀ (xat : List (Int × Bool)) (k : Nat), I_27 xat k → k ≤ w.length →
      if decide ((k : Int) < (w.length : Int)) then
        ∃ I_38 : (List (Int × Bool)) → Nat → Prop,
          I_38 [] 0 ∧
          ∀ (next : List (Int × Bool)) (k2 : Nat), I_38 next k2 → k2 ≤ n.Edges.length →
          if decide ((k2 : Int) < (n.Edges.length : Int)) then
            if (((aget xat ((n.Edges.getD k2 default).From)).getD false) && ((n.Edges.getD k2 default).Set).has (w.getD k 0).toNat) then
              I_38 (aput next ((n.Edges.getD k2 default).To) true) (k2 + 1)
            else
              I_38 next (k2 + 1)
          else
            (i64 ((k : Int) + 1)) ∧
            I_27 next (k + 1)
      else
        Q (n.Ends.any (fun q0 => (aget xat q0).getD false)) 0
def wp_nfaEmpty1 (s : Int) (c0 : List (Int × Bool)) (Q : Bool → Prop) : Prop :=
  Q ((aget c0 s).getD false)
def wp_nfaEmpty (n : GNfa) (Q : Bool → Prop) : Prop :=
  Q (n.Starts.any (fun q0 => (aget (membersL n.Ends) q0).getD false))
def wp_cloneInt (s : List Int) (Q : (List Int) → Prop) : Prop :=
  ∀ isnil : Bool,
  ((isnil = true → s = []) → if isnil then
    Q []
  else
    ((0 + s.length) * 8 ≤ 140737488355328) ∧
    Q ([] ++ s))
def wp_growInt (s : List Int) (n : Int) (Q : (List Int) → Prop) : Prop :=
  if decide (n < 0) then
    False
  else
    ∃ K_4 : (List Int) → Prop,
    (((i64 (0 - 0)) ∧
      (i64 (n - (0 - 0))) ∧
      if decide (0 < (n - (0 - 0))) then
        (0 < (n - (0 - 0)) ∧ (n - (0 - 0)).toNat * 8 ≤ 140737488355328 ∧ (n - (0 - 0)) ≤ 9223372036854775807) ∧
        ((0 : Int) ≤ 0 ∧ 0 ≤ ((List.replicate (n - (0 - 0)).toNat (0 : Int)).length : Int)) ∧
        K_4 ((List.replicate (n - (0 - 0)).toNat (0 : Int)).take 0)
      else
        K_4 [])) ∧
    ∀ s2, K_4 s2 →
    (Q s2)
def wp_concatInt (slices : List (List Int)) (Q : (List Int) → Prop) : Prop :=
  ∃ I_5 : Int → Nat → Prop,
    I_5 0 0 ∧
    ∀ (size : Int) (k : Nat), I_5 size k → k ≤ slices.length →
    if decide ((k : Int) < (slices.length : Int)) then
      (i64 (size + ((slices.getD k default).length : Int))) ∧
      if decide ((size + ((slices.getD k default).length : Int)) < 0) then
        False
      else
        I_5 (size + ((slices.getD k default).length : Int)) (k + 1)
    else
      (0 ≤ size ∧ size ≤ 17592186044416) ∧
      ∃ I_24 : (List Int) → Nat → Prop,
        I_24 ([] : List Int) 0 ∧
        ∀ (newslice : List Int) (k2 : Nat), I_24 newslice k2 → k2 ≤ slices.length →
        if decide ((k2 : Int) < (slices.length : Int)) then
          ((newslice.length + (slices.getD k2 default).length) * 8 ≤ 140737488355328) ∧
          I_24 (newslice ++ (slices.getD k2 default)) (k2 + 1)
        else
          Q newslice
def wp_nfaMore (l : List Int) (xby : Int) (Q : (List Int) → Prop) : Prop :=
  (l.length ≤ 17592186044416) ∧
  ∃ I_11 : (List Int) → Nat → Prop,
    I_11 l 0 ∧
    ∀ (out : List Int) (k : Nat), I_11 out k → k ≤ l.length →
    if decide ((k : Int) < (l.length : Int)) then
      ((0 : Int) ≤ (k : Int) ∧ (k : Int) < (out.length : Int)) ∧
      (i64 ((out.getD k default) + xby)) ∧
      I_11 (out.set k ((out.getD k default) + xby)) (k + 1)
    else
      Q out
def wp_nbEdge (b : Gnfa_builder) (xfrom : Int) (to : Int) (s : BSet) (Q : Gnfa_builder → Prop) : Prop :=
  if decide (65536 ≤ (b.Nfa.Edges.length : Int)) then
    Q (⟨b.Nfa, true⟩ : Gnfa_builder)
  else
    ((b.Nfa.Edges.length + 1) * 48 ≤ 140737488355328) ∧
    Q (⟨(⟨b.Nfa.States, b.Nfa.Starts, b.Nfa.Ends, (b.Nfa.Edges ++ [(⟨xfrom, to, s⟩ : GEdge)])⟩ : GNfa), b.full⟩ : Gnfa_builder)
def wp_nbPut (b : Gnfa_builder) (n : GNfa) (xby : Int) (Q : Gnfa_builder → Prop) : Prop :=
  ∃ I_20 : Gnfa_builder → Nat → Prop,
    I_20 b 0 ∧
    ∀ (b2 : Gnfa_builder) (k : Nat), I_20 b2 k → k ≤ n.Edges.length →
    if decide ((k : Int) < (n.Edges.length : Int)) then
      (i64 ((n.Edges.getD k default).From + xby)) ∧
      (i64 ((n.Edges.getD k default).To + xby)) ∧
      I_20 (nbEdge b2 ⟨((n.Edges.getD k default).From + xby), ((n.Edges.getD k default).To + xby), ((n.Edges.getD k default).Set)⟩) (k + 1)
    else
      Q b2
def wp_nbEnd (b : Gnfa_builder) (Q : GNfa → Int → Prop) : Prop :=
  if (b.full || decide (4096 < b.Nfa.States)) then
    Q (⟨(0 : Int), [], [], []⟩ : GNfa) 2
  else
    Q b.Nfa 0
def wp_nfaText (s : List UInt8) (Q : GNfa → Int → Prop) : Prop :=
  if decide (256 < (s.length : Int)) then
    Q (⟨(0 : Int), [], [], []⟩ : GNfa) 2
  else
    (i64 ((s.length : Int) + 1)) ∧
    ∃ I_22 : Gnfa_builder → Nat → Prop,
      I_22 (⟨(⟨((s.length : Int) + 1), [0], [(s.length : Int)], []⟩ : GNfa), false⟩ : Gnfa_builder) 0 ∧
      ∀ (b : Gnfa_builder) (k : Nat), I_22 b k → k ≤ s.length →
      if decide ((k : Int) < (s.length : Int)) then
        (i64 ((k : Int) + 1)) ∧
        I_22 (nbEdge b ⟨(k : Int), ((k : Int) + 1), (BSet.ofL [(s.getD k 0)])⟩) (k + 1)
      else
        Q ((nbEnd b).1) ((nbEnd b).2)
def wp_nfaSet (s : BSet) (Q : GNfa → Prop) : Prop :=
  ∃ K_20 : GNfa → Prop,
  ((if (!decide (s = BSet.zero)) then
      K_20 (⟨2, [0], [1], [(⟨(0 : Int), 1, s⟩ : GEdge)]⟩ : GNfa)
    else
      K_20 (⟨2, [0], [1], []⟩ : GNfa))) ∧
  ∀ n, K_20 n →
  (Q n)
def wp_nfaAlt (a : GNfa) (b : GNfa) (Q : GNfa → Int → Prop) : Prop :=
  if ([a, b].any fun n => decide (nCheck n ≠ 0)) then
    Q (⟨(0 : Int), [], [], []⟩ : GNfa) 1
  else
    (i64 (a.States + b.States)) ∧
    ((b.Starts.length ≤ 4096 ∧ ∀ s ∈ b.Starts, 0 ≤ s ∧ s ≤ 4096) ∧ 0 ≤ a.States ∧ a.States ≤ 4096) ∧
    ([a.Starts, (b.Starts.map (· + a.States))].flatten.length ≤ 17592186044416) ∧
    ((b.Ends.length ≤ 4096 ∧ ∀ s ∈ b.Ends, 0 ≤ s ∧ s ≤ 4096) ∧ 0 ≤ a.States ∧ a.States ≤ 4096) ∧
    ([a.Ends, (b.Ends.map (· + a.States))].flatten.length ≤ 17592186044416) ∧
    (∀ x ∈ a.Edges, i64 (x.From + 0) ∧ i64 (x.To + 0)) ∧
    (∀ x ∈ b.Edges, i64 (x.From + a.States) ∧ i64 (x.To + a.States)) ∧
    Q ((nbEnd (nbPut (nbPut (⟨(⟨(a.States + b.States), [a.Starts, (b.Starts.map (· + a.States))].flatten, [a.Ends, (b.Ends.map (· + a.States))].flatten, []⟩ : GNfa), false⟩ : Gnfa_builder) a 0) b a.States)).1) ((nbEnd (nbPut (nbPut (⟨(⟨(a.States + b.States), [a.Starts, (b.Starts.map (· + a.States))].flatten, [a.Ends, (b.Ends.map (· + a.States))].flatten, []⟩ : GNfa), false⟩ : Gnfa_builder) a 0) b a.States)).2)
def wp_nfaCat (a : GNfa) (b : GNfa) (Q : GNfa → Int → Prop) : Prop :=
  if ([a, b].any fun n => decide (nCheck n ≠ 0)) then
    Q (⟨(0 : Int), [], [], []⟩ : GNfa) 1
  else
    ((b.Starts.length ≤ 4096 ∧ ∀ s ∈ b.Starts, 0 ≤ s ∧ s ≤ 4096) ∧ 0 ≤ a.States ∧ a.States ≤ 4096) ∧
    (i64 (a.States + b.States)) ∧
    (a.Starts.length ≤ 17592186044416) ∧
    ((b.Ends.length ≤ 4096 ∧ ∀ s ∈ b.Ends, 0 ≤ s ∧ s ≤ 4096) ∧ 0 ≤ a.States ∧ a.States ≤ 4096) ∧
    ∃ K_65 : Gnfa_builder → Prop,
    ((if nEmpty a then
        ((a.Starts.length + (b.Starts.map (· + a.States)).length) * 8 ≤ 140737488355328) ∧
        K_65 (⟨(⟨(a.States + b.States), (a.Starts ++ (b.Starts.map (· + a.States))), (b.Ends.map (· + a.States)), []⟩ : GNfa), false⟩ : Gnfa_builder)
      else
        K_65 (⟨(⟨(a.States + b.States), a.Starts, (b.Ends.map (· + a.States)), []⟩ : GNfa), false⟩ : Gnfa_builder))) ∧
    ∀ x, K_65 x →
    (∃ K_80 : Gnfa_builder → Prop,
      ((if nEmpty b then
          ([a.Ends, x.Nfa.Ends].flatten.length ≤ 17592186044416) ∧
          K_80 (⟨(⟨x.Nfa.States, x.Nfa.Starts, [a.Ends, x.Nfa.Ends].flatten, x.Nfa.Edges⟩ : GNfa), x.full⟩ : Gnfa_builder)
        else
          K_80 x)) ∧
      ∀ x2, K_80 x2 →
      ((∀ x ∈ a.Edges, i64 (x.From + 0) ∧ i64 (x.To + 0)) ∧
        (∀ x ∈ b.Edges, i64 (x.From + a.States) ∧ i64 (x.To + a.States)) ∧
        ∃ K_117 : Gnfa_builder → Prop,
        ((∃ I_125 : Gnfa_builder → Nat → Prop,
            I_125 (nbPut (nbPut x2 a 0) b a.States) 0 ∧
            ∀ (x4 : Gnfa_builder) (k : Nat), I_125 x4 k → k ≤ a.Edges.length →
            if decide ((k : Int) < (a.Edges.length : Int)) then
              if (!((aget (membersL a.Ends) ((a.Edges.getD k default).To)).getD false)) then
                I_125 x4 (k + 1)
              else
                ∃ I_140 : Gnfa_builder → Nat → Prop,
                  I_140 x4 0 ∧
                  ∀ (x5 : Gnfa_builder) (k2 : Nat), I_140 x5 k2 → k2 ≤ (b.Starts.map (· + a.States)).length →
                  if decide ((k2 : Int) < ((b.Starts.map (· + a.States)).length : Int)) then
                    if (nbEdge x5 ⟨((a.Edges.getD k default).From), ((b.Starts.map (· + a.States)).getD k2 default), ((a.Edges.getD k default).Set)⟩).full then
                      K_117 (nbEdge x5 ⟨((a.Edges.getD k default).From), ((b.Starts.map (· + a.States)).getD k2 default), ((a.Edges.getD k default).Set)⟩)
                    else
                      I_140 (nbEdge x5 ⟨((a.Edges.getD k default).From), ((b.Starts.map (· + a.States)).getD k2 default), ((a.Edges.getD k default).Set)⟩) (k2 + 1)
                  else
                    I_125 x5 (k + 1)
            else
              K_117 x4)) ∧
        ∀ x3, K_117 x3 →
        (Q ((nbEnd x3).1) ((nbEnd x3).2))))
def wp_nfaStar (a : GNfa) (Q : GNfa → Int → Prop) : Prop :=
  if ([a].any fun n => decide (nCheck n ≠ 0)) then
    Q (⟨(0 : Int), [], [], []⟩ : GNfa) 1
  else
    (i64 (a.States + 1)) ∧
    (∀ x ∈ a.Edges, i64 (x.From + 0) ∧ i64 (x.To + 0)) ∧
    ∃ I_55 : Gnfa_builder → Nat → Prop,
      I_55 (nbPut (⟨(⟨(a.States + 1), [a.States], [a.States], []⟩ : GNfa), false⟩ : Gnfa_builder) a 0) 0 ∧
      ∀ (x : Gnfa_builder) (k : Nat), I_55 x k → k ≤ a.Edges.length →
      if decide ((k : Int) < (a.Edges.length : Int)) then
        ∃ K_68 : Gnfa_builder → Prop,
        ((if ((aget (membersL a.Starts) ((a.Edges.getD k default).From)).getD false) then
            K_68 (nbEdge x ⟨a.States, ((a.Edges.getD k default).To), ((a.Edges.getD k default).Set)⟩)
          else
            K_68 x)) ∧
        ∀ x2, K_68 x2 →
        (∃ K_82 : Gnfa_builder → Prop,
          ((if ((aget (membersL a.Ends) ((a.Edges.getD k default).To)).getD false) then
              K_82 (nbEdge x2 ⟨((a.Edges.getD k default).From), a.States, ((a.Edges.getD k default).Set)⟩)
            else
              K_82 x2)) ∧
          ∀ x3, K_82 x3 →
          (if (((aget (membersL a.Starts) ((a.Edges.getD k default).From)).getD false) && ((aget (membersL a.Ends) ((a.Edges.getD k default).To)).getD false)) then
              I_55 (nbEdge x3 ⟨a.States, a.States, ((a.Edges.getD k default).Set)⟩) (k + 1)
            else
              I_55 x3 (k + 1)))
      else
        Q ((nbEnd x).1) ((nbEnd x).2)
end Go.Proofs.Ytbaciogbhjcdoaa
