/- What some functions compute, as plain formulas. No condition. -/
import Derived.Test.YtbaciogbhjcdoaaD15
set_option linter.unusedVariables false
set_option linter.unusedSimpArgs false
set_option maxRecDepth 20000
namespace Go.Proofs.Ytbaciogbhjcdoaa
def wp_isNaNI (x : Int) (Q : Bool → Prop) : Prop :=
  Q (!decide (x = x))
def wp_cmpInt (x : Int) (y : Int) (Q : Int → Prop) : Prop :=
  if decide (x < y) then
    Q (-1)
  else
    if decide (y < x) then
      Q 1
    else
      Q 0
def wp_isNaNW (x : BitVec 64) (Q : Bool → Prop) : Prop :=
  Q (!decide (x = x))
def wp_cmpWord (x : BitVec 64) (y : BitVec 64) (Q : Int → Prop) : Prop :=
  if decide (x < y) then
    Q (-1)
  else
    if decide (y < x) then
      Q 1
    else
      Q 0
def wp_cmpWords (s1 : List (BitVec 64)) (s2 : List (BitVec 64)) (Q : Int → Prop) : Prop :=
  ∃ I_6 : Nat → Prop,
    I_6 0 ∧
    ∀ (k : Nat), I_6 k → k ≤ s1.length →
    if decide ((k : Int) < (s1.length : Int)) then
      if decide ((s2.length : Int) ≤ (k : Int)) then
        Q 1
      else
        ((0 : Int) ≤ (k : Int) ∧ (k : Int) < (s2.length : Int)) ∧
        if (!decide ((cmpW (s1.getD k default) (s2.getD k default)) = 0)) then
          Q (cmpW (s1.getD k default) (s2.getD k default))
        else
          I_6 (k + 1)
    else
      if decide ((s1.length : Int) < (s2.length : Int)) then
        Q (-1)
      else
        Q 0
def wp_cmpOr (vals : List Int) (Q : Int → Prop) : Prop :=
  ∃ I_4 : Nat → Prop,
    I_4 0 ∧
    ∀ (k : Nat), I_4 k → k ≤ vals.length →
    if decide ((k : Int) < (vals.length : Int)) then
      if (!decide ((vals.getD k default) = 0)) then
        Q (vals.getD k default)
      else
        I_4 (k + 1)
    else
      Q 0
def wp_cmpStr (a : List UInt8) (b : List UInt8) (Q : Int → Prop) : Prop :=
  Q (cmpS a b)
def wp_cmpTips (a : GTip) (b : GTip) (Q : Int → Prop) : Prop :=
  Q (orL [(cmpI a.State b.State), (cmpS a.Out b.Out)])
def wp_copies (x : GArc) (Q : Int → Prop) : Prop :=
  if x.Copy then
    Q 1
  else
    Q 0
def wp_cmpArcs (a : GArc) (b : GArc) (Q : Int → Prop) : Prop :=
  Q (orL [(cmpI a.From b.From), (cmpI a.To b.To), (cmpL cmpW [a.Set.a, a.Set.b, a.Set.c, a.Set.d] [b.Set.a, b.Set.b, b.Set.c, b.Set.d]), (cmpS a.Out b.Out), (cmpI (b2i a.Copy) (b2i b.Copy))])
def wp_cloneStr (s : List (List UInt8)) (Q : (List (List UInt8)) → Prop) : Prop :=
  ∀ isnil : Bool,
  ((isnil = true → s = []) → if isnil then
    Q []
  else
    ((0 + s.length) * 16 ≤ 140737488355328) ∧
    Q ([] ++ s))
def wp_compactStr (s : List (List UInt8)) (Q : (List (List UInt8)) → Prop) : Prop :=
  if decide ((s.length : Int) < 2) then
    Q s
  else
    ∃ I_5 : Nat → Prop,
      I_5 1 ∧
      ∀ (k : Nat), I_5 k →
      if decide ((k : Int) < (s.length : Int)) then
        (i64 ((k : Int) - 1)) ∧
        ((0 : Int) ≤ ((k : Int) - 1) ∧ ((k : Int) - 1) < (s.length : Int)) ∧
        if decide ((s.getD k default) = (s.getD ((k : Int) - 1).toNat default)) then
          ((0 : Int) ≤ (k : Int) ∧ (k : Int) ≤ (s.length : Int)) ∧
          ∃ (I_16 : (List (List UInt8)) → Int → Int → Prop) (μ_17 : (List (List UInt8)) → Int → Int → Nat),
            I_16 s (k : Int) 1 ∧
            ∀ (s2 : List (List UInt8)) (k2 : Int) (k22 : Int), I_16 s2 k2 k22 →
            ((0 : Int) ≤ (k : Int) ∧ (k : Int) ≤ (s2.length : Int)) ∧
            (s2.length = s.length) ∧
            if decide (k22 < ((s2.drop k).length : Int)) then
              ((0 : Int) ≤ k22 ∧ k22 < ((s2.drop k).length : Int)) ∧
              (i64 (k22 - 1)) ∧
              ((0 : Int) ≤ (k22 - 1) ∧ (k22 - 1) < ((s2.drop k).length : Int)) ∧
              if (!decide (((s2.drop k).getD k22.toNat default) = ((s2.drop k).getD (k22 - 1).toNat default))) then
                ((0 : Int) ≤ k2 ∧ k2 < (s2.length : Int)) ∧
                (i64 (k2 + 1)) ∧
                (i64 (k22 + 1)) ∧
                I_16 (s2.set k2.toNat ((s2.drop k).getD k22.toNat default)) (k2 + 1) (k22 + 1) ∧ μ_17 (s2.set k2.toNat ((s2.drop k).getD k22.toNat default)) (k2 + 1) (k22 + 1) < μ_17 s2 k2 k22
              else
                (i64 (k22 + 1)) ∧
                I_16 s2 k2 (k22 + 1) ∧ μ_17 s2 k2 (k22 + 1) < μ_17 s2 k2 k22
            else
              ((0 : Int) ≤ k2 ∧ k2 ≤ (s2.length : Int)) ∧
              ((0 : Int) ≤ k2 ∧ k2 ≤ ((s2.take k2.toNat ++ List.replicate (s2.length - k2.toNat) ([] : List UInt8)).length : Int)) ∧
              Q ((s2.take k2.toNat ++ List.replicate (s2.length - k2.toNat) ([] : List UInt8)).take k2.toNat)
        else
          I_5 (k + 1)
      else
        Q s
def wp_orderedStr (l : List (List UInt8)) (less : ((List UInt8) → (List UInt8) → Int)) (Q : (List (List UInt8)) → Prop) : Prop :=
  (l.length ≤ 1000000000000) ∧
  (TotC less ∧ l.length < 4611686018427387904) ∧
  ((srtL less l).length ≤ 1000000000000) ∧
  Q (cpL (srtL less l))
def wp_compactInt15 (s : List Int) (Q : (List Int) → Prop) : Prop :=
  if decide ((s.length : Int) < 2) then
    Q s
  else
    ∃ I_5 : Nat → Prop,
      I_5 1 ∧
      ∀ (k : Nat), I_5 k →
      if decide ((k : Int) < (s.length : Int)) then
        (i64 ((k : Int) - 1)) ∧
        ((0 : Int) ≤ ((k : Int) - 1) ∧ ((k : Int) - 1) < (s.length : Int)) ∧
        if decide ((s.getD k default) = (s.getD ((k : Int) - 1).toNat default)) then
          ((0 : Int) ≤ (k : Int) ∧ (k : Int) ≤ (s.length : Int)) ∧
          ∃ (I_16 : (List Int) → Int → Int → Prop) (μ_17 : (List Int) → Int → Int → Nat),
            I_16 s (k : Int) 1 ∧
            ∀ (s2 : List Int) (k2 : Int) (k22 : Int), I_16 s2 k2 k22 →
            ((0 : Int) ≤ (k : Int) ∧ (k : Int) ≤ (s2.length : Int)) ∧
            (s2.length = s.length) ∧
            if decide (k22 < ((s2.drop k).length : Int)) then
              ((0 : Int) ≤ k22 ∧ k22 < ((s2.drop k).length : Int)) ∧
              (i64 (k22 - 1)) ∧
              ((0 : Int) ≤ (k22 - 1) ∧ (k22 - 1) < ((s2.drop k).length : Int)) ∧
              if (!decide (((s2.drop k).getD k22.toNat default) = ((s2.drop k).getD (k22 - 1).toNat default))) then
                ((0 : Int) ≤ k2 ∧ k2 < (s2.length : Int)) ∧
                (i64 (k2 + 1)) ∧
                (i64 (k22 + 1)) ∧
                I_16 (s2.set k2.toNat ((s2.drop k).getD k22.toNat default)) (k2 + 1) (k22 + 1) ∧ μ_17 (s2.set k2.toNat ((s2.drop k).getD k22.toNat default)) (k2 + 1) (k22 + 1) < μ_17 s2 k2 k22
              else
                (i64 (k22 + 1)) ∧
                I_16 s2 k2 (k22 + 1) ∧ μ_17 s2 k2 (k22 + 1) < μ_17 s2 k2 k22
            else
              ((0 : Int) ≤ k2 ∧ k2 ≤ (s2.length : Int)) ∧
              ((0 : Int) ≤ k2 ∧ k2 ≤ ((s2.take k2.toNat ++ List.replicate (s2.length - k2.toNat) (0 : Int)).length : Int)) ∧
              Q ((s2.take k2.toNat ++ List.replicate (s2.length - k2.toNat) (0 : Int)).take k2.toNat)
        else
          I_5 (k + 1)
      else
        Q s
def wp_orderedInt15 (l : List Int) (less : (Int → Int → Int)) (Q : (List Int) → Prop) : Prop :=
  (l.length ≤ 17592186044416) ∧
  (TotC less ∧ l.length < 4611686018427387904) ∧
  ((srtL less l).length ≤ 1000000000000) ∧
  Q (cpL (srtL less l))
def wp_cloneTip (s : List GTip) (Q : (List GTip) → Prop) : Prop :=
  ∀ isnil : Bool,
  ((isnil = true → s = []) → if isnil then
    Q []
  else
    ((0 + s.length) * 24 ≤ 140737488355328) ∧
    Q ([] ++ s))
def wp_compactTip (s : List GTip) (Q : (List GTip) → Prop) : Prop :=
  if decide ((s.length : Int) < 2) then
    Q s
  else
    ∃ I_5 : Nat → Prop,
      I_5 1 ∧
      ∀ (k : Nat), I_5 k →
      if decide ((k : Int) < (s.length : Int)) then
        (i64 ((k : Int) - 1)) ∧
        ((0 : Int) ≤ ((k : Int) - 1) ∧ ((k : Int) - 1) < (s.length : Int)) ∧
        if decide ((s.getD k default) = (s.getD ((k : Int) - 1).toNat default)) then
          ((0 : Int) ≤ (k : Int) ∧ (k : Int) ≤ (s.length : Int)) ∧
          ∃ (I_16 : (List GTip) → Int → Int → Prop) (μ_17 : (List GTip) → Int → Int → Nat),
            I_16 s (k : Int) 1 ∧
            ∀ (s2 : List GTip) (k2 : Int) (k22 : Int), I_16 s2 k2 k22 →
            ((0 : Int) ≤ (k : Int) ∧ (k : Int) ≤ (s2.length : Int)) ∧
            (s2.length = s.length) ∧
            if decide (k22 < ((s2.drop k).length : Int)) then
              ((0 : Int) ≤ k22 ∧ k22 < ((s2.drop k).length : Int)) ∧
              (i64 (k22 - 1)) ∧
              ((0 : Int) ≤ (k22 - 1) ∧ (k22 - 1) < ((s2.drop k).length : Int)) ∧
              if (!decide (((s2.drop k).getD k22.toNat default) = ((s2.drop k).getD (k22 - 1).toNat default))) then
                ((0 : Int) ≤ k2 ∧ k2 < (s2.length : Int)) ∧
                (i64 (k2 + 1)) ∧
                (i64 (k22 + 1)) ∧
                I_16 (s2.set k2.toNat ((s2.drop k).getD k22.toNat default)) (k2 + 1) (k22 + 1) ∧ μ_17 (s2.set k2.toNat ((s2.drop k).getD k22.toNat default)) (k2 + 1) (k22 + 1) < μ_17 s2 k2 k22
              else
                (i64 (k22 + 1)) ∧
                I_16 s2 k2 (k22 + 1) ∧ μ_17 s2 k2 (k22 + 1) < μ_17 s2 k2 k22
            else
              ((0 : Int) ≤ k2 ∧ k2 ≤ (s2.length : Int)) ∧
              ((0 : Int) ≤ k2 ∧ k2 ≤ ((s2.take k2.toNat ++ List.replicate (s2.length - k2.toNat) (⟨(0 : Int), ([] : List UInt8)⟩ : GTip)).length : Int)) ∧
              Q ((s2.take k2.toNat ++ List.replicate (s2.length - k2.toNat) (⟨(0 : Int), ([] : List UInt8)⟩ : GTip)).take k2.toNat)
        else
          I_5 (k + 1)
      else
        Q s
def wp_orderedTip (l : List GTip) (less : (GTip → GTip → Int)) (Q : (List GTip) → Prop) : Prop :=
  (l.length ≤ 1000000000000) ∧
  (TotC less ∧ l.length < 4611686018427387904) ∧
  ((srtL less l).length ≤ 1000000000000) ∧
  Q (cpL (srtL less l))
def wp_cloneArc (s : List GArc) (Q : (List GArc) → Prop) : Prop :=
  ∀ isnil : Bool,
  ((isnil = true → s = []) → if isnil then
    Q []
  else
    ((0 + s.length) * 72 ≤ 140737488355328) ∧
    Q ([] ++ s))
def wp_compactArc (s : List GArc) (Q : (List GArc) → Prop) : Prop :=
  if decide ((s.length : Int) < 2) then
    Q s
  else
    ∃ I_5 : Nat → Prop,
      I_5 1 ∧
      ∀ (k : Nat), I_5 k →
      if decide ((k : Int) < (s.length : Int)) then
        (i64 ((k : Int) - 1)) ∧
        ((0 : Int) ≤ ((k : Int) - 1) ∧ ((k : Int) - 1) < (s.length : Int)) ∧
        if decide ((s.getD k default) = (s.getD ((k : Int) - 1).toNat default)) then
          ((0 : Int) ≤ (k : Int) ∧ (k : Int) ≤ (s.length : Int)) ∧
          ∃ (I_16 : (List GArc) → Int → Int → Prop) (μ_17 : (List GArc) → Int → Int → Nat),
            I_16 s (k : Int) 1 ∧
            ∀ (s2 : List GArc) (k2 : Int) (k22 : Int), I_16 s2 k2 k22 →
            ((0 : Int) ≤ (k : Int) ∧ (k : Int) ≤ (s2.length : Int)) ∧
            (s2.length = s.length) ∧
            if decide (k22 < ((s2.drop k).length : Int)) then
              ((0 : Int) ≤ k22 ∧ k22 < ((s2.drop k).length : Int)) ∧
              (i64 (k22 - 1)) ∧
              ((0 : Int) ≤ (k22 - 1) ∧ (k22 - 1) < ((s2.drop k).length : Int)) ∧
              if (!decide (((s2.drop k).getD k22.toNat default) = ((s2.drop k).getD (k22 - 1).toNat default))) then
                ((0 : Int) ≤ k2 ∧ k2 < (s2.length : Int)) ∧
                (i64 (k2 + 1)) ∧
                (i64 (k22 + 1)) ∧
                I_16 (s2.set k2.toNat ((s2.drop k).getD k22.toNat default)) (k2 + 1) (k22 + 1) ∧ μ_17 (s2.set k2.toNat ((s2.drop k).getD k22.toNat default)) (k2 + 1) (k22 + 1) < μ_17 s2 k2 k22
              else
                (i64 (k22 + 1)) ∧
                I_16 s2 k2 (k22 + 1) ∧ μ_17 s2 k2 (k22 + 1) < μ_17 s2 k2 k22
            else
              ((0 : Int) ≤ k2 ∧ k2 ≤ (s2.length : Int)) ∧
              ((0 : Int) ≤ k2 ∧ k2 ≤ ((s2.take k2.toNat ++ List.replicate (s2.length - k2.toNat) (⟨(0 : Int), (0 : Int), BSet.zero, ([] : List UInt8), false⟩ : GArc)).length : Int)) ∧
              Q ((s2.take k2.toNat ++ List.replicate (s2.length - k2.toNat) (⟨(0 : Int), (0 : Int), BSet.zero, ([] : List UInt8), false⟩ : GArc)).take k2.toNat)
        else
          I_5 (k + 1)
      else
        Q s
def wp_orderedArc (l : List GArc) (less : (GArc → GArc → Int)) (Q : (List GArc) → Prop) : Prop :=
  (l.length ≤ 1000000000000) ∧
  (TotC less ∧ l.length < 4611686018427387904) ∧
  ((srtL less l).length ≤ 1000000000000) ∧
  Q (cpL (srtL less l))
def wp_fCheck1 (s : Int) (c0 : GFst) (Q : Bool → Prop) : Prop :=
  Q (decide (0 ≤ s) && decide (s < c0.States))
def wp_fCheck2 (x : GTip) (c0 : GFst) (Q : Bool → Prop) : Prop :=
  Q ((!fIn c0 x.State) || decide (1024 < (x.Out.length : Int)))
def wp_indexTip (s : List GTip) (f : (GTip → Bool)) (Q : Int → Prop) : Prop :=
  ∃ I_8 : Nat → Prop,
    I_8 0 ∧
    ∀ (k : Nat), I_8 k → k ≤ s.length →
    if decide ((k : Int) < (s.length : Int)) then
      if (f (s.getD k default)) then
        Q (k : Int)
      else
        I_8 (k + 1)
    else
      Q (-1)
def wp_containsTip (s : List GTip) (f : (GTip → Bool)) (Q : Bool → Prop) : Prop :=
  Q (decide (0 ≤ idxF f s))
def wp_fCheckP (t : GFst) (Q : Int → Prop) : Prop :=
  if ((((decide (t.States < 0) || decide (1024 < t.States)) || decide (16384 < (t.Arcs.length : Int))) || decide (1024 < (t.Starts.length : Int))) || decide (1024 < (t.Ends.length : Int))) then
    Q 1
  else
    if (t.Starts.any (fun q0 => fTipBad t q0) || t.Ends.any (fun q0 => fTipBad t q0)) then
      Q 1
    else
      ∃ I_23 : Nat → Prop,
        I_23 0 ∧
        ∀ (k : Nat), I_23 k → k ≤ t.Arcs.length →
        if decide ((k : Int) < (t.Arcs.length : Int)) then
          if ((((!fIn t ((t.Arcs.getD k default).From)) || (!fIn t ((t.Arcs.getD k default).To))) || decide ((t.Arcs.getD k default).Set = BSet.zero)) || decide (1024 < (((t.Arcs.getD k default).Out).length : Int))) then
            Q 1
          else
            I_23 (k + 1)
        else
          Q 0
def wp_fStepP (t : GFst) (xat : List (GTip × Bool)) (b : UInt8) (Q : (List (GTip × Bool)) → Prop) : Prop :=
  ∃ I_20 : (List (GTip × Bool)) → (List (GTip × Bool)) → Prop,
    I_20 [] xat ∧
    ∀ (next : List (GTip × Bool)) (R : List (GTip × Bool)), I_20 next R →
    (R = [] →
      Q next) ∧
    (∀ j_28, j_28 < R.length →
      ∃ I_35 : (List (GTip × Bool)) → Nat → Prop,
        I_35 next 0 ∧
        ∀ (next2 : List (GTip × Bool)) (k : Nat), I_35 next2 k → k ≤ t.Arcs.length →
        if decide ((k : Int) < (t.Arcs.length : Int)) then
          if ((!decide ((t.Arcs.getD k default).From = ((R.getD j_28 default).1).State)) || (!((t.Arcs.getD k default).Set).has b.toNat)) then
            I_35 next2 (k + 1)
          else
            ((((R.getD j_28 default).1).Out).length + ((t.Arcs.getD k default).Out).length ≤ 9223372036854775807) ∧
            ∃ K_50 : (List UInt8) → Prop,
            ((if (t.Arcs.getD k default).Copy then
                ((((R.getD j_28 default).1).Out ++ (t.Arcs.getD k default).Out).length + 1 ≤ 9223372036854775807) ∧
                K_50 ((((R.getD j_28 default).1).Out ++ (t.Arcs.getD k default).Out) ++ [b])
              else
                K_50 (((R.getD j_28 default).1).Out ++ (t.Arcs.getD k default).Out))) ∧
            ∀ s, K_50 s →
            (I_35 (aput next2 (⟨(t.Arcs.getD k default).To, s⟩ : GTip) true) (k + 1))
        else
          I_20 next2 (R.eraseIdx j_28))
def wp_fOutsP (t : GFst) (w : List UInt8) (Q : (List (List UInt8)) → Int → Prop) : Prop :=
  if (!decide (fCheck t = 0)) then
    Q [] (fCheck t)
  else
    if decide (256 < (w.length : Int)) then
      Q [] 2
    else
      ∃ I_18 : (List (GTip × Bool)) → Nat → Prop,
        I_18 [] 0 ∧
        ∀ (xat : List (GTip × Bool)) (k : Nat), I_18 xat k → k ≤ t.Starts.length →
        if decide ((k : Int) < (t.Starts.length : Int)) then
          I_18 (aput xat (t.Starts.getD k default) true) (k + 1)
        else
          (w.length ≤ 9223372036854775807) ∧
          ∃ I_36 : (List (GTip × Bool)) → Nat → Prop,
            I_36 xat 0 ∧
            ∀ (xat2 : List (GTip × Bool)) (k2 : Nat), I_36 xat2 k2 → k2 ≤ w.length →
            if decide ((k2 : Int) < (w.length : Int)) then
              if decide (4096 < (xat2.length : Int)) then
                Q [] 2
              else
                ((∀ x ∈ t.Arcs, x.Out.length ≤ 1024) ∧ ∀ p ∈ keys xat2, p.Out.length ≤ 1000000000) ∧
                ∀ r_45 : List (GTip × Bool),
                (KeysOf r_45 (fRaw t (keys xat2) (w.getD k2 default)) → I_36 r_45 (k2 + 1))
            else
              if decide (4096 < (xat2.length : Int)) then
                Q [] 2
              else
                ∃ I_58 : (List (List UInt8)) → (List (GTip × Bool)) → Prop,
                  I_58 [] xat2 ∧
                  ∀ (out : List (List UInt8)) (R : List (GTip × Bool)), I_58 out R →
                  (R = [] →
                    (out.length ≤ 1000000000000 ∧ TotC (fun q0 q1 => (cmpS q0 q1))) ∧
                    Q (ordL (fun q0 q1 => (cmpS q0 q1)) out) 0) ∧
                  (∀ j_66, j_66 < R.length →
                    ∃ I_78 : (List (List UInt8)) → Nat → Prop,
                      I_78 out 0 ∧
                      ∀ (out2 : List (List UInt8)) (k3 : Nat), I_78 out2 k3 → k3 ≤ t.Ends.length →
                      if decide ((k3 : Int) < (t.Ends.length : Int)) then
                        if decide ((t.Ends.getD k3 default).State = ((R.getD j_66 default).1).State) then
                          ((((R.getD j_66 default).1).Out).length + ((t.Ends.getD k3 default).Out).length ≤ 9223372036854775807) ∧
                          ((out2.length + 1) * 16 ≤ 140737488355328) ∧
                          I_78 (out2 ++ [(((R.getD j_66 default).1).Out ++ (t.Ends.getD k3 default).Out)]) (k3 + 1)
                        else
                          I_78 out2 (k3 + 1)
                      else
                        I_58 out2 (R.eraseIdx j_66))
def wp_indexStr (s : List (List UInt8)) (xv : List UInt8) (Q : Int → Prop) : Prop :=
  ∃ I_4 : Nat → Prop,
    I_4 0 ∧
    ∀ (k : Nat), I_4 k → k ≤ s.length →
    if decide ((k : Int) < (s.length : Int)) then
      if decide (xv = (s.getD k default)) then
        Q (k : Int)
      else
        I_4 (k + 1)
    else
      Q (-1)
def wp_containsStr (s : List (List UInt8)) (xv : List UInt8) (Q : Bool → Prop) : Prop :=
  Q (decide (0 ≤ idxF (fun q => decide (q = xv)) s))
def wp_fHasP (t : GFst) (w : List UInt8) (out : List UInt8) (Q : Bool → Int → Prop) : Prop :=
  Q (((fOuts t w).1).contains out) ((fOuts t w).2)
def wp_fStatesP (l : List GTip) (Q : (List Int) → Prop) : Prop :=
  ∃ I_6 : (List Int) → Nat → Prop,
    I_6 [] 0 ∧
    ∀ (out : List Int) (k : Nat), I_6 out k → k ≤ l.length →
    if decide ((k : Int) < (l.length : Int)) then
      ((out.length + 1) * 8 ≤ 140737488355328) ∧
      I_6 (out ++ [(l.getD k default).State]) (k + 1)
    else
      (out.length ≤ 1000000000000 ∧ TotC (fun q0 q1 => (cmpI q0 q1))) ∧
      Q (ordL (fun q0 q1 => (cmpI q0 q1)) out)
def wp_fInP (t : GFst) (Q : GNfa → Int → Prop) : Prop :=
  if (!decide (fCheck t = 0)) then
    Q (⟨(0 : Int), [], [], []⟩ : GNfa) (fCheck t)
  else
    (t.Starts.length ≤ 1000000) ∧
    (t.Ends.length ≤ 1000000) ∧
    ∃ I_65 : GNfa → Nat → Prop,
      I_65 (⟨t.States, fStates t.Starts, fStates t.Ends, []⟩ : GNfa) 0 ∧
      ∀ (n : GNfa) (k : Nat), I_65 n k → k ≤ t.Arcs.length →
      if decide ((k : Int) < (t.Arcs.length : Int)) then
        ((n.Edges.length + 1) * 48 ≤ 140737488355328) ∧
        I_65 (⟨n.States, n.Starts, n.Ends, (n.Edges ++ [(⟨(t.Arcs.getD k default).From, (t.Arcs.getD k default).To, (t.Arcs.getD k default).Set⟩ : GEdge)])⟩ : GNfa) (k + 1)
      else
        Q n 0
def wp_fSortP (t : GFst) (Q : GFst → Int → Prop) : Prop :=
  if (!decide (fCheck t = 0)) then
    Q (⟨(0 : Int), [], [], []⟩ : GFst) (fCheck t)
  else
    (t.Starts.length ≤ 1000000000000 ∧ TotC (fun q0 q1 => (cmpTip q0 q1))) ∧
    (t.Ends.length ≤ 1000000000000 ∧ TotC (fun q0 q1 => (cmpTip q0 q1))) ∧
    (t.Arcs.length ≤ 1000000000000 ∧ TotC (fun q0 q1 => (cmpArc q0 q1))) ∧
    Q (⟨t.States, (ordL (fun q0 q1 => (cmpTip q0 q1)) t.Starts), (ordL (fun q0 q1 => (cmpTip q0 q1)) t.Ends), (ordL (fun q0 q1 => (cmpArc q0 q1)) t.Arcs)⟩ : GFst) 0
def wp_rTexts (a : List (List UInt8)) (b : List (List UInt8)) (Q : Bool → Prop) : Prop :=
  if (!decide ((a.length : Int) = (b.length : Int))) then
    Q false
  else
    ∃ I_8 : Nat → Prop,
      I_8 0 ∧
      ∀ (i : Nat), I_8 i → i ≤ a.length →
      if decide ((i : Int) < (a.length : Int)) then
        ((0 : Int) ≤ (i : Int) ∧ (i : Int) < (b.length : Int)) ∧
        if (!decide ((a.getD i default) = (b.getD i default))) then
          Q false
        else
          I_8 (i + 1)
      else
        Q true
def wp_rFew15 (t : GFst) (Q : Bool → Prop) : Prop :=
  (i64 ((t.Starts.length : Int) + (t.Ends.length : Int))) ∧
  (i64 (((t.Starts.length : Int) + (t.Ends.length : Int)) + (t.Arcs.length : Int))) ∧
  ∃ (I_14 : Int → Int → Prop) (μ_15 : Int → Int → Nat),
    I_14 (((t.Starts.length : Int) + (t.Ends.length : Int)) + (t.Arcs.length : Int)) 0 ∧
    ∀ (n : Int) (i : Int), I_14 n i →
    if (decide (i < (t.Starts.length : Int)) && decide (n ≤ 60)) then
      ((0 : Int) ≤ i ∧ i < (t.Starts.length : Int)) ∧
      ((0 : Int) ≤ (((t.Starts.getD i.toNat default).Out).length : Int) ∧ (((t.Starts.getD i.toNat default).Out).length : Int) ≤ 9223372036854775807 ∧ (1 : Int) ≤ 40) ∧
      (i64 (n + ((((t.Starts.getD i.toNat default).Out).length : Int) / 40))) ∧
      (i64 (i + 1)) ∧
      I_14 (n + ((((t.Starts.getD i.toNat default).Out).length : Int) / 40)) (i + 1) ∧ μ_15 (n + ((((t.Starts.getD i.toNat default).Out).length : Int) / 40)) (i + 1) < μ_15 n i
    else
      ∃ (I_25 : Int → Int → Prop) (μ_26 : Int → Int → Nat),
        I_25 n 0 ∧
        ∀ (n2 : Int) (i2 : Int), I_25 n2 i2 →
        if (decide (i2 < (t.Ends.length : Int)) && decide (n2 ≤ 60)) then
          ((0 : Int) ≤ i2 ∧ i2 < (t.Ends.length : Int)) ∧
          ((0 : Int) ≤ (((t.Ends.getD i2.toNat default).Out).length : Int) ∧ (((t.Ends.getD i2.toNat default).Out).length : Int) ≤ 9223372036854775807 ∧ (1 : Int) ≤ 40) ∧
          (i64 (n2 + ((((t.Ends.getD i2.toNat default).Out).length : Int) / 40))) ∧
          (i64 (i2 + 1)) ∧
          I_25 (n2 + ((((t.Ends.getD i2.toNat default).Out).length : Int) / 40)) (i2 + 1) ∧ μ_26 (n2 + ((((t.Ends.getD i2.toNat default).Out).length : Int) / 40)) (i2 + 1) < μ_26 n2 i2
        else
          ∃ (I_36 : Int → Int → Prop) (μ_37 : Int → Int → Nat),
            I_36 n2 0 ∧
            ∀ (n3 : Int) (i3 : Int), I_36 n3 i3 →
            if (decide (i3 < (t.Arcs.length : Int)) && decide (n3 ≤ 60)) then
              ((0 : Int) ≤ i3 ∧ i3 < (t.Arcs.length : Int)) ∧
              ((0 : Int) ≤ (((t.Arcs.getD i3.toNat default).Out).length : Int) ∧ (((t.Arcs.getD i3.toNat default).Out).length : Int) ≤ 9223372036854775807 ∧ (1 : Int) ≤ 40) ∧
              (i64 (n3 + ((((t.Arcs.getD i3.toNat default).Out).length : Int) / 40))) ∧
              (i64 (i3 + 1)) ∧
              I_36 (n3 + ((((t.Arcs.getD i3.toNat default).Out).length : Int) / 40)) (i3 + 1) ∧ μ_37 (n3 + ((((t.Arcs.getD i3.toNat default).Out).length : Int) / 40)) (i3 + 1) < μ_37 n3 i3
            else
              Q (decide (n3 ≤ 60) && (decide (t.States ≤ 20) || decide (1024 < t.States)))
def wp_rSameTips (a : List GTip) (b : List GTip) (Q : Bool → Prop) : Prop :=
  if (!decide ((a.length : Int) = (b.length : Int))) then
    Q false
  else
    ∃ I_8 : Nat → Prop,
      I_8 0 ∧
      ∀ (i : Nat), I_8 i → i ≤ a.length →
      if decide ((i : Int) < (a.length : Int)) then
        ((0 : Int) ≤ (i : Int) ∧ (i : Int) < (b.length : Int)) ∧
        if (!decide ((a.getD i default) = (b.getD i default))) then
          Q false
        else
          I_8 (i + 1)
      else
        Q true
def wp_rSame15 (a : GFst) (b : GFst) (Q : Bool → Prop) : Prop :=
  if ((((!decide (a.States = b.States)) || (!decide (a.Starts = b.Starts))) || (!decide (a.Ends = b.Ends))) || (!decide ((a.Arcs.length : Int) = (b.Arcs.length : Int)))) then
    Q false
  else
    ∃ I_20 : Nat → Prop,
      I_20 0 ∧
      ∀ (i : Nat), I_20 i → i ≤ a.Arcs.length →
      if decide ((i : Int) < (a.Arcs.length : Int)) then
        ((0 : Int) ≤ (i : Int) ∧ (i : Int) < (b.Arcs.length : Int)) ∧
        if (!decide ((a.Arcs.getD i default) = (b.Arcs.getD i default))) then
          Q false
        else
          I_20 (i + 1)
      else
        Q true
end Go.Proofs.Ytbaciogbhjcdoaa
