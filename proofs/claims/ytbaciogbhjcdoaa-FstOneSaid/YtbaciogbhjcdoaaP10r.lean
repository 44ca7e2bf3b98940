/- Plain proofs of what the reference's functions of layer 10 compute. No condition. -/
import Derived.Test.YtbaciogbhjcdoaaW10r
set_option linter.unusedVariables false
set_option linter.unusedSimpArgs false
namespace Go.Proofs.Ytbaciogbhjcdoaa
/-- states, seen by their places -/
theorem nStatesK_iff {n : Int} : ∀ {l : List Int} {last : Int}, nStatesK n last l = true ↔ (∀ i < l.length, last < l.getD i default ∧ l.getD i default < n) ∧ (∀ i, i + 1 < l.length → l.getD i default < l.getD (i + 1) default)
  | [], _ => by simp [nStatesK]
  | a :: l, last => by
    simp only [nStatesK, Bool.and_eq_true, decide_eq_true_eq, nStatesK_iff (l := l)]
    constructor
    · rintro ⟨⟨h1, h2⟩, h3, h4⟩
      refine ⟨fun i hi => ?_, fun i hi => ?_⟩
      · cases i with
        | zero => exact ⟨h1, h2⟩
        | succ i => have := h3 i (by simpa using hi); simp only [List.getD_cons_succ]; omega
      · cases i with
        | zero => exact (h3 0 (by simpa using hi)).1
        | succ i => exact h4 i (by simpa using hi)
    · rintro ⟨h3, h4⟩
      have h0 := h3 0 (by simp)
      refine ⟨h0, fun i hi => ⟨?_, (h3 (i + 1) (by simpa using hi)).2⟩, fun i hi => h4 (i + 1) (by simpa using hi)⟩
      have key : ∀ i, i < l.length → a < l.getD i default := by
        intro i
        induction i with
        | zero => intro hi; exact h4 0 (by simpa using hi)
        | succ i ih => intro hi; have := h4 (i + 1) (by simpa using hi); simp only [List.getD_cons_succ] at this; have := ih (by omega); omega
      exact key i hi
theorem rStates_wp {l : List Int} {n : Int} (hp : l.length ≤ 17592186044416) : wp_rStates l n (fun r0 => r0 = nStates l n) := by
  refine ⟨fun i => ∀ j < i, (0 ≤ l.getD j default ∧ l.getD j default < n) ∧ (0 < j → l.getD (j - 1) default < l.getD j default), fun j h => absurd h (Nat.not_lt_zero _), fun i hI hi => ?_⟩
  dsimp only at *
  split <;> rename_i h <;> simp only [decide_eq_true_eq] at h
  · have hi' : i < l.length := by omega
    refine ⟨fun h => ?_, fun h => ?_, fun h => ?_, ?_⟩
    · have := of_decide_eq_true h.1; exact ⟨by omega, by omega⟩
    · have := of_decide_eq_true h.1; exact ⟨by omega, by omega⟩
    · have := of_decide_eq_true h.1; exact ⟨by omega, by omega⟩
    have ei : ((i : Int) - 1).toNat = i - 1 := by omega
    rw [ei]
    split <;> rename_i h2 <;> simp only [Bool.or_eq_true, Bool.and_eq_true, decide_eq_true_eq] at h2
    · symm; rw [← Bool.not_eq_true]; intro hc
      obtain ⟨h3, h4⟩ := nStatesK_iff.mp hc
      have h5 := h3 i hi'
      rcases h2 with h2 | ⟨h2, h6⟩
      · omega
      · have := h4 (i - 1) (by omega)
        rw [show i - 1 + 1 = i by omega] at this; omega
    · intro j hj
      rcases Nat.lt_succ_iff_lt_or_eq.mp hj with h3 | rfl
      · exact hI j h3
      · refine ⟨by omega, fun h0 => ?_⟩
        have h0' : (0 : Int) < (j : Int) := by omega
        omega
  · have : i = l.length := by omega
    subst this
    symm; refine nStatesK_iff.mpr ⟨fun j hj => by have := (hI j hj).1; omega, fun j hj => by have := (hI (j + 1) hj).2 (by omega); simpa using this⟩
theorem rRight_wp {n : GNfa} (hp : n.Starts.length ≤ 17592186044416 ∧ n.Ends.length ≤ 17592186044416) : wp_rRight n (fun r0 => r0 = nRight n) := by
  unfold wp_rRight
  rw [nRight_eq]
  refine ⟨fun _ => hp.1, fun _ => hp.2, ?_⟩
  have e : (((((decide (n.States < 0) || decide (4096 < n.States)) || (!nStates n.Starts n.States)) || (!nStates n.Ends n.States)) || decide (65536 < (n.Edges.length : Int)))) = ((((decide (n.States < 0) || decide (4096 < n.States)) || decide (65536 < (n.Edges.length : Int))) || (!nStates n.Starts n.States)) || (!nStates n.Ends n.States)) := by
    cases decide (n.States < 0) <;> cases decide (4096 < n.States) <;> cases nStates n.Starts n.States <;> cases nStates n.Ends n.States <;> cases decide (65536 < (n.Edges.length : Int)) <;> rfl
  rw [e]
  split <;> rename_i h
  · rw [h]; rfl
  · rw [Bool.not_eq_true] at h; rw [h]
    refine ⟨fun k => (n.Edges.drop k).all (nEdge n) = n.Edges.all (nEdge n), rfl, fun k hI hk => ?_⟩
    dsimp only at *
    split <;> rename_i h <;> simp only [decide_eq_true_eq] at h
    · rw [dropc default (by omega : k < n.Edges.length), List.all_cons] at hI
      generalize n.Edges.getD k default = x at *
      have eN : nEdge n x = !((((decide (x.From < 0) || decide (n.States ≤ x.From)) || decide (x.To < 0)) || decide (n.States ≤ x.To)) || decide (x.Set = BSet.zero)) := by
        unfold nEdge nIn
        have h1 : decide (x.From < 0) = !decide (0 ≤ x.From) := by rw [← decide_not]; exact decide_eq_decide.mpr (by omega)
        have h2 : decide (n.States ≤ x.From) = !decide (x.From < n.States) := by rw [← decide_not]; exact decide_eq_decide.mpr (by omega)
        have h3 : decide (x.To < 0) = !decide (0 ≤ x.To) := by rw [← decide_not]; exact decide_eq_decide.mpr (by omega)
        have h4 : decide (n.States ≤ x.To) = !decide (x.To < n.States) := by rw [← decide_not]; exact decide_eq_decide.mpr (by omega)
        rw [h1, h2, h3, h4]; simp [Bool.and_assoc]
      split <;> rename_i h2
      · rw [← hI, eN, h2]; rfl
      · rw [Bool.not_eq_true] at h2
        rw [eN, h2] at hI; simpa using hI
    · rw [drop_end h hk, List.drop_length] at hI; rw [← hI]; rfl
theorem rIn_wp {s : Int} {l : List Int} : wp_rIn s l (fun r0 => r0 = l.contains s) := by
  refine ⟨fun i => (l.drop i).contains s = l.contains s, rfl, fun k hI hk => ?_⟩
  dsimp only at *
  split <;> rename_i h <;> simp only [decide_eq_true_eq] at h
  · rw [dropc default (by omega : k < l.length), List.contains_cons] at hI
    generalize l.getD k default = x at *
    split <;> rename_i h2
    · rw [← hI, beq_iff_eq.mpr (of_decide_eq_true h2).symm]; rfl
    · have : (s == x) = false := by
        rw [beq_eq_false_iff_ne]; intro hc; exact h2 (decide_eq_true hc.symm)
      rw [this] at hI; exact hI
  · rw [drop_end h hk, List.drop_length] at hI; rw [← hI]; rfl
/-- rows of the same states -/
def SameS (l m : List Int) : Prop := ∀ s, l.contains s = m.contains s
theorem SameS.step {n : GNfa} {l m : List Int} (h : SameS l m) (b : UInt8) : nStep n l b = nStep n m b := by
  unfold nStep; congr 1; congr 1; funext x; rw [h x.From]
theorem SameS.snoc {l m : List Int} (h : SameS l m) (s : Int) : SameS (l ++ [s]) (m ++ [s]) := fun q => by
  have := h q
  simp only [List.contains_eq_mem, List.mem_append, List.mem_singleton] at this ⊢
  rw [decide_eq_decide] at this ⊢; rw [this]
theorem SameS.drop {l m : List Int} (h : SameS l m) (s : Int) (hs : l.contains s = true) : SameS l (m ++ [s]) := fun q => by
  have h1 := h q; have h2 := h s
  simp only [List.contains_eq_mem, List.mem_append, List.mem_singleton] at h1 h2 hs ⊢
  rw [decide_eq_decide] at h1 h2 ⊢
  rw [decide_eq_true_eq] at hs
  constructor
  · intro h; exact .inl (h1.mp h)
  · rintro (h | rfl)
    · exact h1.mpr h
    · exact hs
theorem rFew_wp {n : GNfa} (hp : n.Starts.length ≤ 17592186044416 ∧ n.Ends.length ≤ 17592186044416) : wp_rFew n (fun r0 => r0 = nFew n) := by
  refine ⟨fun _ => ⟨by omega, by omega⟩, ?_⟩
  dsimp only
  unfold nFew
  congr 1
  · congr 1; exact decide_eq_decide.mpr (by omega)
  · exact decide_eq_decide.mpr (by omega)
end Go.Proofs.Ytbaciogbhjcdoaa
