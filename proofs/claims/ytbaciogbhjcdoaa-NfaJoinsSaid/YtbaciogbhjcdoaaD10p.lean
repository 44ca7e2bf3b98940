/- Automatons as ways. No condition. -/
import Derived.Test.YtbaciogbhjcdoaaP10l
set_option linter.unusedVariables false
set_option linter.unusedSimpArgs false
namespace Go.Proofs.Ytbaciogbhjcdoaa
/-- is a text taken (by a right one) -/
def nTk (n : GNfa) (w : List UInt8) : Bool := (nTakes n w).1 && decide ((nTakes n w).2 = 0)
theorem nTk_eq (n : GNfa) (w : List UInt8) : nTk n w = (nRight n && nAcc n w) := by
  unfold nTk nTakes; cases nRight n <;> simp
def Way (E : List GEdge) : List UInt8 → Int → Int → Prop
  | [], p, q => p = q
  | b :: w, p, q => ∃ x ∈ E, x.From = p ∧ x.Set.has b.toNat = true ∧ Way E w x.To q
theorem way_app {E : List GEdge} : ∀ {u v : List UInt8} {p q : Int}, Way E (u ++ v) p q ↔ ∃ m, Way E u p m ∧ Way E v m q
  | [], v, p, q => by simp [Way]
  | b :: u, v, p, q => by
    simp only [List.cons_append, Way, way_app (u := u)]
    constructor
    · rintro ⟨x, h1, h2, h3, m, h4, h5⟩; exact ⟨m, ⟨x, h1, h2, h3, h4⟩, h5⟩
    · rintro ⟨m, ⟨x, h1, h2, h3, h4⟩, h5⟩; exact ⟨x, h1, h2, h3, m, h4, h5⟩
theorem way_mono {E F : List GEdge} (h : ∀ x ∈ E, x ∈ F) : ∀ {w : List UInt8} {p q : Int}, Way E w p q → Way F w p q
  | [], _, _, hw => hw
  | b :: w, p, q, ⟨x, h1, h2, h3, h4⟩ => ⟨x, h x h1, h2, h3, way_mono h h4⟩
theorem mem_step {n : GNfa} {l : List Int} {b : UInt8} {q : Int} : q ∈ nStep n l b ↔ ∃ x ∈ n.Edges, x.From ∈ l ∧ x.Set.has b.toNat = true ∧ x.To = q := by
  unfold nStep
  simp only [List.mem_map, List.mem_filter, Bool.and_eq_true, List.contains_iff_mem]
  constructor
  · rintro ⟨x, ⟨h1, h2, h3⟩, h4⟩; exact ⟨x, h1, h2, h3, h4⟩
  · rintro ⟨x, h1, h2, h3, h4⟩; exact ⟨x, ⟨h1, h2, h3⟩, h4⟩
theorem mem_fold_step {n : GNfa} : ∀ {w : List UInt8} {l : List Int} {q : Int}, q ∈ w.foldl (nStep n) l ↔ ∃ p ∈ l, Way n.Edges w p q
  | [], l, q => by simp [Way]
  | b :: w, l, q => by
    simp only [List.foldl_cons, mem_fold_step (w := w), mem_step, Way]
    constructor
    · rintro ⟨p, ⟨x, h1, h2, h3, h4⟩, h5⟩; exact ⟨x.From, h2, x, h1, rfl, h3, h4 ▸ h5⟩
    · rintro ⟨p, h1, x, h2, h3, h4, h5⟩; exact ⟨x.To, ⟨x, h2, h3 ▸ h1, h4, rfl⟩, h5⟩
theorem nAcc_iff {n : GNfa} {w : List UInt8} : nAcc n w = true ↔ ∃ p ∈ n.Starts, ∃ q ∈ n.Ends, Way n.Edges w p q := by
  unfold nAcc nRun
  simp only [List.any_eq_true, List.contains_iff_mem, mem_fold_step]
  constructor
  · rintro ⟨q, h1, p, h2, h3⟩; exact ⟨p, h2, q, h1, h3⟩
  · rintro ⟨p, h2, q, h1, h3⟩; exact ⟨q, h1, p, h2, h3⟩
theorem nEmpty_iff {n : GNfa} : nEmpty n = true ↔ ∃ p ∈ n.Starts, p ∈ n.Ends := by
  unfold nEmpty; simp [List.any_eq_true]
theorem nEmpty_acc {n : GNfa} : nEmpty n = nAcc n [] := by
  rw [Bool.eq_iff_iff, nEmpty_iff, nAcc_iff]
  constructor
  · rintro ⟨p, h1, h2⟩; exact ⟨p, h1, p, h2, rfl⟩
  · rintro ⟨p, h1, q, h2, h3⟩; exact ⟨p, h1, (show p = q from h3) ▸ h2⟩
theorem nStatesK_pw {n : Int} : ∀ {l : List Int} {last : Int}, nStatesK n last l = true ↔ (∀ s ∈ l, last < s ∧ s < n) ∧ l.Pairwise (· < ·)
  | [], _ => by simp [nStatesK]
  | a :: l, last => by
    simp only [nStatesK, Bool.and_eq_true, decide_eq_true_eq, nStatesK_pw (l := l), List.pairwise_cons, List.mem_cons]
    constructor
    · rintro ⟨⟨h1, h2⟩, h3, h4⟩
      refine ⟨fun s hs => ?_, fun s hs => (h3 s hs).1, h4⟩
      rcases hs with rfl | hs
      · exact ⟨h1, h2⟩
      · have := h3 s hs; omega
    · rintro ⟨h1, h2, h3⟩
      exact ⟨h1 a (.inl rfl), fun s hs => ⟨h2 s hs, (h1 s (.inr hs)).2⟩, h3⟩
theorem nStates_pw {n : Int} {l : List Int} : nStates l n = true ↔ (∀ s ∈ l, 0 ≤ s ∧ s < n) ∧ l.Pairwise (· < ·) := by
  unfold nStates; rw [nStatesK_pw]
  constructor
  · rintro ⟨h1, h2⟩; exact ⟨fun s hs => by have := h1 s hs; omega, h2⟩
  · rintro ⟨h1, h2⟩; exact ⟨fun s hs => by have := h1 s hs; omega, h2⟩
theorem nRight_iff {n : GNfa} : nRight n = true ↔ (0 ≤ n.States ∧ n.States ≤ 4096 ∧ n.Edges.length ≤ 65536) ∧ nStates n.Starts n.States = true ∧ nStates n.Ends n.States = true ∧ ∀ x ∈ n.Edges, 0 ≤ x.From ∧ x.From < n.States ∧ 0 ≤ x.To ∧ x.To < n.States ∧ x.Set ≠ BSet.zero := by
  simp only [nRight, Bool.and_eq_true, decide_eq_true_eq, List.all_eq_true, nEdge, nIn, Bool.not_eq_true', decide_eq_false_iff_not]
  constructor
  · rintro ⟨⟨⟨⟨⟨h1, h2⟩, h3⟩, h4⟩, h5⟩, h6⟩; exact ⟨⟨h1, h2, h3⟩, h4, h5, fun x hx => by have := h6 x hx; exact ⟨this.1.1.1, this.1.1.2, this.1.2.1, this.1.2.2, this.2⟩⟩
  · rintro ⟨⟨h1, h2, h3⟩, h4, h5, h6⟩; exact ⟨⟨⟨⟨⟨h1, h2⟩, h3⟩, h4⟩, h5⟩, fun x hx => by have := h6 x hx; exact ⟨⟨⟨this.1, this.2.1⟩, this.2.2.1, this.2.2.2.1⟩, this.2.2.2.2⟩⟩
theorem nStates_shift {n m : Int} {l : List Int} (hn : 0 ≤ n) (h : nStates l m = true) : (∀ s ∈ l.map (· + n), n ≤ s ∧ s < n + m) ∧ (l.map (· + n)).Pairwise (· < ·) := by
  obtain ⟨h1, h2⟩ := nStates_pw.mp h
  refine ⟨fun s hs => ?_, ?_⟩
  · obtain ⟨q, hq, rfl⟩ := List.mem_map.mp hs; have := h1 q hq; omega
  · rw [List.pairwise_map]; exact h2.imp (by intro a b h; omega)
theorem nStates_join {n m : Int} {k l : List Int} (hn : 0 ≤ n) (hm : 0 ≤ m) (hk : nStates k n = true) (hl : nStates l m = true) : nStates (k ++ l.map (· + n)) (n + m) = true := by
  obtain ⟨h1, h2⟩ := nStates_pw.mp hk
  obtain ⟨h3, h4⟩ := nStates_shift hn hl
  rw [nStates_pw]
  refine ⟨fun s hs => ?_, List.pairwise_append.mpr ⟨h2, h4, fun a ha b hb => ?_⟩⟩
  · rcases List.mem_append.mp hs with hs | hs
    · have := h1 s hs; omega
    · have := h3 s hs; omega
  · have := h1 a ha; have := h3 b hb; omega
theorem nStates_more {n m : Int} {k : List Int} (hm : 0 ≤ m) (hk : nStates k n = true) : nStates k (n + m) = true := by
  obtain ⟨h1, h2⟩ := nStates_pw.mp hk
  rw [nStates_pw]; exact ⟨fun s hs => by have := h1 s hs; omega, h2⟩
theorem nStates_sh {n m : Int} {l : List Int} (hn : 0 ≤ n) (hl : nStates l m = true) : nStates (l.map (· + n)) (n + m) = true := by
  obtain ⟨h3, h4⟩ := nStates_shift hn hl
  rw [nStates_pw]; exact ⟨fun s hs => by have := h3 s hs; omega, h4⟩
theorem nEnd_ok {n : GNfa} (h : (nEnd n).2 = 0) : nEnd n = (n, 0) ∧ n.States ≤ 4096 ∧ n.Edges.length ≤ 65536 := by
  unfold nEnd at h ⊢
  split at h
  · exact absurd h (by decide)
  · rename_i h2
    simp only [Bool.or_eq_true, decide_eq_true_eq, not_or] at h2
    refine ⟨?_, by omega, by omega⟩
    rw [if_neg (by simp; omega)]
theorem nAlt_ok {a b : GNfa} (h : (nAlt a b).2 = 0) : nRight a = true ∧ nRight b = true ∧ nAlt a b = (nAltE a b, 0) ∧ (nAltE a b).States ≤ 4096 ∧ (nAltE a b).Edges.length ≤ 65536 := by
  unfold nAlt at h ⊢
  cases ha : nRight a <;> cases hb : nRight b <;> rw [ha, hb] at h
  · exact absurd h (by simp)
  · exact absurd h (by simp)
  · exact absurd h (by simp)
  · obtain ⟨h1, h2, h3⟩ := nEnd_ok h; exact ⟨rfl, rfl, h1, h2, h3⟩
theorem nCat_ok {a b : GNfa} (h : (nCat a b).2 = 0) : nRight a = true ∧ nRight b = true ∧ nCat a b = (nCatE a b, 0) ∧ (nCatE a b).States ≤ 4096 ∧ (nCatE a b).Edges.length ≤ 65536 := by
  unfold nCat at h ⊢
  cases ha : nRight a <;> cases hb : nRight b <;> rw [ha, hb] at h
  · exact absurd h (by simp)
  · exact absurd h (by simp)
  · exact absurd h (by simp)
  · obtain ⟨h1, h2, h3⟩ := nEnd_ok h; exact ⟨rfl, rfl, h1, h2, h3⟩
theorem nAltE_right {a b : GNfa} (ha : nRight a = true) (hb : nRight b = true) (h1 : (nAltE a b).States ≤ 4096) (h2 : (nAltE a b).Edges.length ≤ 65536) : nRight (nAltE a b) = true := by
  obtain ⟨⟨a1, a2, a3⟩, a4, a5, a6⟩ := nRight_iff.mp ha
  obtain ⟨⟨b1, b2, b3⟩, b4, b5, b6⟩ := nRight_iff.mp hb
  refine nRight_iff.mpr ⟨⟨by show 0 ≤ a.States + b.States; omega, h1, h2⟩, nStates_join a1 b1 a4 b4, nStates_join a1 b1 a5 b5, fun x hx => ?_⟩
  show 0 ≤ x.From ∧ x.From < a.States + b.States ∧ 0 ≤ x.To ∧ x.To < a.States + b.States ∧ _
  rcases List.mem_append.mp (show x ∈ a.Edges ++ b.Edges.map (eBy a.States) from hx) with hx | hx
  · obtain ⟨q1, q2, q3, q4, q5⟩ := a6 x hx; exact ⟨by omega, by omega, by omega, by omega, q5⟩
  · obtain ⟨y, hy, rfl⟩ := List.mem_map.mp hx
    obtain ⟨q1, q2, q3, q4, q5⟩ := b6 y hy; simp only [eBy]; exact ⟨by omega, by omega, by omega, by omega, q5⟩
def nCross (a b : GNfa) : List GEdge := (a.Edges.filter fun x => a.Ends.contains x.To).flatMap fun x => b.Starts.map fun s => ⟨x.From, s + a.States, x.Set⟩
theorem mem_cross {a b : GNfa} {x : GEdge} : x ∈ nCross a b ↔ ∃ y ∈ a.Edges, y.To ∈ a.Ends ∧ ∃ s ∈ b.Starts, x = ⟨y.From, s + a.States, y.Set⟩ := by
  unfold nCross
  simp only [List.mem_flatMap, List.mem_filter, List.contains_iff_mem, List.mem_map]
  constructor
  · rintro ⟨y, ⟨h1, h2⟩, s, h3, h4⟩; exact ⟨y, h1, h2, s, h3, h4.symm⟩
  · rintro ⟨y, h1, h2, s, h3, h4⟩; exact ⟨y, ⟨h1, h2⟩, s, h3, h4.symm⟩
theorem mem_catE {a b : GNfa} {x : GEdge} : x ∈ (nCatE a b).Edges ↔ (x ∈ a.Edges ∨ ∃ y ∈ b.Edges, x = eBy a.States y) ∨ x ∈ nCross a b := by
  show x ∈ a.Edges ++ b.Edges.map (eBy a.States) ++ nCross a b ↔ _
  simp only [List.mem_append, List.mem_map]
  constructor
  · rintro ((h | ⟨y, h1, h2⟩) | h)
    · exact .inl (.inl h)
    · exact .inl (.inr ⟨y, h1, h2.symm⟩)
    · exact .inr h
  · rintro ((h | ⟨y, h1, h2⟩) | h)
    · exact .inl (.inl h)
    · exact .inl (.inr ⟨y, h1, h2.symm⟩)
    · exact .inr h
theorem nCatE_right {a b : GNfa} (ha : nRight a = true) (hb : nRight b = true) (h1 : (nCatE a b).States ≤ 4096) (h2 : (nCatE a b).Edges.length ≤ 65536) : nRight (nCatE a b) = true := by
  obtain ⟨⟨a1, a2, a3⟩, a4, a5, a6⟩ := nRight_iff.mp ha
  obtain ⟨⟨b1, b2, b3⟩, b4, b5, b6⟩ := nRight_iff.mp hb
  obtain ⟨sb1, sb2⟩ := nStates_pw.mp b4
  refine nRight_iff.mpr ⟨⟨by show 0 ≤ a.States + b.States; omega, h1, h2⟩, ?_, ?_, fun x hx => ?_⟩
  · show nStates (if nEmpty a then a.Starts ++ b.Starts.map (· + a.States) else a.Starts) (a.States + b.States) = true
    split
    · exact nStates_join a1 b1 a4 b4
    · exact nStates_more b1 a4
  · show nStates (if nEmpty b then a.Ends ++ b.Ends.map (· + a.States) else b.Ends.map (· + a.States)) (a.States + b.States) = true
    split
    · exact nStates_join a1 b1 a5 b5
    · exact nStates_sh a1 b5
  show 0 ≤ x.From ∧ x.From < a.States + b.States ∧ 0 ≤ x.To ∧ x.To < a.States + b.States ∧ _
  rcases mem_catE.mp hx with (hx | ⟨y, hy, rfl⟩) | hx
  · obtain ⟨q1, q2, q3, q4, q5⟩ := a6 x hx; exact ⟨by omega, by omega, by omega, by omega, q5⟩
  · obtain ⟨q1, q2, q3, q4, q5⟩ := b6 y hy; simp only [eBy]; exact ⟨by omega, by omega, by omega, by omega, q5⟩
  · obtain ⟨y, hy, _, s, hs, rfl⟩ := mem_cross.mp hx
    obtain ⟨q1, q2, q3, q4, q5⟩ := a6 y hy
    have := sb1 s hs
    exact ⟨by dsimp only; omega, by dsimp only; omega, by dsimp only; omega, by dsimp only; omega, q5⟩
/-- ways in the second part -/
theorem way_shift {E F : List GEdge} {k : Int} (h : ∀ x ∈ E, eBy k x ∈ F) : ∀ {w : List UInt8} {p q : Int}, Way E w p q → Way F w (p + k) (q + k)
  | [], p, q, hw => by have : p = q := hw; exact this ▸ rfl
  | b :: w, p, q, ⟨x, h1, h2, h3, h4⟩ => ⟨eBy k x, h x h1, by simp [eBy, h2], h3, way_shift h h4⟩
theorem way_back {E F : List GEdge} {k : Int} (h : ∀ x ∈ F, k ≤ x.From → ∃ y ∈ E, x = eBy k y) (hk : ∀ y ∈ E, 0 ≤ y.To) : ∀ {w : List UInt8} {p q : Int}, k ≤ p → Way F w p q → k ≤ q ∧ Way E w (p - k) (q - k)
  | [], p, q, hp, hw => by have e : p = q := hw; subst e; exact ⟨hp, rfl⟩
  | b :: w, p, q, hp, ⟨x, h1, h2, h3, h4⟩ => by
    obtain ⟨y, hy, rfl⟩ := h x h1 (by omega)
    have hy0 := hk y hy
    obtain ⟨g1, g2⟩ := way_back h hk (p := (eBy k y).To) (by simp only [eBy]; omega) h4
    refine ⟨g1, y, hy, by simp only [eBy] at h2; omega, h3, ?_⟩
    simpa [eBy] using g2
/-- ways in the first part of Alt -/
theorem way_low {E F : List GEdge} {k : Int} (h : ∀ x ∈ F, x.From < k → x ∈ E) (hk : ∀ y ∈ E, y.To < k) : ∀ {w : List UInt8} {p q : Int}, p < k → Way F w p q → q < k ∧ Way E w p q
  | [], p, q, hp, hw => by have e : p = q := hw; subst e; exact ⟨hp, rfl⟩
  | b :: w, p, q, hp, ⟨x, h1, h2, h3, h4⟩ => by
    have hx := h x h1 (by omega)
    obtain ⟨g1, g2⟩ := way_low h hk (p := x.To) (hk x hx) h4
    exact ⟨g1, x, hx, h2, h3, g2⟩
theorem nAltE_acc {a b : GNfa} (ha : nRight a = true) (hb : nRight b = true) (w : List UInt8) : nAcc (nAltE a b) w = (nAcc a w || nAcc b w) := by
  obtain ⟨⟨a1, a2, a3⟩, a4, a5, a6⟩ := nRight_iff.mp ha
  obtain ⟨⟨b1, b2, b3⟩, b4, b5, b6⟩ := nRight_iff.mp hb
  obtain ⟨sa, _⟩ := nStates_pw.mp a4; obtain ⟨ea, _⟩ := nStates_pw.mp a5; obtain ⟨sb, _⟩ := nStates_pw.mp b4; obtain ⟨eb, _⟩ := nStates_pw.mp b5
  rw [Bool.eq_iff_iff, Bool.or_eq_true, nAcc_iff, nAcc_iff, nAcc_iff]
  have hlow : ∀ x ∈ (nAltE a b).Edges, x.From < a.States → x ∈ a.Edges := fun x hx hlt => by
    rcases List.mem_append.mp (show x ∈ a.Edges ++ b.Edges.map (eBy a.States) from hx) with hx | hx
    · exact hx
    · obtain ⟨y, hy, rfl⟩ := List.mem_map.mp hx; have := b6 y hy; simp only [eBy] at hlt; omega
  have hup : ∀ x ∈ (nAltE a b).Edges, a.States ≤ x.From → ∃ y ∈ b.Edges, x = eBy a.States y := fun x hx hle => by
    rcases List.mem_append.mp (show x ∈ a.Edges ++ b.Edges.map (eBy a.States) from hx) with hx | hx
    · have := a6 x hx; omega
    · obtain ⟨y, hy, rfl⟩ := List.mem_map.mp hx; exact ⟨y, hy, rfl⟩
  constructor
  · rintro ⟨p, hp, q, hq, hw⟩
    rcases List.mem_append.mp (show p ∈ a.Starts ++ b.Starts.map (· + a.States) from hp) with hp | hp
    · have h0 := sa p hp
      obtain ⟨g1, g2⟩ := way_low hlow (fun y hy => (a6 y hy).2.2.2.1) (by omega) hw
      rcases List.mem_append.mp (show q ∈ a.Ends ++ b.Ends.map (· + a.States) from hq) with hq | hq
      · exact .inl ⟨p, hp, q, hq, g2⟩
      · obtain ⟨y, hy, rfl⟩ := List.mem_map.mp hq; have := eb y hy; omega
    · obtain ⟨p', hp', rfl⟩ := List.mem_map.mp hp
      have h0 := sb p' hp'
      obtain ⟨g1, g2⟩ := way_back hup (fun y hy => (b6 y hy).2.2.1) (by omega) hw
      rcases List.mem_append.mp (show q ∈ a.Ends ++ b.Ends.map (· + a.States) from hq) with hq | hq
      · have := ea q hq; omega
      · obtain ⟨y, hy, rfl⟩ := List.mem_map.mp hq
        refine .inr ⟨p', hp', y, hy, ?_⟩
        simpa using g2
  · rintro (⟨p, hp, q, hq, hw⟩ | ⟨p, hp, q, hq, hw⟩)
    · exact ⟨p, List.mem_append_left _ hp, q, List.mem_append_left _ hq, way_mono (fun x hx => List.mem_append_left _ hx) hw⟩
    · exact ⟨p + a.States, List.mem_append_right _ (List.mem_map.mpr ⟨p, hp, rfl⟩), q + a.States, List.mem_append_right _ (List.mem_map.mpr ⟨q, hq, rfl⟩), way_shift (fun x hx => List.mem_append_right _ (List.mem_map.mpr ⟨x, hx, rfl⟩)) hw⟩
theorem mem_catS {a b : GNfa} {p : Int} : p ∈ (nCatE a b).Starts ↔ p ∈ a.Starts ∨ nEmpty a = true ∧ ∃ s ∈ b.Starts, p = s + a.States := by
  show p ∈ (if nEmpty a then a.Starts ++ b.Starts.map (· + a.States) else a.Starts) ↔ _
  cases nEmpty a <;> simp [eq_comm]
theorem mem_catF {a b : GNfa} {p : Int} : p ∈ (nCatE a b).Ends ↔ (nEmpty b = true ∧ p ∈ a.Ends) ∨ ∃ s ∈ b.Ends, p = s + a.States := by
  show p ∈ (if nEmpty b then a.Ends ++ b.Ends.map (· + a.States) else b.Ends.map (· + a.States)) ↔ _
  cases nEmpty b <;> simp [eq_comm]
/-- a way that begins in the first part of Cat: it stays there, or it crosses once -/
theorem way_cross {a b : GNfa} (ha : nRight a = true) (hb : nRight b = true) : ∀ {w : List UInt8} {p q : Int}, p < a.States → Way (nCatE a b).Edges w p q →
    (q < a.States ∧ Way a.Edges w p q) ∨ (a.States ≤ q ∧ ∃ u v e s, w = u ++ v ∧ e ∈ a.Ends ∧ s ∈ b.Starts ∧ Way a.Edges u p e ∧ Way b.Edges v s (q - a.States))
  | [], p, q, hp, hw => by have e : p = q := hw; subst e; exact .inl ⟨hp, rfl⟩
  | c :: w, p, q, hp, ⟨x, h1, h2, h3, h4⟩ => by
    obtain ⟨⟨a1, a2, a3⟩, a4, a5, a6⟩ := nRight_iff.mp ha
    obtain ⟨⟨b1, b2, b3⟩, b4, b5, b6⟩ := nRight_iff.mp hb
    obtain ⟨sb, _⟩ := nStates_pw.mp b4
    rcases mem_catE.mp h1 with (hx | ⟨y, hy, rfl⟩) | hx
    · rcases way_cross ha hb (a6 x hx).2.2.2.1 h4 with ⟨g1, g2⟩ | ⟨g1, u, v, e, s, g2, g3, g4, g5, g6⟩
      · exact .inl ⟨g1, x, hx, h2, h3, g2⟩
      · exact .inr ⟨g1, c :: u, v, e, s, by rw [g2]; rfl, g3, g4, ⟨x, hx, h2, h3, g5⟩, g6⟩
    · have := b6 y hy; simp only [eBy] at h2; omega
    · obtain ⟨y, hy, hye, s, hs, rfl⟩ := mem_cross.mp hx
      have hs0 := sb s hs
      have hup : ∀ x ∈ (nCatE a b).Edges, a.States ≤ x.From → ∃ y ∈ b.Edges, x = eBy a.States y := fun x hx hle => by
        rcases mem_catE.mp hx with (hx | ⟨y, hy, rfl⟩) | hx
        · have := a6 x hx; omega
        · exact ⟨y, hy, rfl⟩
        · obtain ⟨y, hy, _, s, hs, rfl⟩ := mem_cross.mp hx; have := a6 y hy; dsimp only at hle; omega
      obtain ⟨g1, g2⟩ := way_back hup (fun y hy => (b6 y hy).2.2.1) (p := s + a.States) (by omega) h4
      refine .inr ⟨g1, [c], w, y.To, s, rfl, hye, hs, ⟨y, hy, h2, h3, rfl⟩, ?_⟩
      simpa using g2
theorem nCatE_acc {a b : GNfa} (ha : nRight a = true) (hb : nRight b = true) (w : List UInt8) : nAcc (nCatE a b) w = true ↔ ∃ u v, w = u ++ v ∧ nAcc a u = true ∧ nAcc b v = true := by
  obtain ⟨⟨a1, a2, a3⟩, a4, a5, a6⟩ := nRight_iff.mp ha
  obtain ⟨⟨b1, b2, b3⟩, b4, b5, b6⟩ := nRight_iff.mp hb
  obtain ⟨sa, _⟩ := nStates_pw.mp a4; obtain ⟨ea, _⟩ := nStates_pw.mp a5; obtain ⟨sb, _⟩ := nStates_pw.mp b4; obtain ⟨eb, _⟩ := nStates_pw.mp b5
  have hup : ∀ x ∈ (nCatE a b).Edges, a.States ≤ x.From → ∃ y ∈ b.Edges, x = eBy a.States y := fun x hx hle => by
    rcases mem_catE.mp hx with (hx | ⟨y, hy, rfl⟩) | hx
    · have := a6 x hx; omega
    · exact ⟨y, hy, rfl⟩
    · obtain ⟨y, hy, _, s, hs, rfl⟩ := mem_cross.mp hx; have := a6 y hy; dsimp only at hle; omega
  have hsh : ∀ x ∈ b.Edges, eBy a.States x ∈ (nCatE a b).Edges := fun x hx => mem_catE.mpr (.inl (.inr ⟨x, hx, rfl⟩))
  have hlo : ∀ x ∈ a.Edges, x ∈ (nCatE a b).Edges := fun x hx => mem_catE.mpr (.inl (.inl hx))
  rw [nAcc_iff]
  constructor
  · rintro ⟨p, hp, q, hq, hw⟩
    rcases mem_catS.mp hp with hp | ⟨he, s, hs, rfl⟩
    · have h0 := sa p hp
      rcases way_cross ha hb (by omega) hw with ⟨g1, g2⟩ | ⟨g1, u, v, e, s, g2, g3, g4, g5, g6⟩
      · rcases mem_catF.mp hq with ⟨hb0, hq⟩ | ⟨f, hf, rfl⟩
        · exact ⟨w, [], by simp, nAcc_iff.mpr ⟨p, hp, q, hq, g2⟩, by rw [← nEmpty_acc]; exact hb0⟩
        · have := eb f hf; omega
      · rcases mem_catF.mp hq with ⟨hb0, hq⟩ | ⟨f, hf, rfl⟩
        · have := ea q hq; omega
        · exact ⟨u, v, g2, nAcc_iff.mpr ⟨p, hp, e, g3, g5⟩, nAcc_iff.mpr ⟨s, g4, f, hf, by simpa using g6⟩⟩
    · have h0 := sb s hs
      obtain ⟨g1, g2⟩ := way_back hup (fun y hy => (b6 y hy).2.2.1) (p := s + a.States) (by omega) hw
      rcases mem_catF.mp hq with ⟨hb0, hq⟩ | ⟨f, hf, rfl⟩
      · have := ea q hq; omega
      · exact ⟨[], w, rfl, by rw [← nEmpty_acc]; exact he, nAcc_iff.mpr ⟨s, hs, f, hf, by simpa using g2⟩⟩
  · rintro ⟨u, v, rfl, hu, hv⟩
    obtain ⟨s, hs, f, hf, hv⟩ := nAcc_iff.mp hv
    have hf' : f + a.States ∈ (nCatE a b).Ends := mem_catF.mpr (.inr ⟨f, hf, rfl⟩)
    rcases List.eq_nil_or_concat u with rfl | ⟨u', c, rfl⟩
    · exact ⟨s + a.States, mem_catS.mpr (.inr ⟨by rw [nEmpty_acc]; exact hu, s, hs, rfl⟩), f + a.States, hf', way_shift hsh hv⟩
    · rw [List.concat_eq_append] at *
      obtain ⟨p, hp, e, he, hw⟩ := nAcc_iff.mp hu
      obtain ⟨m, h1, x, h2, h3, h4, h5⟩ := way_app.mp hw
      have h5' : x.To = e := h5
      refine ⟨p, mem_catS.mpr (.inl hp), f + a.States, hf', way_app.mpr ⟨s + a.States, way_app.mpr ⟨m, way_mono hlo h1, ⟨x.From, s + a.States, x.Set⟩, mem_catE.mpr (.inr (mem_cross.mpr ⟨x, h2, h5' ▸ he, s, hs, rfl⟩)), h3, h4, rfl⟩, way_shift hsh hv⟩⟩
end Go.Proofs.Ytbaciogbhjcdoaa
