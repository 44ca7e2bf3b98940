/- The law of parted texts, in plain terms. No condition. -/
import Derived.Test.YtbaciogbhjcdoaaW10p
set_option linter.unusedVariables false
set_option linter.unusedSimpArgs false
namespace Go.Proofs.Ytbaciogbhjcdoaa
theorem lTk_wp {n : GNfa} {w : List UInt8} (hp : w.length ≤ 140737488351232) : wp_lTk n w (fun r0 => r0 = nTk n w) := ⟨hp, rfl⟩
def tE (s : List UInt8) : List GEdge := s.zipIdx.map fun p => ⟨(p.2 : Int), (p.2 : Int) + 1, BSet.ofL [p.1]⟩
theorem mem_tE {s : List UInt8} {x : GEdge} : x ∈ tE s ↔ ∃ (j : Nat) (c : UInt8), s[j]? = some c ∧ x = ⟨(j : Int), (j : Int) + 1, BSet.ofL [c]⟩ := by
  unfold tE
  simp only [List.mem_map, Prod.exists, List.mem_zipIdx_iff_getElem?]
  constructor
  · rintro ⟨c, j, h1, h2⟩; exact ⟨j, c, h1, h2.symm⟩
  · rintro ⟨j, c, h1, h2⟩; exact ⟨c, j, h1, h2.symm⟩
theorem has_one (b c : UInt8) : (BSet.ofL [c]).has b.toNat = decide (b = c) := by
  rw [BSet.has_ofL _ b.toNat_lt]
  simp only [List.any_cons, List.any_nil, Bool.or_false]
  exact decide_eq_decide.mpr UInt8.toNat_inj
theorem way_tE {s : List UInt8} : ∀ {w : List UInt8} {i : Nat} {q : Int}, Way (tE s) w (i : Int) q ↔ q = (i : Int) + w.length ∧ ∃ r, s.drop i = w ++ r
  | [], i, q => by
    simp only [Way]
    constructor
    · intro h; exact ⟨by simp [h], s.drop i, rfl⟩
    · rintro ⟨h, _⟩; simp [h]
  | b :: w, i, q => by
    simp only [Way]
    constructor
    · rintro ⟨x, hx, h1, h2, h3⟩
      obtain ⟨j, c, hj, rfl⟩ := mem_tE.mp hx
      have hji : j = i := by dsimp only at h1; omega
      subst hji
      dsimp only at h2 h3
      rw [has_one, decide_eq_true_eq] at h2
      obtain ⟨h4, r, h5⟩ := (way_tE (i := j + 1)).mp (by exact_mod_cast h3)
      refine ⟨by rw [h4]; simp; omega, r, ?_⟩
      obtain ⟨hl, he⟩ := List.getElem?_eq_some_iff.mp hj
      rw [List.drop_eq_getElem_cons hl, he, h5, h2]; rfl
    · rintro ⟨h1, r, h2⟩
      have hl : i < s.length := by
        rcases Nat.lt_or_ge i s.length with h | h
        · exact h
        · rw [List.drop_eq_nil_of_le h] at h2; simp at h2
      rw [List.drop_eq_getElem_cons hl] at h2
      obtain ⟨h3, h4⟩ := List.cons.inj h2
      refine ⟨⟨(i : Int), (i : Int) + 1, BSet.ofL [b]⟩, mem_tE.mpr ⟨i, b, by rw [List.getElem?_eq_getElem hl, h3], rfl⟩, rfl, by rw [has_one]; simp, ?_⟩
      have := (way_tE (s := s) (w := w) (i := i + 1) (q := q)).mpr ⟨by rw [h1]; simp; omega, r, h4⟩
      exact_mod_cast this
theorem ofL_one_ne (c : UInt8) : BSet.ofL [c] ≠ BSet.zero := fun h => by
  have := has_one c c
  rw [h, BSet.has_zero] at this
  simp at this
theorem text_ok {s : List UInt8} (h : s.length ≤ 256) : nText s = (⟨(s.length : Int) + 1, [0], [(s.length : Int)], tE s⟩, 0) := by
  unfold nText; rw [if_pos h]; rfl
theorem text_right {s : List UInt8} (h : s.length ≤ 256) : nRight ⟨(s.length : Int) + 1, [0], [(s.length : Int)], tE s⟩ = true := by
  refine nRight_iff.mpr ⟨⟨by dsimp only; omega, by dsimp only; omega, by simp [tE]; omega⟩, by simp [nStates, nStatesK] <;> omega, by simp [nStates, nStatesK] <;> omega, fun x hx => ?_⟩
  obtain ⟨j, c, hj, rfl⟩ := mem_tE.mp hx
  obtain ⟨hl, he⟩ := List.getElem?_eq_some_iff.mp hj
  dsimp only
  exact ⟨by omega, by omega, by omega, by omega, ofL_one_ne c⟩
theorem text_tk {s : List UInt8} (h : s.length ≤ 256) (w : List UInt8) : nTk (nText s).1 w = decide (s = w) := by
  rw [text_ok h, nTk_eq, text_right h, Bool.true_and, Bool.eq_iff_iff, nAcc_iff, decide_eq_true_eq]
  simp only [List.mem_singleton]
  constructor
  · rintro ⟨p, rfl, q, rfl, hw⟩
    obtain ⟨h1, r, h2⟩ := (way_tE (i := 0)).mp hw
    rw [List.drop_zero] at h2
    have h3 := congrArg List.length h2
    rw [List.length_append] at h3
    have : r = [] := List.length_eq_zero_iff.mp (by simp at h1; omega)
    rw [h2, this, List.append_nil]
  · rintro rfl
    exact ⟨0, rfl, _, rfl, (way_tE (i := 0)).mpr ⟨by simp, [], by simp⟩⟩
theorem set_tk (t : BSet) (w : List UInt8) : nTk (nSet t) w = (decide ((w.length : Int) = 1) && t.has (w.getD 0 0).toNat) := by
  have hr : nRight (nSet t) = true := by
    unfold nSet
    by_cases h : t = BSet.zero
    · rw [if_pos h]; decide
    · rw [if_neg h]
      refine nRight_iff.mpr ⟨⟨(by decide : (0 : Int) ≤ 2), (by decide : (2 : Int) ≤ 4096), by simp⟩, (by decide : nStates [0] 2 = true), (by decide : nStates [1] 2 = true), fun x hx => ?_⟩
      rw [List.mem_singleton] at hx; subst hx
      exact ⟨(by decide : (0 : Int) ≤ 0), (by decide : (0 : Int) < 2), (by decide : (0 : Int) ≤ 1), (by decide : (1 : Int) < 2), h⟩
  have he : ∀ x, x ∈ (nSet t).Edges ↔ t ≠ BSet.zero ∧ x = ⟨0, 1, t⟩ := fun x => by
    unfold nSet
    by_cases h : t = BSet.zero
    · simp [h]
    · simp [h]
  rw [nTk_eq, hr, Bool.true_and, Bool.eq_iff_iff, nAcc_iff]
  simp only [show (nSet t).Starts = [0] from rfl, show (nSet t).Ends = [1] from rfl, List.mem_singleton, Bool.and_eq_true, decide_eq_true_eq]
  constructor
  · rintro ⟨p, rfl, q, rfl, hw⟩
    match w, hw with
    | [], hw => exact absurd (show (0 : Int) = 1 from hw) (by decide)
    | [b], ⟨x, h1, h2, h3, h4⟩ =>
      obtain ⟨_, rfl⟩ := (he x).mp h1
      exact ⟨by simp, h3⟩
    | b :: c :: w, ⟨x, h1, h2, h3, y, h4, h5, _⟩ =>
      obtain ⟨_, rfl⟩ := (he x).mp h1
      obtain ⟨_, rfl⟩ := (he y).mp h4
      exact absurd (show (0 : Int) = 1 from h5) (by decide)
  · rintro ⟨h1, h2⟩
    match w, h1 with
    | [], h1 => simp at h1
    | [b], _ =>
      refine ⟨0, rfl, 1, rfl, ⟨0, 1, t⟩, (he _).mpr ⟨fun h => ?_, rfl⟩, rfl, h2, rfl⟩
      rw [h, BSet.has_zero] at h2; simp at h2
    | b :: c :: w, h1 => simp at h1; omega
theorem alt_tk {a b : GNfa} (h : (nAlt a b).2 = 0) (w : List UInt8) : nTk (nAlt a b).1 w = (nTk a w || nTk b w) := by
  obtain ⟨ha, hb, h1, h2, h3⟩ := nAlt_ok h
  rw [h1, nTk_eq, nTk_eq, nTk_eq, nAltE_right ha hb h2 h3, ha, hb, nAltE_acc ha hb]; simp
theorem cat_tk {a b : GNfa} (h : (nCat a b).2 = 0) (w : List UInt8) : nTk (nCat a b).1 w = true ↔ ∃ i ≤ w.length, (nTk a (w.take i) && nTk b (w.drop i)) = true := by
  obtain ⟨ha, hb, h1, h2, h3⟩ := nCat_ok h
  rw [h1, nTk_eq, nCatE_right ha hb h2 h3, Bool.true_and, nCatE_acc ha hb]
  simp only [nTk_eq, ha, hb, Bool.true_and, Bool.and_eq_true]
  constructor
  · rintro ⟨u, v, rfl, h4, h5⟩; exact ⟨u.length, by simp, by simpa using h4, by simpa using h5⟩
  · rintro ⟨i, hi, h4, h5⟩; exact ⟨w.take i, w.drop i, by simp, h4, h5⟩
theorem lNfaParts_wp {a : GNfa} {b : GNfa} {s : List UInt8} {t : BSet} {w : List UInt8} (hp : (a.Starts.length ≤ 17592186044416 ∧ a.Ends.length ≤ 17592186044416) ∧ (b.Starts.length ≤ 17592186044416 ∧ b.Ends.length ≤ 17592186044416) ∧ s.length ≤ 140737488351232 ∧ w.length ≤ 140737488351232) : wp_lNfaParts a b s t w (fun r0 => r0 = true) := by
  obtain ⟨p1, p2, p3, p4⟩ := hp
  refine ⟨p1, fun _ => p2, ?_⟩
  split
  · rfl
  rename_i hc
  have hs : s.length ≤ 256 := by
    simp only [Bool.or_eq_true, decide_eq_true_eq, not_or] at hc; omega
  have hw : w.length ≤ 12 := by
    simp only [Bool.or_eq_true, decide_eq_true_eq, not_or] at hc; omega
  refine ⟨fun _ => p3, fun _ => p4, fun _ => p4, fun h => ⟨by omega, ?_⟩, ?_⟩
  · have := of_decide_eq_true h.1; omega
  have e0 : (nText s).2 = 0 := by rw [text_ok hs]
  rw [if_neg (by simp [e0, text_tk hs, set_tk])]
  split
  · rfl
  rename_i hc2
  simp only [Bool.or_eq_true, Bool.not_eq_true', decide_eq_false_iff_not, not_or, Decidable.not_not] at hc2
  obtain ⟨h1, h2⟩ := hc2
  refine ⟨fun parted i => 0 ≤ i ∧ i ≤ w.length + 1 ∧ (parted = true ↔ ∃ k : Nat, (k : Int) < i ∧ (nTk a (w.take k) && nTk b (w.drop k)) = true), fun _ i => (w.length + 1 - i).toNat, ⟨by omega, by omega, by simp; intro x hx; omega⟩, fun parted i hI => ?_⟩
  dsimp only at *
  obtain ⟨i0, i1, i2⟩ := hI
  split <;> rename_i h <;> simp only [decide_eq_true_eq] at h
  · refine ⟨fun _ => ⟨i0, h⟩, fun _ => by simp; omega, fun _ => ⟨i0, h⟩, fun _ => by simp; omega, ⟨by omega, by omega⟩, ⟨by omega, by omega, ?_⟩, by omega⟩
    rw [Bool.or_eq_true, i2]
    constructor
    · rintro (⟨k, hk, h3⟩ | h3)
      · exact ⟨k, by omega, h3⟩
      · exact ⟨i.toNat, by omega, h3⟩
    · rintro ⟨k, hk, h3⟩
      by_cases hki : (k : Int) < i
      · exact .inl ⟨k, hki, h3⟩
      · have : i.toNat = k := by omega
        rw [this]; exact .inr h3
  · refine ⟨fun _ => p4, fun _ => p4, fun _ => p4, fun _ => p4, ?_⟩
    have hcat : nTk (nCat a b).1 w = parted := by
      rw [Bool.eq_iff_iff, cat_tk h1, i2]
      constructor
      · rintro ⟨k, hk, h3⟩; exact ⟨k, by omega, h3⟩
      · rintro ⟨k, hk, h3⟩; exact ⟨k, by omega, h3⟩
    rw [hcat, alt_tk h2]; simp
end Go.Proofs.Ytbaciogbhjcdoaa
