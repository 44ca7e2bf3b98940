/- Plain proofs: how often, and the law of joins. No condition. -/
import Derived.Test.YtbaciogbhjcdoaaW10k
set_option linter.unusedVariables false
set_option linter.unusedSimpArgs false
namespace Go.Proofs.Ytbaciogbhjcdoaa
/-- some automatons, one behind the other -/
def catAll : List GNfa → GNfa × Int → GNfa × Int
  | [], s => s
  | x :: l, s => if s.2 = 0 then catAll l (nCat s.1 x) else s
theorem catAll_stop {l : List GNfa} {s : GNfa × Int} (h : s.2 ≠ 0) : catAll l s = s := by
  cases l with
  | nil => rfl
  | cons x l => unfold catAll; rw [if_neg h]
theorem catAll_app (l m : List GNfa) : ∀ s : GNfa × Int, catAll (l ++ m) s = catAll m (catAll l s) := by
  induction l with
  | nil => intro s; rfl
  | cons x l ih =>
    intro s
    by_cases h : s.2 = 0
    · simp only [List.cons_append, catAll, if_pos h, ih]
    · rw [List.cons_append, catAll_stop h, catAll_stop h, catAll_stop h]
theorem catAll_rep (a : GNfa) : ∀ (k : Nat) (s : GNfa × Int), catAll (List.replicate k a) s = repCat a k s
  | 0, _ => rfl
  | k + 1, s => by
    rw [List.replicate_succ, repCat_succ]
    unfold catAll
    split
    · exact catAll_rep a k _
    · rfl
theorem nEnd_two {n : GNfa} (h : (nEnd n).2 ≠ 0) : nEnd n = (nZero, 2) := by
  unfold nEnd at h ⊢
  split
  · rfl
  · rename_i h2; rw [if_neg h2] at h; exact absurd rfl h
theorem nCat_two {a b : GNfa} (ha : nRight a = true) (hb : nRight b = true) (h : (nCat a b).2 ≠ 0) : nCat a b = (nZero, 2) := by
  unfold nCat at h ⊢
  rw [ha, hb] at h ⊢
  exact nEnd_two h
theorem nRep_eq {a : GNfa} {least most : Int} (hA : nRight a = true) (hT : rTimes least most = true) (hs : most < 0 → (nStar a).2 = 0) (ht : least < most → (nAlt a nNone).2 = 0) :
    nRep a least most = catAll (List.replicate least.toNat a ++ (if most < 0 then [(nStar a).1] else []) ++ List.replicate (most - least).toNat (nAlt a nNone).1) (nNone, 0) := by
  have hT' := hT
  simp only [rTimes, Bool.and_eq_true, Bool.or_eq_true, decide_eq_true_eq] at hT'
  unfold nRep
  rw [hA, hT]
  simp only [Bool.and_self, if_true]
  rw [catAll_app, catAll_app, catAll_rep, catAll_rep]
  generalize repCat a least.toNat (nNone, 0) = s
  by_cases hm : most < 0
  · have hm1 : most = -1 := by omega
    have hz : (most - least).toNat = 0 := by omega
    rw [if_pos hm, hz]
    show _ = catAll [(nStar a).1] s
    by_cases h0 : s.2 = 0
    · rw [if_pos ⟨h0, hm1⟩, if_pos (hs hm)]; simp only [catAll, if_pos h0]
    · rw [if_neg (fun h => h0 h.1), if_neg (fun h => h0 h.2.1), catAll_stop h0]; exact rfl
  · rw [if_neg hm, if_neg (fun h => hm (by omega)), if_neg (fun h => h.2.2 (ht h.1))]; rfl
theorem nStar_two {a : GNfa} (ha : nRight a = true) (h : (nStar a).2 ≠ 0) : (nStar a).2 = 2 := by
  unfold nStar at h ⊢
  rw [ha] at h ⊢
  rw [show (if true = true then nEnd (nStarE a) else (nZero, 1)) = nEnd (nStarE a) from rfl] at h ⊢
  rw [nEnd_two h]
theorem nAlt_two {a b : GNfa} (ha : nRight a = true) (hb : nRight b = true) (h : (nAlt a b).2 ≠ 0) : (nAlt a b).2 = 2 := by
  unfold nAlt at h ⊢
  rw [ha, hb] at h ⊢
  rw [show (if (true && true) = true then nEnd (nAltE a b) else (nZero, 1)) = nEnd (nAltE a b) from rfl] at h ⊢
  rw [nEnd_two h]
theorem nCat_ok' {a b : GNfa} (h : (nCat a b).2 = 0) : nRight a = true ∧ nRight b = true ∧ nCat a b = (nCatE a b, 0) ∧ nRight (nCatE a b) = true ∧ True := by
  obtain ⟨h1, h2, h3, h4, h5⟩ := nCat_ok h
  exact ⟨h1, h2, h3, nCatE_right h1 h2 h4 h5, trivial⟩
theorem nNone_right : nRight nNone = true := by decide +kernel
theorem nCat_right {a b : GNfa} (h : (nCat a b).2 = 0) : nRight (nCat a b).1 = true := by
  obtain ⟨ha, hb, h1, h2, h3⟩ := nCat_ok' h
  rw [h1]; exact h2
/-- behind a right one, again and again: right, or too great -/
theorem repCat_two {a : GNfa} (ha : nRight a = true) : ∀ {k : Nat} {s : GNfa × Int}, (s.2 = 0 ∧ nRight s.1 = true ∨ s = (nZero, 2)) → (repCat a k s).2 = 0 ∧ nRight (repCat a k s).1 = true ∨ repCat a k s = (nZero, 2)
  | 0, _, h => h
  | k + 1, s, h => by
    rw [repCat_succ]
    split
    · rename_i h0
      rcases h with ⟨_, h2⟩ | h
      · refine repCat_two ha ?_
        by_cases h3 : (nCat s.1 a).2 = 0
        · exact .inl ⟨h3, nCat_right h3⟩
        · exact .inr (nCat_two h2 ha h3)
      · rw [h] at h0; exact absurd h0 (by decide)
    · exact h
theorem nRep_star {a : GNfa} {least most : Int} (hA : nRight a = true) (hT : rTimes least most = true) (hm : most < 0) (h : ¬ (nStar a).2 = 0) : nRep a least most = (nZero, 2) := by
  have hT' := hT
  simp only [rTimes, Bool.and_eq_true, Bool.or_eq_true, decide_eq_true_eq] at hT'
  unfold nRep
  rw [hA, hT]
  simp only [Bool.and_self, if_true]
  have h2 := repCat_two hA (k := least.toNat) (s := (nNone, 0)) (.inl ⟨rfl, nNone_right⟩)
  generalize repCat a least.toNat (nNone, 0) = s at *
  have hz : (most - least).toNat = 0 := by omega
  rcases h2 with ⟨h0, _⟩ | h2
  · rw [if_pos ⟨h0, by omega⟩, if_neg h, nStar_two hA h]
  · rw [h2, if_neg (by rintro ⟨h0, _⟩; exact absurd h0 (by decide)), if_neg (by rintro ⟨h0, _⟩; omega), hz]; rfl
theorem nRep_alt {a : GNfa} {least most : Int} (hA : nRight a = true) (hT : rTimes least most = true) (hm : least < most) (h : ¬ (nAlt a nNone).2 = 0) : nRep a least most = (nZero, 2) := by
  have hT' := hT
  simp only [rTimes, Bool.and_eq_true, Bool.or_eq_true, decide_eq_true_eq] at hT'
  unfold nRep
  rw [hA, hT]
  simp only [Bool.and_self, if_true]
  have h2 := repCat_two hA (k := least.toNat) (s := (nNone, 0)) (.inl ⟨rfl, nNone_right⟩)
  generalize repCat a least.toNat (nNone, 0) = s at *
  rw [if_neg (by rintro ⟨_, h3⟩; omega)]
  rcases h2 with ⟨h0, _⟩ | h2
  · rw [if_pos ⟨hm, h0, h⟩, nAlt_two hA nNone_right h]
  · rw [h2, if_neg (by rintro ⟨_, h0, _⟩; exact absurd h0 (by decide)), repCat_stop (by decide)]
theorem nfaRep_wp {a : GNfa} {least : Int} {most : Int} : wp_nfaRep a least most (fun r0 r1 => r0 = (nRep a least most).1 ∧ r1 = (nRep a least most).2) := by
  unfold wp_nfaRep
  rw [nWrong1]
  have eT : ((decide (0 ≤ least) && decide (least ≤ 64)) && ((decide (least ≤ most) && decide (most ≤ 64)) || (decide (most = (-1)) && decide (least ≤ 1)))) = rTimes least most := by
    unfold rTimes
    cases decide (least ≤ most) && decide (most ≤ 64) <;> cases decide (most = (-1)) && decide (least ≤ 1) <;> rfl
  rw [eT]
  cases hA : nRight a
  · unfold nRep; rw [hA]; exact ⟨rfl, rfl⟩
  cases hT : rTimes least most
  · unfold nRep; rw [hA, hT]; exact ⟨rfl, rfl⟩
  have hT' := hT
  simp only [rTimes, Bool.and_eq_true, Bool.or_eq_true, decide_eq_true_eq] at hT'
  refine ⟨⟨rfl, by omega, by omega⟩, fun parts => (most < 0 → (nStar a).2 = 0) ∧ parts = List.replicate least.toNat a ++ (if most < 0 then [(nStar a).1] else []), ?_, ?_⟩
  · split <;> rename_i h <;> simp only [decide_eq_true_eq] at h
    · split <;> rename_i h2
      · have h3 : ¬ (nStar a).2 = 0 := by simpa using h2
        rw [nRep_star hA hT h h3]; exact ⟨rfl, nStar_two hA h3⟩
      · have h3 : (nStar a).2 = 0 := by simpa using h2
        refine ⟨by simp; omega, fun _ => h3, ?_⟩
        rfl
    · exact ⟨fun hm => absurd hm h, by rw [if_neg h]; simp⟩
  rintro parts ⟨hst, hpa⟩
  have hpl : parts.length ≤ 65 := by
    rw [hpa, List.length_append, List.length_replicate]
    split <;> simp <;> omega
  refine ⟨⟨by omega, by omega⟩, fun none parts2 k => none = nNone ∧ ((k : Int) ≤ most - least ∨ k = 0) ∧ (0 < k → (nAlt a nNone).2 = 0) ∧ parts2 = parts ++ List.replicate k (nAlt a nNone).1, ⟨rfl, .inr rfl, fun h => absurd h (by omega), by simp⟩, ?_⟩
  rintro none parts2 k ⟨rfl, hk, hal, rfl⟩
  split <;> rename_i h <;> simp only [decide_eq_true_eq] at h
  · split <;> rename_i h2
    · have h3 : ¬ (nAlt a nNone).2 = 0 := by simpa using h2
      rw [nRep_alt hA hT (by omega) h3]; exact ⟨rfl, nAlt_two hA nNone_right h3⟩
    · have h3 : (nAlt a nNone).2 = 0 := by simpa using h2
      refine ⟨by rw [List.length_append, List.length_replicate]; omega, ⟨by omega, by omega⟩, rfl, .inl (by omega), fun _ => h3, ?_⟩
      rw [List.append_assoc, List.replicate_succ']
  have hk' : k = (most - least).toNat := by omega
  have hR := nRep_eq hA hT hst (fun hm => hal (by omega))
  rw [← hpa, ← hk'] at hR
  refine ⟨fun n e => (n, e) = nRep a least most, ?_, ?_⟩
  · generalize (parts ++ List.replicate k (nAlt a nNone).1) = l at *
    refine ⟨fun n2 e2 k2 => e2 = 0 ∧ catAll (l.drop k2) (n2, e2) = nRep a least most, ⟨rfl, by rw [hR]; rfl⟩, fun n2 e2 k2 hI hk2 => ?_⟩
    dsimp only at *
    obtain ⟨he, hI⟩ := hI
    subst he
    split <;> rename_i h4 <;> simp only [decide_eq_true_eq] at h4
    · rw [dropc default (by omega : k2 < l.length)] at hI
      rw [catAll, if_pos rfl] at hI
      split <;> rename_i h5
      · have h6 : (nCat n2 (l.getD k2 default)).2 ≠ 0 := by simpa using h5
        rw [catAll_stop h6] at hI; exact hI
      · have h6 : (nCat n2 (l.getD k2 default)).2 = 0 := by simpa using h5
        exact ⟨h6, hI⟩
    · rw [drop_end h4 hk2, List.drop_length] at hI; exact hI
  · intro n e h; rw [← h]; exact ⟨rfl, rfl⟩
theorem lNfaJoins_wp {a : GNfa} {b : GNfa} {least : Int} {most : Int} (hp : (a.Starts.length ≤ 17592186044416 ∧ a.Ends.length ≤ 17592186044416) ∧ (b.Starts.length ≤ 17592186044416 ∧ b.Ends.length ≤ 17592186044416)) : wp_lNfaJoins a b least most (fun r0 => r0 = true) := by
  refine ⟨hp.1, fun _ => hp.2, ?_⟩
  split
  · rfl
  · refine ⟨hp, ?_⟩
    rw [if_neg (by simp)]
    exact ⟨hp.1, by simp⟩
end Go.Proofs.Ytbaciogbhjcdoaa
