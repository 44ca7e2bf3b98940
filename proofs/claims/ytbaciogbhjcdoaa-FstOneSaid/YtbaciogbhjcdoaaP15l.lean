/- Plain proofs of the laws of layer 15. No condition. -/
import Derived.Test.YtbaciogbhjcdoaaW15l
set_option linter.unusedVariables false
set_option linter.unusedSimpArgs false
namespace Go.Proofs.Ytbaciogbhjcdoaa
theorem ordL_one {α : Type} [DecidableEq α] (cf : α → α → Int) (x : α) : ordL cf [x] = [x] := by
  simp [ordL, srtL, cpL, cpK]
def exT : GFst := ⟨2, [⟨0, []⟩], [⟨1, [121]⟩], [⟨0, 1, BSet.ofL [97], [120], true⟩]⟩
theorem ex_outs : fOuts exT [97] = ([[120, 97, 121]], 0) := by
  unfold fOuts
  rw [if_pos (by decide), if_neg (by decide), show fMany exT [97] = false by decide]
  rw [show fOutRaw exT (fReach exT [97]) = [[120, 97, 121]] by decide, ordL_one]
  rfl
theorem lAwake15_wp : wp_lAwake15 (fun r0 => r0 = true) := by
  have h := ex_outs
  unfold wp_lAwake15 fHas
  unfold exT at h
  simp only [h]
  decide
theorem fFew_le {t : GFst} (h : fFew t = true) : t.Starts.length + t.Ends.length + t.Arcs.length ≤ 60 := by
  simp only [fFew, Bool.and_eq_true, decide_eq_true_eq] at h
  have := h.1
  unfold fSize at this
  omega
/-! ## one arc more -/
theorem mem_fRow {p : GTip} {b : UInt8} {l : List GArc} {q : GTip} : q ∈ fRow p b l ↔ ∃ x ∈ l, (x.From = p.State ∧ x.Set.has b.toNat = true) ∧ q = ⟨x.To, p.Out ++ fOutB x b⟩ := by
  simp only [fRow, List.mem_map, List.mem_filter, Bool.and_eq_true, decide_eq_true_eq]
  exact ⟨fun ⟨x, ⟨h1, h2⟩, h3⟩ => ⟨x, h1, h2, h3.symm⟩, fun ⟨x, h1, h2, h3⟩ => ⟨x, ⟨h1, h2⟩, h3.symm⟩⟩
/-- t's beginnings and arcs are s's, too -/
theorem fReach_mono {t s : GFst} (h1 : ∀ x ∈ t.Starts, x ∈ s.Starts) (h2 : ∀ x ∈ t.Arcs, x ∈ s.Arcs) (w : List UInt8) : ∀ k, k ≤ w.length → ∀ q, q ∈ fReach t (w.take k) → q ∈ fReach s (w.take k)
  | 0, _, q, hq => by simpa [fReach] using h1 q (by simpa [fReach] using hq)
  | k + 1, hk, q, hq => by
    rw [takek default hk, fReach_snoc, mem_fRaw] at hq ⊢
    obtain ⟨p, hp, hq⟩ := hq
    obtain ⟨x, hx, hh⟩ := mem_fRow.1 hq
    exact ⟨p, fReach_mono h1 h2 w k (by omega) p hp, mem_fRow.2 ⟨x, h2 x hx, hh⟩⟩
theorem fMany_mono {t s : GFst} (h1 : ∀ x ∈ t.Starts, x ∈ s.Starts) (h2 : ∀ x ∈ t.Arcs, x ∈ s.Arcs) {w : List UInt8} (h : fMany s w = false) : fMany t w = false :=
  fMany_false.2 fun k hk => Nat.le_trans (card_le (fReach_mono h1 h2 w k hk)) (fMany_false.1 h k hk)
theorem fOutRaw_mono {t s : GFst} (h1 : ∀ x ∈ t.Starts, x ∈ s.Starts) (h2 : ∀ x ∈ t.Arcs, x ∈ s.Arcs) (h3 : ∀ x ∈ t.Ends, x ∈ s.Ends) (w : List UInt8) (q : List UInt8) (hq : q ∈ fOutRaw t (fReach t w)) : q ∈ fOutRaw s (fReach s w) := by
  simp only [fOutRaw, List.mem_flatMap, List.mem_map, List.mem_filter] at hq ⊢
  obtain ⟨p, hp, x, ⟨hx, he⟩, hh⟩ := hq
  have := fReach_mono h1 h2 w w.length (Nat.le_refl _) p (by rw [List.take_length]; exact hp)
  rw [List.take_length] at this
  exact ⟨p, this, x, ⟨h3 x hx, he⟩, hh⟩
theorem fOuts_ok {t : GFst} {w : List UInt8} (h : (fOuts t w).2 = 0) : fRight t = true ∧ w.length ≤ 256 ∧ fMany t w = false ∧ (fOuts t w).1 = ordL cmpS (fOutRaw t (fReach t w)) := by
  unfold fOuts at h ⊢
  cases hR : fRight t with
  | false => simp [hR] at h
  | true =>
    simp only [hR, if_true] at h ⊢
    by_cases hw : 256 < w.length
    · simp [hw] at h
    · cases hm : fMany t w with
      | true => simp [hw, hm] at h
      | false => simp [hw, hm]; omega
theorem fOuts_eq {t : GFst} {w : List UInt8} (h1 : fRight t = true) (h2 : w.length ≤ 256) (h3 : fMany t w = false) : fOuts t w = (ordL cmpS (fOutRaw t (fReach t w)), 0) := by
  unfold fOuts
  rw [if_pos h1, if_neg (by omega), h3]; rfl
theorem fRight_iff {t : GFst} : fRight t = true ↔ (0 ≤ t.States ∧ t.States ≤ 1024) ∧ (t.Arcs.length ≤ 16384 ∧ t.Starts.length ≤ 1024 ∧ t.Ends.length ≤ 1024) ∧ (∀ x ∈ t.Starts, fTipBad t x = false) ∧ (∀ x ∈ t.Ends, fTipBad t x = false) ∧ ∀ x ∈ t.Arcs, fArcOk t x = true := by
  simp only [fRight, Bool.and_eq_true, List.all_eq_true, decide_eq_true_eq, Bool.not_eq_true']
  exact ⟨fun ⟨⟨⟨⟨⟨⟨⟨a, b⟩, c⟩, d⟩, e⟩, f⟩, g⟩, h⟩ => ⟨⟨a, b⟩, ⟨c, d, e⟩, f, g, h⟩, fun ⟨⟨a, b⟩, ⟨c, d, e⟩, f, g, h⟩ => ⟨⟨⟨⟨⟨⟨⟨a, b⟩, c⟩, d⟩, e⟩, f⟩, g⟩, h⟩⟩
/-- rising rows: what is in is a part, in order -/
theorem rises_sub {α : Type} {cf : α → α → Int} (h : TotC cf) : ∀ {a b : List α}, Rises cf a → Rises cf b → (∀ x ∈ a, x ∈ b) → a.Sublist b
  | [], b, _, _, _ => List.nil_sublist b
  | x :: a, [], _, _, hm => absurd (hm x List.mem_cons_self) List.not_mem_nil
  | x :: a, y :: b, ha, hb, hm => by
    obtain ⟨a1, a2⟩ := List.pairwise_cons.1 ha
    obtain ⟨b1, b2⟩ := List.pairwise_cons.1 hb
    rcases List.mem_cons.1 (hm x List.mem_cons_self) with q | q
    · subst q
      refine List.Sublist.cons_cons x (rises_sub h a2 b2 fun z hz => ?_)
      rcases List.mem_cons.1 (hm z (List.mem_cons_of_mem _ hz)) with q | q
      · subst q; exact absurd (a1 z hz) (h.irrefl _)
      · exact q
    · refine List.Sublist.cons y (rises_sub h ha b2 fun z hz => ?_)
      rcases List.mem_cons.1 (hm z hz) with e | e
      · subst e
        rcases List.mem_cons.1 hz with e | e
        · rw [e]; exact q
        · exact absurd (h.trans _ _ _ (a1 z e) (b1 x q)) (h.irrefl _)
      · exact e
theorem lFstOne_wp {t : GFst} {x : GArc} {w : List UInt8} (hp : fSane t ∧ x.Out.length ≤ 140737488351232) : wp_lFstOne t x w (fun r0 => r0 = true) := by
  refine ⟨hp.1, ?_⟩
  split <;> rename_i h
  · rfl
  · simp only [Bool.or_eq_true, Bool.not_eq_true', decide_eq_true_eq, not_or, Bool.not_eq_false] at h
    have hF := fFew_le h.1.1
    refine ⟨by omega, by simp; omega, ?_⟩
    rw [List.nil_append]
    generalize hs : (⟨t.States, t.Starts, t.Ends, t.Arcs ++ [x]⟩ : GFst) = s
    have s1 : s.States = t.States := by rw [← hs]
    have s2 : s.Starts = t.Starts := by rw [← hs]
    have s3 : s.Ends = t.Ends := by rw [← hs]
    have s4 : s.Arcs = t.Arcs ++ [x] := by rw [← hs]
    have m1 : ∀ y ∈ t.Starts, y ∈ s.Starts := fun y hy => by rw [s2]; exact hy
    have m2 : ∀ y ∈ t.Arcs, y ∈ s.Arcs := fun y hy => by rw [s4]; exact List.mem_append_left _ hy
    have m3 : ∀ y ∈ t.Ends, y ∈ s.Ends := fun y hy => by rw [s3]; exact hy
    have key : (fOuts s w).2 = 0 → (fOuts t w).2 = 0 := fun hs0 => by
      obtain ⟨r1, r2, r3, _⟩ := fOuts_ok hs0
      have r : fRight t = true := by
        rw [fRight_iff] at r1 ⊢
        obtain ⟨q1, q2, q3, q4, q5⟩ := r1
        have hb : ∀ y, fTipBad t y = fTipBad s y := fun y => by simp [fTipBad, fIn, s1]
        have ha : ∀ y, fArcOk t y = fArcOk s y := fun y => by simp [fArcOk, fIn, s1]
        rw [s4, List.length_append] at q2
        refine ⟨s1 ▸ q1, ⟨by omega, s2 ▸ q2.2.1, s3 ▸ q2.2.2⟩, fun y hy => hb y ▸ q3 y (m1 y hy), fun y hy => hb y ▸ q4 y (m3 y hy), fun y hy => ha y ▸ q5 y (m2 y hy)⟩
      rw [fOuts_eq r r2 (fMany_mono m1 m2 r3)]
    split <;> rename_i h2
    · by_cases hs0 : (fOuts s w).2 = 0
      · simp [key hs0]
      · simp [hs0]
    · simp only [Bool.or_eq_true, Bool.not_eq_true', decide_eq_false_iff_not, not_or, Decidable.not_not] at h2
      obtain ⟨a1, a2, a3, a4⟩ := fOuts_ok h2.1
      obtain ⟨b1, b2, b3, b4⟩ := fOuts_ok h2.2
      have hsub : (fOuts t w).1.Sublist (fOuts s w).1 := by
        rw [a4, b4]
        refine rises_sub linS.tot (ordL_rises linS.tot _) (ordL_rises linS.tot _) fun q hq => ?_
        exact mem_ordL.2 (fOutRaw_mono m1 m2 m3 w q (mem_ordL.1 hq))
      have hbl : (fOuts s w).1.length ≤ 4611686018427387904 := by
        rw [b4]
        refine Nat.le_trans (ordL_len _) ?_
        have e1 : (fOutRaw s (fReach s w)).length ≤ 1024 * (fReach s w).length := by
          have hE := (fRight_iff.1 b1).2.1.2.2
          unfold fOutRaw
          generalize fReach s w = l
          induction l with
          | nil => simp
          | cons p l ih =>
            rw [List.flatMap_cons, List.length_append, List.length_map, List.length_cons]
            have := List.length_filter_le (fun y : GTip => decide (y.State = p.State)) s.Ends
            omega
        have e2 : ∀ k, k ≤ w.length → (fReach s (w.take k)).length ≤ 60 * 61 ^ k := by
          have hst : s.Starts.length ≤ 60 ∧ s.Arcs.length ≤ 61 := by
            rw [s2, s4, List.length_append]
            simp only [List.length_cons, List.length_nil]
            omega
          intro k
          induction k with
          | zero => intro _; simpa [fReach] using hst.1
          | succ k ih =>
            intro hk
            have ih := ih (by omega)
            rw [takek default hk, fReach_snoc]
            have : ∀ l b, (fRaw s l b).length ≤ 61 * l.length := by
              intro l b
              induction l with
              | nil => simp [fRaw]
              | cons p l ih2 =>
                unfold fRaw at ih2 ⊢
                rw [List.flatMap_cons, List.length_append, List.length_map, List.length_cons]
                have := List.length_filter_le (fun y : GArc => decide (y.From = p.State) && y.Set.has b.toNat) s.Arcs
                omega
            refine Nat.le_trans (this _ _) ?_
            rw [Nat.pow_succ]
            have := Nat.mul_le_mul_left 61 ih
            omega
        have e3 := e2 w.length (Nat.le_refl _)
        rw [List.take_length] at e3
        have hw : w.length ≤ 5 := by omega
        have e4 : 61 ^ w.length ≤ 61 ^ 5 := Nat.pow_le_pow_right (by decide) hw
        have e5 : (61 : Nat) ^ 5 = 844596301 := by decide
        omega
      have hle := hsub.length_le
      generalize (fOuts t w).1 = a at *
      generalize (fOuts s w).1 = b at *
      refine ⟨fun k i => ∃ k' i' : Nat, k = k' ∧ i = i' ∧ k' ≤ a.length ∧ i' ≤ b.length ∧ (a.drop k').Sublist (b.drop i'), fun k i => b.length - i.toNat, ⟨0, 0, rfl, rfl, Nat.zero_le _, Nat.zero_le _, by simpa using hsub⟩, ?_⟩
      rintro _ _ ⟨k, i, rfl, rfl, hk, hi, hS⟩
      split <;> rename_i h3
      · simp only [Bool.and_eq_true, decide_eq_true_eq] at h3
        refine ⟨by omega, by omega, ?_⟩
        simp only [Int.toNat_natCast]
        rw [dropk default (by omega : k < a.length), dropk default (by omega : i < b.length)] at hS
        split <;> rename_i h4
        · simp only [decide_eq_true_eq] at h4
          rw [h4] at hS
          refine ⟨by unfold i64; omega, by unfold i64; omega, ⟨k + 1, i + 1, rfl, rfl, by omega, by omega, ?_⟩, by omega⟩
          exact List.cons_sublist_cons.1 hS
        · simp only [decide_eq_true_eq] at h4
          refine ⟨by unfold i64; omega, ⟨k, i + 1, rfl, rfl, by omega, by omega, ?_⟩, by omega⟩
          rw [dropk default (by omega : k < a.length)]
          generalize a.getD k default = u at *
          generalize b.getD i default = v at *
          cases hS with
          | cons _ hh => exact hh
          | cons_cons _ hh => exact absurd rfl h4
      · simp only [Bool.and_eq_true, decide_eq_true_eq, not_and] at h3
        have : k = a.length := by
          by_cases hib : i < b.length
          · have := h3 (by omega); omega
          · rw [List.drop_eq_nil_of_le (by omega : b.length ≤ i)] at hS
            have := List.drop_eq_nil_iff.1 (List.sublist_nil.1 hS)
            omega
        simp [this]
/-! ## in order -/
theorem fSrt_right {t : GFst} (h : fRight t = true) : fRight (fSrt t) = true := by
  rw [fRight_iff] at h ⊢
  obtain ⟨q1, q2, q3, q4, q5⟩ := h
  have l1 := ordL_len (cf := cmpTip) t.Starts
  have l2 := ordL_len (cf := cmpTip) t.Ends
  have l3 := ordL_len (cf := cmpArc) t.Arcs
  exact ⟨q1, ⟨by simp only [fSrt]; omega, by simp only [fSrt]; omega, by simp only [fSrt]; omega⟩, fun x hx => q3 x (mem_ordL.1 hx), fun x hx => q4 x (mem_ordL.1 hx), fun x hx => q5 x (mem_ordL.1 hx)⟩
theorem fOuts_same {t s : GFst} (hr : fRight t = fRight s) (h1 : ∀ x, x ∈ t.Starts ↔ x ∈ s.Starts) (h2 : ∀ x, x ∈ t.Arcs ↔ x ∈ s.Arcs) (h3 : ∀ x, x ∈ t.Ends ↔ x ∈ s.Ends) (w : List UInt8) : fOuts t w = fOuts s w := by
  have hm : fMany t w = fMany s w := by
    cases hs : fMany s w with
    | false => exact fMany_mono (fun x => (h1 x).1) (fun x => (h2 x).1) hs
    | true =>
      cases ht : fMany t w with
      | true => rfl
      | false => rw [fMany_mono (fun x => (h1 x).2) (fun x => (h2 x).2) ht] at hs; cases hs
  have ho : ordL cmpS (fOutRaw t (fReach t w)) = ordL cmpS (fOutRaw s (fReach s w)) := ordL_congr linS.tot fun q =>
    ⟨fOutRaw_mono (fun x => (h1 x).1) (fun x => (h2 x).1) (fun x => (h3 x).1) w q, fOutRaw_mono (fun x => (h1 x).2) (fun x => (h2 x).2) (fun x => (h3 x).2) w q⟩
  unfold fOuts
  rw [hr, hm, ho]
theorem lFstSort_wp {t : GFst} {w : List UInt8} {xat : Int} (hp : fSane t) : wp_lFstSort t w xat (fun r0 => r0 = true) := by
  refine ⟨hp, ?_⟩
  split <;> rename_i h
  · rfl
  · simp only [Bool.or_eq_true, Bool.not_eq_true', decide_eq_true_eq, not_or, Bool.not_eq_false] at h
    cases hR : fRight t with
    | false => simp [fSort, fCheck, hR]
    | true =>
      have e1 : fSort t = (fSrt t, 0) := by simp [fSort, hR]
      have e2 : fSort (fSrt t) = (fSrt t, 0) := by
        simp only [fSort, fSrt_right hR, if_true]
        congr 1
        simp only [fSrt, ordL_idem linTip.tot, ordL_idem linArc.tot]
      have e3 : fOuts (fSrt t) w = fOuts t w := fOuts_same ((fSrt_right hR).trans hR.symm) (fun x => mem_ordL) (fun x => mem_ordL) (fun x => mem_ordL) w
      simp only [e1, e2, e3]
      simp only [decide_true, Bool.not_true, Bool.or_self, if_false, Bool.false_eq_true]
      split <;> rename_i h2
      · first | rfl | trivial
      · simp only [Bool.or_eq_true, decide_eq_true_eq, not_or] at h2
        have hF := fFew_le h.1
        refine ⟨by omega, by omega, ?_⟩
        have hk : xat.toNat < t.Arcs.length := by omega
        have hmem := getk_mem (d := default) hk
        generalize t.Arcs.getD xat.toNat default = y at *
        have e4 : fRight ⟨t.States, t.Starts, t.Ends, [y] ++ t.Arcs⟩ = true := by
          rw [fRight_iff] at hR ⊢
          obtain ⟨q1, q2, q3, q4, q5⟩ := hR
          refine ⟨q1, ⟨by simp; omega, q2.2.1, q2.2.2⟩, q3, q4, fun z hz => ?_⟩
          simp only [List.singleton_append, List.mem_cons] at hz
          rcases hz with rfl | hz
          · exact q5 z hmem
          · exact q5 z hz
        have e5 : fSort ⟨t.States, t.Starts, t.Ends, [y] ++ t.Arcs⟩ = (fSrt t, 0) := by
          simp only [fSort, e4, if_true]
          congr 1
          simp only [fSrt, GFst.mk.injEq, true_and]
          refine ordL_congr linArc.tot fun z => ?_
          simp only [List.singleton_append, List.mem_cons]
          exact ⟨fun hz => hz.elim (fun e => e ▸ hmem) id, .inr⟩
        rw [e5]
        simp
/-! ## what goes in -/
theorem nStatesK_of {n : Int} : ∀ {l : List Int} {last : Int}, Rises cmpI (last :: l) → (∀ x ∈ l, x < n) → nStatesK n last l = true
  | [], _, _, _ => rfl
  | s :: l, last, hr, hb => by
    obtain ⟨h1, h2⟩ := List.pairwise_cons.1 hr
    have h3 := h1 s List.mem_cons_self
    have h4 : last < s := by
      simp only [cmpI] at h3
      split at h3
      · assumption
      · split at h3 <;> simp at h3
    simp only [nStatesK]
    rw [decide_eq_true h4, decide_eq_true (hb s List.mem_cons_self), nStatesK_of h2 fun x hx => hb x (List.mem_cons_of_mem _ hx)]
    rfl
theorem fStates_ok {t : GFst} {l : List GTip} (h : ∀ x ∈ l, fTipBad t x = false) : nStates (fStates l) t.States = true := by
  have hb : ∀ x ∈ fStates l, 0 ≤ x ∧ x < t.States := fun x hx => by
    obtain ⟨y, hy, rfl⟩ := List.mem_map.1 (mem_ordL.1 hx)
    have := h y hy
    simp only [fTipBad, fIn, Bool.or_eq_false_iff, Bool.not_eq_false', Bool.and_eq_true, decide_eq_true_eq] at this
    exact this.1
  refine nStatesK_of (List.pairwise_cons.2 ⟨fun x hx => ?_, ordL_rises linI.tot _⟩) fun x hx => (hb x hx).2
  have := (hb x hx).1
  simp only [cmpI]
  rw [if_pos (by omega)]; decide
theorem fNfa_right {t : GFst} (h : fRight t = true) : nRight (fNfa t) = true := by
  rw [fRight_iff] at h
  obtain ⟨q1, q2, q3, q4, q5⟩ := h
  simp only [nRight, fNfa, List.length_map, Bool.and_eq_true, List.all_eq_true]
  refine ⟨⟨⟨⟨⟨decide_eq_true q1.1, decide_eq_true (by omega)⟩, decide_eq_true (by omega)⟩, fStates_ok q3⟩, fStates_ok q4⟩, fun x hx => ?_⟩
  obtain ⟨y, hy, rfl⟩ := List.mem_map.1 hx
  have h5 := q5 y hy
  simp only [fArcOk, fIn] at h5
  simp only [nEdge, nIn]
  simp only [Bool.and_eq_true] at h5 ⊢
  exact h5.1
theorem nRun_snoc (n : GNfa) (w : List UInt8) (b : UInt8) : nRun n (w ++ [b]) = nStep n (nRun n w) b := by
  unfold nRun; rw [List.foldl_append]; rfl
theorem fNfa_run {t : GFst} (w : List UInt8) : ∀ k, k ≤ w.length → ∀ s, s ∈ nRun (fNfa t) (w.take k) ↔ ∃ q ∈ fReach t (w.take k), q.State = s
  | 0, _, s => by
    simp only [List.take_zero, nRun, fReach, List.foldl_nil, fNfa, fStates, mem_ordL, List.mem_map]
  | k + 1, hk, s => by
    rw [takek default hk, nRun_snoc, fReach_snoc]
    have ih := fNfa_run (t := t) w k (by omega)
    simp only [nStep, List.mem_map, List.mem_filter, fNfa, Bool.and_eq_true, List.contains_iff_mem]
    constructor
    · rintro ⟨_, ⟨⟨x, hx, rfl⟩, h1, h2⟩, rfl⟩
      obtain ⟨p, hp, he⟩ := (ih _).1 h1
      exact ⟨⟨x.To, p.Out ++ fOutB x _⟩, mem_fRaw.2 ⟨p, hp, mem_fRow.2 ⟨x, hx, ⟨he.symm, h2⟩, rfl⟩⟩, rfl⟩
    · rintro ⟨q, hq, rfl⟩
      obtain ⟨p, hp, hq⟩ := mem_fRaw.1 hq
      obtain ⟨x, hx, ⟨h1, h2⟩, rfl⟩ := mem_fRow.1 hq
      exact ⟨⟨x.From, x.To, x.Set⟩, ⟨⟨x, hx, rfl⟩, (ih _).2 ⟨p, hp, h1.symm⟩, h2⟩, rfl⟩
theorem fNfa_acc {t : GFst} (w : List UInt8) : nAcc (fNfa t) w = decide (0 < ((ordL cmpS (fOutRaw t (fReach t w))).length : Int)) := by
  rw [Bool.eq_iff_iff, decide_eq_true_eq]
  have e : (0 < ((ordL cmpS (fOutRaw t (fReach t w))).length : Int)) ↔ ∃ q, q ∈ fOutRaw t (fReach t w) := by
    constructor
    · intro h
      have : 0 < (ordL cmpS (fOutRaw t (fReach t w))).length := by omega
      obtain ⟨q, hq⟩ := List.exists_mem_of_length_pos this
      exact ⟨q, mem_ordL.1 hq⟩
    · rintro ⟨q, hq⟩
      have := List.length_pos_of_mem (mem_ordL (cf := cmpS).2 hq)
      omega
  rw [e]
  have hrun := fNfa_run (t := t) w w.length (Nat.le_refl _)
  rw [List.take_length] at hrun
  unfold nAcc
  simp only [List.any_eq_true, List.contains_iff_mem, hrun]
  simp only [show (fNfa t).Ends = fStates t.Ends from rfl, fStates, mem_ordL, List.mem_map, fOutRaw, List.mem_flatMap, List.mem_filter, decide_eq_true_eq]
  constructor
  · rintro ⟨_, ⟨x, hx, rfl⟩, p, hp, he⟩
    exact ⟨_, p, hp, x, ⟨hx, he.symm⟩, rfl⟩
  · rintro ⟨_, p, hp, x, ⟨hx, he⟩, rfl⟩
    exact ⟨_, ⟨x, hx, rfl⟩, p, hp, he.symm⟩
theorem lFstIn_wp {t : GFst} {w : List UInt8} (hp : fSane t) : wp_lFstIn t w (fun r0 => r0 = true) := by
  refine ⟨hp, ?_⟩
  split <;> rename_i h
  · rfl
  · simp only [Bool.or_eq_true, Bool.not_eq_true', decide_eq_true_eq, not_or, Bool.not_eq_false] at h
    cases hR : fRight t with
    | false => simp [fOuts, fInN, hR]
    | true =>
      have e1 : fInN t = (fNfa t, 0) := by simp [fInN, hR]
      rw [e1]
      split <;> rename_i h2
      · simp only [decide_true, Bool.not_true, Bool.or_false, Bool.not_eq_true', decide_eq_false_iff_not] at h2
        unfold fOuts at h2 ⊢
        simp only [hR, if_true] at h2 ⊢
        by_cases hw : 256 < w.length
        · simp [hw]
        · cases hm : fMany t w with
          | true => simp [hw]
          | false => simp [hw, hm] at h2
      · simp only [decide_true, Bool.not_true, Bool.or_false, Bool.not_eq_true', decide_eq_false_iff_not, Decidable.not_not] at h2
        obtain ⟨_, _, _, a4⟩ := fOuts_ok h2
        refine ⟨by omega, ?_⟩
        rw [a4]
        simp [nCheck, nTakes, fNfa_right hR, fNfa_acc]
end Go.Proofs.Ytbaciogbhjcdoaa
