/- Plain proofs of what the functions of layer 15 compute. No condition. -/
import Derived.Test.YtbaciogbhjcdoaaW15
import Derived.Test.YtbaciogbhjcdoaaPg
set_option linter.unusedVariables false
set_option linter.unusedSimpArgs false
namespace Go.Proofs.Ytbaciogbhjcdoaa
theorem isNaNI_wp {x : Int} : wp_isNaNI x (fun r0 => r0 = false) := by simp [wp_isNaNI]
theorem cmpInt_wp {x : Int} {y : Int} : wp_cmpInt x y (fun r0 => r0 = (cmpI x y)) := by
  unfold wp_cmpInt cmpI
  by_cases h : x < y <;> by_cases h2 : y < x <;> simp [h, h2]
theorem isNaNW_wp {x : BitVec 64} : wp_isNaNW x (fun r0 => r0 = false) := by simp [wp_isNaNW]
theorem cmpWord_wp {x : BitVec 64} {y : BitVec 64} : wp_cmpWord x y (fun r0 => r0 = (cmpW x y)) := by
  unfold wp_cmpWord cmpW
  by_cases h : x < y <;> by_cases h2 : y < x <;> simp [h, h2]
theorem cmpWords_wp {s1 : List (BitVec 64)} {s2 : List (BitVec 64)} : wp_cmpWords s1 s2 (fun r0 => r0 = (cmpL cmpW s1 s2)) := by
  refine cnt0 (fun k => cmpL cmpW (s1.drop k) (s2.drop k) = cmpL cmpW s1 s2) rfl (fun k hI hk => ?_) (fun hI => ?_)
  · dsimp only at hI ⊢
    rw [dropk default hk] at hI
    split <;> rename_i h <;> simp only [decide_eq_true_eq] at h
    · rw [List.drop_eq_nil_of_le (by omega : s2.length ≤ k)] at hI; exact hI
    · rw [dropk default (by omega : k < s2.length)] at hI
      simp only [cmpL, orZ] at hI
      refine ⟨by omega, ?_⟩
      split <;> rename_i h2
      · have h2' : ¬ cmpW (s1.getD k default) (s2.getD k default) = 0 := by simpa using h2
        rw [if_pos h2'] at hI; exact hI
      · have h2' : cmpW (s1.getD k default) (s2.getD k default) = 0 := by simpa using h2
        rw [if_neg (by simpa using h2')] at hI; exact hI
  · rw [List.drop_length] at hI
    split <;> rename_i h <;> simp only [decide_eq_true_eq] at h
    · rw [dropk default (by omega : s1.length < s2.length)] at hI; exact hI
    · rw [List.drop_eq_nil_of_le (by omega : s2.length ≤ s1.length)] at hI; exact hI
theorem cmpOr_wp {vals : List Int} : wp_cmpOr vals (fun r0 => r0 = (orL vals)) := by
  refine cnt0 (fun k => orL (vals.drop k) = orL vals) rfl (fun k hI hk => ?_) (fun hI => ?_)
  · dsimp only at hI ⊢
    rw [dropk default hk] at hI
    simp only [orL, orZ] at hI
    split <;> rename_i h2
    · have h2' : ¬ vals.getD k default = 0 := by simpa using h2
      rw [if_pos h2'] at hI; exact hI
    · have h2' : vals.getD k default = 0 := by simpa using h2
      rw [if_neg (by simpa using h2')] at hI; exact hI
  · rw [List.drop_length] at hI; exact hI
theorem cmpStr_wp {a : List UInt8} {b : List UInt8} : wp_cmpStr a b (fun r0 => r0 = (cmpS a b)) := rfl
theorem orZ_zero (a : Int) : orZ a 0 = a := by unfold orZ; split <;> simp_all
theorem cmpTips_wp {a : GTip} {b : GTip} : wp_cmpTips a b (fun r0 => r0 = (cmpTip a b)) := by
  simp [wp_cmpTips, orL, cmpTip, orZ_zero]
theorem copies_wp {x : GArc} : wp_copies x (fun r0 => r0 = (b2i x.Copy)) := by
  unfold wp_copies b2i
  split <;> simp_all
theorem cmpArcs_wp {a : GArc} {b : GArc} : wp_cmpArcs a b (fun r0 => r0 = (cmpArc a b)) := by
  simp [wp_cmpArcs, orL, cmpArc, orZ_zero, wds]
theorem cloneStr_wp {s : List (List UInt8)} (hp : s.length ≤ 1000000000000) : wp_cloneStr s (fun r0 => r0 = s) := gClone (b := 16) (n := 0) (by omega)
theorem cloneTip_wp {s : List GTip} (hp : s.length ≤ 1000000000000) : wp_cloneTip s (fun r0 => r0 = s) := gClone (b := 24) (n := 0) (by omega)
theorem cloneArc_wp {s : List GArc} (hp : s.length ≤ 1000000000000) : wp_cloneArc s (fun r0 => r0 = s) := gClone (b := 72) (n := 0) (by omega)
theorem compactStr_wp {s : List (List UInt8)} (hp : s.length ≤ 1000000000000) : wp_compactStr s (fun r0 => r0 = (cpL s)) := gCompact hp
theorem compactInt15_wp {s : List Int} (hp : s.length ≤ 1000000000000) : wp_compactInt15 s (fun r0 => r0 = (cpL s)) := gCompact hp
theorem compactTip_wp {s : List GTip} (hp : s.length ≤ 1000000000000) : wp_compactTip s (fun r0 => r0 = (cpL s)) := gCompact hp
theorem compactArc_wp {s : List GArc} (hp : s.length ≤ 1000000000000) : wp_compactArc s (fun r0 => r0 = (cpL s)) := gCompact hp
theorem srt_le {α : Type} {cf : α → α → Int} {l : List α} (hp : l.length ≤ 1000000000000) : (srtL cf l).length ≤ 1000000000000 := by rw [(srtL_perm cf l).length_eq]; exact hp
theorem orderedStr_wp {l : List (List UInt8)} {less : ((List UInt8) → (List UInt8) → Int)} (hp : l.length ≤ 1000000000000 ∧ TotC less) : wp_orderedStr l less (fun r0 => r0 = (ordL less l)) := ⟨hp.1, ⟨hp.2, by omega⟩, srt_le hp.1, rfl⟩
theorem orderedInt15_wp {l : List Int} {less : (Int → Int → Int)} (hp : l.length ≤ 1000000000000 ∧ TotC less) : wp_orderedInt15 l less (fun r0 => r0 = (ordL less l)) := ⟨by omega, ⟨hp.2, by omega⟩, srt_le hp.1, rfl⟩
theorem orderedTip_wp {l : List GTip} {less : (GTip → GTip → Int)} (hp : l.length ≤ 1000000000000 ∧ TotC less) : wp_orderedTip l less (fun r0 => r0 = (ordL less l)) := ⟨hp.1, ⟨hp.2, by omega⟩, srt_le hp.1, rfl⟩
theorem orderedArc_wp {l : List GArc} {less : (GArc → GArc → Int)} (hp : l.length ≤ 1000000000000 ∧ TotC less) : wp_orderedArc l less (fun r0 => r0 = (ordL less l)) := ⟨hp.1, ⟨hp.2, by omega⟩, srt_le hp.1, rfl⟩
theorem fCheck1_wp {s : Int} {c0 : GFst} : wp_fCheck1 s c0 (fun r0 => r0 = fIn c0 s) := rfl
theorem fCheck2_wp {x : GTip} {c0 : GFst} : wp_fCheck2 x c0 (fun r0 => r0 = fTipBad c0 x) := rfl
theorem indexTip_wp {s : List GTip} {f : (GTip → Bool)} : wp_indexTip s f (fun r0 => r0 = idxF f s) := gIndex
theorem containsTip_wp {s : List GTip} {f : (GTip → Bool)} : wp_containsTip s f (fun r0 => r0 = s.any f) := gContains
theorem all_not {α : Type} (p : α → Bool) (l : List α) : (l.all fun x => !p x) = !(l.any p) := by
  induction l with
  | nil => rfl
  | cons a l ih => simp [List.all_cons, List.any_cons, ih]
theorem fArcOk_eq (t : GFst) (x : GArc) : (((!fIn t x.From) || (!fIn t x.To)) || decide (x.Set = BSet.zero) || decide ((1024 : Int) < (x.Out.length : Int))) = !fArcOk t x := by
  have h : decide ((1024 : Int) < (x.Out.length : Int)) = !decide (x.Out.length ≤ 1024) := by rw [← decide_not]; exact decide_eq_decide.mpr (by omega)
  rw [h]; simp [fArcOk, Bool.not_and, Bool.or_assoc]
theorem fRight_eq (t : GFst) : fRight t = (!((((decide (t.States < 0) || decide (1024 < t.States)) || decide (16384 < (t.Arcs.length : Int))) || decide (1024 < (t.Starts.length : Int))) || decide (1024 < (t.Ends.length : Int))) && (!(t.Starts.any (fun q0 => fTipBad t q0) || t.Ends.any (fun q0 => fTipBad t q0)) && t.Arcs.all (fArcOk t))) := by
  have h1 : decide (t.States < 0) = !decide (0 ≤ t.States) := by rw [← decide_not]; exact decide_eq_decide.mpr (by omega)
  have h2 : decide (1024 < t.States) = !decide (t.States ≤ 1024) := by rw [← decide_not]; exact decide_eq_decide.mpr (by omega)
  have h3 : decide (16384 < (t.Arcs.length : Int)) = !decide (t.Arcs.length ≤ 16384) := by rw [← decide_not]; exact decide_eq_decide.mpr (by omega)
  have h4 : decide (1024 < (t.Starts.length : Int)) = !decide (t.Starts.length ≤ 1024) := by rw [← decide_not]; exact decide_eq_decide.mpr (by omega)
  have h5 : decide (1024 < (t.Ends.length : Int)) = !decide (t.Ends.length ≤ 1024) := by rw [← decide_not]; exact decide_eq_decide.mpr (by omega)
  rw [h1, h2, h3, h4, h5]
  simp only [fRight, all_not]
  simp [Bool.and_assoc, Bool.not_or]
theorem fCheckP_wp {t : GFst} : wp_fCheckP t (fun r0 => r0 = fCheck t) := by
  unfold wp_fCheckP fCheck
  rw [fRight_eq]
  split <;> rename_i h
  · rw [h]; rfl
  · rw [Bool.not_eq_true] at h; rw [h]
    split <;> rename_i h2
    · rw [h2]; rfl
    · rw [Bool.not_eq_true] at h2; rw [h2]
      refine cnt0 (fun k => (t.Arcs.drop k).all (fArcOk t) = t.Arcs.all (fArcOk t)) rfl (fun k hI hk => ?_) (fun hI => ?_)
      · dsimp only at hI ⊢
        rw [dropk default hk, List.all_cons] at hI
        split <;> rename_i h3
        · rw [fArcOk_eq, Bool.not_eq_true'] at h3
          rw [← hI, h3]; rfl
        · rw [fArcOk_eq, Bool.not_eq_true', Bool.not_eq_false] at h3
          rw [h3, Bool.true_and] at hI; exact hI
      · rw [List.drop_length] at hI; rw [← hI]; rfl
/-- what comes of one pair, by some arcs -/
def fRow (p : GTip) (b : UInt8) (l : List GArc) : List GTip := (l.filter fun x => decide (x.From = p.State) && x.Set.has b.toNat).map fun x => ⟨x.To, p.Out ++ fOutB x b⟩
theorem fRaw_snoc (t : GFst) (l : List GTip) (p : GTip) (b : UInt8) : fRaw t (l ++ [p]) b = fRaw t l b ++ fRow p b t.Arcs := by
  unfold fRaw
  rw [List.flatMap_append]
  simp [fRow]
theorem fRow_snoc (p : GTip) (b : UInt8) (l : List GArc) (x : GArc) : fRow p b (l ++ [x]) = fRow p b l ++ (if x.From = p.State ∧ x.Set.has b.toNat = true then [⟨x.To, p.Out ++ fOutB x b⟩] else []) := by
  unfold fRow
  rw [List.filter_append, List.map_append]
  congr 1
  by_cases h1 : x.From = p.State <;> by_cases h2 : x.Set.has b.toNat = true <;> simp [h1, h2]
theorem mem_fRaw {t : GFst} {l : List GTip} {b : UInt8} {q : GTip} : q ∈ fRaw t l b ↔ ∃ p ∈ l, q ∈ fRow p b t.Arcs := by
  simp only [fRaw, List.mem_flatMap, fRow]
theorem fRaw_congr {t : GFst} {a c : List GTip} {b : UInt8} (h : ∀ q, q ∈ a ↔ q ∈ c) (q : GTip) : q ∈ fRaw t a b ↔ q ∈ fRaw t c b := by
  rw [mem_fRaw, mem_fRaw]
  exact ⟨fun ⟨p, h1, h2⟩ => ⟨p, (h p).1 h1, h2⟩, fun ⟨p, h1, h2⟩ => ⟨p, (h p).2 h1, h2⟩⟩
theorem mem_keys {K V : Type} {l : List (K × V)} {e : K × V} (h : e ∈ l) : e.1 ∈ keys l := List.mem_map_of_mem h
theorem fStepP_wp {t : GFst} {xat : List (GTip × Bool)} {b : UInt8} (hp : (∀ x ∈ t.Arcs, x.Out.length ≤ 1024) ∧ ∀ p ∈ keys xat, p.Out.length ≤ 1000000000) : wp_fStepP t xat b (fun r0 => KeysOf r0 (fRaw t (keys xat) b)) := by
  refine rng1 (fun next D => KeysOf next (fRaw t (keys D) b)) KeysOf.nil (fun next D hD hJ => hJ.congr (fRaw_congr fun q => ?_)) (fun next D R j hD hJ hj => ?_)
  · exact (hD.map Prod.fst).mem_iff
  · have hmem : R.getD j default ∈ xat := hD.mem_iff.1 (List.mem_append.2 (.inr (getk_mem hj)))
    have hlen := hp.2 _ (mem_keys hmem)
    generalize he : R.getD j default = e at *
    refine cnt1 (fun n2 k => KeysOf n2 (fRaw t (keys D) b ++ fRow e.1 b (t.Arcs.take k))) (by simpa [fRow] using hJ) (fun n2 k hI hk => ?_) (fun n2 hI => ?_)
    · have hx := hp.1 _ (getk_mem (d := default) hk)
      dsimp only at hI ⊢
      rw [takek default hk, fRow_snoc]
      generalize t.Arcs.getD k default = x at *
      split <;> rename_i h
      · rw [if_neg (by
          rintro ⟨h1, h2⟩
          simp [h1, h2] at h), List.append_nil]
        exact hI
      · have h' : x.From = e.1.State ∧ x.Set.has b.toNat = true := by
          simpa using h
        rw [if_pos h']
        refine ⟨by omega, fun s => s = e.1.Out ++ fOutB x b, ?_, fun s hs => ?_⟩
        · unfold fOutB
          split <;> rename_i hc
          · exact ⟨by rw [List.length_append]; omega, by rw [List.append_assoc]⟩
          · rw [List.append_nil]
        · subst hs
          rw [← List.append_assoc]
          exact hI.put _ _
    · refine ⟨D ++ [e], by rw [← he]; exact perm_round hD hj, ?_⟩
      try dsimp only at hI ⊢
      rw [List.take_length] at hI
      rw [keys, List.map_append, List.map_cons, List.map_nil, fRaw_snoc]
      exact hI
theorem linTip : LinC cmpTip := by
  have := (linI.lex linS).via (fun t : GTip => (t.State, t.Out)) fun a b h => by
    obtain ⟨a1, a2⟩ := a; obtain ⟨b1, b2⟩ := b
    simp only [Prod.mk.injEq] at h
    rw [h.1, h.2]
  exact this
theorem linArc : LinC cmpArc := by
  have := (linI.lex (linI.lex (linW.list.lex (linS.lex linI)))).via (fun t : GArc => (t.From, t.To, wds t.Set, t.Out, b2i t.Copy)) fun a b h => by
    obtain ⟨a1, a2, ⟨a3, a4, a5, a6⟩, a7, a8⟩ := a; obtain ⟨b1, b2, ⟨b3, b4, b5, b6⟩, b7, b8⟩ := b
    simp only [Prod.mk.injEq, wds, List.cons.injEq, and_true] at h
    obtain ⟨rfl, rfl, ⟨rfl, rfl, rfl, rfl⟩, rfl, h⟩ := h
    have : a8 = b8 := by cases a8 <;> cases b8 <;> simp [b2i] at h ⊢
    rw [this]
  exact this
theorem fArcs_le {t : GFst} (h : fRight t = true) : ∀ x ∈ t.Arcs, x.Out.length ≤ 1024 := by
  simp only [fRight, Bool.and_eq_true, List.all_eq_true, decide_eq_true_eq] at h
  intro x hx
  have := h.2 x hx
  simp only [fArcOk, Bool.and_eq_true, decide_eq_true_eq] at this
  exact this.2
theorem fTip_le {t : GFst} {x : GTip} (h : fTipBad t x = false) : x.Out.length ≤ 1024 := by
  simp only [fTipBad, Bool.or_eq_false_iff, decide_eq_false_iff_not] at h
  omega
theorem fStarts_le {t : GFst} (h : fRight t = true) : ∀ x ∈ t.Starts, x.Out.length ≤ 1024 := by
  simp only [fRight, Bool.and_eq_true, List.all_eq_true, decide_eq_true_eq, Bool.not_eq_true'] at h
  exact fun x hx => fTip_le (h.1.1.2 x hx)
theorem fEnds_le {t : GFst} (h : fRight t = true) : ∀ x ∈ t.Ends, x.Out.length ≤ 1024 := by
  simp only [fRight, Bool.and_eq_true, List.all_eq_true, decide_eq_true_eq, Bool.not_eq_true'] at h
  exact fun x hx => fTip_le (h.1.2 x hx)
theorem fLens_le {t : GFst} (h : fRight t = true) : t.Arcs.length ≤ 16384 ∧ t.Starts.length ≤ 1024 ∧ t.Ends.length ≤ 1024 := by
  simp only [fRight, Bool.and_eq_true, decide_eq_true_eq] at h
  exact ⟨h.1.1.1.1.1.2, h.1.1.1.1.2, h.1.1.1.2⟩
theorem fReach_snoc (t : GFst) (w : List UInt8) (b : UInt8) : fReach t (w ++ [b]) = fRaw t (fReach t w) b := by
  unfold fReach; rw [List.foldl_append]; rfl
theorem fRow_len {p : GTip} {b : UInt8} {l : List GArc} {q : GTip} {n : Nat} (hl : ∀ x ∈ l, x.Out.length ≤ 1024) (hp : p.Out.length ≤ n) (h : q ∈ fRow p b l) : q.Out.length ≤ n + 1025 := by
  simp only [fRow, List.mem_map, List.mem_filter] at h
  obtain ⟨x, ⟨hx, _⟩, rfl⟩ := h
  have := hl x hx
  simp only [List.length_append, fOutB]
  split <;> simp <;> omega
theorem fReach_len {t : GFst} (h : fRight t = true) (w : List UInt8) : ∀ k, k ≤ w.length → ∀ q ∈ fReach t (w.take k), q.Out.length ≤ 1024 + k * 1025
  | 0, _, q, hq => by simpa using fStarts_le h q (by simpa [fReach] using hq)
  | k + 1, hk, q, hq => by
    rw [takek default hk, fReach_snoc, mem_fRaw] at hq
    obtain ⟨p, hp, hq⟩ := hq
    have := fRow_len (fArcs_le h) (fReach_len h w k (by omega) p hp) hq
    omega
theorem fOutRaw_snoc (t : GFst) (l : List GTip) (p : GTip) : fOutRaw t (l ++ [p]) = fOutRaw t l ++ ((t.Ends.filter fun x => decide (x.State = p.State)).map fun x => p.Out ++ x.Out) := by
  unfold fOutRaw
  rw [List.flatMap_append]
  simp
theorem fOutRaw_congr {t : GFst} {a c : List GTip} (h : ∀ q, q ∈ a ↔ q ∈ c) (q : List UInt8) : q ∈ fOutRaw t a ↔ q ∈ fOutRaw t c := by
  simp only [fOutRaw, List.mem_flatMap]
  exact ⟨fun ⟨p, h1, h2⟩ => ⟨p, (h p).1 h1, h2⟩, fun ⟨p, h1, h2⟩ => ⟨p, (h p).2 h1, h2⟩⟩
theorem fMany_false {t : GFst} {w : List UInt8} : fMany t w = false ↔ ∀ k, k ≤ w.length → card (fReach t (w.take k)) ≤ 4096 := by
  simp only [fMany, List.any_eq_false, List.mem_range, decide_eq_true_eq]
  exact ⟨fun h k hk => by have := h k (by omega); omega, fun h k hk => by have := h k (by omega); omega⟩
theorem fMany_true {t : GFst} {w : List UInt8} {k : Nat} (hk : k ≤ w.length) (h : 4096 < card (fReach t (w.take k))) : fMany t w = true := by
  cases hm : fMany t w with
  | true => rfl
  | false => have := fMany_false.1 hm k hk; omega
theorem fOutsP_wp {t : GFst} {w : List UInt8} : wp_fOutsP t w (fun r0 r1 => r0 = (fOuts t w).1 ∧ r1 = (fOuts t w).2) := by
  unfold wp_fOutsP fOuts fCheck
  cases hR : fRight t with
  | false => simp
  | true =>
    simp only [if_true, Bool.not_eq_true', decide_eq_false_iff_not, not_true_eq_false, if_false]
    split <;> rename_i hw <;> simp only [decide_eq_true_eq] at hw
    · rw [if_pos (by omega)]; exact ⟨rfl, rfl⟩
    rw [if_neg (by omega)]
    have hl := fLens_le hR
    refine cnt1 (fun m k => KeysOf m (t.Starts.take k)) (by simpa using KeysOf.nil) (fun m k hI hk => ?_) (fun m hI => ?_)
    · dsimp only at hI ⊢
      rw [takek default hk]; exact hI.put _ _
    refine ⟨by omega, ?_⟩
    try dsimp only at hI
    rw [List.take_length] at hI
    refine cnt1 (fun m k => KeysOf m (fReach t (w.take k)) ∧ ∀ j, j < k → card (fReach t (w.take j)) ≤ 4096) ⟨by simpa [fReach] using hI, fun j h => absurd h (by omega)⟩ (fun m k hI hk => ?_) (fun m hI => ?_)
    · obtain ⟨h1, h2⟩ := hI
      have hml := h1.len
      split <;> rename_i hm <;> simp only [decide_eq_true_eq] at hm
      · rw [fMany_true (by omega : k ≤ w.length) (by omega)]; exact ⟨rfl, rfl⟩
      · refine ⟨⟨fArcs_le hR, fun p hp => ?_⟩, fun r hr => ⟨?_, fun j hj => ?_⟩⟩
        · have := fReach_len hR w k (by omega) p ((h1.2 p).1 hp)
          omega
        · rw [takek default hk, fReach_snoc]
          exact hr.congr (fRaw_congr h1.2)
        · by_cases e : j < k
          · exact h2 j e
          · obtain rfl : j = k := by omega
            omega
    · obtain ⟨h1, h2⟩ := hI
      have hml := h1.len
      rw [List.take_length] at h1 hml
      split <;> rename_i hm <;> simp only [decide_eq_true_eq] at hm
      · rw [fMany_true (Nat.le_refl _) (by rw [List.take_length]; omega)]; exact ⟨rfl, rfl⟩
      · have hF : fMany t w = false := fMany_false.2 fun k hk => by
          by_cases e : k < w.length
          · exact h2 k e
          · obtain rfl : k = w.length := by omega
            rw [List.take_length]; omega
        rw [hF]
        have hlen : ∀ p ∈ keys m, p.Out.length ≤ 1000000 := fun p hp => by
          have := fReach_len hR w w.length (Nat.le_refl _) p (by rw [List.take_length]; exact (h1.2 p).1 hp)
          omega
        refine rng1 (fun out D => out = fOutRaw t (keys D) ∧ out.length ≤ 1024 * D.length) ⟨rfl, by simp⟩ (fun out D hD hJ => ?_) (fun out D R j hD hJ hj => ?_)
        · have hDl := hD.length_eq
          refine ⟨⟨by have := hJ.2; omega, linS.tot⟩, ?_, rfl⟩
          refine ordL_congr linS.tot fun q => ?_
          rw [hJ.1]
          exact fOutRaw_congr (fun q => ((hD.map Prod.fst).mem_iff).trans (h1.2 q)) q
        · have hmem : R.getD j default ∈ m := hD.mem_iff.1 (List.mem_append.2 (.inr (getk_mem hj)))
          have hle := hlen _ (mem_keys hmem)
          have hDR := hD.length_eq
          rw [List.length_append] at hDR
          generalize he : R.getD j default = e at *
          refine cnt1 (fun o k => o = out ++ ((t.Ends.take k).filter fun x => decide (x.State = e.1.State)).map (fun x => e.1.Out ++ x.Out) ∧ o.length ≤ out.length + k) ⟨by simp, by omega⟩ (fun o k hI hk => ?_) (fun o hI => ?_)
          · obtain ⟨i1, i2⟩ := hI
            have hx := fEnds_le hR _ (getk_mem (d := default) hk)
            dsimp only
            rw [takek default hk, List.filter_append, List.map_append]
            generalize t.Ends.getD k default = x at *
            split <;> rename_i h <;> simp only [decide_eq_true_eq] at h
            · refine ⟨by omega, by have := hJ.2; omega, ?_, by rw [List.length_append]; simp; omega⟩
              rw [i1]; simp [h]
            · refine ⟨?_, by omega⟩
              rw [i1]; simp [h]
          · obtain ⟨i1, i2⟩ := hI
            refine ⟨D ++ [e], by rw [← he]; exact perm_round hD hj, ?_, ?_⟩
            · rw [i1, List.take_length, hJ.1, show keys (D ++ [e]) = keys D ++ [e.1] by simp [keys], fOutRaw_snoc]
            · have := hJ.2
              rw [List.length_append]; simp only [List.length_cons, List.length_nil]; omega
theorem indexStr_wp {s : List (List UInt8)} {xv : List UInt8} : wp_indexStr s xv (fun r0 => r0 = idxF (fun q => decide (q = xv)) s) := by
  have h := gIndex (p := fun q => decide (q = xv)) (s := s)
  unfold wp_indexStr
  obtain ⟨I, h0, h1⟩ := h
  refine ⟨I, h0, fun k hk hle => ?_⟩
  have := h1 k hk hle
  simp only [eq_comm (a := xv)]
  exact this
theorem containsStr_wp {s : List (List UInt8)} {xv : List UInt8} : wp_containsStr s xv (fun r0 => r0 = (s.contains xv)) := by
  unfold wp_containsStr
  rw [gContains]
  show (s.any fun q => decide (q = xv)) = s.contains xv
  rw [Bool.eq_iff_iff]
  simp
theorem fHasP_wp {t : GFst} {w : List UInt8} {out : List UInt8} : wp_fHasP t w out (fun r0 r1 => r0 = (fHas t w out).1 ∧ r1 = (fHas t w out).2) := ⟨rfl, rfl⟩
theorem fStatesP_wp {l : List GTip} (hp : l.length ≤ 1000000) : wp_fStatesP l (fun r0 => r0 = fStates l) := by
  refine cnt1 (fun o k => o = (l.take k).map (·.State) ∧ o.length = k) ⟨by simp, rfl⟩ (fun o k hI hk => ?_) (fun o hI => ?_)
  · obtain ⟨h1, h2⟩ := hI
    refine ⟨by omega, ?_, by rw [List.length_append]; simp [h2]⟩
    rw [takek default hk, List.map_append, h1]; rfl
  · obtain ⟨h1, h2⟩ := hI
    rw [List.take_length] at h1
    exact ⟨⟨by omega, linI.tot⟩, by rw [h1]; rfl⟩
theorem fInP_wp {t : GFst} : wp_fInP t (fun r0 r1 => r0 = (fInN t).1 ∧ r1 = (fInN t).2) := by
  unfold wp_fInP fInN fCheck
  cases hR : fRight t with
  | false => simp [nZero]
  | true =>
    simp only [if_true, Bool.not_eq_true', decide_eq_false_iff_not, not_true_eq_false, if_false]
    have hl := fLens_le hR
    refine ⟨by omega, by omega, ?_⟩
    refine cnt1 (fun n k => n = ⟨t.States, fStates t.Starts, fStates t.Ends, (t.Arcs.take k).map fun x => ⟨x.From, x.To, x.Set⟩⟩) (by simp) (fun n k hI hk => ?_) (fun n hI => ?_)
    · subst hI
      refine ⟨by simp; omega, ?_⟩
      dsimp only
      rw [takek default hk, List.map_append]; rfl
    · subst hI
      rw [List.take_length]; exact ⟨rfl, trivial⟩
theorem fSortP_wp {t : GFst} : wp_fSortP t (fun r0 r1 => r0 = (fSort t).1 ∧ r1 = (fSort t).2) := by
  unfold wp_fSortP fSort fCheck
  cases hR : fRight t with
  | false => simp [fZero]
  | true =>
    simp only [if_true, Bool.not_eq_true', decide_eq_false_iff_not, not_true_eq_false, if_false]
    have hl := fLens_le hR
    exact ⟨⟨by omega, linTip.tot⟩, ⟨by omega, linTip.tot⟩, ⟨by omega, linArc.tot⟩, rfl, trivial⟩
theorem rTexts_wp {a : List (List UInt8)} {b : List (List UInt8)} : wp_rTexts a b (fun r0 => r0 = decide (a = b)) := gSame
theorem rSameTips_wp {a : List GTip} {b : List GTip} : wp_rSameTips a b (fun r0 => r0 = decide (a = b)) := gSame
theorem rSame15_wp {a : GFst} {b : GFst} : wp_rSame15 a b (fun r0 => r0 = decide (a = b)) := by
  unfold wp_rSame15
  obtain ⟨a1, a2, a3, a4⟩ := a
  obtain ⟨b1, b2, b3, b4⟩ := b
  dsimp only
  by_cases h1 : a1 = b1
  · by_cases h2 : a2 = b2
    · by_cases h3 : a3 = b3
      · subst h1 h2 h3
        have := gSame (a := a4) (b := b4)
        simp only [GFst.mk.injEq, true_and]
        simpa using this
      · simp [h3]
    · simp [h2]
  · simp [h1]
/-- a sum that stops early -/
theorem gFew {l : List Nat} {m : Nat} {n0 : Int} {A : (Int → Int → Prop) → (Int → Int → Nat) → Int → Int → Prop} {B : Int → Prop} (hm : l.length = m) (h0 : 0 ≤ n0)
    (hs : ∀ (I : Int → Int → Prop) (μ : Int → Int → Nat) (n : Int) (i : Nat), 0 ≤ n ∧ n ≤ 60 → i < m → (I (n + (l.getD i 0 : Nat)) (i + 1) ∧ μ (n + (l.getD i 0 : Nat)) (i + 1) < μ n i) → A I μ n i)
    (he : ∀ n, n0 ≤ n → n ≤ n0 + (l.sum : Nat) → (n ≤ 60 → n = n0 + (l.sum : Nat)) → B n) :
    ∃ (I : Int → Int → Prop) (μ : Int → Int → Nat), I n0 0 ∧ ∀ n i : Int, I n i → if (decide (i < (m : Int)) && decide (n ≤ 60)) = true then A I μ n i else B n := by
  subst hm
  refine ⟨fun n i => ∃ i' : Nat, i = i' ∧ i' ≤ l.length ∧ n = n0 + ((l.take i').sum : Nat), fun n i => l.length - i.toNat, ⟨0, rfl, Nat.zero_le _, by simp⟩, ?_⟩
  rintro n _ ⟨i, rfl, hi, hn⟩
  have hsum : (l.take i).sum ≤ l.sum := by
    conv => rhs; rw [← List.take_append_drop i l, List.sum_append]
    omega
  split <;> rename_i h <;> simp only [Bool.and_eq_true, decide_eq_true_eq] at h
  · refine hs _ _ _ _ ⟨by omega, h.2⟩ (by omega) ⟨⟨i + 1, by omega, by omega, ?_⟩, by show l.length - ((i : Int) + 1).toNat < l.length - (i : Int).toNat; omega⟩
    rw [takek 0 (by omega), List.sum_append, hn]
    simp only [List.sum_cons, List.sum_nil]
    omega
  · refine he n (by omega) (by omega) fun h60 => ?_
    have : i = l.length := by omega
    rw [hn, this, List.take_length]
theorem getD_map {α β : Type} (f : α → β) (l : List α) (i : Nat) (d : α) (d' : β) (h : i < l.length) : (l.map f).getD i d' = f (l.getD i d) := by
  rw [getk (by simpa using h), getk h, List.getElem_map]
theorem rFew15_wp {t : GFst} (hp : fSane t) : wp_rFew15 t (fun r0 => r0 = fFew t) := by
  obtain ⟨⟨p1, p2, p3⟩, p4, p5, p6⟩ := hp
  refine ⟨by unfold i64; omega, by unfold i64; omega, ?_⟩
  refine gFew (l := t.Starts.map fun x => x.Out.length / 40) (by rw [List.length_map]) (by omega) (fun I μ n i h1 h2 h3 => ?_) (fun n h1 h2 h3 => ?_)
  · rw [getD_map _ _ _ default _ h2] at h3
    have hx := p4 _ (getk_mem (d := default) h2)
    simp only [Int.toNat_natCast]
    refine ⟨by omega, by omega, by unfold i64; omega, by unfold i64; omega, ?_⟩
    rw [Int.natCast_ediv] at h3; exact h3
  refine gFew (l := t.Ends.map fun x => x.Out.length / 40) (by rw [List.length_map]) (by omega) (fun I μ n i h1 h2 h3 => ?_) (fun n2 h4 h5 h6 => ?_)
  · rw [getD_map _ _ _ default _ h2] at h3
    have hx := p5 _ (getk_mem (d := default) h2)
    simp only [Int.toNat_natCast]
    refine ⟨by omega, by omega, by unfold i64; omega, by unfold i64; omega, ?_⟩
    rw [Int.natCast_ediv] at h3; exact h3
  refine gFew (l := t.Arcs.map fun x => x.Out.length / 40) (by rw [List.length_map]) (by omega) (fun I μ n i h1 h2 h3 => ?_) (fun n3 h7 h8 h9 => ?_)
  · rw [getD_map _ _ _ default _ h2] at h3
    have hx := p6 _ (getk_mem (d := default) h2)
    simp only [Int.toNat_natCast]
    refine ⟨by omega, by omega, by unfold i64; omega, by unfold i64; omega, ?_⟩
    rw [Int.natCast_ediv] at h3; exact h3
  unfold fFew
  have : decide (n3 ≤ 60) = decide (fSize t ≤ 60) := by
    refine decide_eq_decide.mpr ?_
    unfold fSize
    omega
  rw [this]
end Go.Proofs.Ytbaciogbhjcdoaa
