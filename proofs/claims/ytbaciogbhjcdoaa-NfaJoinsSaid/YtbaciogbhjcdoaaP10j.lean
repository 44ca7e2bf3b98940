/- Plain proofs of how the reference joins automatons. No condition. -/
import Derived.Test.YtbaciogbhjcdoaaW10j
set_option linter.unusedVariables false
set_option linter.unusedSimpArgs false
namespace Go.Proofs.Ytbaciogbhjcdoaa
theorem listEq_wp {α : Type} [DecidableEq α] [Inhabited α] {a b : List α} {Q : Bool → Prop} (hl : a.length = b.length) (hQ : Q (decide (a = b))) : ∃ I_8 : Nat → Prop,
      I_8 0 ∧
      ∀ (i : Nat), I_8 i → i ≤ a.length →
      if decide ((i : Int) < (a.length : Int)) then
        ((0 : Int) ≤ (i : Int) ∧ (i : Int) < (b.length : Int)) ∧
        if (!decide ((a.getD i default) = (b.getD i default))) then
          Q false
        else
          I_8 (i + 1)
      else
        Q true := by
  refine ⟨fun i => a.take i = b.take i, rfl, fun i hI hi => ?_⟩
  dsimp only at *
  split <;> rename_i h <;> simp only [decide_eq_true_eq] at h
  · have h1 : i < a.length := by omega
    have h2 : i < b.length := by omega
    refine ⟨⟨by omega, by omega⟩, ?_⟩
    split <;> rename_i h3
    · have : a ≠ b := by rintro rfl; simp at h3
      rw [decide_eq_false this] at hQ; exact hQ
    · have h4 : a.getD i default = b.getD i default := by simpa using h3
      rw [takec default h1, takec default h2, hI, h4]
  · have e1 : i = a.length := by omega
    rw [e1, List.take_length, hl, List.take_length] at hI
    rw [decide_eq_true hI] at hQ; exact hQ
theorem rInts_wp {a : List Int} {b : List Int} : wp_rInts a b (fun r0 => r0 = decide (a = b)) := by
  unfold wp_rInts
  split <;> rename_i h
  · have : a ≠ b := by rintro rfl; simp at h
    rw [decide_eq_false this]
  · exact listEq_wp (Q := fun r0 => r0 = decide (a = b)) (by simp at h; omega) rfl
theorem rEmpty_wp {n : GNfa} : wp_rEmpty n (fun r0 => r0 = nEmpty n) := by
  refine ⟨fun i => (n.Starts.drop i).any (fun s => n.Ends.contains s) = nEmpty n, rfl, fun i hI hi => ?_⟩
  dsimp only at *
  split <;> rename_i h <;> simp only [decide_eq_true_eq] at h
  · rw [dropc default (by omega : i < n.Starts.length), List.any_cons] at hI
    split <;> rename_i h2
    · rw [h2] at hI; rw [← hI]; rfl
    · rw [Bool.not_eq_true] at h2; rw [h2] at hI; exact hI
  · rw [drop_end h hi, List.drop_length] at hI; exact hI
theorem rSame_wp {a : GNfa} {b : GNfa} : wp_rSame a b (fun r0 => r0 = decide (a = b)) := by
  unfold wp_rSame
  split <;> rename_i h
  · have : a ≠ b := by rintro rfl; simp at h
    rw [decide_eq_false this]
  · simp only [Bool.or_eq_true, Bool.not_eq_true', decide_eq_false_iff_not, not_or, Decidable.not_not] at h
    obtain ⟨⟨⟨h1, h2⟩, h3⟩, h4⟩ := h
    refine listEq_wp (Q := fun r0 => r0 = decide (a = b)) (by omega) ?_
    obtain ⟨a1, a2, a3, a4⟩ := a; obtain ⟨b1, b2, b3, b4⟩ := b
    dsimp only at *
    subst h1 h2 h3
    exact decide_eq_decide.mpr (by simp)
theorem take_drop_one {s : List UInt8} {i : Nat} (h : i < s.length) : (s.take (i + 1)).drop i = [s.getD i 0] := by
  rw [takec 0 h, List.drop_append]; simp [Nat.min_eq_left (Nat.le_of_lt h)]
theorem rText_wp {s : List UInt8} : wp_rText s (fun r0 r1 => r0 = (nText s).1 ∧ r1 = (nText s).2) := by
  unfold wp_rText nText
  by_cases h : s.length ≤ 256
  · rw [if_neg (by simp; omega), if_pos h]
    refine ⟨⟨by omega, by omega⟩, fun n i => n = ⟨(s.length : Int) + 1, [0], [(s.length : Int)], (s.zipIdx.take i).map fun p => ⟨(p.2 : Int), (p.2 : Int) + 1, BSet.ofL [p.1]⟩⟩, rfl, fun n i hI hi => ?_⟩
    dsimp only at *
    split <;> rename_i h2 <;> simp only [decide_eq_true_eq] at h2
    · have hk' : i < s.length := by omega
      have et : ((i : Int) + 1).toNat = i + 1 := by omega
      subst hI
      rw [et, take_drop_one hk']
      refine ⟨⟨by omega, by omega⟩, ⟨by omega, by omega, by omega⟩, by simp, by simp; omega, ?_⟩
      rw [List.take_add_one, List.map_append]
      congr 1; congr 1
      rw [List.getElem?_eq_getElem (by simpa using hk')]
      simp [List.getD_eq_getElem?_getD, List.getElem?_eq_getElem hk']
    · rw [hI, drop_end h2 hi, show s.length = s.zipIdx.length by simp, List.take_length]; exact ⟨by simp, rfl⟩
  · rw [if_pos (by simp; omega), if_neg h]; exact ⟨rfl, rfl⟩
theorem rShift_wp {l : List Int} {xby : Int} (hp : (l.length ≤ 4096 ∧ ∀ s ∈ l, 0 ≤ s ∧ s ≤ 4096) ∧ 0 ≤ xby ∧ xby ≤ 4096) : wp_rShift l xby (fun r0 => r0 = (l.map (· + xby))) := by
  obtain ⟨⟨h1, h2⟩, h3, h4⟩ := hp
  refine ⟨fun out i => out = (l.take i).map (· + xby), rfl, fun out i hI hi => ?_⟩
  dsimp only at *
  split <;> rename_i h <;> simp only [decide_eq_true_eq] at h
  · have hk' : i < l.length := by omega
    have hm := h2 _ (getD_mem (d := default) hk')
    subst hI
    refine ⟨⟨by omega, by omega⟩, by simp; omega, ?_⟩
    rw [takec default hk', List.map_append]; rfl
  · rw [hI, drop_end h hi, List.take_length]
theorem rBoth_wp {l : List Int} {m : List Int} (hp : l.length ≤ 4096 ∧ m.length ≤ 4096) : wp_rBoth l m (fun r0 => r0 = (l ++ m)) := ⟨by omega, by simp; omega, by simp⟩
theorem rShifted_wp {l : List GEdge} {xby : Int} (hp : (l.length ≤ 65536 ∧ ∀ x ∈ l, i64 (x.From + xby) ∧ i64 (x.To + xby))) : wp_rShifted l xby (fun r0 => r0 = (l.map (eBy xby))) := by
  obtain ⟨h1, h2⟩ := hp
  refine ⟨fun out i => out = (l.take i).map (eBy xby), rfl, fun out i hI hi => ?_⟩
  dsimp only at *
  split <;> rename_i h <;> simp only [decide_eq_true_eq] at h
  · have hk' : i < l.length := by omega
    have hm := h2 _ (getD_mem (d := default) hk')
    subst hI
    refine ⟨hm.1, hm.2, by simp; omega, ?_⟩
    rw [takec default hk', List.map_append]; rfl
  · rw [hI, drop_end h hi, List.take_length]
theorem rEnd_wp {n : GNfa} : wp_rEnd n (fun r0 r1 => r0 = (nEnd n).1 ∧ r1 = (nEnd n).2) := by
  unfold wp_rEnd nEnd
  have e : decide (65536 < (n.Edges.length : Int)) = decide (65536 < n.Edges.length) := decide_eq_decide.mpr (by omega)
  rw [e]
  cases decide (4096 < n.States) || decide (65536 < n.Edges.length) <;> exact ⟨rfl, rfl⟩
def LB (n : GNfa) : Prop := n.Starts.length ≤ 17592186044416 ∧ n.Ends.length ≤ 17592186044416
theorem NR.lb {n : GNfa} (h : NR n) : LB n := ⟨by have := h.sl; omega, by have := h.el; omega⟩
theorem rAlt_wp {a : GNfa} {b : GNfa} (hp : (a.Starts.length ≤ 17592186044416 ∧ a.Ends.length ≤ 17592186044416) ∧ (b.Starts.length ≤ 17592186044416 ∧ b.Ends.length ≤ 17592186044416)) : wp_rAlt a b (fun r0 r1 => r0 = (nAlt a b).1 ∧ r1 = (nAlt a b).2) := by
  refine ⟨hp.1, fun _ => hp.2, ?_⟩
  unfold nAlt
  cases hA : nRight a
  · exact ⟨rfl, rfl⟩
  cases hB : nRight b
  · exact ⟨rfl, rfl⟩
  have ha := nRight_nr hA; have hb := nRight_nr hB
  have := ha.s0; have := ha.s1; have := hb.s0; have := hb.s1; have := ha.sl; have := hb.sl; have := ha.el; have := hb.el; have := ha.e1; have := hb.e1
  refine ⟨⟨by omega, by omega⟩, ⟨hb.sts, by omega, by omega⟩, ⟨by omega, by simp; omega⟩, ⟨hb.ens, by omega, by omega⟩, ⟨by omega, by simp; omega⟩, by omega, ⟨by omega, hb.eby (by omega) (by omega)⟩, by simp; omega, ?_⟩
  exact ⟨rfl, rfl⟩
theorem rCat_wp {a : GNfa} {b : GNfa} (hp : (a.Starts.length ≤ 17592186044416 ∧ a.Ends.length ≤ 17592186044416) ∧ (b.Starts.length ≤ 17592186044416 ∧ b.Ends.length ≤ 17592186044416)) : wp_rCat a b (fun r0 r1 => r0 = (nCat a b).1 ∧ r1 = (nCat a b).2) := by
  refine ⟨hp.1, fun _ => hp.2, ?_⟩
  unfold nCat
  cases hA : nRight a
  · exact ⟨rfl, rfl⟩
  cases hB : nRight b
  · exact ⟨rfl, rfl⟩
  have ha := nRight_nr hA; have hb := nRight_nr hB
  have := ha.s0; have := ha.s1; have := hb.s0; have := hb.s1; have := ha.sl; have := hb.sl; have := ha.el; have := hb.el; have := ha.e1; have := hb.e1
  refine ⟨⟨hb.sts, by omega, by omega⟩, ⟨by omega, by omega⟩, ⟨by omega, by simp⟩, ⟨hb.ens, by omega, by omega⟩, ?_⟩
  refine ⟨fun x => x = { nCatE a b with Ends := b.Ends.map (· + a.States), Edges := [] }, ?_, ?_⟩
  · unfold nCatE
    cases nEmpty a
    · simp
    · exact ⟨⟨by omega, by simp; omega⟩, rfl⟩
  intro x hx; subst hx
  refine ⟨fun x => x = { nCatE a b with Edges := [] }, ?_, ?_⟩
  · unfold nCatE
    cases nEmpty b
    · rfl
    · exact ⟨⟨by omega, by simp; omega⟩, rfl⟩
  intro x hx; subst hx
  let E := a.Edges ++ b.Edges.map (eBy a.States)
  let S := b.Starts.map (· + a.States)
  have hS : S.length ≤ 4096 := by show (b.Starts.map _).length ≤ _; rw [List.length_map]; exact hb.sl
  have hE : (nCatE a b).Edges = E ++ a.Edges.flatMap (nCatX a S) := by rw [← nCatX_eq]; rfl
  have hEn : nEnd (nCatE a b) = nEnd { nCatE a b with Edges := E ++ a.Edges.flatMap (nCatX a S) } := by rw [← hE]
  refine ⟨by simp; omega, ⟨by omega, hb.eby (by omega) (by omega)⟩, by simp; omega, ?_⟩
  refine ⟨fun x i => 0 ≤ i ∧ i ≤ a.Edges.length ∧ x = { nCatE a b with Edges := E ++ (a.Edges.take i.toNat).flatMap (nCatX a S) }, fun _ i => (a.Edges.length - i).toNat, ⟨by omega, by omega, by simp [E]⟩, fun x i hI => ?_⟩
  dsimp only at *
  obtain ⟨i0, i1, hx⟩ := hI
  obtain ⟨j, rfl⟩ := Int.eq_ofNat_of_zero_le i0
  simp only [Int.toNat_natCast] at hx ⊢
  split <;> rename_i h <;> simp only [Bool.and_eq_true, decide_eq_true_eq] at h
  · obtain ⟨h1, h2⟩ := h
    have hj : j < a.Edges.length := by omega
    have e := flatMap_take a.Edges (nCatX a S) default j hj
    have hto : ((j : Int) + 1).toNat = j + 1 := by omega
    refine ⟨⟨by omega, by omega⟩, ?_⟩
    split <;> rename_i h3
    · have hX : nCatX a S (a.Edges.getD j default) = S.map fun s => ⟨(a.Edges.getD j default).From, s, (a.Edges.getD j default).Set⟩ := by unfold nCatX; rw [if_pos h3]
      generalize (a.Edges.getD j default) = y at *
      refine ⟨fun x4 k => x4 = { nCatE a b with Edges := x.Edges ++ (S.take k).map fun s => ⟨y.From, s, y.Set⟩ }, by rw [hx]; simp, fun x4 k hI4 hk => ?_⟩
      dsimp only at *
      have hk0 : k ≤ S.length := hk
      split <;> rename_i h4 <;> simp only [decide_eq_true_eq] at h4
      · have hk' : k < S.length := by show k < (b.Starts.map (· + a.States)).length; omega
        subst hI4
        refine ⟨by simp; omega, ?_⟩
        rw [takec default hk', List.map_append, ← List.append_assoc]; rfl
      · have hk3 : k = S.length := drop_end h4 hk
        subst hk3
        rw [List.take_length] at hI4
        refine ⟨⟨by omega, by omega⟩, ⟨by omega, by omega, ?_⟩, by omega⟩
        rw [hto, e, hX, hI4, hx]; simp
    · have hX : nCatX a S (a.Edges.getD j default) = [] := by unfold nCatX; rw [if_neg h3]
      refine ⟨⟨by omega, by omega⟩, ⟨by omega, by omega, ?_⟩, by omega⟩
      rw [hto, e, hX, hx]; simp
  · have hn : nEnd x = nEnd (nCatE a b) := by
      by_cases hj : j < a.Edges.length
      · have h2 : 65536 < x.Edges.length := by
          rcases Nat.lt_or_ge 65536 x.Edges.length with q | q
          · exact q
          · exact absurd ⟨by omega, by omega⟩ h
        rw [hEn, hx]
        rw [hx] at h2
        have hl := flatMap_take_len a.Edges (nCatX a S) j
        refine nEnd_full h2 ?_
        simp only [List.length_append] at h2 ⊢
        omega
      · have : j = a.Edges.length := by omega
        subst this
        rw [List.take_length] at hx
        rw [hx, hEn]
    rw [hn]; exact ⟨rfl, rfl⟩
theorem nStarX_len (a : GNfa) (x : GEdge) : (nStarX a x).length ≤ 3 := by
  unfold nStarX
  cases a.Starts.contains x.From <;> cases a.Ends.contains x.To <;> simp
theorem flatMap_len_le {α β : Type} {f : α → List β} {n : Nat} (h : ∀ x, (f x).length ≤ n) : ∀ l : List α, (l.flatMap f).length ≤ n * l.length
  | [] => by simp
  | x :: l => by
    have := h x; have := flatMap_len_le h l
    simp only [List.flatMap_cons, List.length_append, List.length_cons, Nat.mul_add]; omega
theorem rStar_wp {a : GNfa} (hp : (a.Starts.length ≤ 17592186044416 ∧ a.Ends.length ≤ 17592186044416)) : wp_rStar a (fun r0 r1 => r0 = (nStar a).1 ∧ r1 = (nStar a).2) := by
  refine ⟨hp, ?_⟩
  unfold nStar
  cases hR : nRight a
  · exact ⟨rfl, rfl⟩
  · have ha := nRight_nr hR
    have := ha.s0; have := ha.s1; have := ha.e1
    refine ⟨⟨by omega, by omega⟩, by omega, fun x k => x = { nStarE a with Edges := a.Edges ++ (a.Edges.take k).flatMap (nStarX a) }, by simp [nStarE], fun x k hI hk => ?_⟩
    dsimp only at *
    split <;> rename_i h <;> simp only [decide_eq_true_eq] at h
    · have hk' : k < a.Edges.length := by omega
      have e := flatMap_take a.Edges (nStarX a) default k hk'
      have hl := flatMap_len_le (nStarX_len a) (a.Edges.take k)
      rw [List.length_take] at hl
      rw [e]
      generalize (a.Edges.getD k default) = y at *
      have hxl : x.Edges.length ≤ 4 * 65536 := by rw [hI]; simp only [List.length_append]; omega
      generalize hA : (if a.Starts.contains y.From then [(⟨a.States, y.To, y.Set⟩ : GEdge)] else []) = A
      generalize hB : (if a.Ends.contains y.To then [(⟨y.From, a.States, y.Set⟩ : GEdge)] else []) = B
      have eX : nStarX a y = A ++ B ++ (if a.Starts.contains y.From && a.Ends.contains y.To then [⟨a.States, a.States, y.Set⟩] else []) := by rw [← hA, ← hB]; rfl
      have hAl : A.length ≤ 1 := by rw [← hA]; split <;> simp
      have hBl : B.length ≤ 1 := by rw [← hB]; split <;> simp
      rw [eX]
      refine ⟨fun x2 => x2 = { x with Edges := x.Edges ++ A }, ?_, ?_⟩
      · split <;> rename_i h1
        · refine ⟨by omega, ?_⟩; rw [← hA, if_pos h1]
        · rw [← hA, if_neg h1]; simp
      intro x2 h2
      refine ⟨fun x3 => x3 = { x with Edges := x.Edges ++ A ++ B }, ?_, ?_⟩
      · split <;> rename_i h1
        · refine ⟨by rw [h2]; simp only [List.length_append]; omega, ?_⟩; rw [← hB, if_pos h1, h2]
        · rw [← hB, if_neg h1, h2]; simp
      intro x3 h3
      split <;> rename_i h1
      · refine ⟨by rw [h3]; simp only [List.length_append]; omega, ?_⟩
        rw [h3, hI]; simp
      · rw [h3, hI]; simp
    · have : k = a.Edges.length := by omega
      subst this
      rw [List.take_length] at hI
      have : x = nStarE a := hI
      rw [this]; exact ⟨rfl, rfl⟩
theorem rTimes_wp {least : Int} {most : Int} : wp_rTimes least most (fun r0 => r0 = rTimes least most) := rfl
theorem nZero_lb : LB nZero := ⟨by decide, by decide⟩
theorem nEnd_lb {n : GNfa} (h : LB n) : LB (nEnd n).1 := by
  unfold nEnd
  cases decide (4096 < n.States) || decide (65536 < n.Edges.length)
  · exact h
  · exact nZero_lb
theorem nCat_lb (a b : GNfa) : LB (nCat a b).1 := by
  unfold nCat
  cases hA : nRight a
  · exact nZero_lb
  cases hB : nRight b
  · exact nZero_lb
  have ha := nRight_nr hA; have hb := nRight_nr hB
  have := ha.sl; have := hb.sl; have := ha.el; have := hb.el
  refine nEnd_lb ⟨?_, ?_⟩
  · unfold nCatE; dsimp only; split <;> (try simp) <;> omega
  · unfold nCatE; dsimp only; split <;> (try simp) <;> omega
theorem nAlt_lb (a b : GNfa) : LB (nAlt a b).1 := by
  unfold nAlt
  cases hA : nRight a
  · exact nZero_lb
  cases hB : nRight b
  · exact nZero_lb
  have ha := nRight_nr hA; have hb := nRight_nr hB
  have := ha.sl; have := hb.sl; have := ha.el; have := hb.el
  refine nEnd_lb ⟨?_, ?_⟩
  · unfold nAltE; simp; omega
  · unfold nAltE; simp; omega
theorem nStar_lb (a : GNfa) : LB (nStar a).1 := by
  unfold nStar
  cases nRight a
  · exact nZero_lb
  · exact nEnd_lb ⟨by simp [nStarE], by simp [nStarE]⟩
theorem repCat_lb {a : GNfa} : ∀ {k : Nat} {s : GNfa × Int}, LB s.1 → LB (repCat a k s).1
  | 0, _, h => h
  | k + 1, s, h => by
    unfold repCat
    split
    · exact repCat_lb (nCat_lb _ _)
    · exact h
theorem repCat_succ (a : GNfa) (k : Nat) (s : GNfa × Int) : repCat a (k + 1) s = if s.2 = 0 then repCat a k (nCat s.1 a) else s := rfl
theorem repCat_stop {a : GNfa} {k : Nat} {s : GNfa × Int} (h : s.2 ≠ 0) : repCat a k s = s := by
  cases k with
  | zero => rfl
  | succ k => unfold repCat; rw [if_neg h]
theorem nNone_lb : LB nNone := ⟨by decide, by decide⟩
theorem rRep_wp {a : GNfa} {least : Int} {most : Int} (hp : (a.Starts.length ≤ 17592186044416 ∧ a.Ends.length ≤ 17592186044416)) : wp_rRep a least most (fun r0 r1 => r0 = (nRep a least most).1 ∧ r1 = (nRep a least most).2) := by
  refine ⟨hp, ?_⟩
  unfold nRep
  cases hA : nRight a
  · exact ⟨rfl, rfl⟩
  cases hT : rTimes least most
  · exact ⟨rfl, rfl⟩
  have hT' := hT
  simp only [rTimes, Bool.and_eq_true, Bool.or_eq_true, decide_eq_true_eq] at hT'
  simp only [Bool.not_true, Bool.or_self, Bool.and_self, if_true]
  rw [if_neg (by simp)]
  generalize hs : repCat a least.toNat (nNone, 0) = s
  refine ⟨fun n e i => 0 ≤ i ∧ i ≤ least ∧ LB n ∧ repCat a (least - i).toNat (n, e) = s, fun _ _ i => (least - i).toNat, ⟨by omega, by omega, nNone_lb, by rw [Int.sub_zero]; exact hs⟩, fun n e i hI => ?_⟩
  dsimp only at *
  obtain ⟨i0, i1, hlb, hI⟩ := hI
  split <;> rename_i h <;> simp only [Bool.and_eq_true, decide_eq_true_eq] at h
  · refine ⟨⟨hlb, hp⟩, ⟨by omega, by omega⟩, ⟨by omega, by omega, nCat_lb _ _, ?_⟩, by omega⟩
    rw [show (least - i).toNat = (least - (i + 1)).toNat + 1 by omega] at hI
    rw [repCat_succ, if_pos h.2] at hI; exact hI
  have hsn : s = (n, e) := by
    by_cases he : e = 0
    · have : i = least := by omega
      rw [this, Int.sub_self] at hI; exact hI.symm
    · rw [repCat_stop he] at hI; exact hI.symm
  rw [hsn]
  split <;> rename_i h2 <;> simp only [Bool.and_eq_true, decide_eq_true_eq] at h2
  · rw [if_pos h2]
    refine ⟨hp, ?_⟩
    split <;> rename_i h3
    · have : ¬ (nStar a).2 = 0 := by simpa using h3
      rw [if_neg this]; exact ⟨rfl, rfl⟩
    · have : (nStar a).2 = 0 := by simpa using h3
      rw [if_pos this]; exact ⟨⟨hlb, nStar_lb a⟩, rfl, rfl⟩
  · rw [if_neg h2]
    have eN : (nText ([] : List UInt8)).1 = nNone := rfl
    rw [eN]
    refine ⟨fun n2 e2 i2 => (least ≤ i2 ∧ (i2 ≤ most ∨ i2 = least)) ∧ LB n2 ∧ (least < i2 → (nAlt a nNone).2 = 0) ∧ (i2 = least → e2 = e) ∧ repCat (nAlt a nNone).1 (most - i2).toNat (n2, e2) = repCat (nAlt a nNone).1 (most - least).toNat (n, e), fun _ _ i2 => (most - i2).toNat, ⟨⟨by omega, .inr rfl⟩, hlb, fun h => by omega, fun _ => rfl, rfl⟩, fun n2 e2 i2 hI2 => ?_⟩
    dsimp only at *
    obtain ⟨⟨j0, j1⟩, hlb2, hal, hee, hI2⟩ := hI2
    split <;> rename_i h4 <;> simp only [Bool.and_eq_true, decide_eq_true_eq] at h4
    · refine ⟨⟨hp, nNone_lb⟩, ?_⟩
      split <;> rename_i h5
      · have h6 : ¬ (nAlt a nNone).2 = 0 := by simpa using h5
        have h7 : i2 = least := by
          rcases Int.lt_or_le least i2 with q | q
          · exact absurd (hal q) h6
          · omega
        rw [if_pos ⟨by omega, by rw [← hee h7]; exact h4.2, h6⟩]; exact ⟨rfl, rfl⟩
      · have h6 : (nAlt a nNone).2 = 0 := by simpa using h5
        refine ⟨⟨hlb2, nAlt_lb _ _⟩, ⟨by omega, by omega⟩, ⟨⟨by omega, .inl (by omega)⟩, nCat_lb _ _, fun _ => h6, fun h => by omega, ?_⟩, by omega⟩
        rw [show (most - i2).toNat = (most - (i2 + 1)).toNat + 1 by omega] at hI2
        rw [repCat_succ, if_pos h4.2] at hI2
        exact hI2
    · have h5 : repCat (nAlt a nNone).1 (most - least).toNat (n, e) = (n2, e2) := by
        rw [← hI2]
        by_cases he : e2 = 0
        · have : (most - i2).toNat = 0 := by
            rcases Int.lt_or_le i2 most with q | q
            · exact absurd ⟨q, he⟩ h4
            · omega
          rw [this]; rfl
        · rw [repCat_stop he]
      rw [if_neg, h5]
      · exact ⟨rfl, rfl⟩
      · rintro ⟨k1, k2, k3⟩
        have h7 : i2 = least := by
          rcases Int.lt_or_le least i2 with q | q
          · exact absurd (hal q) k3
          · omega
        exact h4 ⟨by omega, by rw [hee h7]; exact k2⟩
end Go.Proofs.Ytbaciogbhjcdoaa
