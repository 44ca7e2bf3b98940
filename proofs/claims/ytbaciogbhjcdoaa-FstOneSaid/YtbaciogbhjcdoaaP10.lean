/- Plain proofs of what the functions of layer 10 compute. No condition. -/
import Derived.Test.YtbaciogbhjcdoaaW10
set_option linter.unusedVariables false
set_option linter.unusedSimpArgs false
namespace Go.Proofs.Ytbaciogbhjcdoaa
theorem dropc {α : Type} {l : List α} {k : Nat} (d : α) (h : k < l.length) : l.drop k = l.getD k d :: l.drop (k + 1) := by
  rw [List.drop_eq_getElem_cons h, List.getD_eq_getElem?_getD, List.getElem?_eq_getElem h]; rfl
theorem takec {α : Type} {l : List α} {k : Nat} (d : α) (h : k < l.length) : l.take (k + 1) = l.take k ++ [l.getD k d] := by
  rw [List.take_add_one, List.getD_eq_getElem?_getD, List.getElem?_eq_getElem h]; rfl
theorem getD_mem {α : Type} {l : List α} {k : Nat} {d : α} (h : k < l.length) : l.getD k d ∈ l := by
  rw [List.getD_eq_getElem?_getD, List.getElem?_eq_getElem h]; exact List.getElem_mem h
theorem drop_end {α : Type} {l : List α} {k : Nat} (h1 : ¬ (k : Int) < (l.length : Int)) (h2 : k ≤ l.length) : k = l.length := by omega
/-- what is at hand: the rest gives what all gives -/
theorem nfaStates_wp {l : List Int} {n : Int} : wp_nfaStates l n (fun r0 => r0 = nStates l n) := by
  refine ⟨fun last k => nStatesK n last (l.drop k) = nStates l n, rfl, fun last k hI hk => ?_⟩
  dsimp only at *
  split <;> rename_i h <;> simp only [decide_eq_true_eq] at h
  · rw [dropc default (by omega : k < l.length)] at hI
    simp only [nStatesK] at hI
    generalize l.getD k default = x at *
    split <;> rename_i h2 <;> simp only [Bool.or_eq_true, decide_eq_true_eq] at h2
    · rw [← hI]; rcases h2 with h2 | h2
      · rw [decide_eq_false (by omega : ¬ last < x)]; rfl
      · rw [decide_eq_false (by omega : ¬ x < n)]; simp
    · rw [decide_eq_true (by omega : last < x), decide_eq_true (by omega : x < n)] at hI; simpa using hI
  · rw [drop_end h hk, List.drop_length] at hI; exact hI.symm ▸ rfl
theorem nfaMembers_wp {l : List Int} : wp_nfaMembers l (fun r0 => r0 = membersL l) := by
  refine ⟨fun m k => (l.drop k).foldl (fun m s => aput m s true) m = membersL l, rfl, fun m k hI hk => ?_⟩
  dsimp only at *
  split <;> rename_i h <;> simp only [decide_eq_true_eq] at h
  · rw [dropc default (by omega : k < l.length)] at hI; exact hI
  · rw [drop_end h hk, List.drop_length] at hI; exact hI
theorem nfaCheck1_wp {s : Int} {c0 : GNfa} : wp_nfaCheck1 s c0 (fun r0 => r0 = nIn c0 s) := rfl
theorem nRight_eq (n : GNfa) : nRight n = (!((((decide (n.States < 0) || decide (4096 < n.States)) || decide (65536 < (n.Edges.length : Int))) || (!nStates n.Starts n.States)) || (!nStates n.Ends n.States)) && n.Edges.all (nEdge n)) := by
  have h1 : decide (n.States < 0) = !decide (0 ≤ n.States) := by rw [← decide_not]; exact decide_eq_decide.mpr (by omega)
  have h2 : decide (4096 < n.States) = !decide (n.States ≤ 4096) := by rw [← decide_not]; exact decide_eq_decide.mpr (by omega)
  have h3 : decide (65536 < (n.Edges.length : Int)) = !decide (n.Edges.length ≤ 65536) := by rw [← decide_not]; exact decide_eq_decide.mpr (by omega)
  rw [h1, h2, h3]; simp [nRight, Bool.and_assoc]
theorem nfaCheck_wp {n : GNfa} : wp_nfaCheck n (fun r0 => r0 = nCheck n) := by
  unfold wp_nfaCheck nCheck
  rw [nRight_eq]
  split <;> rename_i h
  · rw [h]; rfl
  · rw [Bool.not_eq_true] at h; rw [h]
    refine ⟨fun k => (n.Edges.drop k).all (nEdge n) = n.Edges.all (nEdge n), rfl, fun k hI hk => ?_⟩
    dsimp only at *
    split <;> rename_i h <;> simp only [decide_eq_true_eq] at h
    · rw [dropc default (by omega : k < n.Edges.length), List.all_cons] at hI
      split <;> rename_i h2
      · rw [← hI]
        have : nEdge n (n.Edges.getD k default) = false := by
          unfold nEdge; revert h2; cases nIn n (n.Edges.getD k default).From <;> cases nIn n (n.Edges.getD k default).To <;> simp
        rw [this]; rfl
      · rw [← hI]
        have : nEdge n (n.Edges.getD k default) = true := by
          unfold nEdge; revert h2; cases nIn n (n.Edges.getD k default).From <;> cases nIn n (n.Edges.getD k default).To <;> simp
        rw [this]; rfl
    · rw [drop_end h hk, List.drop_length] at hI; rw [← hI]; rfl
theorem nfaWrong1_wp {n : GNfa} : wp_nfaWrong1 n (fun r0 => r0 = decide (nCheck n ≠ 0)) := by
  simp [wp_nfaWrong1]
theorem idxF_wp {α : Type} [Inhabited α] {s : List α} {f : α → Bool} {Q : Int → Prop} (hQ : Q (idxF f s)) : ∃ I_14 : Nat → Prop,
    I_14 0 ∧
    ∀ (k : Nat), I_14 k → k ≤ s.length →
    if decide ((k : Int) < (s.length : Int)) then
      if (f (s.getD k default)) then
        Q (k : Int)
      else
        I_14 (k + 1)
    else
      Q (-1) := by
  refine ⟨fun k => ∀ i : Nat, i < k → f (s.getD i default) = false, fun i h => absurd h (Nat.not_lt_zero i), fun k hI hk => ?_⟩
  have hg : ∀ i (hi : i < s.length), s.getD i default = s[i] := fun i hi => by rw [List.getD_eq_getElem?_getD, List.getElem?_eq_getElem hi]; rfl
  split <;> rename_i h <;> simp only [decide_eq_true_eq] at h
  · have hk' : k < s.length := by omega
    split <;> rename_i h2
    · have : s.findIdx? f = some k := by
        rw [List.findIdx?_eq_some_iff_getElem]
        refine ⟨hk', by rw [← hg k hk']; exact h2, fun j hj => ?_⟩
        rw [← hg j (by omega), hI j hj]; simp
      unfold idxF at hQ; rw [this] at hQ; exact hQ
    · intro i hi
      rcases Nat.lt_succ_iff_lt_or_eq.mp hi with h3 | h3
      · exact hI i h3
      · rw [h3]; simpa using h2
  · have : s.findIdx? f = none := by
      rw [List.findIdx?_eq_none_iff]
      intro x hx
      obtain ⟨i, hi, rfl⟩ := List.getElem_of_mem hx
      rw [← hg i hi]; exact hI i (by omega)
    unfold idxF at hQ; rw [this] at hQ; exact hQ
theorem any_idxF {α : Type} (s : List α) (f : α → Bool) : decide (0 ≤ idxF f s) = s.any f := by
  unfold idxF
  cases h : s.findIdx? f with
  | none =>
    have : s.any f = false := by
      rw [List.findIdx?_eq_none_iff] at h
      exact List.any_eq_false.mpr fun x hx => by rw [h x hx]; simp
    rw [this]; rfl
  | some i =>
    have : s.any f = true := by
      obtain ⟨hi, h2, _⟩ := List.findIdx?_eq_some_iff_getElem.mp h
      exact List.any_eq_true.mpr ⟨_, List.getElem_mem hi, h2⟩
    rw [this]; simp
theorem indexNfa_wp {s : List GNfa} {f : (GNfa → Bool)} : wp_indexNfa s f (fun r0 => r0 = idxF f s) := idxF_wp (Q := fun r => r = idxF f s) rfl
theorem containsNfa_wp {s : List GNfa} {f : (GNfa → Bool)} : wp_containsNfa s f (fun r0 => r0 = s.any f) := any_idxF s f
theorem nfaWrong_wp {l : List GNfa} : wp_nfaWrong l (fun r0 => r0 = l.any fun n => decide (nCheck n ≠ 0)) := rfl
theorem nfaTakes1_wp {s : Int} {c0 : List (Int × Bool)} : wp_nfaTakes1 s c0 (fun r0 => r0 = (aget c0 s).getD false) := rfl
theorem indexInt_wp {s : List Int} {f : (Int → Bool)} : wp_indexInt s f (fun r0 => r0 = idxF f s) := idxF_wp (Q := fun r => r = idxF f s) rfl
theorem containsInt_wp {s : List Int} {f : (Int → Bool)} : wp_containsInt s f (fun r0 => r0 = s.any f) := any_idxF s f
/-- a map of states stands for a row of states -/
def Mem (m : List (Int × Bool)) (l : List Int) : Prop := ∀ s, (aget m s).getD false = l.contains s
theorem mem_put {m : List (Int × Bool)} {l : List Int} (h : Mem m l) (s : Int) : Mem (aput m s true) (l ++ [s]) := fun q => by
  rw [aget_put]
  by_cases hq : q = s
  · simp [hq]
  · rw [if_neg hq, h q]
    have : ([s].contains q) = false := by simpa using hq
    rw [← List.elem_eq_contains, ← List.elem_eq_contains]
    simp [List.elem_eq_contains, hq]
theorem mem_nil : Mem [] [] := fun _ => rfl
theorem mem_fold (l : List Int) : ∀ (m : List (Int × Bool)) (q : List Int), Mem m q → Mem (l.foldl (fun m s => aput m s true) m) (q ++ l) := by
  induction l with
  | nil => intro m q h; simpa using h
  | cons a l ih => intro m q h; simpa using ih _ _ (mem_put h a)
theorem mem_members (l : List Int) : Mem (membersL l) l := mem_fold l [] [] mem_nil
theorem members_get (l : List Int) (s : Int) : (aget (membersL l) s).getD false = l.contains s := mem_members l s
theorem nWrong1 (n : GNfa) : ([n].any fun n => decide (nCheck n ≠ 0)) = !nRight n := by
  cases h : nRight n <;> simp [nCheck, h]
theorem nWrong2 (a b : GNfa) : ([a, b].any fun n => decide (nCheck n ≠ 0)) = !(nRight a && nRight b) := by
  cases h : nRight a <;> cases h2 : nRight b <;> simp [nCheck, h, h2]
theorem nRight_len {n : GNfa} (h : nRight n = true) : n.Edges.length ≤ 65536 := by
  simp only [nRight, Bool.and_eq_true, decide_eq_true_eq] at h; exact h.1.1.1.2
theorem nfaTakes_wp {n : GNfa} {w : List UInt8} (hp : w.length ≤ 140737488351232) : wp_nfaTakes n w (fun r0 r1 => r0 = (nTakes n w).1 ∧ r1 = (nTakes n w).2) := by
  unfold wp_nfaTakes nTakes
  rw [nWrong1]
  cases hR : nRight n
  · exact ⟨rfl, rfl⟩
  · show ∃ I, _
    refine ⟨fun m k => Mem m ((w.take k).foldl (nStep n) n.Starts), mem_members _, fun m k hI hk => ?_⟩
    dsimp only at *
    split <;> rename_i h <;> simp only [decide_eq_true_eq] at h
    · have hk' : k < w.length := by omega
      refine ⟨fun m2 k2 => Mem m2 (((n.Edges.take k2).filter fun x => ((w.take k).foldl (nStep n) n.Starts).contains x.From && x.Set.has (w.getD k 0).toNat).map (·.To)), mem_nil, fun m2 k2 hI2 hk2 => ?_⟩
      dsimp only at *
      split <;> rename_i h2 <;> simp only [decide_eq_true_eq] at h2
      · have hk2' : k2 < n.Edges.length := by omega
        rw [hI]
        split <;> rename_i h3
        · rw [takec default hk2', List.filter_append, List.map_append]
          have := mem_put hI2 (n.Edges.getD k2 default).To
          simpa only [List.filter_cons, List.filter_nil, h3, if_true, List.map_cons, List.map_nil] using this
        · rw [takec default hk2', List.filter_append, List.map_append]
          have h3 := Bool.not_eq_true _ |>.mp h3
          simpa only [List.filter_cons, List.filter_nil, h3, if_false, List.map_nil, List.append_nil, Bool.false_eq_true] using hI2
      · refine ⟨⟨by omega, by omega⟩, ?_⟩
        rw [drop_end h2 hk2, List.take_length] at hI2
        rw [takec 0 hk', List.foldl_append]; exact hI2
    · refine ⟨?_, rfl⟩
      rw [drop_end h hk, List.take_length] at hI
      show _ = nAcc n w
      unfold nAcc nRun
      congr 1; funext s; exact hI s
theorem nfaEmpty1_wp {s : Int} {c0 : List (Int × Bool)} : wp_nfaEmpty1 s c0 (fun r0 => r0 = (aget c0 s).getD false) := rfl
theorem nfaEmpty_wp {n : GNfa} : wp_nfaEmpty n (fun r0 => r0 = nEmpty n) := by
  unfold wp_nfaEmpty nEmpty; congr 1; funext s; exact members_get _ _
theorem cloneInt_wp {s : List Int} (hp : s.length ≤ 17592186044416) : wp_cloneInt s (fun r0 => r0 = s) := by
  intro b hb
  cases b
  · exact ⟨by omega, rfl⟩
  · exact (hb rfl).symm
theorem growInt_wp {s : List Int} {n : Int} (hp : 0 ≤ n ∧ n ≤ 17592186044416) : wp_growInt s n (fun r0 => r0 = ([] : List Int)) := by
  unfold wp_growInt
  rw [if_neg (by simp; omega)]
  refine ⟨fun l => l = [], ⟨⟨by omega, by omega⟩, ⟨by omega, by omega⟩, ?_⟩, fun _ h => h⟩
  split <;> rename_i h <;> simp only [decide_eq_true_eq] at h
  · exact ⟨⟨h, by omega, by omega⟩, ⟨by omega, by omega⟩, rfl⟩
  · rfl
theorem flatten_take {α : Type} (l : List (List α)) (k : Nat) (h : k < l.length) : (l.take (k + 1)).flatten = (l.take k).flatten ++ l.getD k default := by
  rw [takec default h, List.flatten_append]; simp
theorem flatten_take_len {α : Type} (l : List (List α)) (k : Nat) : (l.take k).flatten.length ≤ l.flatten.length := by
  have : l.flatten = (l.take k).flatten ++ (l.drop k).flatten := by rw [← List.flatten_append, List.take_append_drop]
  rw [this, List.length_append]; omega
theorem concatInt_wp {slices : List (List Int)} (hp : slices.flatten.length ≤ 17592186044416) : wp_concatInt slices (fun r0 => r0 = slices.flatten) := by
  refine ⟨fun size k => size = ((slices.take k).flatten.length : Int), rfl, fun size k hI hk => ?_⟩
  have hb := flatten_take_len slices (k + 1)
  split <;> rename_i h <;> simp only [decide_eq_true_eq] at h
  · have hk' : k < slices.length := by omega
    have e := congrArg List.length (flatten_take slices k hk')
    rw [List.length_append] at e
    refine ⟨⟨by omega, by omega⟩, ?_⟩
    rw [if_neg (by simp; omega)]
    show _ = _
    omega
  · have hb := flatten_take_len slices k
    refine ⟨⟨by omega, by omega⟩, fun l k => l = (slices.take k).flatten, rfl, fun l k2 hI2 hk2 => ?_⟩
    dsimp only at *
    split <;> rename_i h2 <;> simp only [decide_eq_true_eq] at h2
    · have hk' : k2 < slices.length := by omega
      have e := flatten_take slices k2 hk'
      have hb := flatten_take_len slices (k2 + 1)
      rw [e, List.length_append] at hb
      subst hI2
      exact ⟨by omega, e.symm⟩
    · rw [drop_end h2 hk2, List.take_length] at hI2; exact hI2
theorem nfaMore_wp {l : List Int} {xby : Int} (hp : (l.length ≤ 4096 ∧ ∀ s ∈ l, 0 ≤ s ∧ s ≤ 4096) ∧ 0 ≤ xby ∧ xby ≤ 4096) : wp_nfaMore l xby (fun r0 => r0 = (l.map (· + xby))) := by
  obtain ⟨⟨h1, h2⟩, h3, h4⟩ := hp
  refine ⟨by omega, fun out k => out = (l.take k).map (· + xby) ++ l.drop k, by simp, fun out k hI hk => ?_⟩
  have hlen : out.length = l.length := by rw [hI]; simp; omega
  split <;> rename_i h <;> simp only [decide_eq_true_eq] at h
  · have hk' : k < l.length := by omega
    have hg : out.getD k default = l.getD k default := by
      rw [hI, dropc default hk', List.getD_eq_getElem?_getD, List.getElem?_append_right (by simp; omega)]
      simp [Nat.min_eq_left hk]
    have hm := h2 _ (getD_mem (d := default) hk')
    refine ⟨⟨by omega, by omega⟩, ⟨by rw [hg]; omega, by rw [hg]; omega⟩, ?_⟩
    show _ = _
    rw [hg, hI, takec default hk', dropc default hk', List.map_append, List.set_append_right _ _ (by simp; omega)]
    simp [Nat.min_eq_left hk]
  · have : k = l.length := by omega
    subst this
    simpa using hI
theorem nbEdge_wp {b : Gnfa_builder} {xfrom : Int} {to : Int} {s : BSet} : wp_nbEdge b xfrom to s (fun m0 => m0 = nbEdge b ⟨xfrom, to, s⟩) := by
  unfold wp_nbEdge nbEdge
  by_cases h : 65536 ≤ b.Nfa.Edges.length
  · rw [if_pos (by simp; omega), if_pos h]
  · rw [if_neg (by simp; omega), if_neg h]; exact ⟨by omega, rfl⟩
theorem nbPut_wp {b : Gnfa_builder} {n : GNfa} {xby : Int} (hp : ∀ x ∈ n.Edges, i64 (x.From + xby) ∧ i64 (x.To + xby)) : wp_nbPut b n xby (fun m0 => m0 = nbPut b n xby) := by
  refine ⟨fun b2 k => nbEdges b2 ((n.Edges.drop k).map (eBy xby)) = nbPut b n xby, rfl, fun b2 k hI hk => ?_⟩
  dsimp only at *
  split <;> rename_i h <;> simp only [decide_eq_true_eq] at h
  · have hk' : k < n.Edges.length := by omega
    have hm := hp _ (getD_mem (d := default) hk')
    refine ⟨hm.1, hm.2, ?_⟩
    rw [dropc default hk'] at hI; exact hI
  · rw [drop_end h hk, List.drop_length] at hI; exact hI
theorem nbEnd_wp {b : Gnfa_builder} : wp_nbEnd b (fun r0 r1 => r0 = (nbEnd b).1 ∧ r1 = (nbEnd b).2) := by
  unfold wp_nbEnd nbEnd
  cases (b.full || decide (4096 < b.Nfa.States)) <;> exact ⟨rfl, rfl⟩
/-! ## a builder holds edges, or is full -/
def nbOf (n : GNfa) (l : List GEdge) : Gnfa_builder := ⟨{ n with Edges := l.take 65536 }, decide (65536 < l.length)⟩
theorem nbEdge_of (n : GNfa) (l : List GEdge) (x : GEdge) : nbEdge (nbOf n l) x = nbOf n (l ++ [x]) := by
  unfold nbEdge nbOf
  by_cases h : 65536 ≤ l.length
  · rw [if_pos (by simp; omega)]
    congr 1
    · rw [List.take_append_of_le_length h]
    · simp; omega
  · rw [if_neg (by simp; omega)]
    have h1 : decide (65536 < l.length) = false := by simp; omega
    have h2 : decide (65536 < (l ++ [x]).length) = false := by simp; omega
    rw [h1, h2, List.take_of_length_le (by omega), List.take_of_length_le (by simp; omega)]
theorem nbEdges_of (n : GNfa) (m : List GEdge) : ∀ l : List GEdge, nbEdges (nbOf n l) m = nbOf n (l ++ m) := by
  induction m with
  | nil => intro l; simp [nbEdges]
  | cons x m ih => intro l; show nbEdges (nbEdge (nbOf n l) x) m = _; rw [nbEdge_of, ih]; simp
theorem nbPut_of (n : GNfa) (l : List GEdge) (a : GNfa) (by' : Int) : nbPut (nbOf n l) a by' = nbOf n (l ++ a.Edges.map (eBy by')) := nbEdges_of _ _ _
theorem nbEnd_of (n : GNfa) (l : List GEdge) : nbEnd (nbOf n l) = nEnd { n with Edges := l } := by
  unfold nbEnd nEnd nbOf
  by_cases h : 65536 < l.length
  · simp [h]
  · simp only [h, decide_false, Bool.false_or, Bool.or_false]
    rw [List.take_of_length_le (by omega)]
theorem eBy_zero (l : List GEdge) : l.map (eBy 0) = l := by
  have : eBy 0 = id := by funext x; simp [eBy]
  rw [this, List.map_id]
theorem nbOf_nil (n : GNfa) (h : n.Edges = []) : (⟨n, false⟩ : Gnfa_builder) = nbOf n [] := by
  cases n; cases h; rfl
theorem nbEnd_of' (n : GNfa) (l : List GEdge) : (nbEnd (nbOf n l)).1 = (nEnd { n with Edges := l }).1 ∧ (nbEnd (nbOf n l)).2 = (nEnd { n with Edges := l }).2 := by rw [nbEnd_of]; exact ⟨rfl, rfl⟩
theorem nfaText_wp {s : List UInt8} : wp_nfaText s (fun r0 r1 => r0 = (nText s).1 ∧ r1 = (nText s).2) := by
  unfold wp_nfaText nText
  by_cases h : s.length ≤ 256
  · rw [if_neg (by simp; omega), if_pos h]
    refine ⟨⟨by omega, by omega⟩, fun b k => b = nbOf ⟨(s.length : Int) + 1, [0], [(s.length : Int)], []⟩ ((s.zipIdx.take k).map fun p => ⟨(p.2 : Int), (p.2 : Int) + 1, BSet.ofL [p.1]⟩), rfl, fun b k hI hk => ?_⟩
    dsimp only at *
    split <;> rename_i h2 <;> simp only [decide_eq_true_eq] at h2
    · have hk' : k < s.length := by omega
      refine ⟨⟨by omega, by omega⟩, ?_⟩
      show _ = _
      rw [hI, nbEdge_of, List.take_add_one, List.map_append]
      congr 1; congr 1
      rw [List.getElem?_eq_getElem (by simpa using hk')]
      simp [List.getD_eq_getElem?_getD, List.getElem?_eq_getElem hk']
    · rw [hI, drop_end h2 hk, show s.length = s.zipIdx.length by simp, List.take_length, nbEnd_of]
      unfold nEnd
      rw [if_neg (by simp; omega)]
      simp
  · rw [if_pos (by simp; omega), if_neg h]; exact ⟨rfl, rfl⟩
theorem nfaSet_wp {s : BSet} : wp_nfaSet s (fun r0 => r0 = nSet s) := by
  unfold wp_nfaSet nSet
  refine ⟨fun n => n = nSet s, ?_, fun _ h => h⟩
  unfold nSet
  by_cases h : s = BSet.zero
  · simp [h]
  · simp [h]
theorem nStatesK_mem {n : Int} : ∀ {l : List Int} {last : Int}, nStatesK n last l = true → ∀ s ∈ l, last < s ∧ s < n
  | [], _, _, s, h => absurd h List.not_mem_nil
  | a :: l, last, h, s, hs => by
    simp only [nStatesK, Bool.and_eq_true, decide_eq_true_eq] at h
    rcases List.mem_cons.mp hs with rfl | hs
    · exact h.1
    · have := nStatesK_mem h.2 s hs; omega
theorem nStatesK_len {n : Int} : ∀ {l : List Int} {last : Int}, nStatesK n last l = true → last < n → (l.length : Int) ≤ n - last - 1
  | [], last, _, hl => by simp; omega
  | a :: l, last, h, _ => by
    simp only [nStatesK, Bool.and_eq_true, decide_eq_true_eq] at h
    have := nStatesK_len h.2 h.1.2; simp; omega
structure NR (n : GNfa) : Prop where
  s0 : 0 ≤ n.States
  s1 : n.States ≤ 4096
  e1 : n.Edges.length ≤ 65536
  st : ∀ s ∈ n.Starts, 0 ≤ s ∧ s < n.States
  en : ∀ s ∈ n.Ends, 0 ≤ s ∧ s < n.States
  sl : n.Starts.length ≤ 4096
  el : n.Ends.length ≤ 4096
  ed : ∀ x ∈ n.Edges, 0 ≤ x.From ∧ x.From < n.States ∧ 0 ≤ x.To ∧ x.To < n.States ∧ x.Set ≠ BSet.zero
theorem nRight_nr {n : GNfa} (h : nRight n = true) : NR n := by
  simp only [nRight, Bool.and_eq_true, decide_eq_true_eq, List.all_eq_true, nEdge, nIn, Bool.not_eq_true', decide_eq_false_iff_not, nStates] at h
  obtain ⟨⟨⟨⟨⟨h1, h2⟩, h3⟩, h4⟩, h5⟩, h6⟩ := h
  have l1 := nStatesK_len h4 (by omega)
  have l2 := nStatesK_len h5 (by omega)
  exact ⟨h1, h2, h3, fun s hs => by have := nStatesK_mem h4 s hs; omega, fun s hs => by have := nStatesK_mem h5 s hs; omega, by omega, by omega, fun x hx => by have := h6 x hx; exact ⟨this.1.1.1, this.1.1.2, this.1.2.1, this.1.2.2, this.2⟩⟩
theorem NR.sts {n : GNfa} (h : NR n) : (n.Starts.length ≤ 4096 ∧ ∀ s ∈ n.Starts, 0 ≤ s ∧ s ≤ 4096) := ⟨h.sl, fun s hs => by have := h.st s hs; have := h.s1; omega⟩
theorem NR.ens {n : GNfa} (h : NR n) : (n.Ends.length ≤ 4096 ∧ ∀ s ∈ n.Ends, 0 ≤ s ∧ s ≤ 4096) := ⟨h.el, fun s hs => by have := h.en s hs; have := h.s1; omega⟩
theorem NR.eby {n : GNfa} (h : NR n) {k : Int} (h0 : 0 ≤ k) (h1 : k ≤ 4096) : ∀ x ∈ n.Edges, i64 (x.From + k) ∧ i64 (x.To + k) := fun x hx => by
  have := h.ed x hx; have := h.s1; exact ⟨⟨by omega, by omega⟩, ⟨by omega, by omega⟩⟩
theorem nfaAlt_wp {a : GNfa} {b : GNfa} : wp_nfaAlt a b (fun r0 r1 => r0 = (nAlt a b).1 ∧ r1 = (nAlt a b).2) := by
  unfold wp_nfaAlt nAlt
  rw [nWrong2]
  cases hR : (nRight a && nRight b)
  · exact ⟨rfl, rfl⟩
  · simp only [Bool.and_eq_true] at hR
    have ha := nRight_nr hR.1; have hb := nRight_nr hR.2
    have := ha.s0; have := ha.s1; have := hb.s0; have := hb.s1
    refine ⟨⟨by omega, by omega⟩, ⟨hb.sts, by omega, by omega⟩, by simp; have := ha.sl; have := hb.sl; omega, ⟨hb.ens, by omega, by omega⟩, by simp; have := ha.el; have := hb.el; omega, ha.eby (by omega) (by omega), hb.eby (by omega) (by omega), ?_⟩
    dsimp only
    rw [nbOf_nil _ rfl, nbPut_of, nbPut_of, nbEnd_of, eBy_zero]
    simp [nAltE]
theorem nbOf_full {n : GNfa} {l : List GEdge} : (nbOf n l).full = decide (65536 < l.length) := rfl
theorem nEnd_full {n : GNfa} {l m : List GEdge} (h : 65536 < l.length) (h2 : 65536 < m.length) : nEnd { n with Edges := l } = nEnd { n with Edges := m } := by
  unfold nEnd; simp [h, h2]
theorem flatMap_take {α β : Type} (l : List α) (f : α → List β) (d : α) (k : Nat) (h : k < l.length) : (l.take (k + 1)).flatMap f = (l.take k).flatMap f ++ f (l.getD k d) := by
  rw [takec d h, List.flatMap_append]; simp
theorem flatMap_take_len {α β : Type} (l : List α) (f : α → List β) (k : Nat) : ((l.take k).flatMap f).length ≤ (l.flatMap f).length := by
  have : l.flatMap f = (l.take k).flatMap f ++ (l.drop k).flatMap f := by rw [← List.flatMap_append, List.take_append_drop]
  rw [this, List.length_append]; omega
def nCatX (a : GNfa) (starts : List Int) (x : GEdge) : List GEdge := if a.Ends.contains x.To then starts.map fun s => ⟨x.From, s, x.Set⟩ else []
theorem nCatX_eq (a b : GNfa) : ((a.Edges.filter fun x => a.Ends.contains x.To).flatMap fun x => b.Starts.map fun s => (⟨x.From, s + a.States, x.Set⟩ : GEdge)) = a.Edges.flatMap (nCatX a (b.Starts.map (· + a.States))) := by
  induction a.Edges with
  | nil => rfl
  | cons x l ih =>
    rw [List.flatMap_cons, ← ih]
    by_cases h : a.Ends.contains x.To = true
    · rw [List.filter_cons_of_pos (p := fun x : GEdge => a.Ends.contains x.To) h, List.flatMap_cons]; unfold nCatX; rw [if_pos h, List.map_map]; rfl
    · rw [List.filter_cons_of_neg (p := fun x : GEdge => a.Ends.contains x.To) h]; unfold nCatX; rw [if_neg h]; rfl
theorem nfaCat_wp {a : GNfa} {b : GNfa} : wp_nfaCat a b (fun r0 r1 => r0 = (nCat a b).1 ∧ r1 = (nCat a b).2) := by
  unfold wp_nfaCat nCat
  rw [nWrong2]
  cases hR : (nRight a && nRight b)
  · exact ⟨rfl, rfl⟩
  · simp only [Bool.and_eq_true] at hR
    have ha := nRight_nr hR.1; have hb := nRight_nr hR.2
    have := ha.s0; have := ha.s1; have := hb.s0; have := hb.s1; have := ha.sl; have := hb.sl; have := ha.el; have := hb.el
    refine ⟨⟨hb.sts, by omega, by omega⟩, ⟨by omega, by omega⟩, by omega, ⟨hb.ens, by omega, by omega⟩, ?_⟩
    refine ⟨fun x => x = ⟨⟨a.States + b.States, if nEmpty a then a.Starts ++ b.Starts.map (· + a.States) else a.Starts, b.Ends.map (· + a.States), []⟩, false⟩, ?_, ?_⟩
    · cases nEmpty a
      · rfl
      · exact ⟨by simp; omega, rfl⟩
    intro x hx; subst hx
    refine ⟨fun x => x = ⟨{ nCatE a b with Edges := [] }, false⟩, ?_, ?_⟩
    · unfold nCatE
      cases nEmpty b
      · rfl
      · exact ⟨by simp; omega, by simp⟩
    intro x hx; subst hx
    let E := a.Edges ++ b.Edges.map (eBy a.States)
    let S := b.Starts.map (· + a.States)
    have hE : (nCatE a b).Edges = E ++ a.Edges.flatMap (nCatX a S) := by rw [← nCatX_eq]; rfl
    have hEn : nEnd (nCatE a b) = nEnd { nCatE a b with Edges := E ++ a.Edges.flatMap (nCatX a S) } := by rw [← hE]
    refine ⟨ha.eby (by omega) (by omega), hb.eby (by omega) (by omega), fun x => nbEnd x = nEnd (nCatE a b), ?_, fun x hx => by dsimp only; rw [hx]; exact ⟨rfl, rfl⟩⟩
    refine ⟨fun x k => x = nbOf (nCatE a b) (E ++ (a.Edges.take k).flatMap (nCatX a S)), ?_, fun x k hI hk => ?_⟩
    · dsimp only
      rw [nbOf_nil { nCatE a b with Edges := [] } rfl, nbPut_of, nbPut_of, eBy_zero]
      simp [nbOf, E]
    dsimp only at *
    split <;> rename_i h <;> simp only [decide_eq_true_eq] at h
    · have hk' : k < a.Edges.length := by omega
      have e := flatMap_take a.Edges (nCatX a S) default k hk'
      have hl := flatMap_take_len a.Edges (nCatX a S) (k + 1)
      rw [members_get, e]
      rw [e] at hl
      split <;> rename_i h2
      · rw [Bool.not_eq_true'] at h2
        unfold nCatX at hI ⊢
        rw [h2]; simpa using hI
      · have h2 : a.Ends.contains (a.Edges.getD k default).To = true := by simpa using h2
        have hX : nCatX a S (a.Edges.getD k default) = S.map fun s => ⟨(a.Edges.getD k default).From, s, (a.Edges.getD k default).Set⟩ := by unfold nCatX; rw [if_pos h2]
        rw [hX] at hl ⊢
        generalize (a.Edges.getD k default) = y at *
        refine ⟨fun x k2 => x = nbOf (nCatE a b) (E ++ (a.Edges.take k).flatMap (nCatX a S) ++ (S.take k2).map fun s => ⟨y.From, s, y.Set⟩), by simpa using hI, fun x2 k2 hI2 hk2 => ?_⟩
        dsimp only at *
        split <;> rename_i h3 <;> simp only [decide_eq_true_eq] at h3
        · have hk2' : k2 < S.length := by show k2 < (b.Starts.map (· + a.States)).length; omega
          have e2 : (S.take (k2 + 1)).map (fun s => (⟨y.From, s, y.Set⟩ : GEdge)) = (S.take k2).map (fun s => ⟨y.From, s, y.Set⟩) ++ [⟨y.From, S.getD k2 default, y.Set⟩] := by
            rw [takec default hk2', List.map_append]; rfl
          have e3 : nbEdge x2 ⟨y.From, S.getD k2 default, y.Set⟩ = nbOf (nCatE a b) (E ++ (a.Edges.take k).flatMap (nCatX a S) ++ (S.take (k2 + 1)).map fun s => ⟨y.From, s, y.Set⟩) := by
            rw [hI2, nbEdge_of, e2]; simp
          split <;> rename_i h4
          · have h5 : (nbEdge x2 ⟨y.From, S.getD k2 default, y.Set⟩).full = true := h4
            rw [e3, nbOf_full, decide_eq_true_eq] at h5
            show nbEnd (nbEdge x2 ⟨y.From, S.getD k2 default, y.Set⟩) = _
            rw [e3, nbEnd_of, hEn]
            refine nEnd_full h5 ?_
            simp only [List.length_append, List.length_map, List.length_take] at h5 hl ⊢
            omega
          · exact e3
        · have hk3 : k2 = S.length := drop_end h3 hk2
          subst hk3
          rw [List.take_length] at hI2
          rw [hI2, List.append_assoc]
    · have : k = a.Edges.length := by omega
      subst this
      rw [List.take_length] at hI
      rw [hI, nbEnd_of, hEn]
theorem nfaStar_wp {a : GNfa} : wp_nfaStar a (fun r0 r1 => r0 = (nStar a).1 ∧ r1 = (nStar a).2) := by
  unfold wp_nfaStar nStar
  rw [nWrong1]
  cases hR : nRight a
  · exact ⟨rfl, rfl⟩
  · have ha := nRight_nr hR
    have := ha.s0; have := ha.s1
    refine ⟨⟨by omega, by omega⟩, ha.eby (by omega) (by omega), fun x k => x = nbOf (nStarE a) (a.Edges ++ (a.Edges.take k).flatMap (nStarX a)), ?_, fun x k hI hk => ?_⟩
    · dsimp only
      rw [nbOf_nil _ rfl, nbPut_of, eBy_zero]; simp [nbOf, nStarE]
    dsimp only at *
    split <;> rename_i h <;> simp only [decide_eq_true_eq] at h
    · have hk' : k < a.Edges.length := by omega
      have e := flatMap_take a.Edges (nStarX a) default k hk'
      rw [members_get, members_get, e]
      generalize (a.Edges.getD k default) = y at *
      refine ⟨fun x2 => x2 = nbOf (nStarE a) (a.Edges ++ (a.Edges.take k).flatMap (nStarX a) ++ (if a.Starts.contains y.From then [⟨a.States, y.To, y.Set⟩] else [])), ?_, ?_⟩
      · cases a.Starts.contains y.From
        · simpa using hI
        · dsimp only; rw [hI, nbEdge_of]; simp
      intro x2 h2
      refine ⟨fun x3 => x3 = nbOf (nStarE a) (a.Edges ++ (a.Edges.take k).flatMap (nStarX a) ++ (if a.Starts.contains y.From then [⟨a.States, y.To, y.Set⟩] else []) ++ (if a.Ends.contains y.To then [⟨y.From, a.States, y.Set⟩] else [])), ?_, ?_⟩
      · cases a.Ends.contains y.To
        · simpa using h2
        · dsimp only at h2 ⊢; rw [h2, nbEdge_of]; simp
      intro x3 h3
      have eX : nStarX a y = (if a.Starts.contains y.From then [⟨a.States, y.To, y.Set⟩] else []) ++ (if a.Ends.contains y.To then [⟨y.From, a.States, y.Set⟩] else []) ++ (if a.Starts.contains y.From && a.Ends.contains y.To then [⟨a.States, a.States, y.Set⟩] else []) := rfl
      rw [eX, ← List.append_assoc, ← List.append_assoc, ← List.append_assoc]
      generalize (a.Edges ++ (a.Edges.take k).flatMap (nStarX a) ++ (if a.Starts.contains y.From then [(⟨a.States, y.To, y.Set⟩ : GEdge)] else []) ++ (if a.Ends.contains y.To then [⟨y.From, a.States, y.Set⟩] else [])) = W at *
      cases a.Starts.contains y.From && a.Ends.contains y.To
      · rw [h3]; simp
      · rw [h3, nbEdge_of]; simp
    · have : k = a.Edges.length := by omega
      subst this
      rw [List.take_length] at hI
      rw [hI, nbEnd_of]
      have : ({ nStarE a with Edges := a.Edges ++ a.Edges.flatMap (nStarX a) } : GNfa) = nStarE a := rfl
      rw [this]; exact ⟨rfl, rfl⟩
end Go.Proofs.Ytbaciogbhjcdoaa
