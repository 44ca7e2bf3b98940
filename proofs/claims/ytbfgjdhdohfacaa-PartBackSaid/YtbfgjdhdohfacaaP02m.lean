/- The laws of more sets, and back, in plain terms. No condition. -/
import Derived.Test.YtbfgjdhdohfacaaW02m
set_option linter.unusedVariables false
set_option linter.unusedSimpArgs false
namespace Go.Proofs.Ytbfgjdhdohfacaa
theorem pP_of {l : List BSet} (h : l.length ≤ 1024) : pP l = parts l := if_pos h
theorem pE_of {l : List BSet} (h : l.length ≤ 1024) : pE l = 0 := if_pos h
theorem lPartMore_wp {l : List BSet} {more : List BSet} : wp_lPartMore l more (fun r0 => r0 = true) := by
  unfold wp_lPartMore
  split
  · rfl
  rename_i hc
  simp only [Bool.or_eq_true, decide_eq_true_eq, not_or] at hc
  have h1 : l.length ≤ 20 := by omega
  have h2 : more.length ≤ 20 := by omega
  have h3 : (l ++ more).length ≤ 1024 := by rw [List.length_append]; omega
  rw [List.nil_append]
  refine ⟨by omega, by omega, ?_⟩
  have h4 := parts_le l
  rw [pP_of (by omega : l.length ≤ 1024), pE_of (by omega : l.length ≤ 1024), pP_of h3, pE_of h3, pP_of (by omega : (parts l).length ≤ 1024), pE_of (by omega : (parts l).length ≤ 1024), parts_parts]
  rw [if_neg (by simp)]
  refine ⟨fun _ => True, trivial, fun i _ hi => ?_⟩
  split <;> rename_i h <;> simp only [decide_eq_true_eq] at h
  · have hi' : i < (parts (l ++ more)).length := by omega
    obtain ⟨b, hb, hcl⟩ := part_seen hi'
    refine ⟨fun n k => n = if cl l b < k then 1 else 0, by simp, fun n k hn hk => ?_⟩
    dsimp only at *
    split <;> rename_i h5 <;> simp only [decide_eq_true_eq] at h5
    · have hk' : k < (parts l).length := by omega
      rw [more_band hi' hb hcl hk']
      by_cases e : k = cl l b
      · rw [if_pos e]
        have hn0 : n = 0 := by rw [hn, if_neg (by omega)]
        rw [if_pos (by simp), if_pos (by omega), hn0]
        exact ⟨⟨by omega, by omega⟩, rfl⟩
      · rw [if_neg e]
        have hne := part_ne hi' hb hcl
        rw [if_neg (by simpa using hne), if_neg (by simp), hn]
        split
        · rw [if_pos (by omega)]
        · rw [if_neg (by omega)]
    · have hc2 := cl_lt_parts l hb
      have hn1 : n = 1 := by rw [hn, if_pos (by omega)]
      rw [if_neg (by simp [hn1])]; trivial
  · have := more_len l more
    simpa using this
theorem sS_of {c : List Int} (h : okB c = true) : sS c = partsK c 256 := if_pos h
theorem sE_of {c : List Int} (h : okB c = true) : sE c = 0 := if_pos h
theorem cC_of {l : List BSet} (h : rightB l = true) : cC l = cls l := if_pos h
theorem cE_of {l : List BSet} (h : rightB l = true) : cE l = 0 := if_pos h
theorem lPartBack_wp {l : List BSet} {xclass : List Int} : wp_lPartBack l xclass (fun r0 => r0 = true) := by
  unfold wp_lPartBack
  split
  · rfl
  rename_i hc
  simp only [Bool.or_eq_true, decide_eq_true_eq, not_or] at hc
  have h1 : l.length ≤ 1024 := by omega
  have hr := right_of_parts l
  have e1 : sS (cls l) = parts l := sS_of (okB_cls l)
  rw [pP_of h1, pE_of h1, cC_of hr, cE_of hr, cls_of_parts, sE_of (okB_cls l), e1, if_neg (by simp)]
  refine ⟨fun _ => True, trivial, fun i _ hi => ?_⟩
  split <;> rename_i h <;> simp only [decide_eq_true_eq] at h
  · have hi' : i < l.length := by omega
    have hmem : l.getD i default ∈ l := by
      rw [List.getD_eq_getElem?_getD, List.getElem?_eq_getElem hi']; exact List.getElem_mem hi'
    obtain ⟨r, h2, h3, h4⟩ := overB_in hmem
    have e2 : oO (parts l) (l.getD i default) = r.map fun (n : Nat) => (n : Int) := by unfold oO; rw [h2]; rfl
    have e3 : oE (parts l) (l.getD i default) = 0 := by unfold oE; rw [h2]; rfl
    rw [e2, e3]
    refine ⟨fun all k => all = together (parts l) (r.take k), rfl, fun all k hI hk => ?_⟩
    dsimp only at *
    rw [List.length_map] at hk ⊢
    split <;> rename_i h5 <;> simp only [decide_eq_true_eq] at h5
    · have hk' : k < r.length := by omega
      have eg : (r.map fun (n : Nat) => (n : Int)).getD k default = ((r.getD k default : Nat) : Int) := by
        simp only [List.getD_eq_getElem?_getD, List.getElem?_map, List.getElem?_eq_getElem hk', Option.map_some, Option.getD_some]
      have hm : r.getD k default ∈ r := by
        rw [List.getD_eq_getElem?_getD, List.getElem?_eq_getElem hk']; exact List.getElem_mem hk'
      have hlt := h3 _ hm
      rw [eg]
      generalize hg : r.getD k default = g at *
      rw [if_neg (by simp; omega)]
      refine ⟨⟨by omega, by omega⟩, ?_⟩
      rw [hI, show ((g : Nat) : Int).toNat = g from rfl, ← hg]
      exact together_snoc (parts l) hk'
    · have ek : k = r.length := by omega
      rw [ek, List.take_length, h4] at hI
      rw [if_neg (by simp [hI])]; trivial
  · cases hok : okB xclass
    · have e2 : sE xclass = 1 := by unfold sE; rw [hok]; rfl
      have e3 : sS xclass = [] := by unfold sS; rw [hok]; rfl
      rw [e2, e3]; rfl
    · obtain ⟨k1, k2⟩ := okB_iff.1 hok
      rw [sE_of hok, sS_of hok, cE_of (right_parts k1 k2), cC_of (right_parts k1 k2), cls_parts k1 k2]
      simp
end Go.Proofs.Ytbfgjdhdohfacaa
