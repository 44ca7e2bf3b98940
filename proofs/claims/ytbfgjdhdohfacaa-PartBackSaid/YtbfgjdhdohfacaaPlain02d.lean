/- Plain laws for the statements of layer 2. No condition. -/
import Derived.Test.YtbfgjdhdohfacaaPlain02c
set_option linter.unusedSimpArgs false
set_option linter.unusedVariables false
namespace Go.Proofs.Ytbfgjdhdohfacaa
theorem right_of_parts (l : List BSet) : rightB (parts l) = true := right_parts (cls_len l) (okTo_cls l)
theorem parts_len (l : List BSet) : (parts l).length = (firsts l 256).length := by
  unfold parts; rw [partsK_len, top_cls l 256 (Nat.le_refl _)]
theorem parts_le (l : List BSet) : (parts l).length ≤ 256 := by rw [parts_len]; exact firsts_len_le l 256
def ex2 : List BSet := [.ofL [97], .ofL [97, 98]]
def col2 (b : Nat) : Nat := if b = 97 then 1 else if b = 98 then 2 else 0
theorem ex2_alike : ∀ a, a < 256 → ∀ b, b < 256 → alike ex2 a b = decide (col2 a = col2 b) := by
  have h : ∀ a, a < 256 → (BSet.ofL [97]).has a = decide (a = 97) ∧ (BSet.ofL [97, 98]).has a = (decide (a = 97) || decide (a = 98)) := by decide +kernel
  intro a ha b hb
  simp only [alike, ex2, List.all_cons, List.all_nil, Bool.and_true, (h a ha).1, (h a ha).2, (h b hb).1, (h b hb).2, col2]
  by_cases h1 : a = 97 <;> by_cases h2 : b = 97 <;> by_cases h3 : a = 98 <;> by_cases h4 : b = 98 <;> simp [h1, h2, h3, h4] <;> omega
theorem ex2_isF : ∀ b, b < 256 → isF ex2 b = decide (b = 0 ∨ b = 97 ∨ b = 98) := by
  intro b hb
  by_cases h : b = 0 ∨ b = 97 ∨ b = 98
  · rw [decide_eq_true h, isF_iff]
    intro a ha
    rw [ex2_alike a (by omega) b hb, decide_eq_false_iff_not]
    unfold col2; rcases h with h | h | h
    · omega
    · rw [if_neg (by omega), if_neg (by omega), if_pos h]; omega
    · rw [if_neg (show ¬ b = 97 by omega), if_pos h]; split <;> (try split) <;> omega
  · rw [decide_eq_false h]
    cases e : isF ex2 b
    · rfl
    · have := isF_iff.1 e 0 (by omega)
      rw [ex2_alike 0 (by omega) b hb, decide_eq_false_iff_not] at this
      exact absurd (by unfold col2; rw [if_neg (by omega), if_neg (by omega), if_neg (by omega), if_neg (by omega)]) this
theorem ex2_firsts (n : Nat) (hn : n ≤ 256) : firsts ex2 n = (List.range n).filter fun b => decide (b = 0 ∨ b = 97 ∨ b = 98) :=
  List.filter_congr fun b hb => ex2_isF b (by have := List.mem_range.1 hb; omega)
theorem ex2_len : (parts ex2).length = 3 := by rw [parts_len, ex2_firsts 256 (Nat.le_refl _)]; decide +kernel
theorem ex2_cl {b : Nat} (hb : b < 256) : ∀ a, isF ex2 a = true → alike ex2 a b = true → a ≤ b → cl ex2 b = (firsts ex2 a).length := fun a h1 h2 h3 => by
  unfold cl; rw [lst_uniq h1 h2 h3]
theorem ex2_96 : (cls ex2).getD 96 0 = 0 := by
  rw [cls_get _ (by omega), ex2_cl (by omega) 0 (by rw [ex2_isF _ (by omega)]; rfl) (by rw [ex2_alike _ (by omega) _ (by omega)]; rfl) (by omega)]; rfl
theorem ex2_97 : (cls ex2).getD 97 0 = 1 := by
  rw [cls_get _ (by omega), ex2_cl (by omega) 97 (by rw [ex2_isF _ (by omega)]; rfl) (by rw [ex2_alike _ (by omega) _ (by omega)]; rfl) (by omega), ex2_firsts _ (by omega)]; decide +kernel
theorem ex2_98 : (cls ex2).getD 98 0 = 2 := by
  rw [cls_get _ (by omega), ex2_cl (by omega) 98 (by rw [ex2_isF _ (by omega)]; rfl) (by rw [ex2_alike _ (by omega) _ (by omega)]; rfl) (by omega), ex2_firsts _ (by omega)]; decide +kernel
theorem ex2_99 : (cls ex2).getD 99 0 = 0 := by
  rw [cls_get _ (by omega), ex2_cl (by omega) 0 (by rw [ex2_isF _ (by omega)]; rfl) (by rw [ex2_alike _ (by omega) _ (by omega)]; rfl) (by omega)]; rfl
end Go.Proofs.Ytbfgjdhdohfacaa
