/- Plain laws of partitions: bytes told apart by signs, kept in a table. No condition. -/
import Derived.Test.YtbfgjdhdohfacaaPlain02b
set_option linter.unusedSimpArgs false
set_option linter.unusedVariables false
namespace Go.Proofs.Ytbfgjdhdohfacaa
/-- in which sets a byte is -/
def sign (l : List BSet) (b : Nat) : List UInt8 := l.map fun s => if s.has b then 1 else 0
theorem sign_alike {l : List BSet} {a b : Nat} : sign l a = sign l b ↔ alike l a b = true := by
  unfold sign
  rw [alike_iff, List.map_inj_left]
  constructor
  · intro h s hs
    have := h s hs
    cases e1 : s.has a <;> cases e2 : s.has b <;> simp [e1, e2] at this ⊢
  · intro h s hs; rw [h s hs]
/-- the table when n bytes are seen -/
def plK (l : List BSet) : Nat → List (List UInt8 × Int)
  | 0 => []
  | n + 1 => if isF l n then plK l n ++ [(sign l n, ((firsts l n).length : Int))] else plK l n
theorem plK_len (l : List BSet) : ∀ n, (plK l n).length = (firsts l n).length
  | 0 => rfl
  | n + 1 => by
    simp only [plK, firsts_succ]
    split
    · simp [plK_len l n]
    · exact plK_len l n
theorem aget_snoc {K V : Type} [DecidableEq K] (l : List (K × V)) (k q : K) (v : V) : aget (l ++ [(k, v)]) q = (aget l q).or (if q = k then some v else none) := by
  induction l with
  | nil => simp [aget]
  | cons p l ih =>
    simp only [List.cons_append, aget]
    split
    · rfl
    · exact ih
theorem plK_get (l : List BSet) (b : Nat) : ∀ n, aget (plK l n) (sign l b) = if lst l b < n then some (cl l b : Int) else none
  | 0 => rfl
  | n + 1 => by
    have ih := plK_get l b n
    obtain ⟨h1, h2, h3⟩ := lst_spec l b
    simp only [plK]
    by_cases hf : isF l n = true
    · rw [if_pos hf, aget_snoc, ih]
      rcases Nat.lt_trichotomy (lst l b) n with h | h | h
      · rw [if_pos h, if_pos (show lst l b < n + 1 by omega)]; rfl
      · rw [if_neg (show ¬ lst l b < n by omega), if_pos (show lst l b < n + 1 by omega)]
        have : sign l b = sign l n := sign_alike.2 (alike_symm (h ▸ h2))
        rw [if_pos this]
        unfold cl; rw [h]; rfl
      · rw [if_neg (show ¬ lst l b < n by omega), if_neg (show ¬ lst l b < n + 1 by omega), if_neg]
        · rfl
        · intro e
          have := sign_alike.1 e
          have h4 := lst_uniq hf (alike_symm this) (by omega)
          omega
    · rw [if_neg hf, ih]
      have : lst l b ≠ n := fun e => hf (e ▸ h3)
      by_cases h : lst l b < n
      · rw [if_pos h, if_pos (show lst l b < n + 1 by omega)]
      · rw [if_neg h, if_neg (show ¬ lst l b < n + 1 by omega)]
/-- a sign under way -/
def signTo (l : List BSet) (b i : Nat) : List UInt8 := (sign l b).take i ++ List.replicate (l.length - i) 0
theorem signTo_len (l : List BSet) (b : Nat) {i : Nat} (h : i ≤ l.length) : (signTo l b i).length = l.length := by
  simp [signTo, sign]; omega
theorem sign_len (l : List BSet) (b : Nat) : (sign l b).length = l.length := by simp [sign]
theorem signTo_all (l : List BSet) (b : Nat) : signTo l b l.length = sign l b := by
  unfold signTo
  rw [List.take_of_length_le (by rw [sign_len]; exact Nat.le_refl _), Nat.sub_self]; simp
theorem signTo_zero (l : List BSet) (b : Nat) : signTo l b 0 = List.replicate l.length 0 := by simp [signTo]
theorem sign_get (l : List BSet) (b : Nat) {i : Nat} (h : i < l.length) : (sign l b)[i]'(by rw [sign_len]; exact h) = if (l[i]).has b then 1 else 0 := by
  simp [sign]
theorem signTo_step (l : List BSet) (b : Nat) {i : Nat} (h : i < l.length) :
    signTo l b (i + 1) = (sign l b).take i ++ (if (l[i]).has b then 1 else 0) :: List.replicate (l.length - (i + 1)) 0 := by
  unfold signTo
  rw [List.take_succ_eq_append_getElem (by rw [sign_len]; exact h), sign_get l b h, List.append_assoc]; rfl
theorem signTo_here (l : List BSet) (b : Nat) {i : Nat} (h : i < l.length) :
    signTo l b i = (sign l b).take i ++ 0 :: List.replicate (l.length - (i + 1)) 0 := by
  unfold signTo
  rw [show l.length - i = (l.length - (i + 1)) + 1 by omega, List.replicate_succ]
theorem signTo_no (l : List BSet) (b : Nat) {i : Nat} (h : i < l.length) (e : (l[i]).has b = false) : signTo l b (i + 1) = signTo l b i := by
  rw [signTo_step l b h, signTo_here l b h, e]; rfl
theorem signTo_yes (l : List BSet) (b : Nat) {i : Nat} (h : i < l.length) (e : (l[i]).has b = true) : signTo l b (i + 1) = (signTo l b i).set i 1 := by
  rw [signTo_step l b h, signTo_here l b h, e]
  have h2 : ((sign l b).take i).length = i := by rw [List.length_take, sign_len]; omega
  rw [List.set_append_right _ _ (by omega), h2, Nat.sub_self]; rfl
theorem lst_self {l : List BSet} {b : Nat} : ¬ lst l b < b ↔ isF l b = true := by
  obtain ⟨h1, h2, h3⟩ := lst_spec l b
  constructor
  · intro h; rwa [show lst l b = b by omega] at h3
  · intro h; have := lst_uniq h (alike_refl l b) (Nat.le_refl _); omega
/-- what the table answers at a byte's sign -/
def atv (l : List BSet) (b : Nat) : Nat := if lst l b < b then cl l b else 0
theorem look_sign (l : List BSet) (b : Nat) : (aget (plK l b) (sign l b)).getD 0 = (atv l b : Int) ∧ (aget (plK l b) (sign l b)).isSome = decide (lst l b < b) := by
  rw [plK_get]; unfold atv
  by_cases h : lst l b < b
  · simp [h]
  · simp [h]
theorem atv_old {l : List BSet} {b : Nat} (h : lst l b < b) : atv l b = cl l b := if_pos h
theorem aput_none {K V : Type} [DecidableEq K] (k : K) (v : V) : ∀ l : List (K × V), aget l k = none → aput l k v = l ++ [(k, v)]
  | [], _ => rfl
  | p :: l, h => by
    simp only [aget] at h
    simp only [aput]
    split at h
    · cases h
    · rename_i hp; rw [if_neg hp, aput_none k v l h]; rfl
theorem put_new {l : List BSet} {b : Nat} (h : ¬ lst l b < b) : aput (plK l b) (sign l b) ((plK l b).length : Int) = plK l (b + 1) := by
  rw [aput_none _ _ _ (by rw [plK_get, if_neg h])]
  simp only [plK, if_pos (lst_self.1 h), plK_len]
theorem put_old {l : List BSet} {b : Nat} (h : lst l b < b) : plK l b = plK l (b + 1) := by
  have : ¬ isF l b = true := fun e => lst_self.2 e h
  simp only [plK, if_neg this]
theorem len_new {l : List BSet} {b : Nat} (h : ¬ lst l b < b) : (plK l b).length = cl l b := by
  rw [plK_len, cl_eq_len.2 (lst_self.1 h)]
theorem getD_in {l : List BSet} {i : Nat} (h : i < l.length) : l.getD i default = l[i] := by simp [List.getD, h]
theorem sg_yes {l : List BSet} {b i : Nat} (h : i < l.length) (e : hasN l b i = true) : (signTo l b i).set i 1 = signTo l b (i + 1) :=
  (signTo_yes l b h (by unfold hasN at e; rwa [getD_in h] at e)).symm
theorem sg_no {l : List BSet} {b i : Nat} (h : i < l.length) (e : hasN l b i = false) : signTo l b i = signTo l b (i + 1) :=
  (signTo_no l b h (by unfold hasN at e; rwa [getD_in h] at e)).symm
end Go.Proofs.Ytbfgjdhdohfacaa
