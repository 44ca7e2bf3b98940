/- Plain helpers: loops, tables ranged over, the library's small functions. No condition. -/
import Derived.Test.YtbaciogbhjcdoaaD15
set_option linter.unusedVariables false
set_option linter.unusedSimpArgs false
namespace Go.Proofs.Ytbaciogbhjcdoaa
theorem dropk {α : Type} {l : List α} {k : Nat} (d : α) (h : k < l.length) : l.drop k = l.getD k d :: l.drop (k + 1) := by
  rw [List.drop_eq_getElem_cons h, List.getD_eq_getElem?_getD, List.getElem?_eq_getElem h]; rfl
theorem takek {α : Type} {l : List α} {k : Nat} (d : α) (h : k < l.length) : l.take (k + 1) = l.take k ++ [l.getD k d] := by
  rw [List.take_add_one, List.getD_eq_getElem?_getD, List.getElem?_eq_getElem h]; rfl
theorem getk_mem {α : Type} {l : List α} {k : Nat} {d : α} (h : k < l.length) : l.getD k d ∈ l := by
  rw [List.getD_eq_getElem?_getD, List.getElem?_eq_getElem h]; exact List.getElem_mem h
theorem getk {α : Type} {l : List α} {k : Nat} {d : α} (h : k < l.length) : l.getD k d = l[k] := by
  rw [List.getD_eq_getElem?_getD, List.getElem?_eq_getElem h]; rfl
/-! ## loops over a counter -/
section
variable {n : Nat}
theorem cnt0 {A : (Nat → Prop) → Nat → Prop} {B : Nat → Prop} (J : Nat → Prop) (h0 : J 0) (hs : ∀ k, J k → k < n → A J k) (he : J n → B n) :
    ∃ I : Nat → Prop, I 0 ∧ ∀ k : Nat, I k → k ≤ n → if decide ((k : Int) < (n : Int)) = true then A I k else B k :=
  ⟨J, h0, fun k hk hle => by
    split <;> rename_i h <;> simp only [decide_eq_true_eq] at h
    · exact hs k hk (by omega)
    · obtain rfl : k = n := by omega
      exact he hk⟩
theorem cnt1 {β : Type} {b0 : β} {A : (β → Nat → Prop) → β → Nat → Prop} {B : β → Nat → Prop} (J : β → Nat → Prop) (h0 : J b0 0) (hs : ∀ b k, J b k → k < n → A J b k) (he : ∀ b, J b n → B b n) :
    ∃ I : β → Nat → Prop, I b0 0 ∧ ∀ (b : β) (k : Nat), I b k → k ≤ n → if decide ((k : Int) < (n : Int)) = true then A I b k else B b k :=
  ⟨J, h0, fun b k hk hle => by
    split <;> rename_i h <;> simp only [decide_eq_true_eq] at h
    · exact hs b k hk (by omega)
    · obtain rfl : k = n := by omega
      exact he b hk⟩
theorem cnt2 {β γ : Type} {b0 : β} {c0 : γ} {A : (β → γ → Nat → Prop) → β → γ → Nat → Prop} {B : β → γ → Nat → Prop} (J : β → γ → Nat → Prop) (h0 : J b0 c0 0) (hs : ∀ b c k, J b c k → k < n → A J b c k) (he : ∀ b c, J b c n → B b c n) :
    ∃ I : β → γ → Nat → Prop, I b0 c0 0 ∧ ∀ (b : β) (c : γ) (k : Nat), I b c k → k ≤ n → if decide ((k : Int) < (n : Int)) = true then A I b c k else B b c k :=
  ⟨J, h0, fun b c k hk hle => by
    split <;> rename_i h <;> simp only [decide_eq_true_eq] at h
    · exact hs b c k hk (by omega)
    · obtain rfl : k = n := by omega
      exact he b c hk⟩
end
/-! ## tables ranged over -/
theorem perm_round {α : Type} {D R l : List α} {j : Nat} {d : α} (hp : (D ++ R).Perm l) (hj : j < R.length) : ((D ++ [R.getD j d]) ++ R.eraseIdx j).Perm l := by
  refine List.Perm.trans ?_ hp
  rw [List.append_assoc]
  refine List.Perm.append_left D ?_
  rw [getk hj, List.eraseIdx_eq_take_drop_succ]
  have : R = R.take j ++ R[j] :: R.drop (j + 1) := by rw [← List.drop_eq_getElem_cons hj, List.take_append_drop]
  conv => rhs; rw [this]
  exact (List.perm_middle (a := R[j]) (l₁ := R.take j) (l₂ := R.drop (j + 1))).symm
theorem rng1 {α β : Type} [Inhabited α] {b0 : β} {l : List α} {A : (β → List α → Prop) → β → List α → Nat → Prop} {B : β → Prop} (J : β → List α → Prop) (h0 : J b0 []) (he : ∀ b D, D.Perm l → J b D → B b)
    (hs : ∀ b D R j, (D ++ R).Perm l → J b D → j < R.length → A (fun b' R' => ∃ D', (D' ++ R').Perm l ∧ J b' D') b R j) :
    ∃ I : β → List α → Prop, I b0 l ∧ ∀ (b : β) (R : List α), I b R → (R = [] → B b) ∧ ∀ j, j < R.length → A I b R j :=
  ⟨fun b R => ∃ D, (D ++ R).Perm l ∧ J b D, ⟨[], .refl _, h0⟩, fun b R ⟨D, hp, hJ⟩ => ⟨fun h => he b D (by subst h; simpa using hp) hJ, fun j hj => hs b D R j hp hJ hj⟩⟩
/-! ## tables by their keys -/
section
variable {K V : Type} [DecidableEq K] {m : List (K × V)} {l l' : List K}
theorem keys_put (m : List (K × V)) (k : K) (v : V) : keys (aput m k v) = if k ∈ keys m then keys m else keys m ++ [k] := by
  induction m with
  | nil => simp [aput, keys]
  | cons p m ih =>
    simp only [aput]
    by_cases h : k = p.1
    · rw [if_pos h, if_pos (by simp [keys, h])]; simp [keys, h]
    · rw [if_neg h]
      simp only [keys, List.map_cons, List.mem_cons, h, false_or] at ih ⊢
      rw [ih]
      by_cases q : k ∈ List.map Prod.fst m
      · simp [q]
      · simp [q]
theorem KeysOf.put (h : KeysOf m l) (k : K) (v : V) : KeysOf (aput m k v) (l ++ [k]) := by
  unfold KeysOf
  rw [keys_put]
  by_cases hk : k ∈ keys m
  · rw [if_pos hk]
    refine ⟨h.1, fun q => ?_⟩
    rw [h.2 q, List.mem_append, List.mem_singleton]
    exact ⟨.inl, fun hh => hh.elim id fun e => e ▸ (h.2 k).1 hk⟩
  · rw [if_neg hk]
    refine ⟨?_, fun q => ?_⟩
    · rw [List.nodup_append]
      refine ⟨h.1, by simp, fun a ha b hb => ?_⟩
      rw [List.mem_singleton] at hb
      rintro rfl
      exact hk (hb ▸ ha)
    · simp only [List.mem_append, h.2 q]
omit [DecidableEq K] in
theorem KeysOf.nil : KeysOf ([] : List (K × V)) [] := ⟨List.nodup_nil, fun _ => Iff.rfl⟩
omit [DecidableEq K] in
theorem KeysOf.congr (h : KeysOf m l) (hm : ∀ q, q ∈ l ↔ q ∈ l') : KeysOf m l' := ⟨h.1, fun q => (h.2 q).trans (hm q)⟩
theorem mem_dd {x : K} : ∀ {l : List K}, x ∈ dd l ↔ x ∈ l
  | [] => Iff.rfl
  | a :: l => by
    simp only [dd]
    split
    · rename_i h
      rw [mem_dd, List.mem_cons]
      exact ⟨.inr, fun q => q.elim (fun e => e ▸ h) id⟩
    · rw [List.mem_cons, List.mem_cons, mem_dd]
theorem nodup_dd : ∀ (l : List K), (dd l).Nodup
  | [] => List.nodup_nil
  | a :: l => by
    simp only [dd]
    split
    · exact nodup_dd l
    · rename_i h
      exact List.nodup_cons.2 ⟨fun q => h (mem_dd.1 q), nodup_dd l⟩
theorem card_of {a l : List K} (hn : a.Nodup) (hm : ∀ q, q ∈ a ↔ q ∈ l) : a.length = card l :=
  ((List.perm_ext_iff_of_nodup hn (nodup_dd l)).2 fun q => (hm q).trans mem_dd.symm).length_eq
theorem KeysOf.len (h : KeysOf m l) : m.length = card l := by
  have := card_of h.1 h.2
  simpa [keys] using this
theorem card_le {a b : List K} (h : ∀ q, q ∈ a → q ∈ b) : card a ≤ card b :=
  (nodup_dd a).length_le_of_subset fun q hq => mem_dd.2 (h q (mem_dd.1 hq))
theorem card_congr {a b : List K} (h : ∀ q, q ∈ a ↔ q ∈ b) : card a = card b := Nat.le_antisymm (card_le fun q => (h q).1) (card_le fun q => (h q).2)
end
/-! ## the library's small ones -/
section
variable {α : Type} [Inhabited α]
theorem gIndex {p : α → Bool} {s : List α} : ∃ I : Nat → Prop, I 0 ∧ ∀ k : Nat, I k → k ≤ s.length → if decide ((k : Int) < (s.length : Int)) = true then (if p (s.getD k default) = true then (k : Int) = idxF p s else I (k + 1)) else (-1 : Int) = idxF p s := by
  refine cnt0 (fun k => ∀ i, i < k → (h : i < s.length) → p s[i] = false) (fun i h => absurd h (by omega)) (fun k hI hk => ?_) (fun hI => ?_)
  · split <;> rename_i h
    · rw [getk hk] at h
      have : s.findIdx? p = some k := by
        rw [List.findIdx?_eq_some_iff_getElem]
        exact ⟨hk, h, fun j hj => by simpa using hI j hj (by omega)⟩
      rw [idxF, this]
    · intro i hi hl
      by_cases e : i < k
      · exact hI i e hl
      · obtain rfl : i = k := by omega
        rw [getk hk] at h; simpa using h
  · have : s.findIdx? p = none := by
      rw [List.findIdx?_eq_none_iff]
      intro x hx
      obtain ⟨i, hi, rfl⟩ := List.getElem_of_mem hx
      exact hI i hi hi
    rw [idxF, this]
omit [Inhabited α] in
theorem gContains {p : α → Bool} {s : List α} : decide (0 ≤ idxF p s) = s.any p := by
  unfold idxF
  cases h : s.findIdx? p with
  | none =>
    rw [List.findIdx?_eq_none_iff] at h
    symm; simp only [decide_eq_false (show ¬ (0 : Int) ≤ -1 by omega)]
    rw [List.any_eq_false]
    intro x hx; rw [h x hx]; decide
  | some i =>
    rw [List.findIdx?_eq_some_iff_getElem] at h
    obtain ⟨h1, h2, _⟩ := h
    symm; simp only [decide_eq_true (show (0 : Int) ≤ (i : Int) by omega)]
    rw [List.any_eq_true]
    exact ⟨s[i], List.getElem_mem h1, h2⟩
omit [Inhabited α] in
theorem gClone {s : List α} {n b : Nat} (hb : b * s.length ≤ 140737488355328) : ∀ isnil : Bool, ((isnil = true → s = []) → if isnil = true then [] = s else (0 + s.length) * b ≤ 140737488355328 ∧ [] ++ s = s) := by
  intro isnil h
  split <;> rename_i q
  · exact (h q).symm
  · exact ⟨by rw [Nat.zero_add, Nat.mul_comm]; exact hb, rfl⟩
/-- two rows, one by one -/
theorem gSame [DecidableEq α] {a b : List α} : if (!decide ((a.length : Int) = (b.length : Int))) = true then false = decide (a = b) else
    ∃ I : Nat → Prop, I 0 ∧ ∀ i : Nat, I i → i ≤ a.length → if decide ((i : Int) < (a.length : Int)) = true then ((0 : Int) ≤ (i : Int) ∧ (i : Int) < (b.length : Int)) ∧ (if (!decide (a.getD i default = b.getD i default)) = true then false = decide (a = b) else I (i + 1)) else true = decide (a = b) := by
  split <;> rename_i h
  · symm; rw [decide_eq_false_iff_not]; rintro rfl; simp at h
  · have hl : a.length = b.length := by
      by_cases q : (a.length : Int) = b.length
      · omega
      · simp [q] at h
    refine cnt0 (fun k => a.take k = b.take k) rfl (fun k hI hk => ⟨by omega, ?_⟩) (fun hI => ?_)
    · split <;> rename_i h2
      · symm; rw [decide_eq_false_iff_not]; rintro rfl; simp at h2
      · have e : a.getD k default = b.getD k default := by simpa using h2
        show a.take (k + 1) = b.take (k + 1)
        rw [takek default hk, takek default (by omega), hI, e]
    · symm; rw [decide_eq_true_eq]
      rw [List.take_length, hl, List.take_length] at hI; exact hI
theorem gCompact [DecidableEq α] {s : List α} {z : α} (hp : s.length ≤ 1000000000000) : if decide ((s.length : Int) < 2) = true then s = cpL s else
    ∃ I : Nat → Prop, I 1 ∧ ∀ k : Nat, I k → if decide ((k : Int) < (s.length : Int)) = true then
      (-9223372036854775808 ≤ (k : Int) - 1 ∧ (k : Int) - 1 ≤ 9223372036854775807) ∧ ((0 : Int) ≤ (k : Int) - 1 ∧ (k : Int) - 1 < (s.length : Int)) ∧
      (if decide (s.getD k default = s.getD ((k : Int) - 1).toNat default) = true then
        ((0 : Int) ≤ (k : Int) ∧ (k : Int) ≤ (s.length : Int)) ∧
        ∃ (J : List α → Int → Int → Prop) (μ : List α → Int → Int → Nat), J s (k : Int) 1 ∧ ∀ (s2 : List α) (w r : Int), J s2 w r →
          ((0 : Int) ≤ (k : Int) ∧ (k : Int) ≤ (s2.length : Int)) ∧ s2.length = s.length ∧
          (if decide (r < ((s2.drop k).length : Int)) = true then
            ((0 : Int) ≤ r ∧ r < ((s2.drop k).length : Int)) ∧ (-9223372036854775808 ≤ r - 1 ∧ r - 1 ≤ 9223372036854775807) ∧ ((0 : Int) ≤ r - 1 ∧ r - 1 < ((s2.drop k).length : Int)) ∧
            (if (!decide ((s2.drop k).getD r.toNat default = (s2.drop k).getD (r - 1).toNat default)) = true then
              ((0 : Int) ≤ w ∧ w < (s2.length : Int)) ∧ (-9223372036854775808 ≤ w + 1 ∧ w + 1 ≤ 9223372036854775807) ∧ (-9223372036854775808 ≤ r + 1 ∧ r + 1 ≤ 9223372036854775807) ∧
              J (s2.set w.toNat ((s2.drop k).getD r.toNat default)) (w + 1) (r + 1) ∧ μ (s2.set w.toNat ((s2.drop k).getD r.toNat default)) (w + 1) (r + 1) < μ s2 w r
            else (-9223372036854775808 ≤ r + 1 ∧ r + 1 ≤ 9223372036854775807) ∧ J s2 w (r + 1) ∧ μ s2 w (r + 1) < μ s2 w r)
          else ((0 : Int) ≤ w ∧ w ≤ (s2.length : Int)) ∧ ((0 : Int) ≤ w ∧ w ≤ ((s2.take w.toNat ++ List.replicate (s2.length - w.toNat) z).length : Int)) ∧
            (s2.take w.toNat ++ List.replicate (s2.length - w.toNat) z).take w.toNat = cpL s)
      else I (k + 1))
    else s = cpL s := by
  split <;> rename_i h <;> simp only [decide_eq_true_eq] at h
  · match s, h with
    | [], _ => rfl
    | [a], _ => rfl
    | a :: b :: r, h => simp at h; omega
  · obtain ⟨a, b, s', rfl⟩ : ∃ a b s', s = a :: b :: s' := by
      match s, h with
      | [], h => simp at h
      | [a], h => simp at h
      | a :: b :: r, _ => exact ⟨a, b, r, rfl⟩
    generalize hs : a :: b :: s' = s at *
    refine ⟨fun k => 1 ≤ k ∧ k ≤ s.length ∧ cpL s = s.take k ++ cpK (s.getD (k - 1) default) (s.drop k), ⟨Nat.le_refl _, by omega, by rw [← hs]; rfl⟩, ?_⟩
    rintro k ⟨h1, h2, h3⟩
    split <;> rename_i hk <;> simp only [decide_eq_true_eq] at hk
    · have hk' : k < s.length := by omega
      have e1 : ((k : Int) - 1).toNat = k - 1 := by omega
      refine ⟨by omega, by omega, ?_⟩
      rw [e1]
      rw [dropk default hk'] at h3
      simp only [cpK] at h3
      split <;> rename_i he <;> simp only [decide_eq_true_eq] at he
      · rw [if_pos he] at h3
        refine ⟨by omega, fun s2 w r => ∃ w' r' : Nat, w = w' ∧ r = r' ∧ 1 ≤ r' ∧ w' ≤ k + r' - 1 ∧ r' ≤ s.length - k ∧ s2.length = s.length ∧ s2.drop (k + r' - 1) = s.drop (k + r' - 1) ∧ cpL s = s2.take w' ++ cpK (s.getD (k + r' - 1) default) (s.drop (k + r')), fun s2 w r => s.length - r.toNat, ⟨k, 1, rfl, rfl, Nat.le_refl _, by omega, by omega, rfl, rfl, by rw [Nat.add_sub_cancel, he]; exact h3⟩, ?_⟩
        rintro s2 _ _ ⟨w, r, rfl, rfl, i1, i2, i3, i4, i5, i6⟩
        have hl : (s2.drop k).length = s.length - k := by rw [List.length_drop, i4]
        refine ⟨by omega, i4, ?_⟩
        split <;> rename_i hr <;> simp only [decide_eq_true_eq, hl] at hr
        · have hr' : k + r < s.length := by omega
          have g1 : (s2.drop k).getD r default = s.getD (k + r) default := by
            have : (s2.drop (k + r - 1))[1]? = (s.drop (k + r - 1))[1]? := by rw [i5]
            rw [List.getElem?_drop, List.getElem?_drop, show k + r - 1 + 1 = k + r by omega] at this
            rw [List.getD_eq_getElem?_getD, List.getD_eq_getElem?_getD, List.getElem?_drop, this]
          have g2 : (s2.drop k).getD (r - 1) default = s.getD (k + r - 1) default := by
            have : (s2.drop (k + r - 1))[0]? = (s.drop (k + r - 1))[0]? := by rw [i5]
            rw [List.getElem?_drop, List.getElem?_drop, Nat.add_zero] at this
            rw [List.getD_eq_getElem?_getD, List.getD_eq_getElem?_getD, List.getElem?_drop, show k + (r - 1) = k + r - 1 by omega, this]
          rw [show ((r : Int) - 1).toNat = r - 1 by omega, Int.toNat_natCast, Int.toNat_natCast, g1, g2]
          refine ⟨by omega, by omega, by omega, ?_⟩
          rw [dropk default hr'] at i6
          simp only [cpK] at i6
          split <;> rename_i hq
          · have hq' : ¬ s.getD (k + r) default = s.getD (k + r - 1) default := by simpa using hq
            rw [if_neg hq'] at i6
            refine ⟨by omega, by omega, by omega, ⟨w + 1, r + 1, by omega, by omega, by omega, by omega, by omega, by rw [List.length_set]; exact i4, ?_, ?_⟩, by dsimp only; omega⟩
            · rw [show k + (r + 1) - 1 = k + r by omega, List.drop_set, if_pos (by omega)]
              have := congrArg (List.drop 1) i5
              rw [List.drop_drop, List.drop_drop, show k + r - 1 + 1 = k + r by omega] at this
              exact this
            · rw [show k + (r + 1) - 1 = k + r by omega, show k + (r + 1) = k + r + 1 by omega]
              have hw : w < s2.length := by omega
              rw [takek default (by rw [List.length_set]; exact hw), List.take_set, List.set_eq_of_length_le (by rw [List.length_take]; omega), List.append_assoc]
              rw [show (s2.set w (s.getD (k + r) default)).getD w default = s.getD (k + r) default by
                rw [List.getD_eq_getElem?_getD, List.getElem?_set_self hw]; rfl]
              exact i6
          · have hq' : s.getD (k + r) default = s.getD (k + r - 1) default := by simpa using hq
            rw [if_pos hq'] at i6
            refine ⟨by omega, ⟨w, r + 1, rfl, by omega, by omega, by omega, by omega, i4, ?_, ?_⟩, by dsimp only; omega⟩
            · rw [show k + (r + 1) - 1 = k + r by omega]
              have := congrArg (List.drop 1) i5
              rw [List.drop_drop, List.drop_drop, show k + r - 1 + 1 = k + r by omega] at this
              exact this
            · rw [show k + (r + 1) - 1 = k + r by omega, show k + (r + 1) = k + r + 1 by omega, hq']
              exact i6
        · have hrr : k + r = s.length := by omega
          rw [hrr, List.drop_length] at i6
          simp only [cpK, List.append_nil] at i6
          rw [Int.toNat_natCast]
          refine ⟨by omega, by simp; omega, ?_⟩
          rw [List.take_left' (by rw [List.length_take]; omega), i6]
      · rw [if_neg he] at h3
        refine ⟨by omega, by omega, ?_⟩
        rw [Nat.add_sub_cancel, takek default hk', List.append_assoc]
        exact h3
    · obtain rfl : k = s.length := by omega
      rw [List.drop_length, List.take_length] at h3
      simpa [cpK] using h3.symm
end
end Go.Proofs.Ytbaciogbhjcdoaa
