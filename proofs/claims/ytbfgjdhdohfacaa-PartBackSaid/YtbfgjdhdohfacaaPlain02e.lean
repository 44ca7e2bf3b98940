/- Plain laws of partitions: other orders, more sets, parts of a set. No condition. -/
import Derived.Test.YtbfgjdhdohfacaaPlain02d
set_option linter.unusedSimpArgs false
set_option linter.unusedVariables false
namespace Go.Proofs.Ytbfgjdhdohfacaa
/-! ## what tells bytes apart alike has one partition -/
theorem isF_congr {l m : List BSet} (h : ∀ a, a < 256 → ∀ b, b < 256 → alike l a b = alike m a b) {b : Nat} (hb : b < 256) : isF l b = isF m b := by
  rw [Bool.eq_iff_iff, isF_iff, isF_iff]
  constructor
  · intro k a ha; rw [← h a (by omega) b hb]; exact k a ha
  · intro k a ha; rw [h a (by omega) b hb]; exact k a ha
theorem firsts_congr {l m : List BSet} (h : ∀ a, a < 256 → ∀ b, b < 256 → alike l a b = alike m a b) {n : Nat} (hn : n ≤ 256) : firsts l n = firsts m n :=
  List.filter_congr fun b hb => isF_congr h (by have := List.mem_range.1 hb; omega)
theorem lst_congr {l m : List BSet} (h : ∀ a, a < 256 → ∀ b, b < 256 → alike l a b = alike m a b) {b : Nat} (hb : b < 256) : lst l b = lst m b := by
  obtain ⟨h1, h2, h3⟩ := lst_spec l b
  exact (lst_uniq (l := m) (by rw [← isF_congr h (by omega)]; exact h3) (by rw [← h _ (by omega) _ hb]; exact h2) h1).symm
theorem cls_congr {l m : List BSet} (h : ∀ a, a < 256 → ∀ b, b < 256 → alike l a b = alike m a b) : cls l = cls m := by
  unfold cls
  apply tab_congr
  intro b hb
  unfold cl
  have h1 := (lst_spec m b).1
  rw [lst_congr h hb, firsts_congr h (by omega)]
theorem parts_congr {l m : List BSet} (h : ∀ a, a < 256 → ∀ b, b < 256 → alike l a b = alike m a b) : parts l = parts m := by
  unfold parts; rw [cls_congr h]
/-! ## other orders -/
theorem rev_take {l : List BSet} {i : Int} (h0 : 0 ≤ i) (h1 : i < l.length) : (l.drop (i + 1).toNat).reverse ++ [l.getD i.toNat default] = (l.drop (i - 1 + 1).toNat).reverse := by
  rw [show (i - 1 + 1).toNat = i.toNat by omega, show (i + 1).toNat = i.toNat + 1 by omega]
  have hi : i.toNat < l.length := by omega
  rw [List.drop_eq_getElem_cons hi, List.reverse_cons, List.getD, List.getElem?_eq_getElem hi]; rfl
def nots (s : BSet) (k : Nat) : BSet := .map2k (fun x _ => ~~~x) s s k
theorem nots_step (s : BSet) {k : Nat} (h : k < 4) : (nots s k).setw k (~~~((nots s k).wd k)) = nots s (k + 1) := by
  have : (nots s k).wd k = s.wd k := by
    rcases (show k = 0 ∨ k = 1 ∨ k = 2 ∨ k = 3 by omega) with rfl | rfl | rfl | rfl <;> rfl
  rw [this]; exact BSet.map2k_succ (fun x _ => ~~~x) s s h
def flip0 (l : List BSet) (k : Nat) : List BSet := l.set 0 (nots (l.getD 0 default) k)
theorem flip0_len (l : List BSet) (k : Nat) : (flip0 l k).length = l.length := by simp [flip0]
theorem flip0_zero (l : List BSet) : l = flip0 l 0 := by
  cases l with
  | nil => rfl
  | cons a l => simp [flip0, nots, BSet.map2k_zero]
theorem flip0_get {l : List BSet} (h : 0 < l.length) (k : Nat) : (flip0 l k).getD 0 default = nots (l.getD 0 default) k := by
  cases l with
  | nil => simp at h
  | cons a l => simp [flip0]
theorem flip0_step {l : List BSet} (h : 0 < l.length) {k : Nat} (hk : k < 4) :
    (flip0 l k).set 0 (((flip0 l k).getD 0 default).setw k (~~~(((flip0 l k).getD 0 default).wd k))) = flip0 l (k + 1) := by
  rw [flip0_get h, nots_step _ hk]; simp [flip0]
theorem flip0_alike {l : List BSet} {a b : Nat} (ha : a < 256) (hb : b < 256) : alike (flip0 l 4) a b = alike l a b := by
  cases l with
  | nil => rfl
  | cons s l =>
    have : flip0 (s :: l) 4 = s.bnot :: l := rfl
    rw [this]
    simp only [alike, List.all_cons, BSet.has_bnot _ ha, BSet.has_bnot _ hb]
    congr 1
    cases s.has a <;> cases s.has b <;> rfl
theorem same_law {l : List BSet} {k : Nat} (hk : k < l.length) : parts (flip0 ((l.drop 0).reverse ++ [l.getD k default]) 4) = parts l := by
  apply parts_congr
  intro a ha b hb
  rw [flip0_alike ha hb, Bool.eq_iff_iff, alike_iff, alike_iff]
  constructor
  · intro h s hs; exact h s (by simp [hs])
  · intro h s hs
    simp only [List.drop_zero, List.mem_append, List.mem_reverse, List.mem_cons, List.not_mem_nil, or_false] at hs
    rcases hs with hs | rfl
    · exact h s hs
    · exact h _ (by rw [List.getD, List.getElem?_eq_getElem hk]; simp)
/-! ## more sets -/
theorem more_alike {l m : List BSet} {a b : Nat} (h : alike (l ++ m) a b = true) : alike l a b = true :=
  alike_iff.2 fun s hs => alike_iff.1 h s (by simp [hs])
theorem more_len (l m : List BSet) : (parts l).length ≤ (parts (l ++ m)).length := by
  rw [parts_len, parts_len]
  unfold firsts
  rw [← List.countP_eq_length_filter, ← List.countP_eq_length_filter]
  apply List.countP_mono_left
  intro b _ h
  rw [isF_iff] at h ⊢
  intro a ha
  have := h a ha
  cases e : alike (l ++ m) a b
  · rfl
  · rw [more_alike e] at this; cases this
theorem parts_has {l : List BSet} {k m : Nat} (hk : k < (parts l).length) (hm : m < 256) : ((parts l).getD k default).has m = decide (cl l m = k) := by
  unfold parts at hk ⊢
  rw [partsK_len] at hk
  rw [partsK_has hk hm, cls_get l hm]
  apply decide_eq_decide.2; omega
theorem cl_lt_parts (l : List BSet) {m : Nat} (hm : m < 256) : cl l m < (parts l).length := by
  rw [parts_len]; exact cl_lt (Nat.lt_of_le_of_lt (lst_spec l m).1 hm)
theorem cl_eq_iff {l : List BSet} {a b : Nat} : cl l a = cl l b ↔ alike l a b = true := by
  obtain ⟨a1, a2, a3⟩ := lst_spec l a
  obtain ⟨b1, b2, b3⟩ := lst_spec l b
  constructor
  · intro h
    have h1 : lst l a = lst l b := by
      have g1 := cl_get (l := l) (b := a) (n := lst l a + lst l b + 1) (by omega)
      have g2 := cl_get (l := l) (b := b) (n := lst l a + lst l b + 1) (by omega)
      rw [h] at g1
      exact g1.symm.trans g2
    exact alike_trans (alike_symm a2) (h1 ▸ b2)
  · intro h
    unfold cl; rw [lst_alike h]
theorem part_seen {l : List BSet} {k : Nat} (hk : k < (parts l).length) : ∃ m, m < 256 ∧ cl l m = k := by
  unfold parts at hk
  rw [partsK_len] at hk
  obtain ⟨m, h1, h2⟩ := top_seen (okTo_cls l) k hk
  rw [cls_get l h1] at h2
  exact ⟨m, h1, by omega⟩
/-- which part of the old ones holds a new part -/
theorem more_band {l m : List BSet} {i b : Nat} (hi : i < (parts (l ++ m)).length) (hb : b < 256) (hc : cl (l ++ m) b = i) {k : Nat} (hk : k < (parts l).length) :
    ((parts l).getD k default).band ((parts (l ++ m)).getD i default) = if k = cl l b then (parts (l ++ m)).getD i default else .zero := by
  apply BSet.ext
  intro n hn
  rw [BSet.has_band _ _ hn, parts_has hk hn, parts_has hi hn]
  by_cases h : cl (l ++ m) n = i
  · have h1 : cl l n = cl l b := cl_eq_iff.2 (more_alike (cl_eq_iff.1 (h.trans hc.symm)))
    rw [decide_eq_true h, h1]
    by_cases h2 : k = cl l b
    · rw [if_pos h2, parts_has hi hn, decide_eq_true h, decide_eq_true h2.symm]; rfl
    · rw [if_neg h2, BSet.has_zero, decide_eq_false (fun e => h2 e.symm)]; rfl
  · rw [decide_eq_false h]
    split
    · rw [parts_has hi hn, decide_eq_false h, Bool.and_false]
    · rw [BSet.has_zero, Bool.and_false]
theorem part_ne {l : List BSet} {i b : Nat} (hi : i < (parts l).length) (hb : b < 256) (hc : cl l b = i) : BSet.zero ≠ (parts l).getD i default := by
  intro h
  have h1 := parts_has hi hb
  rw [← h, BSet.has_zero, decide_eq_true hc] at h1; cases h1
/-! ## parts of a set -/
theorem band_set {l : List BSet} {s : BSet} (hs : s ∈ l) {k b : Nat} (hk : k < (parts l).length) (hb : b < 256) (hc : cl l b = k) :
    ((parts l).getD k default).band s = if s.has b then (parts l).getD k default else .zero := by
  apply BSet.ext
  intro n hn
  rw [BSet.has_band _ _ hn, parts_has hk hn]
  by_cases h : cl l n = k
  · have h1 := alike_iff.1 (cl_eq_iff.1 (h.trans hc.symm)) s hs
    rw [h1, decide_eq_true h]
    cases s.has b
    · rw [if_neg (by simp), BSet.has_zero]; rfl
    · rw [if_pos rfl, parts_has hk hn, decide_eq_true h]; rfl
  · rw [decide_eq_false h]
    split
    · rw [parts_has hk hn, decide_eq_false h, Bool.false_and]
    · rw [BSet.has_zero, Bool.false_and]
theorem over_set {l : List BSet} {s : BSet} (hs : s ∈ l) : ∀ k, k ≤ (parts l).length → ∃ r, overK (parts l) s k = some r ∧ ∀ j, j ∈ r ↔ j < k ∧ ∃ b, b < 256 ∧ cl l b = j ∧ s.has b = true
  | 0, _ => ⟨[], rfl, fun j => by simp⟩
  | k + 1, hk => by
    obtain ⟨r, h1, h2⟩ := over_set hs k (by omega)
    obtain ⟨b, hb, hc⟩ := part_seen (l := l) (k := k) (by omega)
    have h3 := band_set hs (by omega) hb hc
    cases e : s.has b
    · rw [e, if_neg (by simp)] at h3
      refine ⟨r, over_no h1 (by rw [h3]; exact part_ne (by omega) hb hc) h3, fun j => ?_⟩
      rw [h2]
      constructor
      · rintro ⟨h4, h5⟩; exact ⟨by omega, h5⟩
      · rintro ⟨h4, c, h5, h6, h7⟩
        refine ⟨?_, c, h5, h6, h7⟩
        by_cases e2 : j = k
        · subst e2
          have := alike_iff.1 (cl_eq_iff.1 (h6.trans hc.symm)) s hs
          rw [h7, e] at this; cases this
        · omega
    · rw [e, if_pos rfl] at h3
      refine ⟨r ++ [k], over_yes h1 h3, fun j => ?_⟩
      simp only [List.mem_append, h2, List.mem_cons, List.not_mem_nil, or_false]
      constructor
      · rintro (⟨h4, h5⟩ | rfl)
        · exact ⟨by omega, h5⟩
        · exact ⟨by omega, b, hb, hc, e⟩
      · rintro ⟨h4, h5⟩
        by_cases e2 : j = k
        · exact .inr e2
        · exact .inl ⟨by omega, h5⟩
/-- some parts together -/
def together (p : List BSet) (r : List Nat) : BSet := r.foldl (fun a k => a.bor (p.getD k default)) .zero
theorem together_has (p : List BSet) (r : List Nat) {m : Nat} (hm : m < 256) : (together p r).has m = r.any fun k => (p.getD k default).has m := by
  unfold together
  have : ∀ (r : List Nat) (a : BSet), (r.foldl (fun a k => a.bor (p.getD k default)) a).has m = (a.has m || r.any fun k => (p.getD k default).has m) := by
    intro r
    induction r with
    | nil => intro a; simp
    | cons k r ih => intro a; rw [List.foldl_cons, ih, BSet.has_bor _ _ hm, List.any_cons, Bool.or_assoc]
  rw [this, BSet.has_zero, Bool.false_or]
theorem together_snoc (p : List BSet) {r : List Nat} {k : Nat} (h : k < r.length) : (together p (r.take k)).bor (p.getD (r.getD k default) default) = together p (r.take (k + 1)) := by
  rw [take_snoc h]; simp [together]
theorem overB_in {l : List BSet} {s : BSet} (hs : s ∈ l) : ∃ r, overB (parts l) s = some r ∧ (∀ j ∈ r, j < (parts l).length) ∧ together (parts l) r = s := by
  obtain ⟨r, h1, h2⟩ := over_set hs (parts l).length (Nat.le_refl _)
  refine ⟨r, overB_ok (right_of_parts l) h1, fun j hj => ((h2 j).1 hj).1, ?_⟩
  apply BSet.ext
  intro m hm
  rw [together_has _ _ hm, Bool.eq_iff_iff, List.any_eq_true]
  constructor
  · rintro ⟨k, h3, h4⟩
    obtain ⟨h5, b, h6, h7, h8⟩ := (h2 k).1 h3
    rw [parts_has h5 hm, decide_eq_true_eq] at h4
    rw [alike_iff.1 (cl_eq_iff.1 (h4.trans h7.symm)) s hs]; exact h8
  · intro h3
    exact ⟨cl l m, (h2 _).2 ⟨cl_lt_parts l hm, m, hm, rfl, h3⟩, by rw [parts_has (cl_lt_parts l hm) hm]; simp⟩
end Go.Proofs.Ytbfgjdhdohfacaa
