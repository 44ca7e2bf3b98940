/- Plain laws of partitions of bytes: classes, their parts. No condition. -/
import Derived.Test.YtbfgjdhdohfacaaPlain01r
import Derived.Test.YtbfgjdhdohfacaaMap
set_option linter.unusedSimpArgs false
set_option linter.unusedVariables false
namespace Go.Proofs.Ytbfgjdhdohfacaa

/-! ## bytes that are alike -/
def alike (l : List BSet) (a b : Nat) : Bool := l.all fun s => s.has a == s.has b
theorem alike_refl (l : List BSet) (a : Nat) : alike l a a = true := by simp [alike]
theorem alike_iff {l : List BSet} {a b : Nat} : alike l a b = true ↔ ∀ s ∈ l, s.has a = s.has b := by simp [alike]
theorem alike_symm {l : List BSet} {a b : Nat} (h : alike l a b = true) : alike l b a = true := alike_iff.2 fun s hs => (alike_iff.1 h s hs).symm
theorem alike_trans {l : List BSet} {a b c : Nat} (h : alike l a b = true) (k : alike l b c = true) : alike l a c = true := alike_iff.2 fun s hs => (alike_iff.1 h s hs).trans (alike_iff.1 k s hs)
theorem alike_bad {l : List BSet} {a b k : Nat} (hk : k < l.length) (h : ((l.getD k default).has a == (l.getD k default).has b) = false) : alike l a b = false := by
  cases e : alike l a b
  · rfl
  · have := alike_iff.1 e (l.getD k default) (by rw [List.getD, List.getElem?_eq_getElem hk]; simp)
    rw [this] at h; simp at h
theorem alike_take {l : List BSet} {a b k : Nat} (hk : k < l.length) (hal : alike (l.take k) a b = true) (h : (l.getD k default).has a = (l.getD k default).has b) : alike (l.take (k + 1)) a b = true := by
  rw [take_snoc hk]
  unfold alike at hal ⊢
  rw [List.all_append, hal]
  simp only [List.all_cons, List.all_nil, Bool.and_true, Bool.true_and, beq_iff_eq]; exact h
/-- is b the first one of its kind -/
def isF (l : List BSet) (b : Nat) : Bool := (List.range b).all fun a => !alike l a b
theorem isF_iff {l : List BSet} {b : Nat} : isF l b = true ↔ ∀ a, a < b → alike l a b = false := by simp [isF]
def firsts (l : List BSet) (n : Nat) : List Nat := (List.range n).filter (isF l)
theorem firsts_succ (l : List BSet) (n : Nat) : firsts l (n + 1) = if isF l n then firsts l n ++ [n] else firsts l n := by
  unfold firsts
  rw [List.range_succ, List.filter_append]
  by_cases h : isF l n <;> simp [h]
theorem firsts_pre (l : List BSet) {k n : Nat} (h : k ≤ n) : firsts l k <+: firsts l n := by
  induction n with
  | zero => obtain rfl : k = 0 := by omega
            exact List.prefix_refl _
  | succ n ih =>
    by_cases e : k = n + 1
    · subst e; exact List.prefix_refl _
    · refine (ih (by omega)).trans ?_
      rw [firsts_succ]
      split
      · exact List.prefix_append _ _
      · exact List.prefix_refl _
theorem firsts_len_le (l : List BSet) (n : Nat) : (firsts l n).length ≤ n := by
  have := List.length_filter_le (isF l) (List.range n); simpa [firsts] using this
theorem firsts_mono (l : List BSet) {k n : Nat} (h : k ≤ n) : (firsts l k).length ≤ (firsts l n).length := (firsts_pre l h).length_le
/-- the first one of b's kind -/
def lst (l : List BSet) (b : Nat) : Nat := ((List.range b).find? fun a => alike l a b).getD b
theorem lst_spec (l : List BSet) (b : Nat) : lst l b ≤ b ∧ alike l (lst l b) b = true ∧ isF l (lst l b) = true := by
  unfold lst
  cases h : (List.range b).find? fun a => alike l a b with
  | none =>
    have h1 := List.find?_eq_none.1 h
    refine ⟨Nat.le_refl _, alike_refl l b, isF_iff.2 fun a ha => ?_⟩
    have := h1 a (List.mem_range.2 ha)
    simpa using this
  | some a =>
    obtain ⟨h1, as, bs, h2, h3⟩ := List.find?_eq_some_iff_append.1 h
    have hr : ∀ c, c < a → c ∈ as := by
      intro c hc
      have hlen : as.length = a := by
        have hab : a < b := List.mem_range.1 (by rw [h2]; simp)
        have e1 : (List.range b)[as.length]? = some a := by rw [h2]; simp
        obtain ⟨hl, he⟩ := List.getElem?_eq_some_iff.1 e1
        rw [List.getElem_range] at he; exact he
      have e2 : as = List.range a := by
        have hab : a < b := List.mem_range.1 (by rw [h2]; simp)
        have e3 : (List.range b).take a = as := by rw [h2, ← hlen, List.take_left]
        rw [← e3, List.take_range]; congr 1; omega
      rw [e2]; exact List.mem_range.2 hc
    have hab : a < b := List.mem_range.1 (by rw [h2]; simp)
    refine ⟨by simp; omega, h1, isF_iff.2 fun c hc => ?_⟩
    simp only [Option.getD_some] at hc ⊢
    have h4 := h3 c (hr c hc)
    simp only [Bool.not_eq_true'] at h4
    cases h5 : alike l c a
    · rfl
    · rw [alike_trans h5 h1] at h4; cases h4
theorem lst_uniq {l : List BSet} {a b : Nat} (h1 : isF l a = true) (h2 : alike l a b = true) (h3 : a ≤ b) : lst l b = a := by
  obtain ⟨k1, k2, k3⟩ := lst_spec l b
  rcases Nat.lt_trichotomy (lst l b) a with h | h | h
  · have := isF_iff.1 h1 _ h
    rw [alike_trans k2 (alike_symm h2)] at this; cases this
  · exact h
  · have := isF_iff.1 k3 _ h
    rw [alike_trans h2 (alike_symm k2)] at this; cases this
theorem lst_alike {l : List BSet} {a b : Nat} (h : alike l a b = true) : lst l a = lst l b := by
  obtain ⟨k1, k2, k3⟩ := lst_spec l a
  obtain ⟨j1, j2, j3⟩ := lst_spec l b
  rcases Nat.lt_trichotomy (lst l a) (lst l b) with h1 | h1 | h1
  · have := isF_iff.1 j3 _ h1
    rw [alike_trans k2 (alike_trans h (alike_symm j2))] at this; cases this
  · exact h1
  · have := isF_iff.1 k3 _ h1
    rw [alike_trans j2 (alike_trans (alike_symm h) (alike_symm k2))] at this; cases this
/-- a byte's class -/
def cl (l : List BSet) (b : Nat) : Nat := (firsts l (lst l b)).length
theorem cl_first {l : List BSet} {b : Nat} (h : isF l b = true) : cl l b = (firsts l b).length := by
  unfold cl; rw [lst_uniq h (alike_refl l b) (Nat.le_refl _)]
theorem cl_lt {l : List BSet} {b n : Nat} (h : lst l b < n) : cl l b < (firsts l n).length := by
  have h1 := firsts_mono l (show lst l b + 1 ≤ n by omega)
  rw [firsts_succ, if_pos (lst_spec l b).2.2] at h1
  simp at h1
  unfold cl; omega
theorem cl_get {l : List BSet} {b n : Nat} (h : lst l b < n) : (firsts l n).getD (cl l b) 0 = lst l b := by
  obtain ⟨t, ht⟩ := firsts_pre l (show lst l b + 1 ≤ n by omega)
  rw [firsts_succ, if_pos (lst_spec l b).2.2] at ht
  rw [← ht]
  unfold cl
  rw [List.getD, List.getElem?_append_left (by simp), List.getElem?_append_right (by simp)]; simp
theorem firsts_mem {l : List BSet} {n : Nat} {a : Nat} (h : a ∈ firsts l n) : a < n ∧ isF l a = true := by
  have := List.mem_filter.1 h
  exact ⟨List.mem_range.1 this.1, this.2⟩
theorem firsts_getD_mem {l : List BSet} {n k : Nat} (h : k < (firsts l n).length) : (firsts l n).getD k 0 ∈ firsts l n := by
  rw [List.getD, List.getElem?_eq_getElem h]; simp
theorem firsts_idx {l : List BSet} {n k : Nat} (h : k < (firsts l n).length) : cl l ((firsts l n).getD k 0) = k := by
  have hm := firsts_mem (firsts_getD_mem h)
  have h1 : lst l ((firsts l n).getD k 0) = (firsts l n).getD k 0 := lst_uniq hm.2 (alike_refl l _) (Nat.le_refl _)
  have h2 := cl_get (l := l) (b := (firsts l n).getD k 0) (n := n) (by rw [h1]; exact hm.1)
  have h3 := cl_lt (l := l) (b := (firsts l n).getD k 0) (n := n) (by rw [h1]; exact hm.1)
  rw [h1] at h2
  have hnd : (firsts l n).Nodup := List.Nodup.sublist List.filter_sublist List.nodup_range
  have g : ∀ (i : Nat) (hi : i < (firsts l n).length), (firsts l n).getD i 0 = (firsts l n)[i] := fun i hi => by simp [List.getD, hi]
  have e1 : (firsts l n)[cl l ((firsts l n).getD k 0)] = (firsts l n)[k] := (g _ h3).symm.trans (h2.trans (g _ h))
  exact (List.getElem_inj hnd).1 e1
/-- k stands for just one kind -/
theorem alike_cl {l : List BSet} {b k : Nat} (hk : k < (firsts l b).length) : alike l ((firsts l b).getD k 0) b = decide (k = cl l b) := by
  have hm := firsts_mem (firsts_getD_mem hk)
  rw [Bool.eq_iff_iff, decide_eq_true_eq]
  constructor
  · intro h
    have h1 := lst_uniq hm.2 h (by omega)
    have h2 := firsts_idx hk
    unfold cl at h2 ⊢
    rw [h1]
    rw [lst_uniq hm.2 (alike_refl l _) (Nat.le_refl _)] at h2
    exact h2.symm
  · intro h
    have h1 : lst l b < b := by
      rcases Nat.lt_or_ge (lst l b) b with h2 | h2
      · exact h2
      · exfalso
        have h3 : lst l b = b := by have := (lst_spec l b).1; omega
        unfold cl at h
        rw [h3] at h; omega
    have h2 := cl_get h1
    rw [← h] at h2
    rw [h2]; exact (lst_spec l b).2.1
theorem cl_le {l : List BSet} (b : Nat) : cl l b ≤ (firsts l b).length := firsts_mono l (lst_spec l b).1
theorem cl_eq_len {l : List BSet} {b : Nat} : cl l b = (firsts l b).length ↔ isF l b = true := by
  constructor
  · intro h
    rcases Nat.lt_or_ge (lst l b) b with h2 | h2
    · have := cl_lt h2; omega
    · have h3 : lst l b = b := by have := (lst_spec l b).1; omega
      have := (lst_spec l b).2.2
      rwa [h3] at this
  · exact cl_first
/-- the classes of the bytes below n -/
def clsTo (l : List BSet) (n : Nat) : List Nat := tab 256 fun m => if m < n then cl l m else 0
theorem clsTo_len (l : List BSet) (n : Nat) : (clsTo l n).length = 256 := tab_len _ _
theorem clsTo_zero (l : List BSet) : List.replicate 256 0 = clsTo l 0 := by
  rw [tab_const]; exact tab_congr fun m _ => by simp
theorem clsTo_set {l : List BSet} {n v : Nat} (h : v = cl l n) : (clsTo l n).set n v = clsTo l (n + 1) := by
  unfold clsTo
  rw [tab_set]
  apply tab_congr
  intro m hm
  by_cases e : m = n
  · subst e; simp [h]
  · rw [if_neg e]
    by_cases h2 : m < n
    · rw [if_pos h2, if_pos (by omega)]
    · rw [if_neg h2, if_neg (by omega)]
def cls (l : List BSet) : List Int := tab 256 fun b => (cl l b : Int)
theorem cls_eq (l : List BSet) : ((clsTo l 256).map fun (n : Nat) => (n : Int)) = cls l := by
  unfold clsTo cls tab
  rw [List.map_map]
  apply List.map_congr_left
  intro m hm
  have := List.mem_range.1 hm
  simp [this]
theorem cls_len (l : List BSet) : (cls l).length = 256 := tab_len _ _

/-! ## parts of classes -/
/-- how many parts the first n bytes have -/
def top (c : List Int) : Nat → Nat
  | 0 => 0
  | n + 1 => if c.getD n 0 = (top c n : Int) then top c n + 1 else top c n
def okTo (c : List Int) (n : Nat) : Prop := ∀ m, m < n → 0 ≤ c.getD m 0 ∧ c.getD m 0 ≤ (top c m : Int)
def partsK (c : List Int) (n : Nat) : List BSet := (List.range (top c n)).map fun (k : Nat) => BSet.ofFn (fun m => decide (c.getD m 0 = (k : Int))) n
theorem partsK_len (c : List Int) (n : Nat) : (partsK c n).length = top c n := by simp [partsK]
theorem top_le (c : List Int) : ∀ n, top c n ≤ n
  | 0 => Nat.le_refl _
  | n + 1 => by
    have := top_le c n
    simp only [top]; split <;> omega
theorem okTo_lt {c : List Int} : ∀ {n : Nat}, okTo c n → ∀ m, m < n → c.getD m 0 < (top c n : Int)
  | 0, _, m, hm => by omega
  | n + 1, h, m, hm => by
    have h1 := okTo_lt (n := n) (fun k hk => h k (by omega))
    have h2 := h n (by omega)
    simp only [top]
    by_cases e : m = n
    · subst e; split <;> omega
    · have := h1 m (by omega)
      split <;> omega
theorem partsK_get (c : List Int) {n k : Nat} (h : k < top c n) (d : BSet) : (partsK c n).getD k d = .ofFn (fun m => decide (c.getD m 0 = (k : Int))) n := by
  unfold partsK
  rw [List.getD, List.getElem?_map, List.getElem?_range h]; rfl
theorem partsK_new {c : List Int} {n : Nat} (hn : n < 256) (hok : okTo c n) (hc : c.getD n 0 = (top c n : Int)) :
    (partsK c n ++ [BSet.zero]).set (c.getD n 0).toNat (((partsK c n ++ [BSet.zero]).getD (c.getD n 0).toNat default).bor (BSet.ofL [UInt8.ofNat n])) = partsK c (n + 1) := by
  have e1 : (c.getD n 0).toNat = top c n := by omega
  have e2 : top c (n + 1) = top c n + 1 := by simp only [top]; rw [if_pos hc]
  have hb : (UInt8.ofNat n).toNat = n := by rw [UInt8.toNat_ofNat']; omega
  rw [e1, BSet.add_or, hb]
  apply List.ext_getElem
  · simp [partsK_len, e2]
  · intro j h1 h2
    rw [partsK_len, e2] at h2
    rw [List.getElem_set]
    have e3 : (partsK c (n + 1))[j]'(by rw [partsK_len, e2]; exact h2) = .ofFn (fun m => decide (c.getD m 0 = (j : Int))) (n + 1) := by simp [partsK]
    rw [e3, BSet.ofFn_succ]
    by_cases hj : top c n = j
    · subst hj
      rw [if_pos rfl, if_pos (decide_eq_true hc)]
      have e4 : (partsK c n ++ [BSet.zero]).getD (top c n) default = .zero := by
        rw [List.getD, List.getElem?_append_right (by rw [partsK_len]; exact Nat.le_refl _)]; simp [partsK_len]
      rw [e4, BSet.ofFn_none (by omega) fun m hm => decide_eq_false (by have := okTo_lt hok m hm; omega)]
    · rw [if_neg hj, if_neg (by simp only [decide_eq_true_eq]; omega)]
      have hj2 : j < top c n := by omega
      rw [List.getElem_append_left (by rw [partsK_len]; exact hj2)]
      simp [partsK]
theorem partsK_old {c : List Int} {n : Nat} (hn : n < 256) (h0 : 0 ≤ c.getD n 0) (hc : c.getD n 0 < (top c n : Int)) :
    (partsK c n).set (c.getD n 0).toNat (((partsK c n).getD (c.getD n 0).toNat default).bor (BSet.ofL [UInt8.ofNat n])) = partsK c (n + 1) := by
  have e2 : top c (n + 1) = top c n := by simp only [top]; rw [if_neg (by omega)]
  have hb : (UInt8.ofNat n).toNat = n := by rw [UInt8.toNat_ofNat']; omega
  rw [BSet.add_or, hb, partsK_get c (by omega)]
  apply List.ext_getElem
  · simp [partsK_len, e2]
  · intro j h1 h2
    rw [partsK_len, e2] at h2
    rw [List.getElem_set]
    have e3 : (partsK c (n + 1))[j]'(by rw [partsK_len, e2]; exact h2) = .ofFn (fun m => decide (c.getD m 0 = (j : Int))) (n + 1) := by simp [partsK]
    rw [e3, BSet.ofFn_succ]
    by_cases hj : (c.getD n 0).toNat = j
    · subst hj
      rw [if_pos rfl, if_pos (decide_eq_true (by omega))]
    · rw [if_neg hj, if_neg (by simp only [decide_eq_true_eq]; omega)]
      simp [partsK]
/-- are these classes -/
def okB (c : List Int) : Bool := decide (c.length = 256) && (List.range 256).all fun m => decide (0 ≤ c.getD m 0) && decide (c.getD m 0 ≤ (top c m : Int))
theorem okB_iff {c : List Int} : okB c = true ↔ c.length = 256 ∧ okTo c 256 := by
  unfold okB okTo
  simp only [Bool.and_eq_true, decide_eq_true_eq, List.all_eq_true, List.mem_range]
theorem okB_len {c : List Int} (h : c.length ≠ 256) : okB c = false := by
  cases e : okB c
  · rfl
  · exact absurd (okB_iff.1 e).1 h
theorem okB_bad {c : List Int} {m : Nat} (hm : m < 256) (h : c.getD m 0 < 0 ∨ (top c m : Int) < c.getD m 0) : okB c = false := by
  cases e : okB c
  · rfl
  · have := (okB_iff.1 e).2 m hm; omega
theorem okTo_succ {c : List Int} {n : Nat} (h : okTo c n) (h0 : 0 ≤ c.getD n 0) (h1 : c.getD n 0 ≤ (top c n : Int)) : okTo c (n + 1) := by
  intro m hm
  by_cases e : m = n
  · subst e; exact ⟨h0, h1⟩
  · exact h m (by omega)
end Go.Proofs.Ytbfgjdhdohfacaa
