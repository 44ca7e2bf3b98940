/- Plain laws of partitions: rows of sets that are partitions, their classes. No condition. -/
import Derived.Test.YtbfgjdhdohfacaaPlain02
set_option linter.unusedSimpArgs false
set_option linter.unusedVariables false
namespace Go.Proofs.Ytbfgjdhdohfacaa

theorem partsK_has {c : List Int} {k m : Nat} (hk : k < top c 256) (hm : m < 256) : ((partsK c 256).getD k default).has m = decide (c.getD m 0 = (k : Int)) := by
  rw [partsK_get c hk, BSet.has_ofFn _ _ (Nat.le_refl _) hm]; simp [hm]

/-- classes that are asked for anew -/
theorem alike_parts {c : List Int} (hok : okTo c 256) {a b : Nat} (ha : a < 256) (hb : b < 256) : alike (partsK c 256) a b = decide (c.getD a 0 = c.getD b 0) := by
  have h1 := okTo_lt hok a ha
  have h0 := (hok a ha).1
  rw [Bool.eq_iff_iff, alike_iff, decide_eq_true_eq]
  constructor
  · intro h
    have hk : (c.getD a 0).toNat < top c 256 := by omega
    have := h ((partsK c 256).getD (c.getD a 0).toNat default) (by rw [List.getD, List.getElem?_eq_getElem (by rw [partsK_len]; exact hk)]; simp)
    rw [partsK_has hk ha, partsK_has hk hb, decide_eq_true (by omega)] at this
    have := of_decide_eq_true this.symm
    omega
  · intro h s hs
    obtain ⟨k, hk, rfl⟩ := List.mem_map.1 hs
    have hk' := List.mem_range.1 hk
    show BSet.has _ a = BSet.has _ b
    rw [BSet.has_ofFn _ _ (Nat.le_refl _) ha, BSet.has_ofFn _ _ (Nat.le_refl _) hb, h]; simp [ha, hb]
theorem top_seen {c : List Int} : ∀ {n : Nat}, okTo c n → ∀ k, k < top c n → ∃ m, m < n ∧ c.getD m 0 = (k : Int)
  | 0, _, k, hk => by simp [top] at hk
  | n + 1, h, k, hk => by
    have ih := top_seen (n := n) (fun m hm => h m (by omega))
    simp only [top] at hk
    split at hk
    · rename_i e
      by_cases h1 : k = top c n
      · exact ⟨n, by omega, by rw [h1]; exact e⟩
      · obtain ⟨m, h2, h3⟩ := ih k (by omega)
        exact ⟨m, by omega, h3⟩
    · obtain ⟨m, h2, h3⟩ := ih k hk
      exact ⟨m, by omega, h3⟩
theorem isF_parts {c : List Int} (hok : okTo c 256) {b : Nat} (hb : b < 256) : isF (partsK c 256) b = decide (c.getD b 0 = (top c b : Int)) := by
  have hokb : okTo c b := fun m hm => hok m (by omega)
  rw [Bool.eq_iff_iff, isF_iff, decide_eq_true_eq]
  constructor
  · intro h
    have h1 := hok b hb
    rcases Int.lt_or_eq_of_le h1.2 with h2 | h2
    · obtain ⟨m, h3, h4⟩ := top_seen hokb (c.getD b 0).toNat (by omega)
      have := h m h3
      rw [alike_parts hok (by omega) hb, decide_eq_false_iff_not] at this
      omega
    · exact h2
  · intro h a ha
    have := okTo_lt hokb a ha
    rw [alike_parts hok (by omega) hb, decide_eq_false_iff_not]
    omega
theorem firsts_parts {c : List Int} (hok : okTo c 256) : ∀ n, n ≤ 256 → (firsts (partsK c 256) n).length = top c n
  | 0, _ => rfl
  | n + 1, hn => by
    have ih := firsts_parts hok n (by omega)
    rw [firsts_succ, isF_parts hok (by omega)]
    simp only [top]
    by_cases h : c.getD n 0 = (top c n : Int)
    · rw [if_pos (decide_eq_true h), if_pos h, List.length_append, ih]; rfl
    · rw [if_neg (by simpa using h), if_neg h, ih]
theorem cl_parts {c : List Int} (hok : okTo c 256) {b : Nat} (hb : b < 256) : (cl (partsK c 256) b : Int) = c.getD b 0 := by
  obtain ⟨h1, h2, h3⟩ := lst_spec (partsK c 256) b
  unfold cl
  rw [firsts_parts hok _ (by omega)]
  rw [isF_parts hok (by omega), decide_eq_true_eq] at h3
  rw [alike_parts hok (by omega) hb, decide_eq_true_eq] at h2
  omega
theorem list_tab {c : List Int} (h : c.length = 256) : c = tab 256 fun m => c.getD m 0 := by
  apply List.ext_getElem
  · simp [tab, h]
  · intro j h1 h2
    simp [tab, List.getD, h1]
theorem cls_parts {c : List Int} (hl : c.length = 256) (hok : okTo c 256) : cls (partsK c 256) = c := by
  conv => rhs; rw [list_tab hl]
  unfold cls
  exact tab_congr fun m hm => cl_parts hok hm
theorem cls_get (l : List BSet) {b : Nat} (hb : b < 256) : (cls l).getD b 0 = (cl l b : Int) := by
  unfold cls; exact tab_getD _ hb 0
theorem top_cls (l : List BSet) : ∀ n, n ≤ 256 → top (cls l) n = (firsts l n).length
  | 0, _ => rfl
  | n + 1, hn => by
    have ih := top_cls l n (by omega)
    simp only [top, ih, cls_get l (show n < 256 by omega), firsts_succ]
    by_cases h : isF l n = true
    · rw [if_pos h, if_pos (by rw [cl_first h]), List.length_append]; rfl
    · rw [if_neg h, if_neg (fun e => h (cl_eq_len.1 (by omega)))]
theorem okTo_cls (l : List BSet) : okTo (cls l) 256 := fun m hm => by
  rw [cls_get l hm, top_cls l m (by omega)]
  have := cl_le (l := l) m
  omega
theorem okB_cls (l : List BSet) : okB (cls l) = true := okB_iff.2 ⟨cls_len l, okTo_cls l⟩
/-- a row of sets' parts -/
def parts (l : List BSet) : List BSet := partsK (cls l) 256
theorem cls_of_parts (l : List BSet) : cls (parts l) = cls l := cls_parts (cls_len l) (okTo_cls l)
theorem parts_parts (l : List BSet) : parts (parts l) = parts l := by unfold parts; rw [show cls (partsK (cls l) 256) = cls l from cls_of_parts l]

/-! ## is a row of sets a partition -/
def hasN (p : List BSet) (b : Nat) (i : Nat) : Bool := (p.getD i default).has b
/-- in which one of the first k is b, last -/
def ownK (p : List BSet) (b : Nat) : Nat → Int
  | 0 => -1
  | k + 1 => if hasN p b k then (k : Int) else ownK p b k
theorem ownK_lt (p : List BSet) (b : Nat) : ∀ k, ownK p b k < (k : Int) ∧ -1 ≤ ownK p b k
  | 0 => by simp [ownK]
  | k + 1 => by
    have := ownK_lt p b k
    simp only [ownK]; split <;> omega
theorem ownK_neg {p : List BSet} {b : Nat} : ∀ {k : Nat}, ownK p b k < 0 ↔ cntB (hasN p b) k = 0
  | 0 => by simp [ownK, cntB]
  | k + 1 => by
    have ih := ownK_neg (p := p) (b := b) (k := k)
    rw [cntB_succ]
    simp only [ownK]
    by_cases h : hasN p b k = true
    · simp [h]
    · simp [h, ih]
theorem ownK_has {p : List BSet} {b : Nat} : ∀ {k : Nat}, 0 ≤ ownK p b k → hasN p b (ownK p b k).toNat = true
  | 0, h => by simp [ownK] at h
  | k + 1, h => by
    simp only [ownK] at h ⊢
    by_cases h1 : hasN p b k = true
    · rw [if_pos h1]; simpa using h1
    · rw [if_neg h1] at h ⊢; exact ownK_has h
theorem ownK_one {p : List BSet} {b : Nat} : ∀ {k : Nat}, cntB (hasN p b) k ≤ 1 → ∀ i, i < k → hasN p b i = true → ownK p b k = (i : Int)
  | 0, _, i, hi, _ => by omega
  | k + 1, h, i, hi, hh => by
    rw [cntB_succ] at h
    simp only [ownK]
    by_cases e : i = k
    · subst e; rw [if_pos hh]
    · have hpos : 0 < cntB (hasN p b) k := List.length_pos_iff.2 (List.ne_nil_of_mem (List.mem_filter.2 ⟨List.mem_range.2 (by omega), hh⟩))
      by_cases h1 : hasN p b k = true
      · rw [if_pos h1] at h; omega
      · rw [if_neg h1]
        rw [if_neg h1] at h
        exact ownK_one (by omega) i (by omega) hh
def stepR (p : List BSet) (b i nx : Nat) : Option Nat := if hasN p b i then (if nx < i then none else if i = nx then some (nx + 1) else some nx) else some nx
def scanR (p : List BSet) (b : Nat) : Nat → Nat → Option Nat
  | 0, nx => some nx
  | k + 1, nx => (scanR p b k nx).bind (stepR p b k)
def rightK (p : List BSet) : Nat → Option Nat
  | 0 => some 0
  | n + 1 => (rightK p n).bind fun nx => (scanR p n p.length nx).bind fun nx' => if cntB (hasN p n) p.length = 1 then some nx' else none
/-- is it a partition, in the order of first bytes -/
def rightB (p : List BSet) : Bool := decide (rightK p 256 = some p.length)
def ownL (p : List BSet) : List Int := tab 256 fun m => ownK p m p.length
theorem ownL_get (p : List BSet) {m : Nat} (h : m < 256) : (ownL p).getD m 0 = ownK p m p.length := tab_getD _ h 0
theorem ownL_len (p : List BSet) : (ownL p).length = 256 := tab_len _ _
theorem scan_eq (p : List BSet) (b nx : Nat) : ∀ k, cntB (hasN p b) k ≤ 1 →
    scanR p b k nx = if ownK p b k < 0 then some nx else if (nx : Int) < ownK p b k then none else if ownK p b k = (nx : Int) then some (nx + 1) else some nx
  | 0, _ => by simp [scanR, ownK]
  | k + 1, h => by
    rw [cntB_succ] at h
    have ih := scan_eq p b nx k (by omega)
    simp only [scanR, ih]
    by_cases hh : hasN p b k = true
    · rw [if_pos hh] at h
      have h0 : ownK p b k < 0 := ownK_neg.2 (by omega)
      have e : ownK p b (k + 1) = (k : Int) := by simp [ownK, hh]
      rw [if_pos h0, e]
      simp only [Option.bind_some, stepR, if_pos hh]
      rw [if_neg (show ¬ ((k : Int) < 0) by omega)]
      by_cases h1 : nx < k
      · rw [if_pos h1, if_pos (show (nx : Int) < (k : Int) by omega)]
      · rw [if_neg h1, if_neg (show ¬ (nx : Int) < (k : Int) by omega)]
        by_cases h2 : k = nx
        · rw [if_pos h2, if_pos (show (k : Int) = (nx : Int) by omega)]
        · rw [if_neg h2, if_neg (show ¬ (k : Int) = (nx : Int) by omega)]
    · have e : ownK p b (k + 1) = ownK p b k := by simp [ownK, hh]
      rw [e]
      have hs : ∀ x, stepR p b k x = some x := fun x => by unfold stepR; rw [if_neg hh]
      split
      · simp [hs]
      · split
        · rfl
        · split <;> simp [hs]
theorem right_eq (p : List BSet) : ∀ n, n ≤ 256 → (rightK p n = some (top (ownL p) n) ∧ (∀ b, b < n → cntB (hasN p b) p.length = 1) ∧ okTo (ownL p) n) ∨ (rightK p n = none ∧ ¬ ((∀ b, b < n → cntB (hasN p b) p.length = 1) ∧ okTo (ownL p) n))
  | 0, _ => .inl ⟨rfl, fun b hb => by omega, fun m hm => by omega⟩
  | n + 1, hn => by
    rcases right_eq p n (by omega) with ⟨h1, h2, h3⟩ | ⟨h1, h2⟩
    · simp only [rightK, h1, Option.bind_some]
      by_cases hc : cntB (hasN p n) p.length = 1
      · rw [scan_eq p n _ _ (by omega)]
        have h0 : ¬ ownK p n p.length < 0 := fun h => by rw [ownK_neg] at h; omega
        have hg := ownL_get p (show n < 256 by omega)
        rw [if_neg h0]
        by_cases h4 : (top (ownL p) n : Int) < ownK p n p.length
        · right
          rw [if_pos h4]
          refine ⟨rfl, fun h => ?_⟩
          have := (h.2 n (by omega)).2
          rw [hg] at this; omega
        · left
          rw [if_neg h4]
          have hok : okTo (ownL p) (n + 1) := okTo_succ h3 (by rw [hg]; omega) (by rw [hg]; omega)
          have hone : ∀ b, b < n + 1 → cntB (hasN p b) p.length = 1 := fun b hb => by
            by_cases e : b = n
            · subst e; exact hc
            · exact h2 b (by omega)
          refine ⟨?_, hone, hok⟩
          simp only [top, hg]
          by_cases h5 : ownK p n p.length = (top (ownL p) n : Int)
          · rw [if_pos h5, if_pos h5]; simp [hc]
          · rw [if_neg h5, if_neg h5]; simp [hc]
      · right
        refine ⟨?_, fun h => hc (h.1 n (by omega))⟩
        cases scanR p n p.length (top (ownL p) n) <;> simp [hc]
    · right
      refine ⟨by simp only [rightK, h1, Option.bind_none], fun h => h2 ⟨fun b hb => h.1 b (by omega), fun m hm => h.2 m (by omega)⟩⟩
theorem rightB_iff (p : List BSet) : rightB p = true ↔ (∀ b, b < 256 → cntB (hasN p b) p.length = 1) ∧ okTo (ownL p) 256 ∧ top (ownL p) 256 = p.length := by
  unfold rightB
  rw [decide_eq_true_eq]
  rcases right_eq p 256 (Nat.le_refl _) with ⟨h1, h2, h3⟩ | ⟨h1, h2⟩
  · rw [h1]
    constructor
    · intro h; exact ⟨h2, h3, Option.some.inj h⟩
    · intro h; rw [h.2.2]
  · rw [h1]
    constructor
    · intro h; cases h
    · intro h; exact absurd ⟨h.1, h.2.1⟩ h2
theorem right_len {p : List BSet} (h : rightB p = true) : p.length ≤ 256 := by
  have h1 := ((rightB_iff p).1 h).2.2
  have h2 := top_le (ownL p) 256
  omega
theorem parts_of_own {p : List BSet} (h1 : ∀ b, b < 256 → cntB (hasN p b) p.length ≤ 1) (h2 : top (ownL p) 256 = p.length) : p = partsK (ownL p) 256 := by
  apply List.ext_getElem
  · rw [partsK_len, h2]
  · intro k hk1 hk2
    apply BSet.ext
    intro m hm
    have e1 : p[k] = p.getD k default := by simp [List.getD, hk1]
    have e2 : (partsK (ownL p) 256)[k] = (partsK (ownL p) 256).getD k default := by simp [List.getD, hk2]
    rw [e1, e2, partsK_has (by omega) hm, ownL_get p hm, Bool.eq_iff_iff, decide_eq_true_eq]
    constructor
    · intro h; exact ownK_one (h1 m hm) k hk1 h
    · intro h
      have h3 := ownK_has (p := p) (b := m) (k := p.length) (by omega)
      rw [h] at h3
      exact h3
/-- a partition is the parts of its classes, which are its own -/
theorem right_own {p : List BSet} (h : rightB p = true) : ownL p = cls p := by
  obtain ⟨h1, h2, h3⟩ := (rightB_iff p).1 h
  have e := parts_of_own (fun b hb => Nat.le_of_eq (h1 b hb)) h3
  conv => rhs; rw [e]
  exact (cls_parts (ownL_len p) h2).symm
/-- the parts of classes are a partition -/
theorem own_parts {c : List Int} (hl : c.length = 256) (hok : okTo c 256) : ownL (partsK c 256) = c ∧ ∀ b, b < 256 → cntB (hasN (partsK c 256) b) (partsK c 256).length = 1 := by
  have hh : ∀ b, b < 256 → ∀ k, k < top c 256 → hasN (partsK c 256) b k = decide (c.getD b 0 = (k : Int)) := fun b hb k hk => partsK_has hk hb
  have hone : ∀ b, b < 256 → cntB (hasN (partsK c 256) b) (partsK c 256).length = 1 := by
    intro b hb
    rw [partsK_len]
    have h0 := (hok b hb).1
    have h1 := okTo_lt hok b hb
    have key : ∀ n, n ≤ top c 256 → cntB (hasN (partsK c 256) b) n = if (c.getD b 0).toNat < n then 1 else 0 := by
      intro n
      induction n with
      | zero => intro _; rfl
      | succ n ih =>
        intro hn
        rw [cntB_succ, ih (by omega), hh b hb n (by omega)]
        by_cases e : c.getD b 0 = (n : Int)
        · rw [if_pos (decide_eq_true e), if_neg (show ¬ (c.getD b 0).toNat < n by omega), if_pos (show (c.getD b 0).toNat < n + 1 by omega)]
        · rw [if_neg (show ¬ decide (c.getD b 0 = (n : Int)) = true by simpa using e)]
          by_cases h2 : (c.getD b 0).toNat < n
          · rw [if_pos h2, if_pos (show (c.getD b 0).toNat < n + 1 by omega)]
          · rw [if_neg h2, if_neg (show ¬ (c.getD b 0).toNat < n + 1 by omega)]
    rw [key _ (Nat.le_refl _), if_pos (by omega)]
  refine ⟨?_, hone⟩
  conv => rhs; rw [list_tab hl]
  unfold ownL
  apply tab_congr
  intro m hm
  have h0 := (hok m hm).1
  have h1 := okTo_lt hok m hm
  have h2 := ownK_one (Nat.le_of_eq (hone m hm)) (c.getD m 0).toNat (by rw [partsK_len]; omega) (by rw [hh m hm _ (by omega)]; exact decide_eq_true (by omega))
  omega
theorem right_parts {c : List Int} (hl : c.length = 256) (hok : okTo c 256) : rightB (partsK c 256) = true := by
  obtain ⟨h1, h2⟩ := own_parts hl hok
  refine (rightB_iff _).2 ⟨h2, by rw [h1]; exact hok, by rw [h1, partsK_len]⟩
/-- what Class finds -/
theorem class_iff {p : List BSet} (h1 : ∀ b, b < 256 → cntB (hasN p b) p.length ≤ 1) : (okB (ownL p) && decide ((top (ownL p) 256 : Int) = (p.length : Int))) = rightB p := by
  rw [Bool.eq_iff_iff, Bool.and_eq_true, decide_eq_true_eq, okB_iff]
  constructor
  · rintro ⟨⟨h2, h3⟩, h4⟩
    have e := parts_of_own h1 (by omega)
    rw [e]; exact right_parts (ownL_len p) h3
  · intro h
    obtain ⟨h2, h3, h4⟩ := (rightB_iff p).1 h
    exact ⟨⟨ownL_len p, h3⟩, by omega⟩
theorem right_two {p : List BSet} {b : Nat} (hb : b < 256) (h : 2 ≤ cntB (hasN p b) p.length) : rightB p = false := by
  cases e : rightB p
  · rfl
  · have := ((rightB_iff p).1 e).1 b hb; omega

/-! ### steps of the reference's Right -/
theorem scan_a {p : List BSet} {b k nx m : Nat} (h : scanR p b k nx = some m) (hh : hasN p b k = true) (h2 : k = m) : scanR p b (k + 1) nx = some (m + 1) := by
  simp only [scanR, h, Option.bind_some, stepR]; rw [if_pos hh, if_neg (show ¬ m < k by omega), if_pos h2]
theorem scan_b {p : List BSet} {b k nx m : Nat} (h : scanR p b k nx = some m) (hh : hasN p b k = true) (h1 : ¬ m < k) (h2 : k ≠ m) : scanR p b (k + 1) nx = some m := by
  simp only [scanR, h, Option.bind_some, stepR]; rw [if_pos hh, if_neg h1, if_neg h2]
theorem scan_c {p : List BSet} {b k nx m : Nat} (h : scanR p b k nx = some m) (hh : hasN p b k = false) : scanR p b (k + 1) nx = some m := by
  simp only [scanR, h, Option.bind_some, stepR]; rw [if_neg (by simp [hh])]
theorem scan_none {p : List BSet} {b nx : Nat} {k : Nat} (h : scanR p b k nx = none) : ∀ n, k ≤ n → scanR p b n nx = none
  | 0, hn => by obtain rfl : k = 0 := by omega
                exact h
  | n + 1, hn => by
    by_cases e : k = n + 1
    · subst e; exact h
    · simp only [scanR, scan_none h n (by omega), Option.bind_none]
theorem rightK_none {p : List BSet} {k : Nat} (h : rightK p k = none) : ∀ n, k ≤ n → rightK p n = none
  | 0, hn => by obtain rfl : k = 0 := by omega
                exact h
  | n + 1, hn => by
    by_cases e : k = n + 1
    · subst e; exact h
    · simp only [rightK, rightK_none h n (by omega), Option.bind_none]
theorem right_bad1 {p : List BSet} {b k nx m : Nat} (hb : b < 256) (hr : rightK p b = some nx) (h : scanR p b k nx = some m) (hk : k < p.length) (hh : hasN p b k = true) (h1 : m < k) : rightB p = false := by
  have h2 : scanR p b (k + 1) nx = none := by
    simp only [scanR, h, Option.bind_some, stepR]; rw [if_pos hh, if_pos h1]
  have h3 : rightK p (b + 1) = none := by
    simp only [rightK, hr, Option.bind_some, scan_none h2 p.length (by omega), Option.bind_none]
  unfold rightB
  rw [rightK_none h3 256 (by omega)]; rfl
theorem right_bad2 {p : List BSet} {b nx m : Nat} (hb : b < 256) (hr : rightK p b = some nx) (h : scanR p b p.length nx = some m) (h1 : cntB (hasN p b) p.length ≠ 1) : rightB p = false := by
  have h3 : rightK p (b + 1) = none := by
    simp only [rightK, hr, Option.bind_some, h]; rw [if_neg h1]
  unfold rightB
  rw [rightK_none h3 256 (by omega)]; rfl
theorem right_step {p : List BSet} {b nx m : Nat} (hr : rightK p b = some nx) (h : scanR p b p.length nx = some m) (h1 : cntB (hasN p b) p.length = 1) : rightK p (b + 1) = some m := by
  simp only [rightK, hr, Option.bind_some, h]; rw [if_pos h1]
theorem cnt_yes {p : Nat → Bool} {k n : Nat} (h : cntB p k = n) (hh : p k = true) : cntB p (k + 1) = n + 1 := by rw [cntB_succ, h, if_pos hh]
theorem cnt_no {p : Nat → Bool} {k n : Nat} (h : cntB p k = n) (hh : p k = false) : cntB p (k + 1) = n := by rw [cntB_succ, h, if_neg (by simp [hh])]; rfl

/-! ## parts of a set -/
def overK (p : List BSet) (s : BSet) : Nat → Option (List Nat)
  | 0 => some []
  | k + 1 => (overK p s k).bind fun r => if (p.getD k default).band s = p.getD k default then some (r ++ [k]) else if (p.getD k default).band s = .zero then some r else none
def overB (p : List BSet) (s : BSet) : Option (List Nat) := if rightB p then overK p s p.length else none
theorem overK_len {p : List BSet} {s : BSet} : ∀ {k : Nat} {r : List Nat}, overK p s k = some r → r.length ≤ k
  | 0, r, h => by cases h; exact Nat.le_refl _
  | k + 1, r, h => by
    simp only [overK] at h
    cases h1 : overK p s k with
    | none => rw [h1] at h; cases h
    | some q =>
      have h2 := overK_len h1
      rw [h1] at h
      simp only [Option.bind_some] at h
      split at h
      · cases h; simp; omega
      · split at h
        · cases h; omega
        · cases h
theorem overK_none {p : List BSet} {s : BSet} {k : Nat} (h : overK p s k = none) : ∀ n, k ≤ n → overK p s n = none
  | 0, hn => by obtain rfl : k = 0 := by omega
                exact h
  | n + 1, hn => by
    by_cases e : k = n + 1
    · subst e; exact h
    · simp only [overK, overK_none h n (by omega), Option.bind_none]
theorem over_yes {p : List BSet} {s : BSet} {k : Nat} {r : List Nat} (h : overK p s k = some r) (h1 : (p.getD k default).band s = p.getD k default) : overK p s (k + 1) = some (r ++ [k]) := by
  simp only [overK, h, Option.bind_some]; rw [if_pos h1]
theorem over_no {p : List BSet} {s : BSet} {k : Nat} {r : List Nat} (h : overK p s k = some r) (h1 : ¬ (p.getD k default).band s = p.getD k default) (h2 : (p.getD k default).band s = .zero) : overK p s (k + 1) = some r := by
  simp only [overK, h, Option.bind_some]; rw [if_neg h1, if_pos h2]
theorem over_bad {p : List BSet} {s : BSet} {k : Nat} {r : List Nat} (hk : k < p.length) (h : overK p s k = some r) (h1 : ¬ (p.getD k default).band s = p.getD k default) (h2 : ¬ (p.getD k default).band s = .zero) : overB p s = none := by
  have h3 : overK p s (k + 1) = none := by simp only [overK, h, Option.bind_some]; rw [if_neg h1, if_neg h2]
  unfold overB
  rw [overK_none h3 _ (by omega)]; split <;> rfl
theorem overB_not {p : List BSet} {s : BSet} (h : rightB p = false) : overB p s = none := by unfold overB; rw [h]; rfl
theorem overB_ok {p : List BSet} {s : BSet} {r : List Nat} (h : rightB p = true) (h1 : overK p s p.length = some r) : overB p s = some r := by unfold overB; rw [h, if_pos rfl, h1]

/-! ## the steps of Class -/
def ownTo (p : List BSet) (i b : Nat) : List Int := tab 256 fun m => if m < b then ownK p m (i + 1) else ownK p m i
theorem ownTo_len (p : List BSet) (i b : Nat) : (ownTo p i b).length = 256 := tab_len _ _
theorem ownTo_get (p : List BSet) (i : Nat) {b : Nat} (h : b < 256) : (ownTo p i b).getD b 0 = ownK p b i := by
  unfold ownTo; rw [tab_getD _ h]; simp
theorem ownTo_no {p : List BSet} {i b : Nat} (h : hasN p b i = false) : ownTo p i b = ownTo p i (b + 1) := by
  apply tab_congr
  intro m hm
  by_cases e : m = b
  · subst e; rw [if_neg (Nat.lt_irrefl _), if_pos (by omega)]; simp [ownK, h]
  · by_cases h2 : m < b
    · rw [if_pos h2, if_pos (by omega)]
    · rw [if_neg h2, if_neg (by omega)]
theorem ownTo_yes {p : List BSet} {i b : Nat} (h : hasN p b i = true) : (ownTo p i b).set b (i : Int) = ownTo p i (b + 1) := by
  unfold ownTo
  rw [tab_set]
  apply tab_congr
  intro m hm
  by_cases e : m = b
  · subst e; rw [if_pos rfl, if_pos (by omega)]; simp [ownK, h]
  · rw [if_neg e]
    by_cases h2 : m < b
    · rw [if_pos h2, if_pos (by omega)]
    · rw [if_neg h2, if_neg (by omega)]
theorem ownTo_all (p : List BSet) (i : Nat) : ownTo p i 256 = ownTo p (i + 1) 0 := by
  apply tab_congr
  intro m hm
  rw [if_pos hm, if_neg (Nat.not_lt_zero _)]
def negTo (k : Nat) : List Int := tab 256 fun m => if m < k then -1 else 0
theorem negTo_len (k : Nat) : (negTo k).length = 256 := tab_len _ _
theorem negTo_zero : List.replicate 256 (0 : Int) = negTo 0 := by rw [tab_const]; exact tab_congr fun m _ => by simp
theorem negTo_set (k : Nat) : (negTo k).set k (-1) = negTo (k + 1) := by
  unfold negTo
  rw [tab_set]
  apply tab_congr
  intro m hm
  by_cases e : m = k
  · subst e; simp
  · rw [if_neg e]
    by_cases h2 : m < k
    · rw [if_pos h2, if_pos (by omega)]
    · rw [if_neg h2, if_neg (by omega)]
theorem negTo_all (p : List BSet) : negTo 256 = ownTo p 0 0 := by
  apply tab_congr
  intro m hm
  rw [if_pos hm, if_neg (Nat.not_lt_zero _)]; rfl
theorem ownTo_own (p : List BSet) : ownTo p p.length 0 = ownL p := by
  apply tab_congr
  intro m hm
  rw [if_neg (Nat.not_lt_zero _)]
theorem cntB_mono (p : Nat → Bool) {k n : Nat} (h : k ≤ n) : cntB p k ≤ cntB p n := by
  induction n with
  | zero => obtain rfl : k = 0 := by omega
            exact Nat.le_refl _
  | succ n ih =>
    by_cases e : k = n + 1
    · subst e; exact Nat.le_refl _
    · have := ih (by omega)
      rw [cntB_succ]; omega
theorem class_two {p : List BSet} {i b : Nat} (hb : b < 256) (hi : i < p.length) (hh : hasN p b i = true) (h0 : 0 ≤ ownK p b i) : rightB p = false := by
  have h1 : cntB (hasN p b) i ≠ 0 := fun e => by have := ownK_neg.2 e; omega
  have h2 := cntB_succ (hasN p b) i
  rw [if_pos hh] at h2
  have h3 := cntB_mono (hasN p b) (show i + 1 ≤ p.length by omega)
  exact right_two hb (by omega)
theorem class_one {p : List BSet} {i b : Nat} (hh : hasN p b i = true) (h0 : ownK p b i < 0) : cntB (hasN p b) (i + 1) ≤ 1 := by
  rw [cntB_succ, if_pos hh, ownK_neg.1 h0]; omega
theorem class_same {p : List BSet} {i b : Nat} (hh : hasN p b i = false) (h0 : cntB (hasN p b) i ≤ 1) : cntB (hasN p b) (i + 1) ≤ 1 := by
  rw [cntB_succ, if_neg (by simp [hh])]; omega
theorem class_bad {c : List Int} {n : Nat} (h : ¬ (if okB c = true then (0 : Int) else 1) = 0 ∨ ¬ (((if okB c = true then partsK c 256 else []).length : Int) = (n : Int))) : (okB c && decide ((top c 256 : Int) = (n : Int))) = false := by
  cases e : okB c
  · rfl
  · rw [e] at h
    simp only [if_true, not_true_eq_false, false_or, partsK_len] at h
    simp [h]
theorem class_good {c : List Int} {n : Nat} (h : (if okB c = true then (0 : Int) else 1) = 0 ∧ (((if okB c = true then partsK c 256 else []).length : Int) = (n : Int))) : (okB c && decide ((top c 256 : Int) = (n : Int))) = true := by
  cases e : okB c
  · rw [e] at h; simp at h
  · rw [e] at h
    simp only [if_true, partsK_len] at h
    simp [h.2]
end Go.Proofs.Ytbfgjdhdohfacaa
