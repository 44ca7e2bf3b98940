/- Rows of sets: what they are together, that they do not touch, rows of a span. No condition. -/
import Derived.Test.YtbfgjdhdohfacaaPop
set_option linter.unusedSimpArgs false
set_option linter.unusedVariables false
namespace Go.Proofs.Ytbfgjdhdohfacaa

/-- rows together -/
def uni (l : List (UInt8 × UInt8)) : BSet := l.foldl (fun s p => s.bor (.span p.1.toNat p.2.toNat)) .zero
theorem uni_snoc (l : List (UInt8 × UInt8)) (p : UInt8 × UInt8) : uni (l ++ [p]) = (uni l).bor (.span p.1.toNat p.2.toNat) := by simp [uni]
/-- rows that rise and do not touch -/
def Sep (l : List (UInt8 × UInt8)) : Prop := ∀ i, i < l.length → (l.getD i default).1.toNat ≤ (l.getD i default).2.toNat ∧ (0 < i → (l.getD (i - 1) default).2.toNat + 1 < (l.getD i default).1.toNat)
theorem getD_snoc_lt {α : Type} {l : List α} {x d : α} {i : Nat} (h : i < l.length) : (l ++ [x]).getD i d = l.getD i d := by
  simp [List.getD, List.getElem?_append_left h]
theorem getD_snoc_eq {α : Type} {l : List α} {x d : α} : (l ++ [x]).getD l.length d = x := by
  simp [List.getD]
theorem Sep.snoc {l : List (UInt8 × UInt8)} {p : UInt8 × UInt8} (h : Sep l) (h1 : p.1.toNat ≤ p.2.toNat) (h2 : 0 < l.length → (l.getD (l.length - 1) default).2.toNat + 1 < p.1.toNat) : Sep (l ++ [p]) := by
  intro i hi
  rw [List.length_append, List.length_singleton] at hi
  by_cases e : i = l.length
  · subst e
    rw [getD_snoc_eq]
    refine ⟨h1, fun h3 => ?_⟩
    rw [getD_snoc_lt (by omega)]
    exact h2 h3
  · rw [getD_snoc_lt (by omega)]
    refine ⟨(h i (by omega)).1, fun h3 => ?_⟩
    rw [getD_snoc_lt (by omega)]
    exact (h i (by omega)).2 h3
theorem Sep.init {l : List (UInt8 × UInt8)} {p : UInt8 × UInt8} (h : Sep (l ++ [p])) : Sep l ∧ p.1.toNat ≤ p.2.toNat ∧ (0 < l.length → (l.getD (l.length - 1) default).2.toNat + 1 < p.1.toNat) := by
  refine ⟨fun i hi => ?_, ?_, fun h3 => ?_⟩
  · have := h i (by simp; omega)
    rw [getD_snoc_lt hi] at this
    refine ⟨this.1, fun h3 => ?_⟩
    have h4 := this.2 h3
    rwa [getD_snoc_lt (by omega)] at h4
  · have := (h l.length (by simp)).1
    rwa [getD_snoc_eq] at this
  · have := (h l.length (by simp)).2 h3
    rwa [getD_snoc_eq, getD_snoc_lt (by omega)] at this

/-- rising bytes -/
def Rises : List UInt8 → Prop
  | [] => True
  | [_] => True
  | a :: b :: l => a.toNat < b.toNat ∧ Rises (b :: l)

/-- what the rows of rising bytes are -/
def RInv (l : List UInt8) (out : List (UInt8 × UInt8)) : Prop :=
  Sep out ∧ (∀ m, m < 256 → (uni out).has m = l.any fun c => decide (m = c.toNat)) ∧ (out = [] ↔ l = []) ∧ (l ≠ [] → (out.getD (out.length - 1) default).2 = l.getD (l.length - 1) default)

theorem rowStep_snoc (init : List (UInt8 × UInt8)) (a b c : UInt8) : rowStep (init ++ [(a, b)]) c = if b.toNat + 1 = c.toNat then init ++ [(a, c)] else init ++ [(a, b)] ++ [(c, c)] := by
  unfold rowStep
  have e1 : (((init ++ [(a, b)]).length : Int) - 1).toNat = (init ++ [(a, b)]).length - 1 := by simp
  rw [e1, getD_last]
  by_cases h : b.toNat + 1 = c.toNat
  · rw [if_pos h, if_pos ⟨by simp, by show (b.toNat : Int) + 1 = _; omega⟩]; simp
  · rw [if_neg h, if_neg (fun h2 => h (by have := h2.2; simp only at this; omega))]

theorem RInv_step {l : List UInt8} {out : List (UInt8 × UInt8)} {c : UInt8} (h : RInv l out) (hc : l ≠ [] → (l.getD (l.length - 1) default).toNat < c.toNat) : RInv (l ++ [c]) (rowStep out c) := by
  obtain ⟨h1, h2, h3, h4⟩ := h
  have hlt := c.toNat_lt
  by_cases hl : l = []
  · subst hl
    obtain rfl : out = [] := h3.2 rfl
    have e : rowStep [] c = [(c, c)] := by unfold rowStep; simp
    rw [e]
    refine ⟨?_, ?_, by simp, fun _ => rfl⟩
    · have := Sep.snoc (p := (c, c)) h1 (Nat.le_refl _) (by simp)
      simpa using this
    · intro m hm
      have e2 : uni [(c, c)] = (BSet.zero).bor (.span c.toNat c.toNat) := rfl
      rw [e2, BSet.has_bor _ _ hm, BSet.has_zero, BSet.has_span _ _ hm, Bool.eq_iff_iff]
      simp; omega
  · have hc' := hc hl
    have h4' := h4 hl
    obtain ⟨init, p, rfl⟩ : ∃ init p, out = init ++ [p] := by
      rcases List.eq_nil_or_concat out with h5 | ⟨i, p, h5⟩
      · exact absurd (h3.1 h5) hl
      · exact ⟨i, p, by simpa using h5⟩
    obtain ⟨a, b⟩ := p
    rw [getD_last] at h4'
    simp only at h4'
    rw [← h4'] at hc'
    obtain ⟨s1, s2, s3⟩ := h1.init
    simp only at s2 s3
    rw [rowStep_snoc]
    by_cases hb : b.toNat + 1 = c.toNat
    · rw [if_pos hb]
      refine ⟨s1.snoc (by show a.toNat ≤ c.toNat; omega) s3, ?_, by simp, fun _ => by rw [getD_last, getD_last]⟩
      intro m hm
      have h5 := h2 m hm
      rw [uni_snoc, BSet.has_bor _ _ hm, BSet.has_span _ _ hm] at h5
      rw [uni_snoc, BSet.has_bor _ _ hm, BSet.has_span _ _ hm, List.any_append, ← h5]
      simp only [List.any_cons, List.any_nil, Bool.or_false]
      rw [Bool.eq_iff_iff]
      simp only [Bool.or_eq_true, Bool.and_eq_true, decide_eq_true_eq]
      by_cases hu : (uni init).has m = true
      · simp [hu]
      · have hu' : (uni init).has m = false := by simpa using hu
        simp only [hu', Bool.false_eq_true, false_or]; omega
    · rw [if_neg hb]
      refine ⟨h1.snoc (Nat.le_refl _) (fun _ => by rw [getD_last]; show b.toNat + 1 < c.toNat; omega), ?_, by simp, fun _ => by rw [getD_last, getD_last]⟩
      intro m hm
      rw [uni_snoc, BSet.has_bor _ _ hm, BSet.has_span _ _ hm, h2 m hm, List.any_append]
      simp only [List.any_cons, List.any_nil, Bool.or_false]
      congr 1
      rw [Bool.eq_iff_iff]
      simp only [Bool.and_eq_true, decide_eq_true_eq]; omega

/-- the first k bytes of a set -/
theorem bytes_last (s : BSet) {k : Nat} (hk : k < s.mem.length) (hp : s.bytes.take k ≠ []) : ((s.bytes.take k).getD ((s.bytes.take k).length - 1) default).toNat < (UInt8.ofNat (s.mem.getD k 0)).toNat := by
  have hl : s.bytes.length = s.mem.length := s.bytes_len
  have hlen : (s.bytes.take k).length = k := by rw [List.length_take]; omega
  have h0 : 0 < k := by
    rcases Nat.eq_zero_or_pos k with h | h
    · subst h; simp at hp
    · exact h
  rw [hlen]
  have e1 : (s.bytes.take k).getD (k - 1) default = s.bytes.getD (k - 1) default := by
    simp only [List.getD]; rw [List.getElem?_take_of_lt (by omega)]
  rw [e1, s.bytes_getD (by omega)]
  have hsort : s.mem.Pairwise (· < ·) := List.Pairwise.filter _ List.pairwise_lt_range
  have hlt := List.pairwise_iff_getElem.1 hsort (k - 1) k (by omega) hk (by omega)
  have e2 : s.mem.getD (k - 1) 0 = s.mem[k - 1]'(by omega) := by simp [List.getD, List.getElem?_eq_getElem (show k - 1 < s.mem.length by omega)]
  have e3 : s.mem.getD k 0 = s.mem[k] := by simp [List.getD, List.getElem?_eq_getElem hk]
  have b1 := (s.mem_lt _ (List.getElem_mem (l := s.mem) (n := k - 1) (by omega))).1
  have b2 := (s.mem_lt _ (List.getElem_mem (l := s.mem) (n := k) hk)).1
  rw [e2, e3, UInt8.toNat_ofNat', UInt8.toNat_ofNat']
  omega

theorem RInv_take (s : BSet) : ∀ k, k ≤ s.mem.length → RInv (s.bytes.take k) (rowsL (s.bytes.take k))
  | 0, _ => ⟨fun i hi => by simp [rowsL] at hi, fun m hm => by simp [rowsL, uni, BSet.has_zero], by simp [rowsL], fun h => by simp at h⟩
  | k + 1, hk => by
    rw [s.bytes_snoc (by omega), rowsL_snoc]
    exact RInv_step (RInv_take s k (by omega)) (bytes_last s (by omega))

theorem bytes_any (s : BSet) {m : Nat} (hm : m < 256) : (s.bytes.any fun c => decide (m = c.toNat)) = s.has m := by
  rw [Bool.eq_iff_iff, List.any_eq_true]
  constructor
  · rintro ⟨c, hc, h⟩
    obtain ⟨n, hn, rfl⟩ := List.mem_map.1 hc
    obtain ⟨h1, h2⟩ := s.mem_lt n hn
    have := of_decide_eq_true h
    rw [UInt8.toNat_ofNat', Nat.mod_eq_of_lt (by omega)] at this
    subst this; exact h2
  · intro h
    refine ⟨UInt8.ofNat m, List.mem_map.2 ⟨m, List.mem_filter.2 ⟨List.mem_range.2 hm, h⟩, rfl⟩, decide_eq_true ?_⟩
    rw [UInt8.toNat_ofNat']; omega

theorem rows_inv (s : BSet) : RInv s.bytes s.rows := by
  have := RInv_take s s.mem.length (Nat.le_refl _)
  rwa [List.take_of_length_le (by rw [s.bytes_len]; exact Nat.le_refl _)] at this
theorem uni_rows (s : BSet) : uni s.rows = s := by
  apply BSet.ext
  intro m hm
  rw [(rows_inv s).2.1 m hm, bytes_any s hm]
theorem rows_sep (s : BSet) : Sep s.rows := (rows_inv s).1
theorem rows_len (s : BSet) : s.rows.length ≤ 256 := by
  have h1 := rowsL_len s.bytes
  have h2 := s.mem_len
  rw [s.bytes_len] at h1
  show (rowsL s.bytes).length ≤ 256
  omega
theorem uni_take_snoc {l : List (UInt8 × UInt8)} {k : Nat} (h : k < l.length) : uni (l.take (k + 1)) = (uni (l.take k)).bor (.span (l.getD k default).1.toNat (l.getD k default).2.toNat) := by
  rw [take_snoc h, uni_snoc]

/-- rows that rise, do not touch and are together a span, are that span -/
theorem Sep_span {l : List (UInt8 × UInt8)} (hs : Sep l) {a b : UInt8} (hu : uni l = .span a.toNat b.toNat) : l = if a.toNat ≤ b.toNat then [(a, b)] else [] := by
  have ha := a.toNat_lt
  have hb := b.toNat_lt
  have hmem : ∀ (l : List (UInt8 × UInt8)) (i : Nat), i < l.length → ∀ m, m < 256 → (l.getD i default).1.toNat ≤ m → m ≤ (l.getD i default).2.toNat → (uni l).has m = true := by
    intro l
    induction hn : l.length generalizing l with
    | zero => intro i hi; omega
    | succ n ih =>
      intro i hi m hm h1 h2
      obtain ⟨init, p, rfl⟩ : ∃ init p, l = init ++ [p] := by
        rcases List.eq_nil_or_concat l with h5 | ⟨i, p, h5⟩
        · subst h5; simp at hn
        · exact ⟨i, p, by simpa using h5⟩
      simp only [List.length_append, List.length_singleton] at hn
      rw [uni_snoc, BSet.has_bor _ _ hm]
      by_cases e : i = init.length
      · subst e
        rw [getD_snoc_eq] at h1 h2
        rw [BSet.has_span _ _ hm]; simp [h1, h2]
      · rw [getD_snoc_lt (by omega)] at h1 h2
        rw [ih init (by omega) i (by omega) m hm h1 h2]; simp
  have hout : ∀ (l : List (UInt8 × UInt8)) m, m < 256 → (uni l).has m = true → ∃ i, i < l.length ∧ (l.getD i default).1.toNat ≤ m ∧ m ≤ (l.getD i default).2.toNat := by
    intro l
    induction hn : l.length generalizing l with
    | zero =>
      intro m hm h
      obtain rfl : l = [] := List.eq_nil_of_length_eq_zero hn
      simp [uni, BSet.has_zero] at h
    | succ n ih =>
      intro m hm h
      obtain ⟨init, p, rfl⟩ : ∃ init p, l = init ++ [p] := by
        rcases List.eq_nil_or_concat l with h5 | ⟨i, p, h5⟩
        · subst h5; simp at hn
        · exact ⟨i, p, by simpa using h5⟩
      simp only [List.length_append, List.length_singleton] at hn
      rw [uni_snoc, BSet.has_bor _ _ hm, BSet.has_span _ _ hm, Bool.or_eq_true] at h
      rcases h with h | h
      · obtain ⟨i, h1, h2, h3⟩ := ih init (by omega) m hm h
        exact ⟨i, by omega, by rw [getD_snoc_lt (by omega)]; exact h2, by rw [getD_snoc_lt (by omega)]; exact h3⟩
      · simp only [Bool.and_eq_true, decide_eq_true_eq] at h
        exact ⟨init.length, by omega, by rw [getD_snoc_eq]; exact h.1, by rw [getD_snoc_eq]; exact h.2⟩
  have hin : ∀ m, m < 256 → ((∃ i, i < l.length ∧ (l.getD i default).1.toNat ≤ m ∧ m ≤ (l.getD i default).2.toNat) ↔ a.toNat ≤ m ∧ m ≤ b.toNat) := by
    intro m hm
    have e : (uni l).has m = true ↔ a.toNat ≤ m ∧ m ≤ b.toNat := by
      rw [hu, BSet.has_span _ _ hm]; simp
    rw [← e]
    exact ⟨fun ⟨i, h1, h2, h3⟩ => hmem l i h1 m hm h2 h3, hout l m hm⟩
  by_cases hab : a.toNat ≤ b.toNat
  · rw [if_pos hab]
    -- one row at least, and no second one
    obtain ⟨i, hi, h1, h2⟩ := (hin a.toNat (by omega)).2 ⟨Nat.le_refl _, hab⟩
    have hfst : ∀ j, j < l.length → a.toNat ≤ (l.getD j default).1.toNat ∧ (l.getD j default).2.toNat ≤ b.toNat := by
      intro j hj
      have h3 := (hs j hj).1
      have h4 := (l.getD j default).2.toNat_lt
      have h5 := (hin (l.getD j default).1.toNat (by omega)).1 ⟨j, hj, Nat.le_refl _, h3⟩
      have h6 := (hin (l.getD j default).2.toNat (by omega)).1 ⟨j, hj, h3, Nat.le_refl _⟩
      exact ⟨h5.1, h6.2⟩
    have hone : l.length = 1 := by
      rcases Nat.lt_or_ge 1 l.length with h3 | h3
      · exfalso
        -- between the first row and the second one there is a gap
        have h4 := (hs 1 h3).2 (by omega)
        rw [show 1 - 1 = 0 from rfl] at h4
        have h5 := (hs 0 (by omega)).1
        have h6 := hfst 0 (by omega)
        have h7 := hfst 1 h3
        have h8 := (hs 1 h3).1
        have h9 := (l.getD 1 default).2.toNat_lt
        obtain ⟨j, hj, h10, h11⟩ := (hin ((l.getD 0 default).2.toNat + 1) (by omega)).2 ⟨by omega, by omega⟩
        have mono : ∀ n, ∀ j, j ≤ n → n < l.length → (l.getD j default).1.toNat ≤ (l.getD n default).1.toNat := by
          intro n
          induction n with
          | zero => intro j h _; obtain rfl : j = 0 := by omega
                    exact Nat.le_refl _
          | succ n ih =>
            intro j h hn
            by_cases e : j = n + 1
            · subst e; exact Nat.le_refl _
            · have q1 := ih j (by omega) (by omega)
              have q2 := (hs (n + 1) hn).2 (by omega)
              have q3 := (hs n (by omega)).1
              rw [Nat.add_sub_cancel] at q2
              omega
        by_cases e : j = 0
        · subst e; omega
        · have := mono j 1 (by omega) hj
          omega
      · omega
    match l, hone with
    | [p], _ =>
      have e0 : i = 0 := by simp at hi; omega
      subst e0
      have h3 := hfst 0 (by simp)
      obtain ⟨j, hj, h4, h5⟩ := (hin b.toNat (by omega)).2 ⟨hab, Nat.le_refl _⟩
      have e1 : j = 0 := by simp at hj; omega
      subst e1
      simp only [List.getD_cons_zero] at h1 h2 h3 h4 h5
      congr 1
      apply Prod.ext
      · apply UInt8.toNat_inj.1; simp only; omega
      · apply UInt8.toNat_inj.1; simp only; omega
  · rw [if_neg hab]
    rcases Nat.eq_zero_or_pos l.length with h | h
    · exact List.eq_nil_of_length_eq_zero h
    · exfalso
      have h3 := (hs 0 h).1
      have h4 := (l.getD 0 default).2.toNat_lt
      have := (hin (l.getD 0 default).1.toNat (by omega)).1 ⟨0, h, Nat.le_refl _, h3⟩
      omega
theorem rows_span (a b : UInt8) : (BSet.span a.toNat b.toNat).rows = if a.toNat ≤ b.toNat then [(a, b)] else [] := Sep_span (rows_sep _) (uni_rows _)

namespace BSet
theorem not_not (s : BSet) : s.bnot.bnot = s := by
  apply ext
  intro m hm
  rw [has_bnot _ hm, has_bnot _ hm, Bool.not_not]
theorem not_or (s t : BSet) : (s.bor t).bnot = s.bnot.band t.bnot := by
  apply ext
  intro m hm
  rw [has_bnot _ hm, has_bor _ _ hm, has_band _ _ hm, has_bnot _ hm, has_bnot _ hm, Bool.not_or]
theorem less_eq (s t : BSet) : s.bless t = s.band t.bnot := by
  apply ext
  intro m hm
  rw [has_bless _ _ hm, has_band _ _ hm, has_bnot _ hm]
theorem by0 (s t : BSet) : s.band t = ofFn (fun m => byP 0 (s.has m) (t.has m)) 256 := ofFn_eq fun m hm => by rw [has_band _ _ hm]; unfold byP; cases s.has m <;> cases t.has m <;> rfl
theorem by1 (s t : BSet) : s.bor t = ofFn (fun m => byP 1 (s.has m) (t.has m)) 256 := ofFn_eq fun m hm => by rw [has_bor _ _ hm]; unfold byP; cases s.has m <;> cases t.has m <;> rfl
theorem by2 (s t : BSet) : s.bless t = ofFn (fun m => byP 2 (s.has m) (t.has m)) 256 := ofFn_eq fun m hm => by rw [has_bless _ _ hm]; unfold byP; cases s.has m <;> cases t.has m <;> rfl
theorem by3 (s t : BSet) : s.bnot = ofFn (fun m => byP 3 (s.has m) (t.has m)) 256 := ofFn_eq fun m hm => by rw [has_bnot _ hm]; unfold byP; cases s.has m <;> cases t.has m <;> rfl
end BSet
theorem first_law (s : BSet) : ((((decide ((s.bytes.length : Int) = 0) && decide (((s.bytes.getD 0 0).toNat : Int) = 0)) && !decide (s.mem.length ≠ 0))) || ((decide (0 < (s.bytes.length : Int)) && decide (s.mem.length ≠ 0)) && decide (((s.bytes.getD 0 0).toNat : Int) = ((s.bytes.getD 0 default).toNat : Int)))) = true := by
  have h := s.bytes_len
  by_cases hl : s.mem.length = 0
  · have he : s.bytes = [] := List.eq_nil_of_length_eq_zero (by omega)
    rw [he]; simp [hl]
  · have h1 : (0 : Int) < (s.bytes.length : Int) := by omega
    rw [show (s.bytes.getD 0 default) = s.bytes.getD 0 0 from rfl]
    have h2 : 0 < s.bytes.length := by omega
    simp [h1, h2, hl]
end Go.Proofs.Ytbfgjdhdohfacaa
