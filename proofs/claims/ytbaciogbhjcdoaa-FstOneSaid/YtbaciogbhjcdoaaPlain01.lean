/- Plain laws of sets: what the reference makes, what single steps make. No condition. -/
import Derived.Test.YtbaciogbhjcdoaaSet
set_option linter.unusedSimpArgs false
set_option linter.unusedVariables false
namespace Go.Proofs.Ytbaciogbhjcdoaa
/-- a table of n places -/
def tab {α : Type} (n : Nat) (f : Nat → α) : List α := (List.range n).map f
theorem tab_len {α : Type} (n : Nat) (f : Nat → α) : (tab n f).length = n := by simp [tab]
theorem tab_set {α : Type} (n : Nat) (f : Nat → α) (i : Nat) (v : α) : (tab n f).set i v = tab n fun m => if m = i then v else f m := by
  apply List.ext_getElem
  · simp [tab]
  · intro j h1 h2
    simp only [tab, List.getElem_set, List.getElem_map, List.getElem_range]
    by_cases e : i = j
    · simp [e]
    · rw [if_neg e, if_neg (fun h => e h.symm)]
theorem tab_congr {α : Type} {n : Nat} {f g : Nat → α} (h : ∀ m, m < n → f m = g m) : tab n f = tab n g := by
  unfold tab; exact List.map_congr_left fun m hm => h m (List.mem_range.1 hm)
theorem tab_getD {α : Type} [Inhabited α] {n : Nat} (f : Nat → α) {i : Nat} (h : i < n) (d : α) : (tab n f).getD i d = f i := by
  simp [tab, List.getD, h]
theorem tab_const {α : Type} (n : Nat) (v : α) : List.replicate n v = tab n fun _ => v := by
  apply List.ext_getElem
  · simp [tab]
  · intro j h1 h2; simp [tab]

/-- places that are marked -/
def marks (l : List UInt8) (k : Nat) : List Bool := tab 256 fun m => (l.take k).any fun c => decide (m = c.toNat)
theorem marks_len (l : List UInt8) (k : Nat) : (marks l k).length = 256 := tab_len _ _
theorem marks_zero (l : List UInt8) : List.replicate 256 false = marks l 0 := tab_const _ _
theorem marks_succ {l : List UInt8} {k : Nat} (h : k < l.length) : (marks l k).set (l.getD k default).toNat true = marks l (k + 1) := by
  unfold marks
  rw [tab_set]
  apply tab_congr
  intro m hm
  rw [take_snoc h, List.any_append]
  by_cases e : m = (l.getD k default).toNat <;> simp [e, Bool.or_comm]
/-- places below k of which f holds -/
def upto (f : Nat → Bool) (k : Nat) : List Bool := tab 256 fun m => decide (m < k) && f m
theorem upto_len (f : Nat → Bool) (k : Nat) : (upto f k).length = 256 := tab_len _ _
theorem upto_none {f : Nat → Bool} {k : Nat} (h : ∀ m, m < k → f m = false) : List.replicate 256 false = upto f k := by
  rw [tab_const]
  apply tab_congr
  intro m hm
  by_cases h1 : m < k
  · simp [h m h1]
  · simp [h1]
theorem upto_set (f : Nat → Bool) {k : Nat} {b : Bool} (hb : b = f k) : (upto f k).set k b = upto f (k + 1) := by
  unfold upto
  rw [tab_set]
  apply tab_congr
  intro m hm
  by_cases e : m = k
  · subst e; simp [hb]
  · rw [if_neg e, show decide (m < k + 1) = decide (m < k) from decide_eq_decide.2 (by omega)]

namespace BSet
theorem ofFn_marks (l : List UInt8) {k : Nat} (h : l.length ≤ k) : ofFn (fun m => (marks l k).getD m false) 256 = ofL l := by
  apply ext
  intro m hm
  rw [has_ofFn _ _ (Nat.le_refl _) hm, has_ofL _ hm]
  unfold marks
  rw [tab_getD _ hm, List.take_of_length_le h]
  simp [hm]
theorem add_or (s : BSet) (c : UInt8) : bor s (ofL [c]) = s.add c.toNat := by
  apply ext
  intro m hm
  rw [has_bor _ _ hm, has_ofL _ hm, has_add _ (by have := c.toNat_lt; omega) hm]
  simp
theorem ofFn_congr {p q : Nat → Bool} {n : Nat} (h : ∀ m, m < n → p m = q m) (hn : n ≤ 256) : ofFn p n = ofFn q n := by
  apply ext
  intro m hm
  rw [has_ofFn p n hn hm, has_ofFn q n hn hm]
  by_cases h1 : m < n
  · rw [h m h1]
  · simp [h1]
theorem ofFn_upto (f : Nat → Bool) (k : Nat) : ofFn (fun m => (upto f k).getD m false) 256 = ofFn (fun m => decide (m < k) && f m) 256 := by
  apply ofFn_congr _ (Nat.le_refl _)
  intro m hm
  unfold upto
  rw [tab_getD _ hm]
theorem ofFn_eq {s : BSet} {p : Nat → Bool} (h : ∀ m, m < 256 → s.has m = p m) : s = ofFn p 256 := by
  apply ext
  intro m hm
  rw [has_ofFn p 256 (Nat.le_refl _) hm, h m hm]
  simp [hm]
theorem ofFn_has (s : BSet) : ofFn s.has 256 = s := (ofFn_eq fun _ _ => rfl).symm
/-- from one byte to another one -/
def span (a b : Nat) : BSet := ofFn (fun m => decide (a ≤ m) && decide (m ≤ b)) 256
theorem has_span (a b : Nat) {m : Nat} (h : m < 256) : (span a b).has m = (decide (a ≤ m) && decide (m ≤ b)) := by
  unfold span; rw [has_ofFn _ _ (Nat.le_refl _) h]; simp [h]
theorem span_of {a b c : Nat} (hb : b < 256) (hc : c ≤ 256) (h1 : a ≤ c) (h2 : c ≤ b + 1 ∨ c = a) (h3 : b < c) : ofFn (fun m => decide (a ≤ m)) c = span a b := by
  apply ext
  intro m hm
  rw [has_ofFn _ _ hc hm, has_span _ _ hm, Bool.eq_iff_iff]
  simp only [Bool.and_eq_true, decide_eq_true_eq]
  omega
theorem ofFn_none {p : Nat → Bool} {n : Nat} (hn : n ≤ 256) (h : ∀ m, m < n → p m = false) : ofFn p n = zero := by
  apply ext
  intro m hm
  rw [has_ofFn _ _ hn hm, has_zero]
  by_cases h1 : m < n
  · rw [h m h1]; simp
  · simp [h1]

/-- the first k words joined -/
def map2k (J : BitVec 64 → BitVec 64 → BitVec 64) (s t : BSet) (k : Nat) : BSet := ⟨if 0 < k then J s.a t.a else s.a, if 1 < k then J s.b t.b else s.b, if 2 < k then J s.c t.c else s.c, if 3 < k then J s.d t.d else s.d⟩
theorem map2k_zero (J : BitVec 64 → BitVec 64 → BitVec 64) (s t : BSet) : map2k J s t 0 = s := rfl
theorem map2k_four (J : BitVec 64 → BitVec 64 → BitVec 64) (s t : BSet) : map2k J s t 4 = map2 J s t := rfl
theorem map2k_succ (J : BitVec 64 → BitVec 64 → BitVec 64) (s t : BSet) {k : Nat} (h : k < 4) : (map2k J s t k).setw k (J (s.wd k) (t.wd k)) = map2k J s t (k + 1) := by
  rcases (show k = 0 ∨ k = 1 ∨ k = 2 ∨ k = 3 by omega) with rfl | rfl | rfl | rfl <;> rfl

theorem pow_shl (k : Nat) : 2#64 * (1#64 <<< k) = 1#64 <<< (k + 1) := by
  apply BitVec.eq_of_toNat_eq
  simp only [BitVec.toNat_mul, BitVec.toNat_shiftLeft, BitVec.toNat_ofNat, Nat.shiftLeft_eq]
  rw [Nat.pow_succ]
  omega
theorem add_bit (s : BSet) {b : Nat} (h : s.has b = false) : s.setw (b / 64) (s.wd (b / 64) + (1#64 <<< (b % 64))) = s.add b := by
  unfold add
  congr 1
  apply BitVec.add_eq_or_of_and_eq_zero
  apply BitVec.eq_of_getLsbD_eq
  intro i hi
  unfold has at h
  rw [BitVec.getLsbD_and, BitVec.getLsbD_shiftLeft, BitVec.getLsbD_one]
  by_cases e : i = b % 64
  · subst e; simp [h]
  · by_cases h2 : i < b % 64
    · simp [h2]
    · have : i - b % 64 ≠ 0 := by omega
      simp [this]
theorem has_quo (s : BSet) {b : Nat} (h : b < 256) : decide (s.wd (b / 64) / (1#64 <<< (b % 64)) % 2#64 = 1#64) = s.has b := by
  rw [wd_toNat]
  apply decide_eq_decide.2
  have hp : (1#64 <<< (b % 64)).toNat = 2 ^ (b % 64) := by
    rw [BitVec.toNat_shiftLeft, BitVec.toNat_ofNat, Nat.shiftLeft_eq, Nat.one_mod_two_pow (by decide), Nat.one_mul]
    exact Nat.mod_eq_of_lt (Nat.pow_lt_pow_right (by decide) (by omega))
  rw [← BitVec.toNat_inj, BitVec.toNat_umod, BitVec.toNat_udiv, hp]
  rfl
theorem shl_ne (k : Nat) (h : k < 64) : 1#64 <<< k ≠ 0#64 := by
  intro e
  have := congrArg (fun x => BitVec.getLsbD x k) e
  simp [h] at this
theorem has_shr (s : BSet) {b : Nat} (h : b < 256) : decide (s.wd (b / 64) >>> (b % 64) &&& 1#64 = 1#64) = s.has b := by
  unfold has
  generalize s.wd (b / 64) = x
  generalize b % 64 = k
  rw [BitVec.and_one_eq_setWidth_ofBool_getLsbD, BitVec.getLsbD_ushiftRight, Nat.add_zero]
  cases x.getLsbD k <;> rfl
/-- the bytes of a set, rising -/
def memK (s : BSet) (k : Nat) : List Nat := (List.range k).filter s.has
def mem (s : BSet) : List Nat := s.memK 256
theorem memK_succ (s : BSet) (k : Nat) : s.memK (k + 1) = if s.has k then s.memK k ++ [k] else s.memK k := by
  unfold memK
  rw [List.range_succ, List.filter_append]
  by_cases h : s.has k <;> simp [h]
theorem memK_pre (s : BSet) {k n : Nat} (h : k ≤ n) : s.memK k <+: s.memK n := by
  induction n with
  | zero => obtain rfl : k = 0 := by omega
            exact List.prefix_refl _
  | succ n ih =>
    by_cases e : k = n + 1
    · subst e; exact List.prefix_refl _
    · refine (ih (by omega)).trans ?_
      rw [memK_succ]
      split
      · exact List.prefix_append _ _
      · exact List.prefix_refl _
theorem mem_get (s : BSet) {k : Nat} (hk : k < 256) (h : s.has k = true) : (s.memK k).length < s.mem.length ∧ s.mem.getD (s.memK k).length 0 = k := by
  obtain ⟨t, ht⟩ := s.memK_pre (show k + 1 ≤ 256 by omega)
  rw [memK_succ, if_pos h] at ht
  unfold mem
  rw [← ht]
  constructor
  · simp
  · rw [List.getD, List.getElem?_append_left (by simp), List.getElem?_append_right (by simp)]; simp
theorem memK_take (s : BSet) {k : Nat} (hk : k ≤ 256) : s.mem.take (s.memK k).length = s.memK k := by
  obtain ⟨t, ht⟩ := s.memK_pre hk
  unfold mem
  rw [← ht]; simp
theorem memK_le (s : BSet) (k : Nat) : (s.memK k).length ≤ k := by
  have := List.length_filter_le s.has (List.range k); simpa [memK] using this
theorem mem_lt (s : BSet) : ∀ m ∈ s.mem, m < 256 ∧ s.has m = true := by
  intro m hm
  have := List.mem_filter.1 hm
  exact ⟨List.mem_range.1 this.1, this.2⟩
end BSet

/-! ## rows -/
def rowStep (out : List (UInt8 × UInt8)) (c : UInt8) : List (UInt8 × UInt8) :=
  if 0 < (out.length : Int) ∧ ((out.getD ((out.length : Int) - 1).toNat default).2.toNat : Int) + 1 = c.toNat then out.set ((out.length : Int) - 1).toNat ((out.getD ((out.length : Int) - 1).toNat default).1, c) else out ++ [(c, c)]
def rowsL (l : List UInt8) : List (UInt8 × UInt8) := l.foldl rowStep []
theorem rowsL_snoc (l : List UInt8) (c : UInt8) : rowsL (l ++ [c]) = rowStep (rowsL l) c := by simp [rowsL]
theorem rowStep_len (o : List (UInt8 × UInt8)) (c : UInt8) : (rowStep o c).length ≤ o.length + 1 := by
  unfold rowStep
  split <;> simp
theorem rows_foldl_len : ∀ (l : List UInt8) (o : List (UInt8 × UInt8)), (l.foldl rowStep o).length ≤ o.length + l.length
  | [], o => by simp
  | c :: l, o => by
    have h1 := rows_foldl_len l (rowStep o c)
    have h2 := rowStep_len o c
    simp only [List.foldl_cons, List.length_cons]; omega
theorem rowsL_len (l : List UInt8) : (rowsL l).length ≤ l.length := by
  have := rows_foldl_len l []; simpa [rowsL] using this
/-- the bytes of a set -/
def BSet.bytes (s : BSet) : List UInt8 := s.mem.map UInt8.ofNat
theorem BSet.bytes_len (s : BSet) : s.bytes.length = s.mem.length := by simp [BSet.bytes]
theorem BSet.bytes_getD (s : BSet) {k : Nat} (h : k < s.mem.length) : s.bytes.getD k default = UInt8.ofNat (s.mem.getD k 0) := by
  simp [BSet.bytes, List.getD, h]
theorem BSet.bytes_snoc (s : BSet) {k : Nat} (h : k < s.mem.length) : s.bytes.take (k + 1) = s.bytes.take k ++ [UInt8.ofNat (s.mem.getD k 0)] := by
  rw [take_snoc (by rw [s.bytes_len]; exact h), s.bytes_getD h]
theorem BSet.mem_len (s : BSet) : s.mem.length ≤ 256 := s.memK_le 256
def BSet.rows (s : BSet) : List (UInt8 × UInt8) := rowsL s.bytes

/-- what the reference's Rows keeps: places below i are seen, a row is open since 'fr' -/
def RI (l : List UInt8) (i fr : Nat) (out : List (UInt8 × UInt8)) : Prop :=
  fr ≤ i ∧ i ≤ l.length ∧ rowsL (l.take i) = out ++ (if fr < i then [(l.getD fr default, l.getD (i - 1) default)] else []) ∧
    (fr < i → i < l.length ∧ (l.getD (i - 1) default).toNat + 1 = (l.getD i default).toNat) ∧ (fr = i → i < l.length → 0 < out.length → (out.getD (out.length - 1) default).2.toNat + 1 ≠ (l.getD i default).toNat)
theorem RI_start (l : List UInt8) : RI l 0 0 [] := ⟨Nat.le_refl _, Nat.zero_le _, rfl, fun h => absurd h (Nat.lt_irrefl _), fun _ _ h => absurd h (Nat.lt_irrefl _)⟩
theorem getD_last {α : Type} (o : List α) (x d : α) : (o ++ [x]).getD ((o ++ [x]).length - 1) d = x := by
  simp [List.getD]
theorem RI_step {l : List UInt8} {i fr : Nat} {out : List (UInt8 × UInt8)} (h : RI l i fr out) (hi : i < l.length) : rowsL (l.take (i + 1)) = out ++ [(l.getD fr default, l.getD i default)] := by
  obtain ⟨h1, h2, h3, h4, h5⟩ := h
  rw [take_snoc hi, rowsL_snoc, h3]
  by_cases hf : fr < i
  · obtain ⟨_, h6⟩ := h4 hf
    rw [if_pos hf]
    unfold rowStep
    have e1 : (((out ++ [(l.getD fr default, l.getD (i - 1) default)]).length : Int) - 1).toNat = (out ++ [(l.getD fr default, l.getD (i - 1) default)]).length - 1 := by simp
    rw [e1, getD_last]
    rw [if_pos ⟨by simp, by show ((l.getD (i - 1) default).toNat : Int) + 1 = _; omega⟩]
    simp
  · obtain rfl : fr = i := by omega
    rw [if_neg (Nat.lt_irrefl _), List.append_nil]
    unfold rowStep
    rw [if_neg]
    rintro ⟨h6, h7⟩
    have e1 : ((out.length : Int) - 1).toNat = out.length - 1 := by omega
    rw [e1] at h7
    exact h5 rfl hi (by omega) (by omega)
theorem RI_shut {l : List UInt8} {i fr : Nat} {out : List (UInt8 × UInt8)} (h : RI l i fr out) (hi : i < l.length) (hc : i + 1 = l.length ∨ (l.getD (i + 1) default).toNat ≠ (l.getD i default).toNat + 1) :
    RI l (i + 1) (i + 1) (out ++ [(l.getD fr default, l.getD i default)]) := by
  refine ⟨Nat.le_refl _, hi, ?_, fun h => absurd h (Nat.lt_irrefl _), fun _ h6 _ => ?_⟩
  · rw [if_neg (Nat.lt_irrefl _), List.append_nil]; exact RI_step h hi
  · rw [getD_last]
    show (l.getD i default).toNat + 1 ≠ _
    rcases hc with hc | hc
    · omega
    · omega
theorem RI_open {l : List UInt8} {i fr : Nat} {out : List (UInt8 × UInt8)} (h : RI l i fr out) (hi : i + 1 < l.length) (hc : (l.getD (i + 1) default).toNat = (l.getD i default).toNat + 1) : RI l (i + 1) fr out := by
  refine ⟨by have := h.1; omega, by omega, ?_, fun _ => ⟨hi, by rw [Nat.add_sub_cancel]; omega⟩, fun h6 => by have := h.1; omega⟩
  rw [if_pos (by have := h.1; omega), Nat.add_sub_cancel]; exact RI_step h (by omega)
theorem RI_end {l : List UInt8} {i fr : Nat} {out : List (UInt8 × UInt8)} (h : RI l i fr out) (hi : l.length ≤ i) : out = rowsL l := by
  obtain ⟨h1, h2, h3, h4, h5⟩ := h
  obtain rfl : i = l.length := by omega
  rw [List.take_length] at h3
  rw [h3]
  by_cases hf : fr < l.length
  · exact absurd (h4 hf).1 (Nat.lt_irrefl _)
  · rw [if_neg hf, List.append_nil]
theorem RI_len {l : List UInt8} {i fr : Nat} {out : List (UInt8 × UInt8)} (h : RI l i fr out) : out.length ≤ i := by
  have h1 := rowsL_len (l.take i)
  rw [h.2.2.1, List.length_append, List.length_take] at h1
  omega
/-- the reference's join, by number -/
def byP (how : Int) (x y : Bool) : Bool := (((decide (how = 0) && x) && y || (decide (how = 1) && (x || y))) || ((decide (how = 2) && x) && !y)) || (decide (how = 3) && !x)
theorem take_ext {α : Type} [Inhabited α] {l m : List α} {k : Nat} (h : l.take k = m.take k) (hl : k < l.length) (hm : k < m.length) (he : l.getD k default = m.getD k default) : l.take (k + 1) = m.take (k + 1) := by
  rw [take_snoc hl, take_snoc hm, h, he]
end Go.Proofs.Ytbaciogbhjcdoaa
