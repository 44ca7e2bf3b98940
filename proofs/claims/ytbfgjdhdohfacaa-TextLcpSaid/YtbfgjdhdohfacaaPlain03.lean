/- Plain laws of layer 3: how texts begin. No condition. -/
set_option linter.unusedSimpArgs false
set_option linter.unusedVariables false
namespace Go.Proofs.Ytbfgjdhdohfacaa

/-- how far two texts are the same -/
def lcp : List UInt8 → List UInt8 → Nat
  | a :: l, b :: m => if a = b then lcp l m + 1 else 0
  | _, _ => 0

theorem lcp_le1 : ∀ (a b : List UInt8), lcp a b ≤ a.length
  | [], b => by simp [lcp]
  | _ :: _, [] => by simp [lcp]
  | x :: l, y :: m => by
    have := lcp_le1 l m
    simp only [lcp, List.length_cons]; split <;> omega
theorem lcp_comm : ∀ (a b : List UInt8), lcp a b = lcp b a
  | [], [] => rfl
  | [], _ :: _ => rfl
  | _ :: _, [] => rfl
  | x :: l, y :: m => by simp only [lcp, lcp_comm l m, eq_comm]
theorem lcp_le2 (a b : List UInt8) : lcp a b ≤ b.length := by rw [lcp_comm]; exact lcp_le1 b a

theorem lcp_step {a b : List UInt8} {k : Nat} (ha : k < a.length) (hb : k < b.length) (h : a.getD k 0 = b.getD k 0) : lcp (a.drop k) (b.drop k) = lcp (a.drop (k + 1)) (b.drop (k + 1)) + 1 := by
  rw [List.drop_eq_getElem_cons ha, List.drop_eq_getElem_cons hb]
  simp only [List.getD, List.getElem?_eq_getElem ha, List.getElem?_eq_getElem hb, Option.getD_some] at h
  simp [lcp, h]
theorem lcp_stop {a b : List UInt8} {k : Nat} (h : (a.length ≤ k ∨ b.length ≤ k) ∨ a.getD k 0 ≠ b.getD k 0) : lcp (a.drop k) (b.drop k) = 0 := by
  rcases Nat.lt_or_ge k a.length with ha | ha
  · rcases Nat.lt_or_ge k b.length with hb | hb
    · have h : a.getD k 0 ≠ b.getD k 0 := by rcases h with h | h <;> first | exact h | omega
      rw [List.drop_eq_getElem_cons ha, List.drop_eq_getElem_cons hb]
      simp only [List.getD, List.getElem?_eq_getElem ha, List.getElem?_eq_getElem hb, Option.getD_some] at h
      simp [lcp, h]
    · rw [lcp_comm, List.drop_eq_nil_of_le hb]; cases a.drop k <;> rfl
  · rw [List.drop_eq_nil_of_le ha]; cases b.drop k <;> rfl

/-- numbers of bytes -/
theorem byte_eq {a b : UInt8} (h : ((a.toNat : Nat) : Int) = (b.toNat : Nat)) : a = b := by
  have : a.toNat = b.toNat := by omega
  exact UInt8.toNat_inj.1 this

/-- how all of them begin -/
def lcpOf (s : List UInt8) (l : List (List UInt8)) : List UInt8 := l.foldl (fun s t => s.take (lcp s t)) s
def lcpAll : List (List UInt8) → List UInt8
  | [] => []
  | s :: r => lcpOf s r

theorem lcpOf_len (s : List UInt8) (l : List (List UInt8)) : (lcpOf s l).length ≤ s.length := by
  induction l generalizing s with
  | nil => exact Nat.le_refl _
  | cons t r ih =>
    have := ih (s.take (lcp s t))
    simp only [List.length_take] at this
    show (lcpOf (s.take (lcp s t)) r).length ≤ _
    omega

theorem lcpOf_snoc (s : List UInt8) (l : List (List UInt8)) (t : List UInt8) : lcpOf s (l ++ [t]) = (lcpOf s l).take (lcp (lcpOf s l) t) := by simp [lcpOf]

theorem take_snoc {α : Type} [Inhabited α] {l : List α} {k : Nat} (h : k < l.length) : l.take (k + 1) = l.take k ++ [l.getD k default] := by
  rw [List.take_succ_eq_append_getElem h]; simp [List.getD, h]

theorem pre_eq (s p : List UInt8) : (decide ((p.length : Int) ≤ (s.length : Int)) && decide (s.take p.length = p)) = p.isPrefixOf s := by
  rw [Bool.eq_iff_iff, Bool.and_eq_true, decide_eq_true_eq, decide_eq_true_eq, List.isPrefixOf_iff_prefix]
  constructor
  · rintro ⟨_, h⟩; rw [← h]; exact List.take_prefix _ _
  · rintro ⟨t, rfl⟩; simp; omega

/-! ### TextLag -/
theorem lcp_take (a b : List UInt8) : a.take (lcp a b) = b.take (lcp a b) := by
  induction a generalizing b with
  | nil => simp [lcp]
  | cons x l ih =>
    cases b with
    | nil => simp [lcp]
    | cons y m =>
      simp only [lcp]
      split
      · rename_i h; subst h; simp [ih m]
      · rfl
theorem lcp_drop (a b : List UInt8) : lcp (a.drop (lcp a b)) (b.drop (lcp a b)) = 0 := by
  induction a generalizing b with
  | nil => simp [lcp]
  | cons x l ih =>
    cases b with
    | nil => simp [lcp]
    | cons y m =>
      simp only [lcp]
      split
      · exact ih m
      · rename_i h; simp [lcp, h]
theorem lcp_app (f a b : List UInt8) : lcp (f ++ a) (f ++ b) = f.length + lcp a b := by
  induction f with
  | nil => simp
  | cons x f ih => simp only [List.cons_append, lcp, if_true, ih, List.length_cons]; omega
theorem lcp_zero {a b : List UInt8} (h : lcp a b = 0) : a = [] ∨ b = [] ∨ a.getD 0 0 ≠ b.getD 0 0 := by
  cases a with
  | nil => exact .inl rfl
  | cons x l =>
    cases b with
    | nil => exact .inr (.inl rfl)
    | cons y m =>
      refine .inr (.inr ?_)
      simp only [lcp] at h
      split at h
      · cases h
      · simpa using ‹_›
theorem drop_app (f a : List UInt8) (n : Nat) : (f ++ a).drop (f.length + n) = a.drop n := by
  rw [List.drop_append]; simp

theorem TextLag_law (a b f : List UInt8) :
    (true && decide ((a.drop (lcp a b)).drop (lcp (a.drop (lcp a b)) (b.drop (lcp a b))) = a.drop (lcp a b)) && decide ((b.drop (lcp a b)).drop (lcp (a.drop (lcp a b)) (b.drop (lcp a b))) = b.drop (lcp a b)) &&
      decide ((f ++ a).drop (lcp (f ++ a) (f ++ b)) = a.drop (lcp a b)) && decide ((f ++ b).drop (lcp (f ++ a) (f ++ b)) = b.drop (lcp a b)) && decide (lcpAll [a, b] ++ a.drop (lcp a b) = a) && decide (lcpAll [a, b] ++ b.drop (lcp a b) = b) &&
      (decide (a.drop (lcp a b) = []) || decide (b.drop (lcp a b) = []) || !decide ((((a.drop (lcp a b)).getD (Int.toNat 0) 0).toNat : Int) = ((b.drop (lcp a b)).getD (Int.toNat 0) 0).toNat))) = true := by
  have h1 := lcp_drop a b
  have h2 : lcpAll [a, b] = a.take (lcp a b) := rfl
  have h3 := lcp_take a b
  simp only [h1, List.drop_zero, lcp_app, drop_app, h2, List.take_append_drop, decide_true, Bool.and_self, Bool.true_and]
  rw [h3, List.take_append_drop]
  simp only [decide_true, Bool.true_and]
  rcases lcp_zero h1 with h | h | h
  · simp [h]
  · simp [h]
  · have h4 : ¬ ((((a.drop (lcp a b)).getD 0 0).toNat : Int) = ((b.drop (lcp a b)).getD 0 0).toNat) := fun e => h (byte_eq e)
    simp only [Int.toNat_zero, h4, decide_false, Bool.not_false, Bool.or_true]

/-! ### TextLcp -/
/-- p is how both begin -/
theorem lcp_prefix (s t : List UInt8) : ∀ p : List UInt8, p <+: s.take (lcp s t) ↔ p <+: s ∧ p <+: t := by
  intro p
  constructor
  · intro h
    exact ⟨h.trans (List.take_prefix _ _), (lcp_take s t ▸ h).trans (List.take_prefix _ _)⟩
  · rintro ⟨⟨a, rfl⟩, ⟨b, rfl⟩⟩
    rw [lcp_app, List.take_append, List.take_of_length_le (by omega)]
    exact List.prefix_append _ _
theorem lcpOf_prefix (s : List UInt8) (l : List (List UInt8)) : ∀ p : List UInt8, p <+: lcpOf s l ↔ p <+: s ∧ ∀ t ∈ l, p <+: t := by
  induction l generalizing s with
  | nil => intro p; simp [lcpOf]
  | cons t r ih =>
    intro p
    show p <+: lcpOf (s.take (lcp s t)) r ↔ _
    rw [ih, lcp_prefix]; simp [and_assoc]
theorem lcpAll_prefix {l : List (List UInt8)} (h : l ≠ []) : ∀ p : List UInt8, p <+: lcpAll l ↔ ∀ t ∈ l, p <+: t := by
  cases l with
  | nil => exact absurd rfl h
  | cons s r => intro p; simp only [lcpAll]; rw [lcpOf_prefix]; simp
theorem prefix_ext {a b : List UInt8} (h : ∀ p : List UInt8, p <+: a ↔ p <+: b) : a = b := by
  have h1 := (h a).1 (List.prefix_refl a)
  have h2 := (h b).2 (List.prefix_refl b)
  exact h1.eq_of_length (Nat.le_antisymm h1.length_le h2.length_le)
theorem lcpAll_app {l m : List (List UInt8)} (hl : l ≠ []) (hm : m ≠ []) : lcpAll (l ++ m) = lcpAll [lcpAll l, lcpAll m] := by
  apply prefix_ext
  intro p
  rw [lcpAll_prefix (by simp [hl]), lcpAll_prefix (by simp)]
  simp only [List.mem_append, List.mem_cons, List.not_mem_nil, or_false, forall_eq_or_imp, forall_eq, lcpAll_prefix hl, lcpAll_prefix hm]
  constructor
  · exact fun h => ⟨fun t ht => h t (.inl ht), fun t ht => h t (.inr ht)⟩
  · rintro ⟨h1, h2⟩ t (ht | ht)
    · exact h1 t ht
    · exact h2 t ht
end Go.Proofs.Ytbfgjdhdohfacaa
