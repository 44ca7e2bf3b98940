/- Rows in order, each once: plain. No condition. -/
set_option linter.unusedVariables false
set_option linter.unusedSimpArgs false
namespace Go.Proofs.Ytbaciogbhjcdoaa
/-- rising by cf -/
def srtL {α : Type} (cf : α → α → Int) (l : List α) : List α := l.mergeSort fun x y => !decide (cf y x < 0)
/-- cf orders all -/
structure TotC {α : Type} (cf : α → α → Int) : Prop where
  irrefl : ∀ x, ¬ cf x x < 0
  trans : ∀ x y z, cf x y < 0 → cf y z < 0 → cf x z < 0
  ntrans : ∀ x y z, ¬ cf x y < 0 → ¬ cf y z < 0 → ¬ cf x z < 0
  eq : ∀ x y, ¬ cf x y < 0 → ¬ cf y x < 0 → x = y
/-- cf tells which is less, and whether they are the same -/
structure LinC {α : Type} (cf : α → α → Int) : Prop where
  eq0 : ∀ x y, cf x y = 0 ↔ x = y
  neg : ∀ x y, 0 < cf x y ↔ cf y x < 0
  trans : ∀ x y z, cf x y < 0 → cf y z < 0 → cf x z < 0
theorem LinC.tot {α : Type} {cf : α → α → Int} (h : LinC cf) : TotC cf where
  irrefl x := by have := (h.eq0 x x).2 rfl; omega
  trans := h.trans
  ntrans x y z h1 h2 h3 := by
    by_cases e : cf y z = 0
    · rw [(h.eq0 y z).1 e] at h1; omega
    · have h4 : cf z y < 0 := (h.neg y z).1 (by omega)
      exact h1 (h.trans _ _ _ h3 h4)
  eq x y h1 h2 := by
    by_cases e : cf x y = 0
    · exact (h.eq0 x y).1 e
    · exact absurd ((h.neg x y).1 (by omega)) h2
theorem LinC.via {α β : Type} {cf : α → α → Int} (h : LinC cf) (f : β → α) (hf : ∀ a b, f a = f b → a = b) : LinC fun a b => cf (f a) (f b) where
  eq0 x y := (h.eq0 _ _).trans ⟨hf _ _, fun e => e ▸ rfl⟩
  neg x y := h.neg _ _
  trans x y z := h.trans _ _ _
/-- the first one that is not 0 -/
def orZ (a b : Int) : Int := if a ≠ 0 then a else b
theorem LinC.lex {α β : Type} {c : α → α → Int} {d : β → β → Int} (h : LinC c) (k : LinC d) : LinC fun x y : α × β => orZ (c x.1 y.1) (d x.2 y.2) where
  eq0 x y := by
    have h1 := h.eq0 x.1 y.1
    have h2 := k.eq0 x.2 y.2
    obtain ⟨x1, x2⟩ := x
    obtain ⟨y1, y2⟩ := y
    simp only [orZ, Prod.mk.injEq] at *
    by_cases e : c x1 y1 = 0
    · have e2 := h1.1 e; rw [if_neg (by simpa using e), h2]; exact ⟨fun q => ⟨e2, q⟩, fun q => q.2⟩
    · rw [if_pos e]; exact ⟨fun q => absurd q e, fun q => absurd (h1.2 q.1) e⟩
  neg x y := by
    have h1 := h.neg x.1 y.1
    have h2 := k.neg x.2 y.2
    have h3 := h.eq0 x.1 y.1
    have h4 := h.eq0 y.1 x.1
    simp only [orZ]
    by_cases e : c x.1 y.1 = 0
    · have e' : c y.1 x.1 = 0 := h4.2 (h3.1 e).symm
      simp [e, e', h2]
    · have e' : ¬ c y.1 x.1 = 0 := fun q => e (h3.2 (h4.1 q).symm)
      simp [e, e', h1]
  trans x y z h1 h2 := by
    simp only [orZ] at *
    by_cases e : c x.1 y.1 = 0
    · simp only [e, ne_eq, not_true_eq_false, if_false] at h1
      have e1 := (h.eq0 _ _).1 e
      rw [e1]
      by_cases e' : c y.1 z.1 = 0
      · simp only [e', ne_eq, not_true_eq_false, if_false] at h2 ⊢
        exact k.trans _ _ _ h1 h2
      · simp only [e', ne_eq, not_false_eq_true, if_true] at h2 ⊢
        exact h2
    · simp only [e, ne_eq, not_false_eq_true, if_true] at h1
      by_cases e' : c y.1 z.1 = 0
      · rw [← (h.eq0 _ _).1 e']; simp only [e, ne_eq, not_false_eq_true, if_true]; exact h1
      · simp only [e', ne_eq, not_false_eq_true, if_true] at h2
        have := h.trans _ _ _ h1 h2
        rw [if_pos (by omega)]; exact this
/-- two rows, place by place -/
def cmpL {α : Type} (c : α → α → Int) : List α → List α → Int
  | [], [] => 0
  | [], _ :: _ => -1
  | _ :: _, [] => 1
  | a :: l, b :: m => orZ (c a b) (cmpL c l m)
theorem LinC.list {α : Type} {c : α → α → Int} (h : LinC c) : LinC (cmpL c) where
  eq0 x := by
    induction x with
    | nil => intro y; cases y <;> simp [cmpL]
    | cons a l ih =>
      intro y
      cases y with
      | nil => simp [cmpL]
      | cons b m =>
        have h1 := h.eq0 a b
        have h2 := ih m
        simp only [cmpL, orZ, List.cons.injEq]
        by_cases e : c a b = 0
        · have e2 := h1.1 e; rw [if_neg (by simpa using e), h2]; exact ⟨fun q => ⟨e2, q⟩, fun q => q.2⟩
        · rw [if_pos e]; exact ⟨fun q => absurd q e, fun q => absurd (h1.2 q.1) e⟩
  neg x := by
    induction x with
    | nil => intro y; cases y <;> simp [cmpL]
    | cons a l ih =>
      intro y
      cases y with
      | nil => simp [cmpL]
      | cons b m =>
        have h1 := h.neg a b
        have h2 := ih m
        have h3 := h.eq0 a b
        have h4 := h.eq0 b a
        simp only [cmpL, orZ]
        by_cases e : c a b = 0
        · have e' : c b a = 0 := h4.2 (h3.1 e).symm
          simp [e, e', h2]
        · have e' : ¬ c b a = 0 := fun q => e (h3.2 (h4.1 q).symm)
          simp [e, e', h1]
  trans x := by
    induction x with
    | nil =>
      intro y z h1 h2
      cases z with
      | nil => cases y <;> simp [cmpL] at h1 h2
      | cons d n => simp [cmpL]
    | cons a l ih =>
      intro y z h1 h2
      cases y with
      | nil => simp [cmpL] at h1
      | cons b m =>
        cases z with
        | nil => simp [cmpL] at h2
        | cons d n =>
          simp only [cmpL, orZ] at *
          by_cases e : c a b = 0
          · simp only [e, ne_eq, not_true_eq_false, if_false] at h1
            rw [(h.eq0 _ _).1 e]
            by_cases e' : c b d = 0
            · simp only [e', ne_eq, not_true_eq_false, if_false] at h2 ⊢
              exact ih _ _ h1 h2
            · simp only [e', ne_eq, not_false_eq_true, if_true] at h2 ⊢
              exact h2
          · simp only [e, ne_eq, not_false_eq_true, if_true] at h1
            by_cases e' : c b d = 0
            · rw [← (h.eq0 _ _).1 e']; simp only [e, ne_eq, not_false_eq_true, if_true]; exact h1
            · simp only [e', ne_eq, not_false_eq_true, if_true] at h2
              have := h.trans _ _ _ h1 h2
              rw [if_pos (by omega)]; exact this
def cmpI (a b : Int) : Int := if a < b then -1 else if b < a then 1 else 0
def cmpB (a b : UInt8) : Int := if a < b then -1 else if b < a then 1 else 0
def cmpW (a b : BitVec 64) : Int := if a < b then -1 else if b < a then 1 else 0
def cmpS (a b : List UInt8) : Int := cmpL cmpB a b
theorem linI : LinC cmpI where
  eq0 x y := by simp only [cmpI]; split <;> (try split) <;> omega
  neg x y := by simp only [cmpI]; split <;> (try split) <;> (try split) <;> (try split) <;> omega
  trans x y z h1 h2 := by
    have e1 : x < y := by simp only [cmpI] at h1; split at h1 <;> (try split at h1) <;> omega
    have e2 : y < z := by simp only [cmpI] at h2; split at h2 <;> (try split at h2) <;> omega
    simp only [cmpI]; rw [if_pos (by omega)]; decide
theorem cmpB_eq (a b : UInt8) : cmpB a b = cmpI a.toNat b.toNat := by
  simp only [cmpB, cmpI, UInt8.lt_iff_toNat_lt, Int.ofNat_lt]
theorem cmpW_eq (a b : BitVec 64) : cmpW a b = cmpI a.toNat b.toNat := by
  simp only [cmpW, cmpI, BitVec.lt_def, Int.ofNat_lt]
theorem linB : LinC cmpB := by
  have := linI.via (fun a : UInt8 => (a.toNat : Int)) fun a b h => UInt8.toNat_inj.1 (by omega)
  rwa [show (fun a b : UInt8 => cmpI a.toNat b.toNat) = cmpB from funext fun a => funext fun b => (cmpB_eq a b).symm] at this
theorem linW : LinC cmpW := by
  have := linI.via (fun a : BitVec 64 => (a.toNat : Int)) fun a b h => BitVec.eq_of_toNat_eq (by omega)
  rwa [show (fun a b : BitVec 64 => cmpI a.toNat b.toNat) = cmpW from funext fun a => funext fun b => (cmpW_eq a b).symm] at this
theorem linS : LinC cmpS := linB.list
/-! ## in order, each once -/
section
variable {α : Type} [DecidableEq α] {cf : α → α → Int}
def cpK (p : α) : List α → List α
  | [] => []
  | b :: r => if b = p then cpK p r else b :: cpK b r
def cpL : List α → List α
  | [] => []
  | a :: r => a :: cpK a r
def ordL (cf : α → α → Int) (l : List α) : List α := cpL (srtL cf l)
/-- rising, and each once -/
def Rises (cf : α → α → Int) (l : List α) : Prop := l.Pairwise fun a b => cf a b < 0
theorem mem_cpK {x : α} : ∀ {p : α} {l : List α}, x ∈ cpK p l → x ∈ l
  | p, [], h => h
  | p, b :: r, h => by
    simp only [cpK] at h
    split at h
    · exact List.mem_cons_of_mem _ (mem_cpK h)
    · rcases List.mem_cons.1 h with rfl | h
      · exact List.mem_cons_self
      · exact List.mem_cons_of_mem _ (mem_cpK h)
theorem mem_cpK' {x : α} : ∀ {p : α} {l : List α}, x ∈ l → x = p ∨ x ∈ cpK p l
  | p, [], h => absurd h List.not_mem_nil
  | p, b :: r, h => by
    simp only [cpK]
    rcases List.mem_cons.1 h with rfl | h
    · split
      · rename_i e; exact .inl e
      · exact .inr List.mem_cons_self
    · split
      · exact mem_cpK' h
      · rcases mem_cpK' (p := b) h with rfl | h
        · exact .inr List.mem_cons_self
        · exact .inr (List.mem_cons_of_mem _ h)
theorem mem_cpL {x : α} {l : List α} : x ∈ cpL l ↔ x ∈ l := by
  cases l with
  | nil => exact Iff.rfl
  | cons a r =>
    simp only [cpL, List.mem_cons]
    constructor
    · rintro (h | h)
      · exact .inl h
      · exact .inr (mem_cpK h)
    · rintro (h | h)
      · exact .inl h
      · exact mem_cpK' h
omit [DecidableEq α] in
theorem srtL_perm (cf : α → α → Int) (l : List α) : (srtL cf l).Perm l := List.mergeSort_perm _ _
omit [DecidableEq α] in
theorem srtL_srt (h : TotC cf) (l : List α) : (srtL cf l).Pairwise fun a b => ¬ cf b a < 0 := by
  have := List.pairwise_mergeSort (le := fun x y => !decide (cf y x < 0)) (fun a b c h1 h2 => by
    simp only [Bool.not_eq_true', decide_eq_false_iff_not] at *
    exact h.ntrans _ _ _ h2 h1) (fun a b => by
    simp only [Bool.or_eq_true, Bool.not_eq_true', decide_eq_false_iff_not]
    by_cases e : cf b a < 0
    · exact .inr fun q => h.irrefl _ (h.trans _ _ _ e q)
    · exact .inl e) l
  refine this.imp fun {a b} hh => ?_
  simpa using hh
theorem cpK_rises (h : TotC cf) : ∀ {p : α} {l : List α}, (p :: l).Pairwise (fun a b => ¬ cf b a < 0) → Rises cf (p :: cpK p l)
  | p, [], _ => by simp [Rises, cpK]
  | p, b :: r, hp => by
    obtain ⟨h1, h2⟩ := List.pairwise_cons.1 hp
    simp only [cpK]
    split
    · rename_i e; subst e; exact cpK_rises h h2
    · rename_i e
      have h3 := cpK_rises h h2
      have hpb : cf p b < 0 := by
        by_cases q : cf p b < 0
        · exact q
        · exact absurd (h.eq _ _ q (h1 b List.mem_cons_self)).symm e
      refine List.pairwise_cons.2 ⟨fun x hx => ?_, h3⟩
      rcases List.mem_cons.1 hx with rfl | hx
      · exact hpb
      · exact h.trans _ _ _ hpb ((List.pairwise_cons.1 h3).1 x hx)
theorem ordL_rises (h : TotC cf) (l : List α) : Rises cf (ordL cf l) := by
  have hs := srtL_srt h l
  unfold ordL
  cases e : srtL cf l with
  | nil => simp [Rises, cpL]
  | cons a r => rw [e] at hs; exact cpK_rises h hs
theorem mem_ordL {x : α} {l : List α} : x ∈ ordL cf l ↔ x ∈ l := mem_cpL.trans (srtL_perm cf l).mem_iff
omit [DecidableEq α] in
theorem rises_uniq (h : TotC cf) : ∀ {a b : List α}, Rises cf a → Rises cf b → (∀ x, x ∈ a ↔ x ∈ b) → a = b
  | [], [], _, _, _ => rfl
  | [], y :: b, _, _, hm => absurd ((hm y).2 List.mem_cons_self) List.not_mem_nil
  | x :: a, [], _, _, hm => absurd ((hm x).1 List.mem_cons_self) List.not_mem_nil
  | x :: a, y :: b, ha, hb, hm => by
    obtain ⟨a1, a2⟩ := List.pairwise_cons.1 ha
    obtain ⟨b1, b2⟩ := List.pairwise_cons.1 hb
    have e : x = y := by
      rcases List.mem_cons.1 ((hm x).1 List.mem_cons_self) with q | q
      · exact q
      · rcases List.mem_cons.1 ((hm y).2 List.mem_cons_self) with q' | q'
        · exact q'.symm
        · exact absurd (h.trans _ _ _ (b1 x q) (a1 y q')) (h.irrefl _)
    subst e
    congr 1
    refine rises_uniq h a2 b2 fun z => ⟨fun hz => ?_, fun hz => ?_⟩
    · rcases List.mem_cons.1 ((hm z).1 (List.mem_cons_of_mem _ hz)) with q | q
      · subst q; exact absurd (a1 z hz) (h.irrefl _)
      · exact q
    · rcases List.mem_cons.1 ((hm z).2 (List.mem_cons_of_mem _ hz)) with q | q
      · subst q; exact absurd (b1 z hz) (h.irrefl _)
      · exact q
theorem ordL_congr (h : TotC cf) {a b : List α} (hm : ∀ x, x ∈ a ↔ x ∈ b) : ordL cf a = ordL cf b :=
  rises_uniq h (ordL_rises h a) (ordL_rises h b) fun x => mem_ordL.trans ((hm x).trans mem_ordL.symm)
theorem ordL_of_rises (h : TotC cf) {a : List α} (ha : Rises cf a) : ordL cf a = a := rises_uniq h (ordL_rises h a) ha fun _ => mem_ordL
theorem ordL_idem (h : TotC cf) (a : List α) : ordL cf (ordL cf a) = ordL cf a := ordL_of_rises h (ordL_rises h a)
theorem ordL_len (l : List α) : (ordL cf l).length ≤ l.length := by
  have hK : ∀ (l : List α) (p : α), (cpK p l).length ≤ l.length := by
    intro l
    induction l with
    | nil => intro p; exact Nat.le_refl _
    | cons b r ih =>
      intro p
      simp only [cpK]
      split
      · exact Nat.le_succ_of_le (ih p)
      · simpa using ih b
  have h1 : (cpL (srtL cf l)).length ≤ (srtL cf l).length := by
    cases srtL cf l with
    | nil => exact Nat.le_refl _
    | cons a r => simpa [cpL] using hK r a
  rw [(srtL_perm cf l).length_eq] at h1
  exact h1
end
end Go.Proofs.Ytbaciogbhjcdoaa
