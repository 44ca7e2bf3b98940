/- Several texts in one. No condition. -/
import Derived.Test.YthofnojmgkjmfaaMg14TwinTrim
set_option linter.unusedVariables false
set_option linter.unusedSimpArgs false
namespace Go.Proofs.Ythofnojmgkjmfaa
theorem aget_memb {K V : Type} [DecidableEq K] {m : List (K × V)} {k : K} {v : V} (h : aget m k = some v) : (k, v) ∈ m := by
  induction m with
  | nil => simp [aget] at h
  | cons p m ih =>
    rw [aget] at h
    split at h
    · rename_i e; cases h; rw [e]; simp
    · exact List.mem_cons_of_mem _ (ih h)
theorem num_some {l : List Int} {s v : Int} (h : aget (numL l) s = some v) : ∃ i, ∃ hi : i < l.length, v = (i : Int) ∧ l[i] = s := by
  have h1 := aget_memb h
  unfold numL at h1
  obtain ⟨p, hp, he⟩ := List.mem_map.1 h1
  obtain ⟨i, hi, rfl⟩ := List.getElem_of_mem hp
  rw [List.getElem_zip] at he
  simp only [Prod.mk.injEq, List.getElem_range] at he
  exact ⟨i, by simpa using hi, he.2.symm, he.1⟩
theorem num_get {l : List Int} (hn : l.Nodup) {i : Nat} (hi : i < l.length) : aget (numL l) l[i] = some (i : Int) := by
  cases h : aget (numL l) l[i] with
  | none =>
    have : l[i] ∈ keys (numL l) := by rw [numL_keys]; exact List.getElem_mem hi
    exact absurd h (by
      intro h
      have key : ∀ (m : List (Int × Int)), l[i] ∈ keys m → aget m l[i] ≠ none := by
        intro m
        induction m with
        | nil => intro q; simp [keys] at q
        | cons p m ih =>
          intro q
          rw [aget]
          split
          · simp
          · rename_i e
            simp only [keys, List.map_cons, List.mem_cons] at q
            exact ih (q.resolve_left e)
      exact key _ this h)
  | some v =>
    obtain ⟨j, hj, rfl, he⟩ := num_some h
    have : j = i := by
      have hp := List.pairwise_iff_getElem.1 hn
      rcases Nat.lt_trichotomy j i with q | q | q
      · exact absurd he (hp j i hj hi q)
      · exact q
      · exact absurd he.symm (hp i j hi hj q)
    rw [this]
theorem num_isSome {l : List Int} (hn : l.Nodup) {s : Int} : (aget (numL l) s).isSome = true ↔ s ∈ l := by
  constructor
  · intro h
    obtain ⟨v, hv⟩ := Option.isSome_iff_exists.1 h
    obtain ⟨i, hi, _, rfl⟩ := num_some hv
    exact List.getElem_mem hi
  · intro h
    obtain ⟨i, hi, rfl⟩ := List.getElem_of_mem h
    rw [num_get hn hi]; rfl
theorem useL_nodup (t : GFst) : (useL t).Nodup := usefulL_nodup _ _ _
/-- what is cut keeps its ways -/
theorem cut_arc {t : GFst} {s u v w : Int} (hs : aget (numL (useL t)) s = some v) (hu : aget (numL (useL t)) u = some w) (k : Arc t s u) : Arc (pCut t) v w := by
  obtain ⟨x, hx, rfl, rfl⟩ := k
  refine ⟨{ x with From := v, To := w }, ?_, rfl, rfl⟩
  unfold pCut arcsL
  refine List.mem_map.2 ⟨x, List.mem_filter.2 ⟨hx, by rw [hs, hu]; rfl⟩, by rw [hs, hu]; rfl⟩
theorem num_of {t : GFst} {s : Int} (h : s ∈ useL t) : ∃ v, aget (numL (useL t)) s = some v := Option.isSome_iff_exists.1 ((num_isSome (useL_nodup t)).2 h)
theorem cut_fwd {t : GFst} (hR : fRight t = true) {s : Int} (h : Fwd t s) : Bwd t s → ∀ v, aget (numL (useL t)) s = some v → Fwd (pCut t) v := by
  induction h with
  | base h =>
    intro hb v hv
    obtain ⟨x, hx, rfl⟩ := h
    refine .base ⟨⟨v, x.Out⟩, ?_, rfl⟩
    unfold pCut tipsL
    exact List.mem_map.2 ⟨x, List.mem_filter.2 ⟨hx, by rw [hv]; rfl⟩, by rw [hv]; rfl⟩
  | step h1 h2 ih =>
    intro hb v hv
    have hb' : Bwd t _ := .step hb h2
    obtain ⟨w, hw⟩ := num_of ((mem_useL hR).2 ⟨h1, hb'⟩)
    exact .step (ih hb' w hw) (cut_arc hw hv h2)
theorem cut_bwd {t : GFst} (hR : fRight t = true) {s : Int} (h : Bwd t s) : Fwd t s → ∀ v, aget (numL (useL t)) s = some v → Bwd (pCut t) v := by
  induction h with
  | base h =>
    intro hb v hv
    obtain ⟨x, hx, rfl⟩ := h
    refine .base ⟨⟨v, x.Out⟩, ?_, rfl⟩
    unfold pCut tipsL
    exact List.mem_map.2 ⟨x, List.mem_filter.2 ⟨hx, by rw [hv]; rfl⟩, by rw [hv]; rfl⟩
  | step h1 h2 ih =>
    intro hb v hv
    have hb' : Fwd t _ := .step hb h2
    obtain ⟨w, hw⟩ := num_of ((mem_useL hR).2 ⟨hb', h1⟩)
    exact .step (ih hb' w hw) (cut_arc hv hw h2)
theorem arc_srt {t : GFst} {s u : Int} : Arc (fSrt t) s u ↔ Arc t s u := by
  unfold Arc fSrt
  simp only [mem_ordL]
theorem fwd_srt {t : GFst} {s : Int} (h : Fwd t s) : Fwd (fSrt t) s := h.mono (fun s ⟨x, hx, e⟩ => ⟨x, mem_ordL.2 hx, e⟩) fun _ _ k => arc_srt.2 k
theorem bwd_srt {t : GFst} {s : Int} (h : Bwd t s) : Bwd (fSrt t) s := h.mono (fun s ⟨x, hx, e⟩ => ⟨x, mem_ordL.2 hx, e⟩) fun _ _ k => arc_srt.2 k
theorem fRight_srt {t : GFst} (h : fRight t = true) : fRight (fSrt t) = true := by
  have h1 := fLens_le h
  simp only [fRight, Bool.and_eq_true, List.all_eq_true, decide_eq_true_eq, Bool.not_eq_true'] at h ⊢
  obtain ⟨⟨⟨⟨⟨⟨⟨a1, a2⟩, a3⟩, a4⟩, a5⟩, a6⟩, a7⟩, a8⟩ := h
  refine ⟨⟨⟨⟨⟨⟨⟨a1, a2⟩, Nat.le_trans (ordL_len _) a3⟩, Nat.le_trans (ordL_len _) a4⟩, Nat.le_trans (ordL_len _) a5⟩, fun x hx => a6 x (mem_ordL.1 hx)⟩, fun x hx => a7 x (mem_ordL.1 hx)⟩, fun x hx => a8 x (mem_ordL.1 hx)⟩
/-- all states are of use -/
theorem useL_full {t : GFst} (h0 : 0 ≤ t.States) (h : ∀ s, 0 ≤ s → s < t.States → s ∈ useL t) : useL t = (List.range t.States.toNat).map fun (k : Nat) => (k : Int) := by
  unfold useL usefulL at h ⊢
  congr 1
  rw [List.filter_eq_self]
  intro k hk
  have hk' := List.mem_range.1 hk
  obtain ⟨j, hj, he⟩ := List.mem_map.1 (h (k : Int) (by omega) (by omega))
  have : j = k := by exact_mod_cast he
  subst this
  exact (List.mem_filter.1 hj).2
theorem num_full {n : Nat} {s : Int} (h0 : 0 ≤ s) (h1 : s < n) : aget (numL ((List.range n).map fun (k : Nat) => (k : Int))) s = some s := by
  have hn : ((List.range n).map fun (k : Nat) => (k : Int)).Nodup := List.Pairwise.map _ (fun x y h e => h (by exact_mod_cast e)) List.nodup_range
  have := num_get hn (i := s.toNat) (by simp; omega)
  rw [List.getElem_map, List.getElem_range] at this
  rw [show ((s.toNat : Nat) : Int) = s by omega] at this
  exact this
theorem cut_full {t : GFst} (hR : fRight t = true) (h : useL t = (List.range t.States.toNat).map fun (k : Nat) => (k : Int)) : pCut t = t := by
  have h0 := fStates_in hR; have h1 := fTips_in hR; have h2 := fArcs_in hR
  have tips : ∀ l : List GTip, (∀ x ∈ l, 0 ≤ x.State ∧ x.State < t.States) → tipsL (numL (useL t)) l = l := fun l hl => by
    rw [h]; unfold tipsL
    rw [List.filter_eq_self.2 fun x hx => by rw [num_full (hl x hx).1 (by have := (hl x hx).2; omega)]; rfl]
    conv => rhs; rw [← List.map_id l]
    refine List.map_congr_left fun x hx => ?_
    rw [num_full (hl x hx).1 (by have := (hl x hx).2; omega)]; rfl
  have arcs : arcsL (numL (useL t)) t.Arcs = t.Arcs := by
    rw [h]; unfold arcsL
    rw [List.filter_eq_self.2 fun x hx => by
      have := h2 x hx
      rw [num_full this.1.1 (by omega), num_full this.2.1.1 (by omega)]; rfl]
    conv => rhs; rw [← List.map_id t.Arcs]
    refine List.map_congr_left fun x hx => ?_
    have := h2 x hx
    rw [num_full this.1.1 (by omega), num_full this.2.1.1 (by omega)]; rfl
  unfold pCut
  rw [tips _ h1.1, tips _ h1.2, arcs, h]
  obtain ⟨a, b, c, d⟩ := t
  simp only [List.length_map, List.length_range, GFst.mk.injEq, and_true]
  have := h0.1
  dsimp only at this
  omega
/-- **Trim twice is Trim.** -/
theorem pTrim_idem {t : GFst} (h : (pTrim t).2 = 0) : pTrim (pTrim t).1 = ((pTrim t).1, 0) := by
  have hR : fRight t = true := by
    unfold pTrim at h
    cases hR : fRight t with
    | false => rw [hR] at h; simp at h
    | true => rfl
  have hC : fRight (pCut t) = true ∧ (pTrim t).1 = fSrt (pCut t) := by
    unfold pTrim at h ⊢
    rw [hR] at h ⊢
    simp only [if_true] at h ⊢
    unfold fSort at h ⊢
    cases hC : fRight (pCut t) with
    | false => rw [hC] at h; simp at h
    | true => exact ⟨rfl, rfl⟩
  obtain ⟨hC, hT⟩ := hC
  rw [hT]
  have hS := fRight_srt hC
  have hfull : useL (fSrt (pCut t)) = (List.range (fSrt (pCut t)).States.toNat).map fun (k : Nat) => (k : Int) := by
    refine useL_full (fStates_in hS).1 fun s h0 h1 => ?_
    have h1' : s < ((useL t).length : Int) := h1
    have hlt : s.toNat < (useL t).length := by omega
    have hg := num_get (useL_nodup t) hlt
    rw [show ((s.toNat : Nat) : Int) = s by omega] at hg
    have hm := (mem_useL hR).1 (List.getElem_mem hlt)
    rw [mem_useL hS]
    exact ⟨fwd_srt (cut_fwd hR hm.1 hm.2 s hg), bwd_srt (cut_bwd hR hm.2 hm.1 s hg)⟩
  unfold pTrim
  rw [if_pos hS, cut_full hS hfull]
  unfold fSort
  rw [if_pos hS]
  have : fSrt (fSrt (pCut t)) = fSrt (pCut t) := by
    unfold fSrt
    simp only [ordL_idem linTip.tot, ordL_idem linArc.tot]
  rw [this]
end Go.Proofs.Ythofnojmgkjmfaa

set_option linter.unusedVariables false
set_option linter.unusedSimpArgs false
namespace Go.Proofs.Ythofnojmgkjmfaa
/-! ## puts -/
theorem keys_tPut {n : Int} {s : TSt} (h : Seen n s) (l z : Gtwin_lag) : (z ∈ keys (tPut n l s).1 ↔ z ∈ keys s.1 ∨ z = l) ∧ (z ∈ (tPut n l s).2.1 ↔ z ∈ s.2.1 ∨ (z = l ∧ z ∉ keys s.1)) := by
  have hk : (aget s.1 l).getD false = true ↔ l ∈ keys s.1 := by
    constructor
    · intro q
      cases e : aget s.1 l with
      | none => rw [e] at q; simp at q
      | some v => exact List.mem_map.2 ⟨_, aget_mem e, rfl⟩
    · intro q
      cases e : aget s.1 l with
      | none =>
        have : ∀ m : List (Gtwin_lag × Bool), l ∈ keys m → aget m l ≠ none := by
          intro m
          induction m with
          | nil => intro q; simp [keys] at q
          | cons p m ih =>
            intro q
            rw [aget]
            split
            · simp
            · rename_i e
              simp only [keys, List.map_cons, List.mem_cons] at q
              exact ih (q.resolve_left e)
        exact absurd e (this _ q)
      | some v => have := h.all _ (aget_mem e); simpa using this
  unfold tPut
  split <;> rename_i hc
  · have hm := hk.1 hc
    refine ⟨⟨.inl, fun q => q.elim id fun e => e ▸ hm⟩, ⟨.inl, fun q => q.elim id fun ⟨e, k⟩ => absurd (e ▸ hm) k⟩⟩
  · have hm : l ∉ keys s.1 := fun q => hc (hk.2 q)
    dsimp only
    rw [keys_put, if_neg hm, List.mem_append, List.mem_append, List.mem_singleton]
    exact ⟨Iff.rfl, ⟨fun q => q.imp id fun e => ⟨e, e ▸ hm⟩, fun q => q.imp id fun e => e.1⟩⟩
theorem keys_tPuts {n : Int} (z : Gtwin_lag) : ∀ (xs : List Gtwin_lag) {s : TSt}, Seen n s → (z ∈ keys (xs.foldl (fun s x => tPut n x s) s).1 ↔ z ∈ keys s.1 ∨ z ∈ xs) ∧ (z ∈ (xs.foldl (fun s x => tPut n x s) s).2.1 ↔ z ∈ s.2.1 ∨ (z ∈ xs ∧ z ∉ keys s.1))
  | [], s, h => by simp
  | x :: xs, s, h => by
    obtain ⟨h1, h2⟩ := keys_tPut h x z
    obtain ⟨h3, h4⟩ := keys_tPuts z xs (tPut_seen h x).1
    rw [List.foldl_cons, h3, h4, h1, h2, List.mem_cons]
    refine ⟨by rw [or_assoc], ?_⟩
    by_cases q : z = x <;> by_cases r : z ∈ keys s.1 <;> by_cases u : z ∈ xs <;> by_cases w : z ∈ s.2.1 <;> simp [q, r, u, w] <;> simp_all
theorem nodup_tPut {n : Int} {s : TSt} (h : (keys s.1).Nodup) (l : Gtwin_lag) : (keys (tPut n l s).1).Nodup := by
  unfold tPut
  split
  · exact h
  · dsimp only
    rw [keys_put]
    split
    · exact h
    · rename_i q
      rw [List.nodup_append]
      exact ⟨h, by simp, fun a ha b hb e => by rw [List.mem_singleton] at hb; subst hb; exact q (e ▸ ha)⟩
theorem nodup_tPuts {n : Int} : ∀ (xs : List Gtwin_lag) {s : TSt}, (keys s.1).Nodup → (keys (xs.foldl (fun s x => tPut n x s) s).1).Nodup
  | [], _, h => h
  | x :: xs, s, h => nodup_tPuts xs (nodup_tPut h x)
theorem far_tPuts {n : Int} (hn : 0 ≤ n) : ∀ (xs : List Gtwin_lag) {s : TSt}, (∀ z ∈ xs, z.a = [] ∧ z.b = []) → s.2.2 = false → (xs.foldl (fun s x => tPut n x s) s).2.2 = false
  | [], _, _, h => h
  | x :: xs, s, hx, h => by
    refine far_tPuts hn xs (fun z hz => hx z (List.mem_cons_of_mem _ hz)) ?_
    have := hx x (by simp)
    show (tPut n x s).2.2 = false
    unfold tPut
    split
    · exact h
    · dsimp only; rw [h, this.1, this.2]; simp; omega
/-! ## lags -/
theorem lcp_appP (P u v : List UInt8) : lcp (P ++ u) (P ++ v) = P.length + lcp u v := by
  induction P with
  | nil => simp
  | cons a P ih => simp only [List.cons_append, lcp, if_true, ih, List.length_cons]; omega
theorem take_lcp : ∀ (a b : List UInt8), a.take (lcp a b) = b.take (lcp a b)
  | [], b => by simp [lcp]
  | _ :: _, [] => by simp [lcp]
  | x :: l, y :: m => by
    simp only [lcp]
    split <;> rename_i h
    · subst h; simp [take_lcp l m]
    · simp
theorem tOf_app (p q : Int) (P u v : List UInt8) : tOf p q (P ++ u) (P ++ v) = tOf p q u v := by
  unfold tOf
  rw [lcp_appP, List.drop_append, List.drop_append]
  simp
theorem lcp_self (x : List UInt8) : lcp x x = x.length := by
  have := lcp_appP x [] []
  simpa [lcp] using this
theorem tOf_same (p q : Int) (x : List UInt8) : tOf p q x x = ⟨p, q, [], []⟩ := by
  unfold tOf; rw [lcp_self]; simp
def pw (x : List UInt8) (j : Nat) : List UInt8 := (List.replicate j x).flatten
theorem pw_succ (x : List UInt8) (j : Nat) : pw x (j + 1) = pw x j ++ x := by
  unfold pw; rw [List.replicate_succ', List.flatten_append]; simp
theorem pw_len (x : List UInt8) (j : Nat) : (pw x j).length = j * x.length := by unfold pw; simp
/-- the lag behind one, one round on -/
theorem tOf_round (p q : Int) (a b x y : List UInt8) : tOf p q ((tOf p q a b).a ++ x) ((tOf p q a b).b ++ y) = tOf p q (a ++ x) (b ++ y) := by
  have h1 : a ++ x = a.take (lcp a b) ++ (a.drop (lcp a b) ++ x) := by rw [← List.append_assoc, List.take_append_drop]
  have h2 : b ++ y = a.take (lcp a b) ++ (b.drop (lcp a b) ++ y) := by rw [take_lcp, ← List.append_assoc, List.take_append_drop]
  rw [h1, h2, tOf_app]; rfl
def lag1 (x y : List UInt8) (j : Nat) : Gtwin_lag := tOf 0 1 (pw x j) (pw y j)
def lag2 (x y : List UInt8) (j : Nat) : Gtwin_lag := tOf 1 0 (pw y j) (pw x j)
def lagN (x y : List UInt8) (j : Nat) : Nat := (lag1 x y j).a.length + (lag1 x y j).b.length
theorem lagN_eq (x y : List UInt8) (j : Nat) : lagN x y j + 2 * lcp (pw x j) (pw y j) = j * x.length + j * y.length := by
  have h1 := lcp_le1 (pw x j) (pw y j); have h2 := lcp_le2 (pw x j) (pw y j)
  unfold lagN lag1 tOf
  simp only [List.length_drop]
  rw [pw_len] at *
  rw [pw_len] at *
  omega
theorem lcp_mis : ∀ (a b u v : List UInt8), lcp a b < a.length → lcp a b < b.length → lcp (a ++ u) (b ++ v) = lcp a b
  | [], b, u, v, h, _ => by simp at h
  | _ :: _, [], u, v, _, h => by simp at h
  | x :: l, y :: m, u, v, h1, h2 => by
    simp only [List.cons_append, lcp] at h1 h2 ⊢
    split <;> rename_i h
    · rw [if_pos h] at h1 h2
      rw [lcp_mis l m u v (by simpa using h1) (by simpa using h2)]
    · rfl
theorem lcp_full {a b : List UInt8} (h1 : lcp a b = a.length) (h2 : lcp a b = b.length) : a = b := by
  have := take_lcp a b
  rw [h1, List.take_length] at this
  rw [this, ← h1, h2, List.take_length]
theorem lagN_lt {x y : List UInt8} (hne : x ≠ y) (j : Nat) : lagN x y j < lagN x y (j + 1) := by
  have e1 := lagN_eq x y j; have e2 := lagN_eq x y (j + 1)
  have l1 := lcp_le1 (pw x j) (pw y j); have l2 := lcp_le2 (pw x j) (pw y j)
  have l3 := lcp_le1 (pw x (j + 1)) (pw y (j + 1)); have l4 := lcp_le2 (pw x (j + 1)) (pw y (j + 1))
  have n1 := pw_len x j; have n2 := pw_len y j; have n3 := pw_len x (j + 1); have n4 := pw_len y (j + 1)
  have m1 : (j + 1) * x.length = j * x.length + x.length := by rw [Nat.add_mul, Nat.one_mul]
  have m2 : (j + 1) * y.length = j * y.length + y.length := by rw [Nat.add_mul, Nat.one_mul]
  have hpos : 0 < x.length + y.length := by
    rcases Nat.eq_zero_or_pos (x.length + y.length) with h | h
    · exact absurd ((List.eq_nil_of_length_eq_zero (by omega)).trans (List.eq_nil_of_length_eq_zero (l := y) (by omega)).symm) hne
    · exact h
  by_cases hm : lcp (pw x j) (pw y j) < (pw x j).length ∧ lcp (pw x j) (pw y j) < (pw y j).length
  · have := lcp_mis (pw x j) (pw y j) x y hm.1 hm.2
    rw [← pw_succ, ← pw_succ] at this
    omega
  · -- one begins the other
    have m3 : j * x.length ≤ j * y.length ∨ j * y.length ≤ j * x.length := Nat.le_total _ _
    rcases Nat.lt_trichotomy x.length y.length with h | h | h
    · have : j * x.length ≤ j * y.length := Nat.mul_le_mul_left _ (Nat.le_of_lt h)
      omega
    · have hjl : j * x.length = j * y.length := by rw [h]
      -- as long
      have q1 : lcp (pw x j) (pw y j) = (pw x j).length := by omega
      have q2 : pw x j = pw y j := lcp_full q1 (by omega)
      have q3 : lcp (pw x (j + 1)) (pw y (j + 1)) = (pw x j).length + lcp x y := by rw [pw_succ, pw_succ, q2, lcp_appP]
      have q4 : lcp x y < x.length := by
        have := lcp_le1 x y
        rcases Nat.lt_or_ge (lcp x y) x.length with r | r
        · exact r
        · exact absurd (lcp_full (a := x) (b := y) (by omega) (by omega)) hne
      omega
    · have : j * y.length ≤ j * x.length := Nat.mul_le_mul_left _ (Nat.le_of_lt h)
      omega
theorem lagN_mono {x y : List UInt8} (hne : x ≠ y) {i : Nat} : ∀ {j : Nat}, i < j → lagN x y i < lagN x y j
  | 0, h => absurd h (Nat.not_lt_zero _)
  | j + 1, h => by
    rcases Nat.lt_or_ge i j with q | q
    · exact Nat.lt_trans (lagN_mono hne q) (lagN_lt hne j)
    · obtain rfl : i = j := by omega
      exact lagN_lt hne i
theorem lagN_ge {x y : List UInt8} (hne : x ≠ y) : ∀ j, j ≤ lagN x y j
  | 0 => Nat.zero_le _
  | j + 1 => Nat.lt_of_le_of_lt (lagN_ge hne j) (lagN_lt hne j)
/-! ## the transducer -/
def forkS (x y : List UInt8) : GFst := ⟨3, [⟨0, []⟩, ⟨1, []⟩], [⟨2, []⟩], [⟨0, 0, BSet.ofL [97], x, false⟩, ⟨0, 2, BSet.ofL [98], [], false⟩, ⟨1, 1, BSet.ofL [97], y, false⟩, ⟨1, 2, BSet.ofL [99], [], false⟩]⟩
theorem bAA : (BSet.band (BSet.ofL [97]) (BSet.ofL [97])).rows.flatMap rowB = [97] := by decide
theorem bBB : (BSet.band (BSet.ofL [98]) (BSet.ofL [98])).rows.flatMap rowB = [98] := by decide
theorem bCC : (BSet.band (BSet.ofL [99]) (BSet.ofL [99])).rows.flatMap rowB = [99] := by decide
theorem bAB : (BSet.band (BSet.ofL [97]) (BSet.ofL [98])).rows.flatMap rowB = [] := by decide
theorem bBA : (BSet.band (BSet.ofL [98]) (BSet.ofL [97])).rows.flatMap rowB = [] := by decide
theorem bAC : (BSet.band (BSet.ofL [97]) (BSet.ofL [99])).rows.flatMap rowB = [] := by decide
theorem bCA : (BSet.band (BSet.ofL [99]) (BSet.ofL [97])).rows.flatMap rowB = [] := by decide
theorem bBC : (BSet.band (BSet.ofL [98]) (BSet.ofL [99])).rows.flatMap rowB = [] := by decide
theorem bCB : (BSet.band (BSet.ofL [99]) (BSet.ofL [98])).rows.flatMap rowB = [] := by decide
theorem fOutB_f (a b : Int) (s : BSet) (x : List UInt8) (c : UInt8) : fOutB ⟨a, b, s, x, false⟩ c = x := by simp [fOutB]
section
variable {x y a b : List UInt8}
theorem next01 : tNext (forkS x y) ⟨0, 1, a, b⟩ = [tOf 0 1 (a ++ x) (b ++ y)] := by
  simp [tNext, forkS, tStep, bAA, bAC, bBA, bBC, fOutB_f]
theorem next10 : tNext (forkS x y) ⟨1, 0, a, b⟩ = [tOf 1 0 (a ++ y) (b ++ x)] := by
  simp [tNext, forkS, tStep, bAA, bAB, bCA, bCB, fOutB_f]
theorem next00 : tNext (forkS x y) ⟨0, 0, a, b⟩ = [tOf 0 0 (a ++ x) (b ++ x), tOf 2 2 a b] := by
  simp [tNext, forkS, tStep, bAA, bAB, bBA, bBB, fOutB_f]
theorem next11 : tNext (forkS x y) ⟨1, 1, a, b⟩ = [tOf 1 1 (a ++ y) (b ++ y), tOf 2 2 a b] := by
  simp [tNext, forkS, tStep, bAA, bAC, bCA, bCC, fOutB_f]
theorem next22 : tNext (forkS x y) ⟨2, 2, a, b⟩ = [] := by
  simp [tNext, forkS, tStep]
end
/-- what may come up, after k rounds -/
def cls (x y : List UInt8) (k : Nat) : List Gtwin_lag := [⟨0, 0, [], []⟩, ⟨1, 1, [], []⟩, ⟨2, 2, [], []⟩] ++ (List.range (k + 1)).map (lag1 x y) ++ (List.range (k + 1)).map (lag2 x y)
theorem mem_cls {x y : List UInt8} {k : Nat} {z : Gtwin_lag} : z ∈ cls x y k ↔ (z = ⟨0, 0, [], []⟩ ∨ z = ⟨1, 1, [], []⟩ ∨ z = ⟨2, 2, [], []⟩) ∨ (∃ j, j ≤ k ∧ z = lag1 x y j) ∨ ∃ j, j ≤ k ∧ z = lag2 x y j := by
  unfold cls
  simp only [List.mem_append, List.mem_cons, List.not_mem_nil, or_false, List.mem_map, List.mem_range, or_assoc]
  have e : ∀ f : Nat → Gtwin_lag, (∃ a, a < k + 1 ∧ f a = z) ↔ ∃ j, j ≤ k ∧ z = f j := fun f => ⟨fun ⟨a, h, q⟩ => ⟨a, by omega, q.symm⟩, fun ⟨a, h, q⟩ => ⟨a, by omega, q.symm⟩⟩
  rw [e, e]
theorem next_lag1 (x y : List UInt8) (j : Nat) : tNext (forkS x y) (lag1 x y j) = [lag1 x y (j + 1)] := by
  have : lag1 x y j = ⟨0, 1, (lag1 x y j).a, (lag1 x y j).b⟩ := rfl
  rw [this, next01]
  have := tOf_round 0 1 (pw x j) (pw y j) x y
  rw [← pw_succ, ← pw_succ] at this
  exact congrArg (fun z => [z]) this
theorem next_lag2 (x y : List UInt8) (j : Nat) : tNext (forkS x y) (lag2 x y j) = [lag2 x y (j + 1)] := by
  have : lag2 x y j = ⟨1, 0, (lag2 x y j).a, (lag2 x y j).b⟩ := rfl
  rw [this, next10]
  have := tOf_round 1 0 (pw y j) (pw x j) y x
  rw [← pw_succ, ← pw_succ] at this
  exact congrArg (fun z => [z]) this
theorem cls_next {x y : List UInt8} {k : Nat} {z w : Gtwin_lag} (hz : z ∈ cls x y k) (hw : w ∈ tNext (forkS x y) z) : w ∈ cls x y (k + 1) := by
  rw [mem_cls] at hz ⊢
  rcases hz with (rfl | rfl | rfl) | ⟨j, hj, rfl⟩ | ⟨j, hj, rfl⟩
  · rw [next00, List.nil_append, tOf_same, tOf_same] at hw
    simp only [List.mem_cons, List.not_mem_nil, or_false] at hw
    rcases hw with h | h
    · exact .inl (.inl h)
    · exact .inl (.inr (.inr h))
  · rw [next11, List.nil_append, tOf_same, tOf_same] at hw
    simp only [List.mem_cons, List.not_mem_nil, or_false] at hw
    rcases hw with h | h
    · exact .inl (.inr (.inl h))
    · exact .inl (.inr (.inr h))
  · rw [next22] at hw; simp at hw
  · rw [next_lag1, List.mem_singleton] at hw
    exact .inr (.inl ⟨j + 1, by omega, hw⟩)
  · rw [next_lag2, List.mem_singleton] at hw
    exact .inr (.inr ⟨j + 1, by omega, hw⟩)
theorem cls_mono {x y : List UInt8} {k : Nat} {z : Gtwin_lag} (hz : z ∈ cls x y k) : z ∈ cls x y (k + 1) := by
  rw [mem_cls] at hz ⊢
  exact hz.imp id (Or.imp (fun ⟨j, h, e⟩ => ⟨j, by omega, e⟩) fun ⟨j, h, e⟩ => ⟨j, by omega, e⟩)
/-- the state after k rounds -/
structure Inv (x y : List UInt8) (n : Int) (k : Nat) (s : TSt) : Prop where
  seen : Seen n s
  nodup : (keys s.1).Nodup
  cls : ∀ z ∈ keys s.1, z ∈ cls x y k
  last : ∀ z ∈ s.2.1, z ∈ keys s.1
theorem Inv.len {x y : List UInt8} {n : Int} {k : Nat} {s : TSt} (h : Inv x y n k s) : s.1.length ≤ 2 * k + 5 := by
  have := h.nodup.length_le_of_subset fun z hz => h.cls z hz
  have e : (Go.Proofs.Ythofnojmgkjmfaa.cls x y k).length = 2 * k + 5 := by unfold Go.Proofs.Ythofnojmgkjmfaa.cls; simp; omega
  rw [e] at this
  simpa [keys] using this
theorem Inv.round {x y : List UInt8} {n : Int} {k : Nat} {s : TSt} (h : Inv x y n k s) : Inv x y n (k + 1) (tRound (forkS x y) n s) := by
  have hs : Seen n (s.1, [], s.2.2) := ⟨h.seen.all, fun _ l hl => by simp at hl⟩
  rw [tRound_eq]
  refine ⟨(tPuts_seen _ hs).1, nodup_tPuts _ h.nodup, fun z hz => ?_, fun z hz => ?_⟩
  · rcases (keys_tPuts z _ hs).1.1 hz with q | q
    · exact cls_mono (h.cls z q)
    · obtain ⟨l, hl, hq⟩ := List.mem_flatMap.1 q
      exact cls_next (h.cls l (h.last l hl)) hq
  · rcases (keys_tPuts z _ hs).2.1 hz with q | q
    · simp at q
    · exact (keys_tPuts z _ hs).1.2 (.inr q.1)
theorem start_list : ([⟨0, []⟩, ⟨1, []⟩] : List GTip).flatMap (fun x => ([⟨0, []⟩, ⟨1, []⟩] : List GTip).map fun y => tOf x.State y.State x.Out y.Out) = [⟨0, 0, [], []⟩, ⟨0, 1, [], []⟩, ⟨1, 0, [], []⟩, ⟨1, 1, [], []⟩] := rfl
theorem Inv.start (x y : List UInt8) (n : Int) : Inv x y n 0 (tStart n (forkS x y).Starts) ∧ lag1 x y 0 ∈ (tStart n (forkS x y).Starts).2.1 := by
  have hz := Seen.zero n
  have e : tStart n (forkS x y).Starts = ([⟨0, 0, [], []⟩, ⟨0, 1, [], []⟩, ⟨1, 0, [], []⟩, ⟨1, 1, [], []⟩] : List Gtwin_lag).foldl (fun s x => tPut n x s) ([], [], false) := by
    rw [tStart_eq]; exact congrArg (fun l => List.foldl (fun s x => tPut n x s) ([], [], false) l) start_list
  rw [e]
  have e1 : lag1 x y 0 = ⟨0, 1, [], []⟩ := rfl
  have e2 : lag2 x y 0 = ⟨1, 0, [], []⟩ := rfl
  refine ⟨⟨(tPuts_seen _ hz).1, nodup_tPuts _ (by simp [keys]), fun z hz' => ?_, fun z hz' => ?_⟩, ?_⟩
  · rcases (keys_tPuts z _ hz).1.1 hz' with q | q
    · simp [keys] at q
    · rw [mem_cls]
      simp only [List.mem_cons, List.not_mem_nil, or_false] at q
      rcases q with q | q | q | q
      · exact .inl (.inl q)
      · exact .inr (.inl ⟨0, Nat.le_refl _, q⟩)
      · exact .inr (.inr ⟨0, Nat.le_refl _, q⟩)
      · exact .inl (.inr (.inl q))
  · rcases (keys_tPuts z _ hz).2.1 hz' with q | q
    · simp at q
    · exact (keys_tPuts z _ hz).1.2 (.inr q.1)
  · exact (keys_tPuts _ _ hz).2.2 (.inr ⟨by rw [e1]; simp, by simp [keys]⟩)
theorem lag_new {x y : List UInt8} (hne : x ≠ y) {k : Nat} : lag1 x y (k + 1) ∉ cls x y k := by
  rw [mem_cls]
  rintro ((h | h | h) | ⟨j, hj, h⟩ | ⟨j, hj, h⟩)
  · have := congrArg Gtwin_lag.q h; simp [lag1, tOf] at this
  · have := congrArg Gtwin_lag.p h; simp [lag1, tOf] at this
  · have := congrArg Gtwin_lag.p h; simp [lag1, tOf] at this
  · have := lagN_mono hne (i := j) (j := k + 1) (by omega)
    unfold lagN at this
    rw [h] at this; omega
  · have := congrArg Gtwin_lag.p h; simp [lag1, lag2, tOf] at this
/-- told apart -/
theorem loop_ne {x y : List UInt8} (hne : x ≠ y) {n : Int} (hn : 0 ≤ n ∧ n ≤ 500) : ∀ (m k : Nat) {s : TSt}, Inv x y n k s → (s.2.2 = false → lag1 x y k ∈ s.2.1) → 2 * n.toNat + 1 ≤ k + m → tLoop (forkS x y) n s = (false, 0)
  | 0, k, s, h, hl, hm => by
    rw [tLoop_eq h.seen]
    cases hf : s.2.2 with
    | true => rfl
    | false =>
      exfalso
      have h1 := h.seen.near hf _ (hl hf)
      have h2 := lagN_ge hne k
      unfold lagN at h2
      omega
  | m + 1, k, s, h, hl, hm => by
    rw [tLoop_eq h.seen]
    cases hf : s.2.2 with
    | true => rfl
    | false =>
      have h1 := h.seen.near hf _ (hl hf)
      have h2 := lagN_ge hne k
      unfold lagN at h2
      have h3 := h.len
      have h4 : s.2.1.length ≠ 0 := fun e => by rw [List.eq_nil_of_length_eq_zero e] at hl; simp at hl; exact absurd hf (by simp [hl])
      rw [if_neg (by decide), if_neg (by omega), if_neg h4]
      refine loop_ne hne hn m (k + 1) h.round (fun hf2 => ?_) (by omega)
      have hs : Seen n (s.1, [], s.2.2) := ⟨h.seen.all, fun _ l hl => by simp at hl⟩
      rw [tRound_eq]
      refine (keys_tPuts _ _ hs).2.2 (.inr ⟨List.mem_flatMap.2 ⟨_, hl hf, by rw [next_lag1]; simp⟩, fun q => lag_new hne (h.cls _ q)⟩)
theorem lag_same (x : List UInt8) {k : Nat} {z : Gtwin_lag} (h : z ∈ cls x x k) : z.a = [] ∧ z.b = [] := by
  rw [mem_cls] at h
  rcases h with (rfl | rfl | rfl) | ⟨j, _, rfl⟩ | ⟨j, _, rfl⟩
  · exact ⟨rfl, rfl⟩
  · exact ⟨rfl, rfl⟩
  · exact ⟨rfl, rfl⟩
  · unfold lag1; rw [tOf_same]; exact ⟨rfl, rfl⟩
  · unfold lag2; rw [tOf_same]; exact ⟨rfl, rfl⟩
theorem cls_same (x : List UInt8) {k : Nat} {z : Gtwin_lag} (h : z ∈ cls x x k) : z ∈ cls x x 0 := by
  rw [mem_cls] at h ⊢
  rcases h with h | ⟨j, _, rfl⟩ | ⟨j, _, rfl⟩
  · exact .inl h
  · exact .inr (.inl ⟨0, Nat.le_refl _, by unfold lag1; rw [tOf_same, tOf_same]⟩)
  · exact .inr (.inr ⟨0, Nat.le_refl _, by unfold lag2; rw [tOf_same, tOf_same]⟩)
theorem loop_eq (x : List UInt8) {n : Int} (hn : 0 ≤ n) : ∀ (m : Nat) {s : TSt}, tMu s ≤ m → Inv x x n 0 s → s.2.2 = false → tLoop (forkS x x) n s = (true, 0) := by
  intro m
  induction m using Nat.strongRecOn with
  | _ m ih =>
    intro s hm h hf
    rw [tLoop_eq h.seen, hf, if_neg (by decide), if_neg (by have := h.len; omega)]
    split
    · rfl
    · rename_i hl
      have hmu := tMu_round (t := forkS x x) h.seen (by have := h.len; omega) hl
      have hr := h.round
      have hr' : Inv x x n 0 (tRound (forkS x x) n s) := ⟨hr.seen, hr.nodup, fun z hz => cls_same x (hr.cls z hz), hr.last⟩
      refine ih _ (Nat.lt_of_lt_of_le hmu hm) (Nat.le_refl _) hr' ?_
      rw [tRound_eq]
      refine far_tPuts hn _ (fun z hz => ?_) hf
      obtain ⟨l, hl, hq⟩ := List.mem_flatMap.1 hz
      exact lag_same x (cls_next (h.cls l (h.last l hl)) hq)
end Go.Proofs.Ythofnojmgkjmfaa

set_option linter.unusedVariables false
set_option linter.unusedSimpArgs false
namespace Go.Proofs.Ythofnojmgkjmfaa
theorem setBytes_take {l : List GArc} {k : Nat} (hk : k < l.length) : setBytes (l.take (k + 1)) = setBytes (l.take k) + (l.getD k default).Set.bytes.length := by
  unfold setBytes; rw [takek default hk, List.map_append, List.sum_append]; simp
theorem setBytes_le {l : List GArc} (k : Nat) : setBytes (l.take k) ≤ setBytes l := by
  conv => rhs; rw [← List.take_append_drop k l]
  unfold setBytes; rw [List.map_append, List.sum_append]; omega
theorem rFew19_wp {t : GFst} (hp : fSane t) : wp_rFew19 t (fun r0 => r0 = f19Few t) := by
  have hl := hp.1.2.2
  refine ⟨fun n i => ∃ k : Nat, i = k ∧ k ≤ t.Arcs.length ∧ n = (setBytes (t.Arcs.take k) : Nat) ∧ (k = 0 ∨ setBytes (t.Arcs.take (k - 1)) ≤ 40) , fun _ i => t.Arcs.length - i.toNat, ⟨0, rfl, Nat.zero_le _, by simp [setBytes], .inl rfl⟩, ?_⟩
  rintro _ _ ⟨k, rfl, hk, rfl, hb⟩
  split <;> rename_i h <;> simp only [Bool.and_eq_true, decide_eq_true_eq] at h
  · have hk' : k < t.Arcs.length := by omega
    have h1 := (t.Arcs.getD k default).Set.bytes_len; have h2 := (t.Arcs.getD k default).Set.mem_len
    have h3 := setBytes_take hk'
    simp only [Int.toNat_natCast]
    refine ⟨by omega, ⟨by omega, by omega⟩, ⟨by omega, by omega⟩, ⟨k + 1, by omega, by omega, by omega, .inr (by rw [Nat.add_sub_cancel]; omega)⟩, by omega⟩
  · refine ⟨hp, ?_⟩
    have e : decide (((setBytes (t.Arcs.take k) : Nat) : Int) ≤ 40) = decide (setBytes t.Arcs ≤ 40) := by
      refine decide_eq_decide.2 ⟨fun q => ?_, fun q => ?_⟩
      · have : k = t.Arcs.length := by
          rcases Nat.lt_or_ge k t.Arcs.length with r | r
          · exact absurd ⟨by omega, q⟩ h
          · omega
        rw [this, List.take_length] at q; omega
      · have := setBytes_le (l := t.Arcs) k; omega
    show _ = f19Few t
    unfold f19Few
    rw [e]
    congr 3
    exact decide_eq_decide.2 (by omega)
theorem lFork_wp {x : List UInt8} {y : List UInt8} : wp_lFork x y (fun r0 => r0 = (tFork x y)) := by
  unfold wp_lFork tFork
  first | rfl | exact ⟨by decide, rfl⟩
theorem lSmall_wp {t : GFst} (hp : fSane t) : wp_lSmall t (fun r0 => r0 = tSmall t) := by
  refine ⟨hp, ?_⟩
  have e8 : decide (8 < (t.Arcs.length : Int)) = decide (8 < t.Arcs.length) := decide_eq_decide.2 (by omega)
  unfold tSmall
  rw [e8]
  split <;> rename_i h
  · cases hf : f19Few t <;> cases h4 : (decide (4 < t.States) && decide (t.States ≤ 1024)) <;> cases h8 : decide (8 < t.Arcs.length) <;> simp_all
  · have hq : f19Few t = true ∧ (decide (4 < t.States) && decide (t.States ≤ 1024)) = false ∧ decide (8 < t.Arcs.length) = false := by
      cases hf : f19Few t <;> cases h4 : (decide (4 < t.States) && decide (t.States ≤ 1024)) <;> cases h8 : decide (8 < t.Arcs.length) <;> simp_all
    rw [hq.1, hq.2.1, hq.2.2]
    refine cnt0 (fun k => (t.Arcs.drop k).all (fun x => decide (x.Set.size ≤ 3)) = t.Arcs.all fun x => decide (x.Set.size ≤ 3)) rfl (fun k hI hk => ?_) (fun hI => ?_)
    · dsimp only at hI ⊢
      rw [dropk default hk, List.all_cons] at hI
      split <;> rename_i h3 <;> simp only [decide_eq_true_eq] at h3
      · rw [← hI, decide_eq_false (by omega)]; rfl
      · rw [decide_eq_true (by omega), Bool.true_and] at hI; exact hI
    · rw [List.drop_length] at hI; rw [← hI]; rfl
theorem fork_right {x y : List UInt8} (hx : x.length ≤ 1024) (hy : y.length ≤ 1024) : fRight (tFork x y) = true := by
  have h1 : BSet.ofL [97] ≠ BSet.zero := by decide
  have h2 : BSet.ofL [98] ≠ BSet.zero := by decide
  have h3 : BSet.ofL [99] ≠ BSet.zero := by decide
  simp [fRight, fTipBad, fIn, fArcOk, tFork, hx, hy, h1, h2, h3]
theorem fork_use (x y : List UInt8) : useL (tFork x y) = (List.range (tFork x y).States.toNat).map fun (k : Nat) => (k : Int) := rfl
theorem fork_srt (x y : List UInt8) : fSrt (tFork x y) = forkS x y := by
  unfold fSrt
  have e1 : ordL cmpTip (tFork x y).Starts = (forkS x y).Starts := ordL_of_rises linTip.tot (List.pairwise_cons.2 ⟨fun z hz => by rw [List.mem_singleton] at hz; subst hz; decide, List.pairwise_singleton _ _⟩)
  have e2 : ordL cmpTip (tFork x y).Ends = (forkS x y).Ends := ordL_of_rises linTip.tot (List.pairwise_singleton _ _)
  have e3 : ordL cmpArc (tFork x y).Arcs = (forkS x y).Arcs := by
    rw [ordL_congr linArc.tot (b := (forkS x y).Arcs) fun z => ?_, ordL_of_rises linArc.tot]
    · refine List.pairwise_cons.2 ⟨fun z hz => ?_, List.pairwise_cons.2 ⟨fun z hz => ?_, List.pairwise_cons.2 ⟨fun z hz => ?_, List.pairwise_singleton _ _⟩⟩⟩
      · simp only [List.mem_cons, List.not_mem_nil, or_false] at hz
        rcases hz with rfl | rfl | rfl <;> exact show (-1 : Int) < 0 by decide
      · simp only [List.mem_cons, List.not_mem_nil, or_false] at hz
        rcases hz with rfl | rfl <;> exact show (-1 : Int) < 0 by decide
      · simp only [List.mem_cons, List.not_mem_nil, or_false] at hz
        subst hz; exact show (-1 : Int) < 0 by decide
    · simp only [tFork, forkS, List.mem_cons, List.not_mem_nil, or_false]
      constructor
      · rintro (h | h | h | h)
        · exact .inl h
        · exact .inr (.inr (.inl h))
        · exact .inr (.inl h)
        · exact .inr (.inr (.inr h))
      · rintro (h | h | h | h)
        · exact .inl h
        · exact .inr (.inr (.inl h))
        · exact .inr (.inl h)
        · exact .inr (.inr (.inr h))
  rw [e1, e2, e3]; rfl
theorem fork_trim {x y : List UInt8} (hx : x.length ≤ 1024) (hy : y.length ≤ 1024) : pTrim (tFork x y) = (forkS x y, 0) := by
  have hR := fork_right hx hy
  unfold pTrim
  rw [if_pos hR, cut_full hR (fork_use x y)]
  unfold fSort
  rw [if_pos hR, fork_srt]
theorem fork_bound (x y : List UInt8) : tBound (forkS x y) = 9 * ((max x.length y.length : Nat) : Int) := by
  have : tMost (forkS x y).Arcs = max x.length y.length := by
    simp only [tMost, forkS, List.foldl_cons, List.foldl_nil, fOutB_f, List.length_nil]; omega
  unfold tBound
  rw [this]
  show (3 : Int) * 3 * _ + ((tFirst [⟨0, []⟩, ⟨1, []⟩] : Nat) : Int) = _
  rw [show tFirst [⟨0, []⟩, ⟨1, []⟩] = 0 from rfl]
  omega
theorem fork_tTrim {x y : List UInt8} (hx : x.length ≤ 1024) (hy : y.length ≤ 1024) : tTrim (tFork x y) = (forkS x y, 9 * ((max x.length y.length : Nat) : Int), 0) := by
  unfold tTrim
  rw [fork_trim hx hy, ← fork_bound]
  rfl
theorem fork_twin {x y : List UInt8} (hx : x.length ≤ 6) (hy : y.length ≤ 6) : tTwin (tFork x y) = (decide (x = y), 0) := by
  unfold tTwin
  rw [fork_tTrim (by omega) (by omega)]
  rw [if_neg (by simp)]
  dsimp only
  generalize hn : 9 * ((max x.length y.length : Nat) : Int) = n
  have hb : 0 ≤ n ∧ n ≤ 500 := by omega
  obtain ⟨h1, h2⟩ := Inv.start x y n
  by_cases h : x = y
  · subst h
    rw [decide_eq_true rfl]
    refine loop_eq x hb.1 _ (Nat.le_refl _) h1 ?_
    rw [tStart_eq]
    refine far_tPuts hb.1 _ (fun z hz => ?_) rfl
    obtain ⟨a, ha, hz⟩ := List.mem_flatMap.1 hz
    obtain ⟨b, hb', rfl⟩ := List.mem_map.1 hz
    simp only [forkS, List.mem_cons, List.not_mem_nil, or_false] at ha hb'
    rcases ha with rfl | rfl <;> rcases hb' with rfl | rfl <;> exact ⟨rfl, rfl⟩
  · rw [decide_eq_false h]
    exact loop_ne h hb (2 * n.toNat + 1) 0 h1 (fun _ => h2) (by omega)
theorem lAwake20_wp : wp_lAwake20 (fun r0 => r0 = true) := by
  refine ⟨by decide, by decide, ?_⟩
  have h1 := fork_twin (x := [120]) (y := [121]) (by decide) (by decide)
  have h2 := fork_twin (x := [120]) (y := [120]) (by decide) (by decide)
  have h3 : tBnd (tFork [120] [121, 121]) = (18, 0) := by unfold tBnd; rw [fork_tTrim (by decide) (by decide)]; rfl
  rw [h1, h2, h3]; rfl
theorem lTwinFork_wp {x : List UInt8} {y : List UInt8} : wp_lTwinFork x y (fun r0 => r0 = true) := by
  unfold wp_lTwinFork
  split <;> rename_i h
  · rfl
  · simp only [Bool.or_eq_true, decide_eq_true_eq, not_or] at h
    have h1 := fork_twin (x := x) (y := y) (by omega) (by omega)
    refine ⟨show 4 ≤ 64 by decide, ?_⟩
    rw [h1]; simp
theorem few_arcs {t : GFst} (h : tSmall t = true) : t.Arcs.length ≤ 64 := by
  simp only [tSmall, f19Few, Bool.and_eq_true, decide_eq_true_eq] at h
  omega
theorem lTwinTrim_wp {t : GFst} (hp : fSane t) : wp_lTwinTrim t (fun r0 => r0 = true) := by
  refine ⟨hp, ?_⟩
  split <;> rename_i h
  · rfl
  · have hs : tSmall t = true := by simpa using h
    have ha := few_arcs hs
    split <;> rename_i h2
    · rfl
    · have he : (pTrim t).2 = 0 := by simpa using h2
      have hi := pTrim_idem he
      have e1 : tTrim (pTrim t).1 = tTrim t := by
        unfold tTrim
        rw [hi]
        simp only [he]
      have e2 : tBnd (pTrim t).1 = tBnd t := by unfold tBnd; rw [e1]
      have e3 : tTwin (pTrim t).1 = tTwin t := by unfold tTwin; rw [e1]
      have e4 : (pTrim t).1.Arcs.length ≤ 64 := by
        obtain ⟨hr, hc, hq⟩ := pTrim_right he
        rw [hq]
        exact Nat.le_trans (fSrt_facts hc).2.2.1 (Nat.le_trans fSrt_arcs ha)
      rw [e2, e3]
      split
      · simp
      · exact ⟨ha, e4, by simp⟩
end Go.Proofs.Ythofnojmgkjmfaa
