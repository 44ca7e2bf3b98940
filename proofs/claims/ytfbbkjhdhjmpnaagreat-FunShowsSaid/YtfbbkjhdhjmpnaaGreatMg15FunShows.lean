/- Several texts in one. No condition. -/
import Derived.Test.YtfbbkjhdhjmpnaaGreatMg14FunShows
set_option linter.unusedVariables false
set_option linter.unusedSimpArgs false
namespace Go.Proofs.YtfbbkjhdhjmpnaaGreat
theorem setBytes_take {l : List GArc} {k : Nat} (hk : k < l.length) : setBytes (l.take (k + 1)) = setBytes (l.take k) + (l.getD k default).Set.bytes.length := by
  unfold setBytes; rw [takek default hk, List.map_append, List.sum_append]; simp
theorem setBytes_le {l : List GArc} (k : Nat) : setBytes (l.take k) ≤ setBytes l := by
  conv => rhs; rw [← List.take_append_drop k l]
  unfold setBytes; rw [List.map_append, List.sum_append]; omega
theorem rFew19_wp {t : GFst} (hp : fSane t) : wp_rFew19 t (fun r0 => r0 = f19Few t) := by
  have hl := hp.1.2.2
  refine ⟨fun n i => ∃ k : Nat, i = k ∧ k ≤ t.Arcs.length ∧ n = (setBytes (t.Arcs.take k) : Nat) ∧ (k = 0 ∨ setBytes (t.Arcs.take (k - 1)) ≤ 40) , fun _ i => t.Arcs.length - i.toNat, ⟨0, rfl, Nat.zero_le _, by simp [setBytes], .inl rfl⟩, ?_⟩
  rintro _ _ ⟨k, rfl, hk, rfl, hb⟩
  split <;> rename_i h <;> simp only [Bool.and_eq_true, decide_eq_true_eq] at h
  · have hk' : k < t.Arcs.length := by omega
    have h1 := (t.Arcs.getD k default).Set.bytes_len; have h2 := (t.Arcs.getD k default).Set.mem_len
    have h3 := setBytes_take hk'
    simp only [Int.toNat_natCast]
    refine ⟨by omega, ⟨by omega, by omega⟩, ⟨by omega, by omega⟩, ⟨k + 1, by omega, by omega, by omega, .inr (by rw [Nat.add_sub_cancel]; omega)⟩, by omega⟩
  · refine ⟨hp, ?_⟩
    have e : decide (((setBytes (t.Arcs.take k) : Nat) : Int) ≤ 40) = decide (setBytes t.Arcs ≤ 40) := by
      refine decide_eq_decide.2 ⟨fun q => ?_, fun q => ?_⟩
      · have : k = t.Arcs.length := by
          rcases Nat.lt_or_ge k t.Arcs.length with r | r
          · exact absurd ⟨by omega, q⟩ h
          · omega
        rw [this, List.take_length] at q; omega
      · have := setBytes_le (l := t.Arcs) k; omega
    show _ = f19Few t
    unfold f19Few
    rw [e]
    congr 3
    exact decide_eq_decide.2 (by omega)
end Go.Proofs.YtfbbkjhdhjmpnaaGreat

set_option linter.unusedVariables false
set_option linter.unusedSimpArgs false
namespace Go.Proofs.YtfbbkjhdhjmpnaaGreat
/-- to be come to, from some, by steps -/
inductive Rch (S : Int → Prop) (R : Int → Int → Prop) : Int → Prop
  | base {s : Int} : S s → Rch S R s
  | step {s t : Int} : Rch S R s → R s t → Rch S R t
def on' (o : List Bool) (s : Int) : Prop := o.getD s.toNat false = true
theorem on_set {o : List Bool} {s : Int} {u : Int} (hu : 0 ≤ u) (hs : 0 ≤ s ∧ s < o.length) : on' (o.set s.toNat true) u ↔ on' o u ∨ u = s := by
  unfold on'
  rw [List.getD_eq_getElem?_getD, List.getD_eq_getElem?_getD, List.getElem?_set]
  by_cases h : s.toNat = u.toNat
  · rw [if_pos h, if_pos (by omega)]
    simp only [Option.getD_some, true_iff]
    exact .inr (by omega)
  · rw [if_neg h]
    exact ⟨.inl, fun q => q.resolve_right fun e => h (by rw [e])⟩
section
variable {steps : List (List Int)}
/-- what a visit does -/
structure Vis (steps : List (List Int)) (S : Int → Prop) (o o2 : List Bool) : Prop where
  len : o2.length = o.length
  mono : ∀ u, 0 ≤ u → on' o u → on' o2 u
  shut : ∀ u, 0 ≤ u → on' o2 u → ¬ on' o u → (∀ t ∈ steps.getD u.toNat default, on' o2 t) ∧ u < o.length
  only : (∀ u, 0 ≤ u → on' o u → S u) → ∀ u, 0 ≤ u → on' o2 u → S u
theorem Vis.refl (S : Int → Prop) (o : List Bool) : Vis steps S o o := ⟨rfl, fun _ _ h => h, fun _ _ h k => absurd h k, fun h => h⟩
theorem Vis.trans {S : Int → Prop} {a b c : List Bool} (hS : ∀ l ∈ steps, ∀ t ∈ l, 0 ≤ t) (hn : a.length = steps.length) (h : Vis steps S a b) (k : Vis steps S b c) : Vis steps S a c :=
  ⟨k.len.trans h.len, fun u hu q => k.mono u hu (h.mono u hu q), fun u hu q r => by
    by_cases hb : on' b u
    · obtain ⟨h1, h2⟩ := h.shut u hu hb r
      refine ⟨fun t ht => k.mono t (hS _ (getk_mem (l := steps) (k := u.toNat) (d := default) (by omega)) t ht) (h1 t ht), h2⟩
    · obtain ⟨h1, h2⟩ := k.shut u hu q hb
      exact ⟨h1, h.len ▸ h2⟩, fun q => k.only (h.only q)⟩
theorem vis_visit {S : Int → Prop} (hR : ∀ s t, 0 ≤ s → S s → t ∈ steps.getD s.toNat default → S t) : ∀ (m : Nat) (s : Int) (o : List Bool), StepsOk steps o.length → 0 ≤ s → s < o.length → S s → o.count false < m → Vis steps S o (visit steps s o) ∧ on' (visit steps s o) s
  | 0, _, _, _, _, _, _, h => absurd h (Nat.not_lt_zero _)
  | m + 1, s, o, hS, h0, h1, hs, hm => by
    have hpos : ∀ l ∈ steps, ∀ t ∈ l, 0 ≤ t := fun l hl t ht => ((hS.2 l hl).2 t ht).1
    cases hf : o.getD s.toNat default with
    | true => rw [visit_on hf]; exact ⟨.refl S o, hf⟩
    | false =>
      rw [visit_off hS h0 h1 hf]
      have hc := cf_set o s.toNat (by omega) hf
      have hl1 : (o.set s.toNat true).length = o.length := by simp
      -- the rows behind it
      have key : ∀ (l : List Int) (b : List Bool), (∀ t ∈ l, t ∈ steps.getD s.toNat default) → b.length = o.length → b.count false < m →
          Vis steps S b (l.foldl (fun o t => visit steps t o) b) ∧ ∀ t ∈ l, on' (l.foldl (fun o t => visit steps t o) b) t := by
        intro l
        induction l with
        | nil => intro b _ _ _; exact ⟨.refl S b, fun t ht => by simp at ht⟩
        | cons t l ih =>
          intro b hl hb hcb
          have ht := hl t (by simp)
          have hr := (hS.2 _ (row_of hS h0 h1)).2 t ht
          obtain ⟨v1, v2⟩ := vis_visit hR m t b (hb ▸ hS) hr.1 (by rw [hb]; exact hr.2) (hR s t h0 hs ht) hcb
          obtain ⟨w1, w2⟩ := ih (visit steps t b) (fun q hq => hl q (List.mem_cons_of_mem _ hq)) ((visit_len t b).trans hb) (Nat.lt_of_le_of_lt (visit_cf t b) hcb)
          refine ⟨v1.trans hpos (by rw [hb, hS.1]) w1, fun q hq => ?_⟩
          rcases List.mem_cons.1 hq with rfl | hq
          · exact w1.mono _ hr.1 v2
          · exact w2 q hq
      obtain ⟨v1, v2⟩ := key _ (o.set s.toNat true) (fun t ht => ht) hl1 (by omega)
      refine ⟨⟨v1.len.trans hl1, fun u hu q => v1.mono u hu ((on_set hu ⟨h0, h1⟩).2 (.inl q)), fun u hu q r => ?_, fun q => v1.only fun u hu k => ?_⟩, v1.mono s h0 ((on_set h0 ⟨h0, h1⟩).2 (.inr rfl))⟩
      · by_cases hus : u = s
        · subst hus; exact ⟨v2, h1⟩
        · obtain ⟨k1, k2⟩ := v1.shut u hu q fun k => ((on_set hu ⟨h0, h1⟩).1 k).elim r hus
          exact ⟨k1, hl1 ▸ k2⟩
      · rcases (on_set hu ⟨h0, h1⟩).1 k with k | k
        · exact q u hu k
        · rw [k]; exact hs
theorem reachL_spec {n : Int} {l : List GTip} (hS : StepsOk steps n.toNat) (hl : ∀ x ∈ l, 0 ≤ x.State ∧ x.State < n) {s : Int} (hs : 0 ≤ s) :
    on' (reachL n l steps) s ↔ Rch (fun s => ∃ x ∈ l, x.State = s) (fun s t => 0 ≤ s ∧ t ∈ steps.getD s.toNat default) s := by
  have hpos : ∀ l ∈ steps, ∀ t ∈ l, 0 ≤ t := fun l hl t ht => ((hS.2 l hl).2 t ht).1
  have key : ∀ (k : List GTip) (b : List Bool), (∀ x ∈ k, x ∈ l) → b.length = n.toNat →
      Vis steps (Rch (fun s => ∃ x ∈ l, x.State = s) (fun s t => 0 ≤ s ∧ t ∈ steps.getD s.toNat default)) b (k.foldl (fun o x => visit steps x.State o) b) ∧ ∀ x ∈ k, on' (k.foldl (fun o x => visit steps x.State o) b) x.State := by
    intro k
    induction k with
    | nil => intro b _ _; exact ⟨.refl _ b, fun x hx => by simp at hx⟩
    | cons x k ih =>
      intro b hk hb
      have hx := hl x (hk x (by simp))
      obtain ⟨v1, v2⟩ := vis_visit (steps := steps) (S := Rch (fun s => ∃ x ∈ l, x.State = s) (fun s t => 0 ≤ s ∧ t ∈ steps.getD s.toNat default)) (fun s t h0 hs ht => .step hs ⟨h0, ht⟩) (b.count false + 1) x.State b (hb ▸ hS) hx.1 (by omega) (.base ⟨x, hk x (by simp), rfl⟩) (Nat.lt_succ_self _)
      obtain ⟨w1, w2⟩ := ih (visit steps x.State b) (fun q hq => hk q (List.mem_cons_of_mem _ hq)) ((visit_len _ b).trans hb)
      refine ⟨v1.trans hpos (by rw [hb, hS.1]) w1, fun q hq => ?_⟩
      rcases List.mem_cons.1 hq with rfl | hq
      · exact w1.mono _ hx.1 v2
      · exact w2 q hq
  obtain ⟨v1, v2⟩ := key l (List.replicate n.toNat false) (fun x h => h) (by simp)
  have hoff : ∀ u, ¬ on' (List.replicate n.toNat false) u := fun u h => by
    unfold on' at h
    rw [List.getD_eq_getElem?_getD, List.getElem?_replicate] at h
    split at h <;> simp at h
  refine ⟨fun h => v1.only (fun u _ q => absurd q (hoff u)) s hs h, fun h => ?_⟩
  induction h with
  | base h => obtain ⟨x, hx, rfl⟩ := h; exact v2 x hx
  | step h1 h2 ih => exact (v1.shut _ h2.1 (ih h2.1) (hoff _)).1 _ h2.2
end
theorem rows_mem {n : Nat} (f g : GArc → Int) : ∀ (l : List GArc) (o : List (List Int)), o.length = n → (∀ x ∈ l, 0 ≤ f x ∧ f x < n) → ∀ s : Int, 0 ≤ s → ∀ t,
    (t ∈ (l.foldl (fun o x => o.set (f x).toNat (o.getD (f x).toNat default ++ [g x])) o).getD s.toNat default ↔ t ∈ o.getD s.toNat default ∨ ∃ x ∈ l, f x = s ∧ g x = t)
  | [], o, _, _, s, hs, t => by simp
  | x :: l, o, ho, hx, s, hs, t => by
    have h1 := hx x (by simp)
    rw [List.foldl_cons, rows_mem f g l _ (by simpa using ho) (fun y hy => hx y (List.mem_cons_of_mem _ hy)) s hs t]
    have e : ∀ t, t ∈ (o.set (f x).toNat (o.getD (f x).toNat default ++ [g x])).getD s.toNat default ↔ t ∈ o.getD s.toNat default ∨ (f x = s ∧ g x = t) := fun t => by
      rw [List.getD_eq_getElem?_getD, List.getElem?_set]
      by_cases h : (f x).toNat = s.toNat
      · rw [if_pos h, if_pos (by omega), h]
        have : f x = s := by omega
        simp [this, eq_comm]
      · rw [if_neg h, ← List.getD_eq_getElem?_getD]
        have : f x ≠ s := fun e => h (by rw [e])
        simp [this]
    rw [e]
    constructor
    · rintro ((h | h) | ⟨y, hy, h⟩)
      · exact .inl h
      · exact .inr ⟨x, by simp, h⟩
      · exact .inr ⟨y, List.mem_cons_of_mem _ hy, h⟩
    · rintro (h | ⟨y, hy, h⟩)
      · exact .inl (.inl h)
      · rcases List.mem_cons.1 hy with rfl | hy
        · exact .inl (.inr h)
        · exact .inr ⟨y, hy, h⟩
theorem empty_row {n : Nat} {s : Int} {t : Int} : ¬ t ∈ (List.replicate n ([] : List Int)).getD s.toNat default := by
  rw [List.getD_eq_getElem?_getD, List.getElem?_replicate]
  split <;> simp <;> exact List.not_mem_nil
/-- arcs, on and back -/
def Arc (t : GFst) (s u : Int) : Prop := ∃ x ∈ t.Arcs, x.From = s ∧ x.To = u
/-- come to from Starts -/
def Fwd (t : GFst) : Int → Prop := Rch (fun s => ∃ x ∈ t.Starts, x.State = s) (Arc t)
/-- from which Ends are come to -/
def Bwd (t : GFst) : Int → Prop := Rch (fun s => ∃ x ∈ t.Ends, x.State = s) (fun s u => Arc t u s)
theorem Rch.mono {S S' : Int → Prop} {R R' : Int → Int → Prop} (h1 : ∀ s, S s → S' s) (h2 : ∀ s t, R s t → R' s t) {s : Int} (h : Rch S R s) : Rch S' R' s := by
  induction h with
  | base h => exact .base (h1 _ h)
  | step _ h ih => exact .step ih (h2 _ _ h)
theorem onL_mem {t : GFst} (h : fRight t = true) {s : Int} (hs : 0 ≤ s) {u : Int} : u ∈ (onL t.States t.Arcs).getD s.toNat default ↔ Arc t s u := by
  have ha := fArcs_in h
  unfold onL
  rw [rows_mem (n := t.States.toNat) (·.From) (·.To) t.Arcs _ (by simp) (fun x hx => by have := (ha x hx).1; omega) s hs u]
  exact ⟨fun q => q.elim (fun q => absurd q empty_row) id, .inr⟩
theorem backL_mem {t : GFst} (h : fRight t = true) {s : Int} (hs : 0 ≤ s) {u : Int} : u ∈ (backL t.States t.Arcs).getD s.toNat default ↔ Arc t u s := by
  have ha := fArcs_in h
  unfold backL
  rw [rows_mem (n := t.States.toNat) (·.To) (·.From) t.Arcs _ (by simp) (fun x hx => by have := (ha x hx).2.1; omega) s hs u]
  refine ⟨fun q => q.elim (fun q => absurd q empty_row) ?_, ?_⟩
  · rintro ⟨x, hx, e1, e2⟩; exact ⟨x, hx, e2, e1⟩
  · rintro ⟨x, hx, e1, e2⟩; exact .inr ⟨x, hx, e2, e1⟩
theorem arc_in {t : GFst} (h : fRight t = true) {s u : Int} (k : Arc t s u) : (0 ≤ s ∧ s < t.States) ∧ 0 ≤ u ∧ u < t.States := by
  obtain ⟨x, hx, rfl, rfl⟩ := k
  exact ⟨(fArcs_in h x hx).1, (fArcs_in h x hx).2.1⟩
theorem fwd_in {t : GFst} (h : fRight t = true) {s : Int} (k : Fwd t s) : 0 ≤ s ∧ s < t.States := by
  cases k with
  | base k => obtain ⟨x, hx, rfl⟩ := k; exact (fTips_in h).1 x hx
  | step _ k => exact (arc_in h k).2
theorem fwd_iff {t : GFst} (h : fRight t = true) {s : Int} (hs : 0 ≤ s) : on' (reachL t.States t.Starts (onL t.States t.Arcs)) s ↔ Fwd t s := by
  rw [reachL_spec (steps_ok h).1 (fTips_in h).1 hs]
  exact ⟨Rch.mono (fun _ q => q) fun a b q => (onL_mem h q.1).1 q.2, Rch.mono (fun _ q => q) fun a b q => ⟨(arc_in h q).1.1, (onL_mem h (arc_in h q).1.1).2 q⟩⟩
theorem bwd_iff {t : GFst} (h : fRight t = true) {s : Int} (hs : 0 ≤ s) : on' (reachL t.States t.Ends (backL t.States t.Arcs)) s ↔ Bwd t s := by
  rw [reachL_spec (steps_ok h).2 (fTips_in h).2 hs]
  exact ⟨Rch.mono (fun _ q => q) fun a b q => (backL_mem h q.1).1 q.2, Rch.mono (fun _ q => q) fun a b q => ⟨(arc_in h q).2.1, (backL_mem h (arc_in h q).2.1).2 q⟩⟩
/-- of use -/
theorem mem_useL {t : GFst} (h : fRight t = true) {s : Int} : s ∈ useL t ↔ Fwd t s ∧ Bwd t s := by
  unfold useL usefulL
  simp only [List.mem_map, List.mem_filter, List.mem_range, Bool.and_eq_true]
  constructor
  · rintro ⟨k, ⟨h1, h2, h3⟩, rfl⟩
    exact ⟨(fwd_iff h (Int.natCast_nonneg k)).1 h2, (bwd_iff h (Int.natCast_nonneg k)).1 h3⟩
  · rintro ⟨h1, h2⟩
    have hs := fwd_in h h1
    refine ⟨s.toNat, ⟨by omega, ?_, ?_⟩, by omega⟩
    · exact (fwd_iff h hs.1).2 h1
    · exact (bwd_iff h hs.1).2 h2
end Go.Proofs.YtfbbkjhdhjmpnaaGreat

set_option linter.unusedVariables false
set_option linter.unusedSimpArgs false
namespace Go.Proofs.YtfbbkjhdhjmpnaaGreat
theorem aget_memb {K V : Type} [DecidableEq K] {m : List (K × V)} {k : K} {v : V} (h : aget m k = some v) : (k, v) ∈ m := by
  induction m with
  | nil => simp [aget] at h
  | cons p m ih =>
    rw [aget] at h
    split at h
    · rename_i e; cases h; rw [e]; simp
    · exact List.mem_cons_of_mem _ (ih h)
theorem num_some {l : List Int} {s v : Int} (h : aget (numL l) s = some v) : ∃ i, ∃ hi : i < l.length, v = (i : Int) ∧ l[i] = s := by
  have h1 := aget_memb h
  unfold numL at h1
  obtain ⟨p, hp, he⟩ := List.mem_map.1 h1
  obtain ⟨i, hi, rfl⟩ := List.getElem_of_mem hp
  rw [List.getElem_zip] at he
  simp only [Prod.mk.injEq, List.getElem_range] at he
  exact ⟨i, by simpa using hi, he.2.symm, he.1⟩
theorem num_get {l : List Int} (hn : l.Nodup) {i : Nat} (hi : i < l.length) : aget (numL l) l[i] = some (i : Int) := by
  cases h : aget (numL l) l[i] with
  | none =>
    have : l[i] ∈ keys (numL l) := by rw [numL_keys]; exact List.getElem_mem hi
    exact absurd h (by
      intro h
      have key : ∀ (m : List (Int × Int)), l[i] ∈ keys m → aget m l[i] ≠ none := by
        intro m
        induction m with
        | nil => intro q; simp [keys] at q
        | cons p m ih =>
          intro q
          rw [aget]
          split
          · simp
          · rename_i e
            simp only [keys, List.map_cons, List.mem_cons] at q
            exact ih (q.resolve_left e)
      exact key _ this h)
  | some v =>
    obtain ⟨j, hj, rfl, he⟩ := num_some h
    have : j = i := by
      have hp := List.pairwise_iff_getElem.1 hn
      rcases Nat.lt_trichotomy j i with q | q | q
      · exact absurd he (hp j i hj hi q)
      · exact q
      · exact absurd he.symm (hp i j hi hj q)
    rw [this]
theorem num_isSome {l : List Int} (hn : l.Nodup) {s : Int} : (aget (numL l) s).isSome = true ↔ s ∈ l := by
  constructor
  · intro h
    obtain ⟨v, hv⟩ := Option.isSome_iff_exists.1 h
    obtain ⟨i, hi, _, rfl⟩ := num_some hv
    exact List.getElem_mem hi
  · intro h
    obtain ⟨i, hi, rfl⟩ := List.getElem_of_mem h
    rw [num_get hn hi]; rfl
theorem useL_nodup (t : GFst) : (useL t).Nodup := usefulL_nodup _ _ _
theorem num_of {t : GFst} {s : Int} (h : s ∈ useL t) : ∃ v, aget (numL (useL t)) s = some v := Option.isSome_iff_exists.1 ((num_isSome (useL_nodup t)).2 h)
theorem num_full {n : Nat} {s : Int} (h0 : 0 ≤ s) (h1 : s < n) : aget (numL ((List.range n).map fun (k : Nat) => (k : Int))) s = some s := by
  have hn : ((List.range n).map fun (k : Nat) => (k : Int)).Nodup := List.Pairwise.map _ (fun x y h e => h (by exact_mod_cast e)) List.nodup_range
  have := num_get hn (i := s.toNat) (by simp; omega)
  rw [List.getElem_map, List.getElem_range] at this
  rw [show ((s.toNat : Nat) : Int) = s by omega] at this
  exact this
theorem cut_full {t : GFst} (hR : fRight t = true) (h : useL t = (List.range t.States.toNat).map fun (k : Nat) => (k : Int)) : pCut t = t := by
  have h0 := fStates_in hR; have h1 := fTips_in hR; have h2 := fArcs_in hR
  have tips : ∀ l : List GTip, (∀ x ∈ l, 0 ≤ x.State ∧ x.State < t.States) → tipsL (numL (useL t)) l = l := fun l hl => by
    rw [h]; unfold tipsL
    rw [List.filter_eq_self.2 fun x hx => by rw [num_full (hl x hx).1 (by have := (hl x hx).2; omega)]; rfl]
    conv => rhs; rw [← List.map_id l]
    refine List.map_congr_left fun x hx => ?_
    rw [num_full (hl x hx).1 (by have := (hl x hx).2; omega)]; rfl
  have arcs : arcsL (numL (useL t)) t.Arcs = t.Arcs := by
    rw [h]; unfold arcsL
    rw [List.filter_eq_self.2 fun x hx => by
      have := h2 x hx
      rw [num_full this.1.1 (by omega), num_full this.2.1.1 (by omega)]; rfl]
    conv => rhs; rw [← List.map_id t.Arcs]
    refine List.map_congr_left fun x hx => ?_
    have := h2 x hx
    rw [num_full this.1.1 (by omega), num_full this.2.1.1 (by omega)]; rfl
  unfold pCut
  rw [tips _ h1.1, tips _ h1.2, arcs, h]
  obtain ⟨a, b, c, d⟩ := t
  simp only [List.length_map, List.length_range, GFst.mk.injEq, and_true]
  have := h0.1
  dsimp only at this
  omega
end Go.Proofs.YtfbbkjhdhjmpnaaGreat

set_option linter.unusedVariables false
set_option linter.unusedSimpArgs false
namespace Go.Proofs.YtfbbkjhdhjmpnaaGreat
/-- the document's example, with these arcs -/
def aw19 (l : List GArc) : GFst := ⟨2, [⟨0, []⟩], [⟨1, []⟩], l⟩
def awA (s : List UInt8) : GArc := ⟨0, 1, BSet.ofL [97], s, false⟩
end Go.Proofs.YtfbbkjhdhjmpnaaGreat

set_option linter.unusedVariables false
set_option linter.unusedSimpArgs false
set_option maxRecDepth 20000
namespace Go.Proofs.YtfbbkjhdhjmpnaaGreat
def wp_lFunShows (t : GFst) (w : List UInt8) (Q : Bool → Prop) : Prop :=
  (fSane t) ∧
  if ((!f19Few t) || decide (4 < (w.length : Int))) then
    Q true
  else
    (t.Arcs.length ≤ 1024) ∧
    if (!decide ((nTwo t).2.2 = 0)) then
      Q (decide ((nTwo t).1 = []) && (!(nTwo t).2.1))
    else
      if ((!decide ((pTrim t).2 = 0)) || (!decide ((fOuts t w).2 = 0))) then
        Q (decide ((fOuts t w).2 = 2))
      else
        if (!(nTwo t).2.1) then
          Q (decide ((nTwo t).1 = []) && decide ((((fOuts t w).1).length : Int) ≤ 1))
        else
          (i64 (3 * ((pTrim t).1).States)) ∧
          (i64 ((3 * ((pTrim t).1).States) * ((pTrim t).1).States)) ∧
          Q (decide ((((nTwo t).1).length : Int) ≤ ((3 * ((pTrim t).1).States) * ((pTrim t).1).States)) && (decide ((fOuts t ((nTwo t).1)).2 = 2) || (decide ((fOuts t ((nTwo t).1)).2 = 0) && decide (1 < (((fOuts t ((nTwo t).1)).1).length : Int)))))
end Go.Proofs.YtfbbkjhdhjmpnaaGreat

set_option linter.unusedVariables false
set_option linter.unusedSimpArgs false
set_option maxRecDepth 20000
namespace Go.Proofs.YtfbbkjhdhjmpnaaGreat
def wp_lAwake19  (Q : Bool → Prop) : Prop :=
  ((⟨2, [(⟨(0 : Int), ([] : List UInt8)⟩ : GTip)], [(⟨1, ([] : List UInt8)⟩ : GTip)], [(⟨(0 : Int), 1, BSet.ofL [97], [120], false⟩ : GArc), (⟨(0 : Int), 1, BSet.ofL [97], [121], false⟩ : GArc)]⟩ : GFst).Arcs.length ≤ 1024) ∧
  ((0 : Int) ≤ 1 ∧ (1 : Int) ≤ 2) ∧
  ((⟨2, [(⟨(0 : Int), ([] : List UInt8)⟩ : GTip)], [(⟨1, ([] : List UInt8)⟩ : GTip)], ([(⟨(0 : Int), 1, BSet.ofL [97], [120], false⟩ : GArc), (⟨(0 : Int), 1, BSet.ofL [97], [121], false⟩ : GArc)].take 1)⟩ : GFst).Arcs.length ≤ 1024) ∧
  Q (((((((!(nOne (⟨2, [(⟨(0 : Int), ([] : List UInt8)⟩ : GTip)], [(⟨1, ([] : List UInt8)⟩ : GTip)], [(⟨(0 : Int), 1, BSet.ofL [97], [120], false⟩ : GArc), (⟨(0 : Int), 1, BSet.ofL [97], [121], false⟩ : GArc)]⟩ : GFst)).1) && decide ((nOne (⟨2, [(⟨(0 : Int), ([] : List UInt8)⟩ : GTip)], [(⟨1, ([] : List UInt8)⟩ : GTip)], [(⟨(0 : Int), 1, BSet.ofL [97], [120], false⟩ : GArc), (⟨(0 : Int), 1, BSet.ofL [97], [121], false⟩ : GArc)]⟩ : GFst)).2 = 0)) && decide ((nTwo (⟨2, [(⟨(0 : Int), ([] : List UInt8)⟩ : GTip)], [(⟨1, ([] : List UInt8)⟩ : GTip)], [(⟨(0 : Int), 1, BSet.ofL [97], [120], false⟩ : GArc), (⟨(0 : Int), 1, BSet.ofL [97], [121], false⟩ : GArc)]⟩ : GFst)).1 = [97])) && (nTwo (⟨2, [(⟨(0 : Int), ([] : List UInt8)⟩ : GTip)], [(⟨1, ([] : List UInt8)⟩ : GTip)], [(⟨(0 : Int), 1, BSet.ofL [97], [120], false⟩ : GArc), (⟨(0 : Int), 1, BSet.ofL [97], [121], false⟩ : GArc)]⟩ : GFst)).2.1) && decide ((nTwo (⟨2, [(⟨(0 : Int), ([] : List UInt8)⟩ : GTip)], [(⟨1, ([] : List UInt8)⟩ : GTip)], [(⟨(0 : Int), 1, BSet.ofL [97], [120], false⟩ : GArc), (⟨(0 : Int), 1, BSet.ofL [97], [121], false⟩ : GArc)]⟩ : GFst)).2.2 = (nOne (⟨2, [(⟨(0 : Int), ([] : List UInt8)⟩ : GTip)], [(⟨1, ([] : List UInt8)⟩ : GTip)], [(⟨(0 : Int), 1, BSet.ofL [97], [120], false⟩ : GArc), (⟨(0 : Int), 1, BSet.ofL [97], [121], false⟩ : GArc)]⟩ : GFst)).2)) && (nOne (⟨2, [(⟨(0 : Int), ([] : List UInt8)⟩ : GTip)], [(⟨1, ([] : List UInt8)⟩ : GTip)], ([(⟨(0 : Int), 1, BSet.ofL [97], [120], false⟩ : GArc), (⟨(0 : Int), 1, BSet.ofL [97], [121], false⟩ : GArc)].take 1)⟩ : GFst)).1) && decide ((nOne (⟨2, [(⟨(0 : Int), ([] : List UInt8)⟩ : GTip)], [(⟨1, ([] : List UInt8)⟩ : GTip)], ([(⟨(0 : Int), 1, BSet.ofL [97], [120], false⟩ : GArc), (⟨(0 : Int), 1, BSet.ofL [97], [121], false⟩ : GArc)].take 1)⟩ : GFst)).2 = (nOne (⟨2, [(⟨(0 : Int), ([] : List UInt8)⟩ : GTip)], [(⟨1, ([] : List UInt8)⟩ : GTip)], [(⟨(0 : Int), 1, BSet.ofL [97], [120], false⟩ : GArc), (⟨(0 : Int), 1, BSet.ofL [97], [121], false⟩ : GArc)]⟩ : GFst)).2))
end Go.Proofs.YtfbbkjhdhjmpnaaGreat

set_option linter.unusedVariables false
set_option linter.unusedSimpArgs false
namespace Go.Proofs.YtfbbkjhdhjmpnaaGreat
theorem aw_right (l : List GArc) (h : ∀ x ∈ l, ∃ s, x = awA s ∧ s.length ≤ 1024) (hl : l.length ≤ 1024) : fRight (aw19 l) = true := by
  have h1 : BSet.ofL [97] ≠ BSet.zero := by decide
  have : l.all (fArcOk (aw19 l)) = true := by
    rw [List.all_eq_true]
    intro x hx
    obtain ⟨s, rfl, hs⟩ := h x hx
    simp [fArcOk, fIn, aw19, awA, h1, hs]
  simp only [fRight, Bool.and_eq_true, decide_eq_true_eq]
  refine ⟨⟨⟨⟨⟨⟨⟨by show (0 : Int) ≤ 2; decide, by show (2 : Int) ≤ 1024; decide⟩, by show l.length ≤ _; omega⟩, by show 1 ≤ 1024; decide⟩, by show 1 ≤ 1024; decide⟩, by simp [aw19, fTipBad, fIn]⟩, by simp [aw19, fTipBad, fIn]⟩, this⟩
theorem aw_trim {l : List GArc} (h : ∀ x ∈ l, ∃ s, x = awA s ∧ s.length ≤ 1024) (hl : l.length ≤ 1024) (hu : useL (aw19 l) = (List.range (aw19 l).States.toNat).map fun (k : Nat) => (k : Int)) (hs : Rises cmpArc l) : pTrim (aw19 l) = (aw19 l, 0) := by
  have hR := aw_right l h hl
  unfold pTrim
  rw [if_pos hR, cut_full hR hu]
  unfold fSort
  rw [if_pos hR]
  unfold fSrt
  have e1 : ordL cmpTip (aw19 l).Starts = (aw19 l).Starts := ordL_of_rises linTip.tot (List.pairwise_singleton _ _)
  have e2 : ordL cmpTip (aw19 l).Ends = (aw19 l).Ends := ordL_of_rises linTip.tot (List.pairwise_singleton _ _)
  have e3 : ordL cmpArc (aw19 l).Arcs = (aw19 l).Arcs := ordL_of_rises linArc.tot hs
  rw [e1, e2, e3]
theorem aw_two : nTwo (aw19 [awA [120], awA [121]]) = ([97], true, 0) := by
  have h : pTrim (aw19 [awA [120], awA [121]]) = (aw19 [awA [120], awA [121]], 0) := by
    refine aw_trim (fun x hx => ?_) (by decide) rfl (List.pairwise_cons.2 ⟨fun z hz => by rw [List.mem_singleton] at hz; subst hz; exact show (-1 : Int) < 0 by decide, List.pairwise_singleton _ _⟩)
    simp only [List.mem_cons, List.not_mem_nil, or_false] at hx
    rcases hx with rfl | rfl
    · exact ⟨[120], rfl, by decide⟩
    · exact ⟨[121], rfl, by decide⟩
  have hf : nFind (nFdr (aw19 [awA [120], awA [121]])) = ([97], true) := by kernel_rfl
  unfold nTwo
  rw [h]
  dsimp only
  rw [if_neg (by decide), if_neg (by show ¬ (32 : Int) < 2; decide), hf]
theorem aw_one : nTwo (aw19 [awA [120]]) = ([], false, 0) := by
  have h : pTrim (aw19 [awA [120]]) = (aw19 [awA [120]], 0) := by
    refine aw_trim (fun x hx => ?_) (by decide) rfl (List.pairwise_singleton _ _)
    rw [List.mem_singleton] at hx
    exact ⟨[120], hx, by decide⟩
  have hf : nFind (nFdr (aw19 [awA [120]])) = ([], false) := by kernel_rfl
  unfold nTwo
  rw [h]
  dsimp only
  rw [if_neg (by decide), if_neg (by show ¬ (32 : Int) < 2; decide), hf]
theorem lAwake19_wp : wp_lAwake19 (fun r0 => r0 = true) := by
  refine ⟨by decide, by decide, by decide, ?_⟩
  have h1 := aw_two; have h2 := aw_one
  have o1 : nOne (aw19 [awA [120], awA [121]]) = (false, 0) := by unfold nOne; rw [h1]; rfl
  have o2 : nOne (aw19 [awA [120]]) = (true, 0) := by unfold nOne; rw [h2]; rfl
  change (((((((!(nOne (aw19 [awA [120], awA [121]])).1) && decide ((nOne (aw19 [awA [120], awA [121]])).2 = 0)) && decide ((nTwo (aw19 [awA [120], awA [121]])).1 = [97])) && (nTwo (aw19 [awA [120], awA [121]])).2.1) && decide ((nTwo (aw19 [awA [120], awA [121]])).2.2 = (nOne (aw19 [awA [120], awA [121]])).2)) && (nOne (aw19 [awA [120]])).1) && decide ((nOne (aw19 [awA [120]])).2 = (nOne (aw19 [awA [120], awA [121]])).2)) = true
  rw [o1, o2, h1]; rfl
theorem few19_arcs {t : GFst} (h : f19Few t = true) : t.Arcs.length ≤ 14 := by
  simp only [f19Few, Bool.and_eq_true, decide_eq_true_eq] at h
  omega
end Go.Proofs.YtfbbkjhdhjmpnaaGreat

set_option linter.unusedVariables false
set_option linter.unusedSimpArgs false
namespace Go.Proofs.YtfbbkjhdhjmpnaaGreat
/-- come to from Starts by a text, with what came out -/
def Run (t : GFst) (s : Int) (w A : List UInt8) : Prop := (⟨s, A⟩ : GTip) ∈ fReach t w
/-- from a state to Ends by a text -/
def Fin (t : GFst) : Int → List UInt8 → List UInt8 → Prop
  | s, [], u => ∃ e ∈ t.Ends, e.State = s ∧ u = e.Out
  | s, c :: w, u => ∃ x ∈ t.Arcs, x.From = s ∧ x.Set.has c.toNat = true ∧ ∃ u', Fin t x.To w u' ∧ u = fOutB x c ++ u'
/-- related -/
def Acc (t : GFst) (w o : List UInt8) : Prop := ∃ s A u, Run t s w A ∧ Fin t s [] u ∧ o = A ++ u
variable {t : GFst}
theorem run_nil {s : Int} {A : List UInt8} : Run t s [] A ↔ (⟨s, A⟩ : GTip) ∈ t.Starts := Iff.rfl
theorem run_snoc {s : Int} {w A : List UInt8} {c : UInt8} : Run t s (w ++ [c]) A ↔ ∃ x ∈ t.Arcs, x.To = s ∧ x.Set.has c.toNat = true ∧ ∃ B, Run t x.From w B ∧ A = B ++ fOutB x c := by
  unfold Run fReach
  rw [List.foldl_append]
  simp only [List.foldl_cons, List.foldl_nil]
  unfold fRaw
  rw [List.mem_flatMap]
  constructor
  · rintro ⟨p, hp, hx⟩
    obtain ⟨x, hx, e⟩ := List.mem_map.1 hx
    obtain ⟨hx1, hx2⟩ := List.mem_filter.1 hx
    simp only [Bool.and_eq_true, decide_eq_true_eq] at hx2
    cases e
    exact ⟨x, hx1, rfl, hx2.2, p.Out, by rw [hx2.1]; exact hp, rfl⟩
  · rintro ⟨x, hx, rfl, hc, B, hB, rfl⟩
    exact ⟨⟨x.From, B⟩, hB, List.mem_map.2 ⟨x, List.mem_filter.2 ⟨hx, by simp [hc]⟩, rfl⟩⟩
theorem run_step {w A : List UInt8} {x : GArc} (hx : x ∈ t.Arcs) {c : UInt8} (hc : x.Set.has c.toNat = true) (h : Run t x.From w A) : Run t x.To (w ++ [c]) (A ++ fOutB x c) := run_snoc.2 ⟨x, hx, rfl, hc, A, h, rfl⟩
theorem run_fin : ∀ {w' : List UInt8} {w : List UInt8} {s : Int} {A u : List UInt8}, Run t s w A → Fin t s w' u → Acc t (w ++ w') (A ++ u)
  | [], w, s, A, u, h, k => by rw [List.append_nil]; exact ⟨s, A, u, h, k, rfl⟩
  | c :: w', w, s, A, u, h, ⟨x, hx, hs, hc, u', hu, e⟩ => by
    subst hs
    have := run_fin (run_step hx hc h) hu
    rw [e, show w ++ c :: w' = w ++ [c] ++ w' by simp, ← List.append_assoc]
    exact this
theorem acc_raw {w o : List UInt8} : Acc t w o ↔ o ∈ fOutRaw t (fReach t w) := by
  unfold Acc fOutRaw
  rw [List.mem_flatMap]
  constructor
  · rintro ⟨s, A, u, h, ⟨e, he, hs, rfl⟩, rfl⟩
    exact ⟨⟨s, A⟩, h, List.mem_map.2 ⟨e, List.mem_filter.2 ⟨he, by simp [hs]⟩, rfl⟩⟩
  · rintro ⟨p, hp, ho⟩
    obtain ⟨e, he, rfl⟩ := List.mem_map.1 ho
    obtain ⟨he1, he2⟩ := List.mem_filter.1 he
    exact ⟨p.State, p.Out, e.Out, hp, ⟨e, he1, by simpa using he2, rfl⟩, rfl⟩
/-! ## trimmed -/
theorem num_inj {l : List Int} {s u v : Int} (h : aget (numL l) s = some v) (k : aget (numL l) u = some v) : s = u := by
  obtain ⟨i, hi, e1, e2⟩ := num_some h
  obtain ⟨j, hj, f1, f2⟩ := num_some k
  have : i = j := by omega
  subst this
  rw [← e2, ← f2]
theorem mem_tipsL {m : List (Int × Int)} {l : List GTip} {y : GTip} : y ∈ tipsL m l ↔ ∃ x ∈ l, aget m x.State = some y.State ∧ x.Out = y.Out := by
  unfold tipsL
  rw [List.mem_map]
  constructor
  · rintro ⟨x, hx, rfl⟩
    obtain ⟨h1, h2⟩ := List.mem_filter.1 hx
    obtain ⟨v, hv⟩ := Option.isSome_iff_exists.1 h2
    exact ⟨x, h1, by rw [hv]; rfl, rfl⟩
  · rintro ⟨x, hx, h1, h2⟩
    refine ⟨x, List.mem_filter.2 ⟨hx, by rw [h1]; rfl⟩, ?_⟩
    rw [h1, h2]; rfl
theorem mem_arcsL {m : List (Int × Int)} {l : List GArc} {y : GArc} : y ∈ arcsL m l ↔ ∃ x ∈ l, aget m x.From = some y.From ∧ aget m x.To = some y.To ∧ x.Set = y.Set ∧ x.Out = y.Out ∧ x.Copy = y.Copy := by
  unfold arcsL
  rw [List.mem_map]
  constructor
  · rintro ⟨x, hx, rfl⟩
    obtain ⟨h1, h2⟩ := List.mem_filter.1 hx
    simp only [Bool.and_eq_true] at h2
    obtain ⟨v, hv⟩ := Option.isSome_iff_exists.1 h2.1
    obtain ⟨u, hu⟩ := Option.isSome_iff_exists.1 h2.2
    exact ⟨x, h1, by rw [hv]; rfl, by rw [hu]; rfl, rfl, rfl, rfl⟩
  · rintro ⟨x, hx, h1, h2, h3, h4, h5⟩
    refine ⟨x, List.mem_filter.2 ⟨hx, by rw [h1, h2]; rfl⟩, ?_⟩
    rw [h1, h2]
    cases x; cases y
    dsimp only [Option.getD_some] at *
    subst h3 h4 h5; rfl
theorem trim_tips (h : (pTrim t).2 = 0) {y : GTip} : (y ∈ (pTrim t).1.Starts ↔ ∃ x ∈ t.Starts, aget (numL (useL t)) x.State = some y.State ∧ x.Out = y.Out) ∧ (y ∈ (pTrim t).1.Ends ↔ ∃ x ∈ t.Ends, aget (numL (useL t)) x.State = some y.State ∧ x.Out = y.Out) := by
  rw [(pTrim_right h).2.2]
  exact ⟨mem_ordL.trans mem_tipsL, mem_ordL.trans mem_tipsL⟩
theorem trim_arcs (h : (pTrim t).2 = 0) {y : GArc} : y ∈ (pTrim t).1.Arcs ↔ ∃ x ∈ t.Arcs, aget (numL (useL t)) x.From = some y.From ∧ aget (numL (useL t)) x.To = some y.To ∧ x.Set = y.Set ∧ x.Out = y.Out ∧ x.Copy = y.Copy := by
  rw [(pTrim_right h).2.2]
  exact mem_ordL.trans mem_arcsL
theorem fOutB_of {x y : GArc} (h1 : x.Out = y.Out) (h2 : x.Copy = y.Copy) (c : UInt8) : fOutB x c = fOutB y c := by unfold fOutB; rw [h1, h2]
theorem snocInd {P : List UInt8 → Prop} (h0 : P []) (hs : ∀ w c, P w → P (w ++ [c])) (w : List UInt8) : P w := by
  have : ∀ n, ∀ w : List UInt8, w.length = n → P w := by
    intro n
    induction n with
    | zero => intro w hw; rw [List.eq_nil_of_length_eq_zero hw]; exact h0
    | succ n ih =>
      intro w hw
      have hne : w ≠ [] := by intro e; rw [e] at hw; simp at hw
      rw [← List.dropLast_concat_getLast hne]
      exact hs _ _ (ih _ (by rw [List.length_dropLast]; omega))
  exact this _ w rfl
theorem run_fwd {w : List UInt8} : ∀ {s : Int} {A : List UInt8}, Run t s w A → Fwd t s := by
  refine snocInd (P := fun w => ∀ {s : Int} {A : List UInt8}, Run t s w A → Fwd t s) (fun {s A} h => .base ⟨_, run_nil.1 h, rfl⟩) (fun w c ih {s A} h => ?_) w
  obtain ⟨x, hx, rfl, hc, B, hB, _⟩ := run_snoc.1 h
  exact .step (ih hB) ⟨x, hx, rfl, rfl⟩
theorem run_of_trim (h : (pTrim t).2 = 0) {w : List UInt8} : ∀ {v : Int} {A : List UInt8}, Run (pTrim t).1 v w A → ∃ s, aget (numL (useL t)) s = some v ∧ Run t s w A := by
  refine snocInd (P := fun w => ∀ {v : Int} {A : List UInt8}, Run (pTrim t).1 v w A → ∃ s, aget (numL (useL t)) s = some v ∧ Run t s w A) (fun {v A} k => ?_) (fun w c ih {v A} k => ?_) w
  · obtain ⟨x, hx, h1, h2⟩ := (trim_tips h).1.1 (run_nil.1 k)
    dsimp only at h1 h2
    exact ⟨x.State, h1, run_nil.2 (by rw [← h2]; exact hx)⟩
  · obtain ⟨y, hy, rfl, hc, B, hB, rfl⟩ := run_snoc.1 k
    obtain ⟨x, hx, h1, h2, h3, h4, h5⟩ := (trim_arcs h).1 hy
    obtain ⟨s, hs, hr⟩ := ih hB
    have := num_inj hs h1
    subst this
    refine ⟨x.To, h2, ?_⟩
    rw [← fOutB_of h4 h5]
    exact run_step hx (by rw [h3]; exact hc) hr
theorem run_to_trim (h : (pTrim t).2 = 0) {w : List UInt8} : ∀ {s : Int} {A : List UInt8}, Run t s w A → Bwd t s → ∃ v, aget (numL (useL t)) s = some v ∧ Run (pTrim t).1 v w A := by
  have hR := (pTrim_right h).1
  refine @snocInd (fun w => ∀ {s : Int} {A : List UInt8}, Run t s w A → Bwd t s → ∃ v, aget (numL (useL t)) s = some v ∧ Run (pTrim t).1 v w A) (fun {s A} k hb => ?_) (fun w c ih {s A} k hb => ?_) w
  · obtain ⟨v, hv⟩ := num_of ((mem_useL hR).2 ⟨run_fwd k, hb⟩)
    exact ⟨v, hv, run_nil.2 ((trim_tips h).1.2 ⟨_, run_nil.1 k, hv, rfl⟩)⟩
  · obtain ⟨v, hv⟩ := num_of ((mem_useL hR).2 ⟨run_fwd k, hb⟩)
    obtain ⟨x, hx, rfl, hc, B, hB, rfl⟩ := run_snoc.1 k
    obtain ⟨u, hu, hr⟩ := ih hB (.step hb ⟨x, hx, rfl, rfl⟩)
    have hy : ({ x with From := u, To := v } : GArc) ∈ (pTrim t).1.Arcs := (trim_arcs h).2 ⟨x, hx, hu, hv, rfl, rfl, rfl⟩
    exact ⟨v, hv, run_step (x := { x with From := u, To := v }) hy hc hr⟩
theorem acc_trim (h : (pTrim t).2 = 0) {w o : List UInt8} : Acc (pTrim t).1 w o ↔ Acc t w o := by
  constructor
  · rintro ⟨v, A, u, hr, ⟨y, hy, rfl, rfl⟩, rfl⟩
    obtain ⟨s, hs, hr'⟩ := run_of_trim h hr
    obtain ⟨x, hx, h1, h2⟩ := (trim_tips h).2.1 hy
    have := num_inj hs h1
    subst this
    exact ⟨x.State, A, y.Out, hr', ⟨x, hx, rfl, h2.symm⟩, rfl⟩
  · rintro ⟨s, A, u, hr, ⟨y, hy, rfl, rfl⟩, rfl⟩
    obtain ⟨v, hv, hr'⟩ := run_to_trim h hr (.base ⟨y, hy, rfl⟩)
    exact ⟨v, A, y.Out, hr', ⟨⟨v, y.Out⟩, (trim_tips h).2.2 ⟨y, hy, hv, rfl⟩, rfl, rfl⟩, rfl⟩
end Go.Proofs.YtfbbkjhdhjmpnaaGreat

set_option linter.unusedVariables false
set_option linter.unusedSimpArgs false
namespace Go.Proofs.YtfbbkjhdhjmpnaaGreat
/-! ## rows by state -/
theorem rows_memG {α β : Type} {n : Nat} (f : α → Int) (g : α → β) : ∀ (l : List α) (o : List (List β)), o.length = n → (∀ x ∈ l, 0 ≤ f x ∧ f x < n) → ∀ s : Int, 0 ≤ s → ∀ t,
    (t ∈ (l.foldl (fun o x => o.set (f x).toNat (o.getD (f x).toNat default ++ [g x])) o).getD s.toNat default ↔ t ∈ o.getD s.toNat default ∨ ∃ x ∈ l, f x = s ∧ g x = t)
  | [], o, _, _, s, hs, t => by simp
  | x :: l, o, ho, hx, s, hs, t => by
    have h1 := hx x (by simp)
    rw [List.foldl_cons, rows_memG f g l _ (by simpa using ho) (fun y hy => hx y (List.mem_cons_of_mem _ hy)) s hs t]
    have e : ∀ t, t ∈ (o.set (f x).toNat (o.getD (f x).toNat default ++ [g x])).getD s.toNat default ↔ t ∈ o.getD s.toNat default ∨ (f x = s ∧ g x = t) := fun t => by
      rw [List.getD_eq_getElem?_getD, List.getElem?_set]
      by_cases h : (f x).toNat = s.toNat
      · rw [if_pos h, if_pos (by omega), h]
        have : f x = s := by omega
        simp [this, eq_comm]
      · rw [if_neg h, ← List.getD_eq_getElem?_getD]
        have : f x ≠ s := fun e => h (by rw [e])
        simp [this]
    rw [e]
    constructor
    · rintro ((h | h) | ⟨y, hy, h⟩)
      · exact .inl h
      · exact .inr ⟨x, by simp, h⟩
      · exact .inr ⟨y, List.mem_cons_of_mem _ hy, h⟩
    · rintro (h | ⟨y, hy, h⟩)
      · exact .inl (.inl h)
      · rcases List.mem_cons.1 hy with rfl | hy
        · exact .inl (.inr h)
        · exact .inr ⟨y, hy, h⟩
theorem empty_rowG {β : Type} {n : Nat} {s : Int} {t : β} : ¬ t ∈ (List.replicate n ([] : List β)).getD s.toNat default := by
  rw [List.getD_eq_getElem?_getD, List.getElem?_replicate]
  split <;> simp <;> exact List.not_mem_nil
theorem mem_nFrom {n : Int} {l : List GArc} (h : ∀ x ∈ l, 0 ≤ x.From ∧ x.From < n) {s : Int} (hs : 0 ≤ s) {x : GArc} : x ∈ (nFrom n l).getD s.toNat default ↔ x ∈ l ∧ x.From = s := by
  unfold nFrom
  rw [rows_memG (n := n.toNat) (·.From) (fun x => x) l _ (by simp) (fun x hx => by have := h x hx; omega) s hs x]
  constructor
  · rintro (q | ⟨y, hy, e, rfl⟩)
    · exact absurd q empty_rowG
    · exact ⟨hy, e⟩
  · rintro ⟨hx, e⟩
    exact .inr ⟨x, hx, e, rfl⟩
theorem mem_nEnds {n : Int} {l : List GTip} (h : ∀ x ∈ l, 0 ≤ x.State ∧ x.State < n) {s : Int} (hs : 0 ≤ s) {u : List UInt8} : u ∈ (nEnds n l).getD s.toNat default ↔ ∃ x ∈ l, x.State = s ∧ x.Out = u := by
  unfold nEnds
  rw [rows_memG (n := n.toNat) (·.State) (·.Out) l _ (by simp) (fun x hx => by have := h x hx; omega) s hs u]
  exact ⟨fun q => q.elim (fun q => absurd q empty_rowG) id, .inr⟩
/-! ## both have a byte -/
theorem mem_bytes {S : BSet} {c : UInt8} : c ∈ S.bytes ↔ S.has c.toNat = true := by
  unfold BSet.bytes
  rw [List.mem_map]
  constructor
  · rintro ⟨m, hm, rfl⟩
    have := S.mem_lt m hm
    rw [UInt8.toNat_ofNat_of_lt' (show m < 256 by omega)]; exact this.2
  · intro h
    refine ⟨c.toNat, ?_, by simp⟩
    unfold BSet.mem BSet.memK
    exact List.mem_filter.2 ⟨List.mem_range.2 c.toNat_lt, h⟩
theorem mem_both {A B : BSet} {c : UInt8} : c ∈ (BSet.band A B).bytes ↔ A.has c.toNat = true ∧ B.has c.toNat = true := by
  rw [mem_bytes, BSet.has_band A B c.toNat_lt, Bool.and_eq_true]
theorem both_ne {A B : BSet} {c : UInt8} (h : A.has c.toNat = true ∧ B.has c.toNat = true) : (BSet.band A B).mem.length ≠ 0 := by
  have := mem_both.2 h
  rw [← BSet.bytes_len]
  intro e
  rw [List.length_eq_zero_iff.1 e] at this
  simp at this
theorem both_first {A B : BSet} (h : (BSet.band A B).mem.length ≠ 0) : A.has ((BSet.band A B).bytes.getD 0 0).toNat = true ∧ B.has ((BSet.band A B).bytes.getD 0 0).toNat = true := by
  rw [← BSet.bytes_len] at h
  exact mem_both.1 (getk_mem (by omega))
/-! ## loops that do something for each -/
theorem foldl_each {α β : Type} {P : β → Prop} {Q : α → β → Prop} {g : β → α → β} : ∀ {l : List α} {s : β}, (∀ s, ∀ x ∈ l, P s → P (g s x) ∧ Q x (g s x)) → (∀ s, ∀ x ∈ l, ∀ y, P s → Q y s → Q y (g s x)) → P s → P (l.foldl g s) ∧ (∀ y, Q y s → Q y (l.foldl g s)) ∧ ∀ x ∈ l, Q x (l.foldl g s)
  | [], s, _, _, h => ⟨h, fun _ h => h, fun _ h => by simp at h⟩
  | x :: l, s, h1, h2, h => by
    obtain ⟨k1, k2⟩ := h1 s x (by simp) h
    obtain ⟨m1, m2, m3⟩ := foldl_each (l := l) (s := g s x) (fun s y hy => h1 s y (List.mem_cons_of_mem _ hy)) (fun s y hy => h2 s y (List.mem_cons_of_mem _ hy)) k1
    refine ⟨m1, fun y hy => m2 y (h2 s x (by simp) y h hy), fun y hy => ?_⟩
    rcases List.mem_cons.1 hy with rfl | hy
    · exact m2 _ k2
    · exact m3 y hy
/-! ## tails -/
/-- each pair is led to Ends as it is told -/
def TlSem (t : GFst) (on : List (TwoS × Gfun_tail)) : Prop := ∀ p x, aget on p = some x → Fin t p.1 x.w x.a ∧ Fin t p.2 x.w x.b
def SInv (f : Gfun_finder) (s : TlS) : Prop := TInv f s ∧ TlSem f.t s.1.on'
theorem SInv.put {f : Gfun_finder} {s : TlS} (h : SInv f s) {p : TwoS} {x : Gfun_tail} (hp : InSq f.t.States p) (h1 : x.w.length ≤ s.2.length) (h2 : x.a.length ≤ 1024 + 1025 * s.2.length) (h3 : x.b.length ≤ 1024 + 1025 * s.2.length) (h4 : Fin f.t p.1 x.w x.a ∧ Fin f.t p.2 x.w x.b) : SInv f (nPut p x s.1 s.2) ∧ p ∈ (nPut p x s.1 s.2).2 := by
  have hT := h.1.put hp h1 h2 h3
  refine ⟨⟨hT, ?_⟩, ?_⟩
  · unfold nPut
    split
    · exact h.2
    · intro q y hy
      dsimp only at hy
      rw [aget_put] at hy
      split at hy
      · rename_i e; cases hy; rw [e]; exact h4
      · exact h.2 q y hy
  · unfold nPut
    split <;> rename_i hc
    · exact (h.1.2.ks p).1 hc
    · exact List.mem_append_right _ (by simp)
theorem mem_pre {α : Type} {a b : List α} (h : a <+: b) {x : α} (hx : x ∈ a) : x ∈ b := by
  obtain ⟨t, rfl⟩ := h; exact List.mem_append_left _ hx
variable {f : Gfun_finder}
/-- the pair behind place i leads two arcs back -/
def Led (i : Nat) (q : TwoS) (x y : GArc) (s : TlS) : Prop := (BSet.band x.Set y.Set).mem.length ≠ 0 → x.To = q.1 → y.To = q.2 → (x.From, y.From) ∈ s.2
theorem arc_sem {i : Nat} {x y : GArc} {s : TlS} {q : TwoS} (h : SInv f s) (hi : i < s.2.length) (hq : s.2.getD i default = q) (mx : x ∈ f.t.Arcs) (my : y ∈ f.t.Arcs) (hx : (0 ≤ x.From ∧ x.From < f.t.States) ∧ x.Out.length ≤ 1024) (hy : (0 ≤ y.From ∧ y.From < f.t.States) ∧ y.Out.length ≤ 1024) : SInv f (nTailsArc i x y s) ∧ Led i q x y (nTailsArc i x y s) := by
  subst hq
  unfold nTailsArc
  dsimp only
  split <;> rename_i hc
  · have hb : (BSet.band x.Set y.Set).mem.length ≠ 0 := by simpa using hc.1
    have hl := h.1.2.len i hi
    have l1 := fOutB_len x ((BSet.band x.Set y.Set).bytes.getD 0 0); have l2 := fOutB_len y ((BSet.band x.Set y.Set).bytes.getD 0 0)
    have hf := both_first hb
    obtain ⟨z, hz⟩ := aget_some ((h.1.2.ks _).2 (getk_mem (d := default) hi))
    have hs := h.2 _ _ hz
    rw [hz] at hl ⊢
    dsimp only [Option.getD_some] at hl ⊢
    have := h.put (p := (x.From, y.From)) (x := ⟨[(BSet.band x.Set y.Set).bytes.getD 0 0] ++ z.w, fOutB x ((BSet.band x.Set y.Set).bytes.getD 0 0) ++ z.a, fOutB y ((BSet.band x.Set y.Set).bytes.getD 0 0) ++ z.b⟩) ⟨hx.1, hy.1⟩
      (by dsimp only; rw [List.length_append, List.length_singleton]; omega) (by dsimp only; rw [List.length_append]; omega) (by dsimp only; rw [List.length_append]; omega)
      ⟨⟨x, mx, rfl, hf.1, z.a, by rw [hc.2.1]; exact hs.1, rfl⟩, ⟨y, my, rfl, hf.2, z.b, by rw [hc.2.2]; exact hs.2, rfl⟩⟩
    exact ⟨this.1, fun _ _ _ => this.2⟩
  · exact ⟨h, fun h1 h2 h3 => absurd ⟨by simpa using h1, h2, h3⟩ hc⟩
theorem arcs_sem (hF : FdrOk f.t f.from' f.ends) {i : Nat} {s : TlS} (h : SInv f s) (hi : i < s.2.length) : SInv f (tlArcs i f.t.Arcs s) ∧ s.2 <+: (tlArcs i f.t.Arcs s).2 ∧ ∀ x ∈ f.t.Arcs, ∀ y ∈ f.t.Arcs, Led i (s.2.getD i default) x y (tlArcs i f.t.Arcs s) := by
  have hA : ∀ y ∈ f.t.Arcs, (0 ≤ y.From ∧ y.From < f.t.States) ∧ y.Out.length ≤ 1024 := fun y hy => ⟨(hF.arcs.2 y hy).1, (hF.arcs.2 y hy).2.2⟩
  generalize hq : s.2.getD i default = q
  have pre : ∀ x ∈ f.t.Arcs, ∀ y ∈ f.t.Arcs, ∀ s : TlS, SInv f s → i < s.2.length → s.2 <+: (nTailsArc i x y s).2 := fun x hx y hy s h hi => (nTailsArc_ok h.1 hi (hA x hx) (hA y hy)).2
  have one : ∀ x ∈ f.t.Arcs, ∀ s' : TlS, (SInv f s' ∧ s.2 <+: s'.2) → (SInv f (f.t.Arcs.foldl (fun s y => nTailsArc i x y s) s') ∧ s.2 <+: (f.t.Arcs.foldl (fun s y => nTailsArc i x y s) s').2) ∧ s'.2 <+: (f.t.Arcs.foldl (fun s y => nTailsArc i x y s) s').2 ∧ ∀ y ∈ f.t.Arcs, Led i q x y (f.t.Arcs.foldl (fun s y => nTailsArc i x y s) s') := by
    intro x hx s' hs'
    have hpre := (nTailsRow_ok (hA x hx) f.t.Arcs hA hs'.1.1 (Nat.lt_of_lt_of_le hi hs'.2.length_le)).2
    obtain ⟨k1, _, k3⟩ := foldl_each (P := fun s' : TlS => SInv f s' ∧ s.2 <+: s'.2) (Q := fun y s' => Led i q x y s') (g := fun s y => nTailsArc i x y s) (l := f.t.Arcs) (s := s') (fun s2 y hy hP => by
      have hi2 := Nat.lt_of_lt_of_le hi hP.2.length_le
      obtain ⟨m1, m2⟩ := arc_sem (q := q) hP.1 hi2 (by rw [getD_pre hP.2 hi]; exact hq) hx hy (hA x hx) (hA y hy)
      exact ⟨⟨m1, hP.2.trans (pre x hx y hy s2 hP.1 hi2)⟩, m2⟩) (fun s2 y hy z hP hz h1 h2 h3 => mem_pre (pre x hx y hy s2 hP.1 (Nat.lt_of_lt_of_le hi hP.2.length_le)) (hz h1 h2 h3)) hs'
    exact ⟨k1, hpre, k3⟩
  obtain ⟨k1, _, k3⟩ := foldl_each (P := fun s' : TlS => SInv f s' ∧ s.2 <+: s'.2) (Q := fun x s' => ∀ y ∈ f.t.Arcs, Led i q x y s') (g := fun s x => f.t.Arcs.foldl (fun s y => nTailsArc i x y s) s) (l := f.t.Arcs) (s := s) (fun s2 x hx hP => by
    obtain ⟨m1, m2, m3⟩ := one x hx s2 hP
    exact ⟨m1, m3⟩) (fun s2 x hx z hP hz y hy h1 h2 h3 => mem_pre (one x hx s2 hP).2.1 (hz y hy h1 h2 h3)) ⟨h, List.prefix_refl _⟩
  exact ⟨k1.1, k1.2, k3⟩
theorem ends_sem (hF : FdrOk f.t f.from' f.ends) : SInv f (nTailsEnds f) ∧ ∀ x ∈ f.t.Ends, ∀ y ∈ f.t.Ends, (x.State, y.State) ∈ (nTailsEnds f).2 := by
  have h0 : SInv f ({ f with on' := [] }, []) := ⟨⟨⟨rfl, rfl, rfl, rfl, rfl⟩, ⟨List.nodup_nil, fun p => by simp [aget], fun p hp => by simp at hp, fun j hj => by simp at hj⟩⟩, fun p x hx => by simp [aget] at hx⟩
  have put : ∀ x ∈ f.t.Ends, ∀ y ∈ f.t.Ends, ∀ s : TlS, SInv f s → SInv f (nPut (x.State, y.State) ⟨[], x.Out, y.Out⟩ s.1 s.2) ∧ (x.State, y.State) ∈ (nPut (x.State, y.State) ⟨[], x.Out, y.Out⟩ s.1 s.2).2 := fun x hx y hy s h => by
    have hx' := hF.eds.2 x hx; have hy' := hF.eds.2 y hy
    exact h.put ⟨hx'.1, hy'.1⟩ (Nat.zero_le _) (by dsimp only; omega) (by dsimp only; omega) ⟨⟨x, hx, rfl, rfl⟩, ⟨y, hy, rfl, rfl⟩⟩
  have one : ∀ x ∈ f.t.Ends, ∀ s : TlS, SInv f s → SInv f (f.t.Ends.foldl (fun s y => nPut (x.State, y.State) ⟨[], x.Out, y.Out⟩ s.1 s.2) s) ∧ (∀ q ∈ s.2, q ∈ (f.t.Ends.foldl (fun s y => nPut (x.State, y.State) ⟨[], x.Out, y.Out⟩ s.1 s.2) s).2) ∧ ∀ y ∈ f.t.Ends, (x.State, y.State) ∈ (f.t.Ends.foldl (fun s y => nPut (x.State, y.State) ⟨[], x.Out, y.Out⟩ s.1 s.2) s).2 := by
    intro x hx s hs
    obtain ⟨k1, k2, k3⟩ := foldl_each (P := fun s : TlS => SInv f s) (Q := fun (q : TwoS) (s : TlS) => q ∈ s.2) (g := fun (s : TlS) (q : TwoS) => s) (l := []) (s := s) (fun _ _ h => by simp at h) (fun _ _ h => by simp at h) hs
    have m1 := foldl_each (P := fun s : TlS => SInv f s) (Q := fun (y : GTip) (s : TlS) => (x.State, y.State) ∈ s.2) (g := fun (s : TlS) (y : GTip) => nPut (x.State, y.State) ⟨[], x.Out, y.Out⟩ s.1 s.2) (l := f.t.Ends) (s := s) (fun s y hy h => put x hx y hy s h) (fun s y hy z h hz => mem_pre (nPut_pre _ _ _ _) hz) hs
    refine ⟨m1.1, fun q hq => ?_, m1.2.2⟩
    exact foldl_inv (P := fun s : TlS => q ∈ s.2) (fun s y hy h => mem_pre (nPut_pre _ _ _ _) h) hq
  have := foldl_each (P := fun s : TlS => SInv f s) (Q := fun (x : GTip) (s : TlS) => ∀ y ∈ f.t.Ends, (x.State, y.State) ∈ s.2) (g := fun (s : TlS) (x : GTip) => f.t.Ends.foldl (fun s y => nPut (x.State, y.State) ⟨[], x.Out, y.Out⟩ s.1 s.2) s) (l := f.t.Ends) (s := ({ f with on' := [] }, [])) (fun s x hx h => ⟨(one x hx s h).1, (one x hx s h).2.2⟩) (fun s x hx z h hz y hy => (one x hx s h).2.1 _ (hz y hy)) h0
  exact ⟨this.1, this.2.2⟩
/-- all that leads back to the first j pairs is among them -/
def CInv (f : Gfun_finder) (j : Nat) (s : TlS) : Prop := (∀ x ∈ f.t.Ends, ∀ y ∈ f.t.Ends, (x.State, y.State) ∈ s.2) ∧ ∀ i, i < j → ∀ x ∈ f.t.Arcs, ∀ y ∈ f.t.Arcs, Led i (s.2.getD i default) x y s
theorem run_sem (hF : FdrOk f.t f.from' f.ends) : ∀ (n j : Nat) {s : TlS}, 1025 ≤ n + j → SInv f s → CInv f j s → j ≤ s.2.length → SInv f (nTailsRun n j s) ∧ CInv f (nTailsRun n j s).2.length (nTailsRun n j s)
  | 0, j, s, hn, h, _, hj => by have := h.1.2.le hF.st; omega
  | n + 1, j, s, hn, h, hC, hj => by
    have hA : ∀ y ∈ f.t.Arcs, (0 ≤ y.From ∧ y.From < f.t.States) ∧ y.Out.length ≤ 1024 := fun y hy => ⟨(hF.arcs.2 y hy).1, (hF.arcs.2 y hy).2.2⟩
    by_cases hlt : j < s.2.length
    · rw [nTailsRun_succ h.1 hA hlt]
      obtain ⟨h1, h2, h3⟩ := arcs_sem hF h hlt
      refine run_sem hF n (j + 1) (by omega) h1 ⟨fun x hx y hy => mem_pre h2 (hC.1 x hx y hy), fun i hi x hx y hy q1 q2 q3 => ?_⟩ (by have := h2.length_le; omega)
      rw [getD_pre h2 (by omega)] at q2 q3
      by_cases e : i = j
      · subst e; exact h3 x hx y hy q1 q2 q3
      · exact mem_pre h2 (hC.2 i (by omega) x hx y hy q1 q2 q3)
    · obtain rfl : j = s.2.length := by omega
      have : nTailsRun (n + 1) s.2.length s = s := by
        unfold nTailsRun
        rw [if_neg (Nat.lt_irrefl _)]
      rw [this]
      exact ⟨h, hC⟩
/-- what the tails tell -/
structure TailsSem (f : Gfun_finder) (on : List (TwoS × Gfun_tail)) : Prop where
  sem : TlSem f.t on
  all : ∀ (w : List UInt8) (p : TwoS) (u v : List UInt8), Fin f.t p.1 w u → Fin f.t p.2 w v → (aget on p).isSome = true
  len : ∀ p x, aget on p = some x → x.w.length ≤ f.t.States.toNat * f.t.States.toNat
theorem tails_sem (hF : FdrOk f.t f.from' f.ends) : TailsSem f (nTails f).on' := by
  obtain ⟨h1, h2⟩ := ends_sem hF
  obtain ⟨k1, k2⟩ := run_sem hF 1025 0 (by omega) h1 ⟨h2, fun i hi => by omega⟩ (Nat.zero_le _)
  unfold nTails
  generalize nTailsRun 1025 0 (nTailsEnds f) = r at *
  refine ⟨k1.2, fun w => ?_, fun p x hx => ?_⟩
  · have key : ∀ (w : List UInt8) (p : TwoS) (u v : List UInt8), Fin f.t p.1 w u → Fin f.t p.2 w v → p ∈ r.2 := by
      intro w
      induction w with
      | nil =>
        rintro ⟨p, q⟩ u v ⟨x, hx, e1, _⟩ ⟨y, hy, e2, _⟩
        dsimp only at e1 e2
        rw [← e1, ← e2]; exact k2.1 x hx y hy
      | cons c w ih =>
        rintro ⟨p, q⟩ u v ⟨x, hx, e1, c1, u', hu, _⟩ ⟨y, hy, e2, c2, v', hv, _⟩
        have := ih (x.To, y.To) u' v' hu hv
        obtain ⟨i, hi, e⟩ := List.getElem_of_mem this
        dsimp only at e1 e2
        rw [← e1, ← e2]
        have hg : r.2.getD i default = (x.To, y.To) := by rw [getk hi, e]
        exact k2.2 i hi x hx y hy (both_ne ⟨c1, c2⟩) (by rw [hg]) (by rw [hg])
    exact fun p u v hu hv => (k1.1.2.ks p).2 (key w p u v hu hv)
  · have hm : p ∈ r.2 := (k1.1.2.ks p).1 (by rw [hx]; rfl)
    obtain ⟨j, hj, e⟩ := List.getElem_of_mem hm
    have := (k1.1.2.len j hj).1
    rw [getk hj, e, hx] at this
    have hl := sq_len hF.st k1.1.2.nd k1.1.2.sq
    exact Nat.le_trans this (by omega)
end Go.Proofs.YtfbbkjhdhjmpnaaGreat

set_option linter.unusedVariables false
set_option linter.unusedSimpArgs false
namespace Go.Proofs.YtfbbkjhdhjmpnaaGreat
/-! ## lags -/
def lagL (a b : List UInt8) : Gfun_lag := ⟨a.drop (lcp a b), b.drop (lcp a b)⟩
theorem lag_app (c a b : List UInt8) : lagL (c ++ a) (c ++ b) = lagL a b := by
  unfold lagL; rw [lcp_app, drop_app, drop_app]
theorem lag_split (a b : List UInt8) : ∃ c, a = c ++ (lagL a b).a ∧ b = c ++ (lagL a b).b := by
  refine ⟨a.take (lcp a b), (List.take_append_drop _ _).symm, ?_⟩
  rw [lcp_take]; exact (List.take_append_drop _ _).symm
theorem lag_of {A B : List UInt8} {l : Gfun_lag} (h : lagL A B = l) : ∃ c, A = c ++ l.a ∧ B = c ++ l.b := by
  subst h; exact lag_split A B
theorem lag_red (a b : List UInt8) : lcp (lagL a b).a (lagL a b).b = 0 := lcp_drop a b
/-- of what is led on alike -/
theorem lag_step {A B u v : List UInt8} {l : Gfun_lag} (h : lagL A B = l) : lagL (A ++ u) (B ++ v) = lagL (l.a ++ u) (l.b ++ v) := by
  obtain ⟨c, h1, h2⟩ := lag_of h
  rw [h1, h2, List.append_assoc, List.append_assoc, lag_app]
theorem red_side {l : Gfun_lag} (h : lcp l.a l.b = 0) {u v : List UInt8} (e : l.a ++ u = l.b ++ v) : l.a = [] ∨ l.b = [] := by
  rcases lcp_zero h with q | q | q
  · exact .inl q
  · exact .inr q
  · cases ha : l.a with
    | nil => exact .inl rfl
    | cons x a =>
      cases hb : l.b with
      | nil => exact .inr rfl
      | cons y b =>
        rw [ha, hb] at e q
        simp only [List.cons_append, List.cons.injEq] at e
        exact absurd (by simp [e.1]) q
theorem lag_uniq {l m : Gfun_lag} (hl : lcp l.a l.b = 0) (hm : lcp m.a m.b = 0) {u v : List UInt8} (e1 : l.a ++ u = l.b ++ v) (e2 : m.a ++ u = m.b ++ v) : l = m := by
  have n1 := congrArg List.length e1; have n2 := congrArg List.length e2
  rw [List.length_append, List.length_append] at n1 n2
  have key : ∀ {l m : Gfun_lag}, l.a ++ u = l.b ++ v → m.a ++ u = m.b ++ v → l.a.length + u.length = l.b.length + v.length → m.a.length + u.length = m.b.length + v.length → l.a = [] → (m.a = [] ∨ m.b = []) → l = m := by
    intro l m e1 e2 n1 n2 ha hm
    obtain ⟨la, lb⟩ := l; obtain ⟨ma, mb⟩ := m
    dsimp only at *
    subst ha
    have hma : ma = [] := by
      rcases hm with h | h
      · exact h
      · subst h
        rw [List.length_nil] at n1 n2
        exact List.eq_nil_of_length_eq_zero (by omega)
    subst hma
    rw [List.nil_append] at e1 e2
    rw [e1] at e2
    rw [List.append_cancel_right e2]
  have key2 : ∀ {l m : Gfun_lag}, l.a ++ u = l.b ++ v → m.a ++ u = m.b ++ v → l.a.length + u.length = l.b.length + v.length → m.a.length + u.length = m.b.length + v.length → l.b = [] → (m.a = [] ∨ m.b = []) → l = m := by
    intro l m e1 e2 n1 n2 ha hm
    obtain ⟨la, lb⟩ := l; obtain ⟨ma, mb⟩ := m
    dsimp only at *
    subst ha
    have hma : mb = [] := by
      rcases hm with h | h
      · subst h
        rw [List.length_nil] at n1 n2
        exact List.eq_nil_of_length_eq_zero (by omega)
      · exact h
    subst hma
    rw [List.nil_append] at e1 e2
    rw [← e1] at e2
    rw [List.append_cancel_right e2]
  rcases red_side hl e1 with h | h
  · exact key e1 e2 n1 n2 h (red_side hm e2)
  · exact key2 e1 e2 n1 n2 h (red_side hm e2)
/-! ## a round adds places behind those that are there -/
def addR (g : Gfun_finder) (r : List Box) : Gfun_finder := { g with rows := g.rows ++ r }
theorem addR_nil (g : Gfun_finder) : addR g [] = g := by unfold addR; rw [List.append_nil]
theorem addR_add (g : Gfun_finder) (r q : List Box) : addR (addR g r) q = addR g (r ++ q) := by unfold addR; rw [List.append_assoc]
def pushed (on : List (TwoS × Gfun_tail)) (p : TwoS) (a b : List UInt8) (i : Int) (c : UInt8) : List Box := if (aget on p).isSome = true then [⟨⟨p, lagL a b⟩, i, c⟩] else []
theorem nPush_add (p : TwoS) (a b : List UInt8) (i : Int) (c : UInt8) (g : Gfun_finder) : nPush p a b i c g = addR g (pushed g.on' p a b i c) := by
  unfold nPush pushed
  split
  · rfl
  · exact (addR_nil g).symm
theorem fold_add {α : Type} {h : Gfun_finder → α → Gfun_finder} {k : α → List Box} {G : Gfun_finder → Prop} (hG : ∀ g r, G g → G (addR g r)) : ∀ {l : List α} {g : Gfun_finder}, (∀ g, ∀ x ∈ l, G g → h g x = addR g (k x)) → G g → l.foldl h g = addR g (l.flatMap k)
  | [], g, _, _ => by rw [List.flatMap_nil, addR_nil]; rfl
  | x :: l, g, hh, hg => by
    rw [List.foldl_cons, hh g x (by simp) hg, fold_add (k := k) hG (fun g y hy => hh g y (List.mem_cons_of_mem _ hy)) (hG _ _ hg), addR_add, List.flatMap_cons]
/-- the places behind one by two arcs -/
def newsB (on : List (TwoS × Gfun_tail)) (l : Gfun_lag) (i : Int) (x y : GArc) : List Box := (BSet.band x.Set y.Set).bytes.flatMap fun b => pushed on (x.To, y.To) (l.a ++ fOutB x b) (l.b ++ fOutB y b) i b
theorem nStp_add {i : Int} {x y : GArc} {g : Gfun_finder} : nStp i x y g = addR g (newsB g.on' (nLag g.rows i).lag i x y) := by
  unfold nStp newsB
  refine fold_add (G := fun g' => g'.on' = g.on') (fun _ _ h => h) (fun g' b _ hg' => ?_) rfl
  rw [nPush_add, hg']
def news (from' : List (List GArc)) (on : List (TwoS × Gfun_tail)) (q : Gfun_place) (i : Int) : List Box := (from'.getD q.at'.1.toNat default).flatMap fun x => (from'.getD q.at'.2.toNat default).flatMap fun y => newsB on q.lag i x y
theorem nGo_add {g : Gfun_finder} {i : Nat} (hi : i < g.rows.length) : nGo i g = addR { g with seen := aput g.seen (nLag g.rows i).at' i } (news g.from' g.on' (nLag g.rows i) i) := by
  unfold nGo news
  refine fold_add (G := fun g' => g'.on' = g.on' ∧ g.rows <+: g'.rows) (fun g' r h => ⟨h.1, h.2.trans (List.prefix_append _ _)⟩) (fun g' x _ hg' => ?_) ⟨rfl, List.prefix_refl _⟩
  refine fold_add (G := fun g' => g'.on' = g.on' ∧ g.rows <+: g'.rows) (fun g' r h => ⟨h.1, h.2.trans (List.prefix_append _ _)⟩) (fun g' y _ hg' => ?_) hg'
  rw [nStp_add, hg'.1, nLag_pre hg'.2 (by omega) (by omega)]
def firsts (t : GFst) (on : List (TwoS × Gfun_tail)) : List Box := t.Starts.flatMap fun x => t.Starts.flatMap fun y => pushed on (x.State, y.State) x.Out y.Out (-1) 0
theorem nFirst_add {f : Gfun_finder} : nFirst f = addR f (firsts f.t f.on') := by
  unfold nFirst firsts
  refine fold_add (G := fun g' => g'.on' = f.on') (fun _ _ h => h) (fun g' x _ hg' => ?_) rfl
  refine fold_add (G := fun g' => g'.on' = f.on') (fun _ _ h => h) (fun g' y _ hg' => ?_) hg'
  rw [nPush_add, hg']
theorem mem_pushed {on : List (TwoS × Gfun_tail)} {p : TwoS} {a b : List UInt8} {i : Int} {c : UInt8} {q : Box} : q ∈ pushed on p a b i c ↔ (aget on p).isSome = true ∧ q = ⟨⟨p, lagL a b⟩, i, c⟩ := by
  unfold pushed
  split <;> rename_i h
  · simp [h]
  · simp [h]
theorem mem_newsB {on : List (TwoS × Gfun_tail)} {l : Gfun_lag} {i : Int} {x y : GArc} {q : Box} : q ∈ newsB on l i x y ↔ ∃ b : UInt8, (x.Set.has b.toNat = true ∧ y.Set.has b.toNat = true) ∧ (aget on (x.To, y.To)).isSome = true ∧ q = ⟨⟨(x.To, y.To), lagL (l.a ++ fOutB x b) (l.b ++ fOutB y b)⟩, i, b⟩ := by
  unfold newsB
  rw [List.mem_flatMap]
  exact ⟨fun ⟨b, hb, hq⟩ => ⟨b, mem_both.1 hb, mem_pushed.1 hq⟩, fun ⟨b, hb, hq⟩ => ⟨b, mem_both.2 hb, mem_pushed.2 hq⟩⟩
theorem mem_news {from' : List (List GArc)} {on : List (TwoS × Gfun_tail)} {p : Gfun_place} {i : Int} {q : Box} : q ∈ news from' on p i ↔ ∃ x ∈ from'.getD p.at'.1.toNat default, ∃ y ∈ from'.getD p.at'.2.toNat default, q ∈ newsB on p.lag i x y := by
  unfold news
  rw [List.mem_flatMap]
  exact ⟨fun ⟨x, hx, hq⟩ => ⟨x, hx, List.mem_flatMap.1 hq⟩, fun ⟨x, hx, hq⟩ => ⟨x, hx, List.mem_flatMap.2 hq⟩⟩
/-! ## the texts by which places are come to -/
theorem wordK_out (l : List Box) : ∀ (n : Nat) (i : Int) (out : List UInt8), wordK l n i out = wordK l n i [] ++ out
  | 0, _, _ => rfl
  | n + 1, i, out => by
    unfold wordK
    split
    · rw [wordK_out l n _ ([(l.getD i.toNat default).by'] ++ out), wordK_out l n _ ([(l.getD i.toNat default).by'] ++ [])]
      simp
    · rfl
theorem wordK_pre {a b : List Box} (hb : LinksOk b) (h : a <+: b) : ∀ (n : Nat) (i : Int) (out : List UInt8), 0 ≤ i → i < a.length → wordK b n i out = wordK a n i out
  | 0, _, _, _, _ => rfl
  | n + 1, i, out, h0, h1 => by
    unfold wordK
    have e := getD_pre h (show i.toNat < a.length by omega) default
    rw [e]
    split
    · rename_i hc
      have := hb.2 i.toNat (by have := h.length_le; omega)
      rw [e] at this
      exact wordK_pre hb h n _ _ hc (by omega)
    · rfl
theorem nWord_pre {a b : List Box} (hb : LinksOk b) (h : a <+: b) {i : Int} (h0 : 0 ≤ i) (h1 : i < a.length) : nWord b i = nWord a i := wordK_pre hb h _ i [] h0 h1
/-- the text of a place that comes next -/
def boxW (rows : List Box) (q : Box) : List UInt8 := if 0 ≤ q.from' then nWord rows q.from' ++ [q.by'] else []
theorem nWord_new {a b : List Box} (hb : LinksOk b) (h : a <+: b) {k : Nat} (hk : k < b.length) (ha : (b.getD k default).from' < a.length) : nWord b k = boxW a (b.getD k default) := by
  unfold nWord boxW
  rw [show ((k : Int)).toNat = k by omega]
  have := wordK_step hb (i := (k : Int)) (by omega) (by omega) []
  rw [show ((k : Int)).toNat = k by omega] at this
  rw [this]
  split
  · rename_i hc
    rw [wordK_out]
    have := nWord_pre hb h hc ha
    unfold nWord at this
    rw [this]
    simp [nWord]
  · rfl
/-- what a place tells: two ways by its text, which have come out with its lag -/
def BoxSem (t : GFst) (n : Nat) (q : Box) (w : List UInt8) : Prop := (∃ c, Run t q.it.at'.1 w (c ++ q.it.lag.a) ∧ Run t q.it.at'.2 w (c ++ q.it.lag.b)) ∧ lcp q.it.lag.a q.it.lag.b = 0 ∧ w.length ≤ n
def RSem (t : GFst) (n : Nat) (rows : List Box) : Prop := ∀ i, i < rows.length → BoxSem t n (rows.getD i default) (nWord rows i)
theorem RSem.add {t : GFst} {n m : Nat} {a r : List Box} (h : RSem t n a) (hnm : n ≤ m) (hb : LinksOk (a ++ r)) (hr : ∀ q ∈ r, q.from' < a.length ∧ BoxSem t m q (boxW a q)) : RSem t m (a ++ r) := by
  intro i hi
  have hp : a <+: a ++ r := List.prefix_append _ _
  by_cases hlt : i < a.length
  · rw [getD_pre hp hlt, nWord_pre hb hp (by omega) (by omega)]
    have := h i hlt
    exact ⟨this.1, this.2.1, Nat.le_trans this.2.2 hnm⟩
  · have hm : (a ++ r).getD i default ∈ r := by
      rw [List.getD_eq_getElem?_getD, List.getElem?_append_right (by omega), ← List.getD_eq_getElem?_getD]
      rw [List.length_append] at hi
      exact getk_mem (by omega)
    obtain ⟨h1, h2⟩ := hr _ hm
    rw [nWord_new hb hp hi h1]
    exact h2
end Go.Proofs.YtfbbkjhdhjmpnaaGreat

set_option linter.unusedVariables false
set_option linter.unusedSimpArgs false
namespace Go.Proofs.YtfbbkjhdhjmpnaaGreat
/-- a text that is related to two, and is not too long -/
def Shows (t : GFst) (s : List UInt8) : Prop := ∃ o1 o2, o1 ≠ o2 ∧ Acc t s o1 ∧ Acc t s o2 ∧ s.length ≤ 2 * (t.States.toNat * t.States.toNat)
theorem shows_of {t : GFst} {n : Nat} {q : Box} {w w' u v : List UInt8} (h : BoxSem t n q w) (h1 : Fin t q.it.at'.1 w' u) (h2 : Fin t q.it.at'.2 w' v) (hne : q.it.lag.a ++ u ≠ q.it.lag.b ++ v) (hl : n ≤ t.States.toNat * t.States.toNat) (hl2 : w'.length ≤ t.States.toNat * t.States.toNat) : Shows t (w ++ w') := by
  obtain ⟨⟨c, r1, r2⟩, _, hw⟩ := h
  refine ⟨_, _, ?_, run_fin r1 h1, run_fin r2 h2, by rw [List.length_append]; omega⟩
  intro e
  rw [List.append_assoc, List.append_assoc] at e
  exact hne (List.append_cancel_left e)
structure LInv (F : Gfun_finder) (j : Nat) (g : Gfun_finder) : Prop where
  inv : FInv F g
  rsem : RSem F.t g.seen.length g.rows
  sseen : ∀ p k, aget g.seen p = some k → ∃ i : Nat, k = i ∧ i < j ∧ (nLag g.rows k).at' = p
  ends : ∀ i : Nat, i < j → ∀ x ∈ F.t.Ends, x.State = (nLag g.rows i).at'.1 → ∀ y ∈ F.t.Ends, y.State = (nLag g.rows i).at'.2 → (nLag g.rows i).lag.a ++ x.Out = (nLag g.rows i).lag.b ++ y.Out
  seen : ∀ i : Nat, i < j → ∃ k, aget g.seen (nLag g.rows i).at' = some k ∧ (nLag g.rows k).lag = (nLag g.rows i).lag
  clo : ∀ p k, aget g.seen p = some k → ∀ x ∈ F.t.Arcs, x.From = p.1 → ∀ y ∈ F.t.Arcs, y.From = p.2 → ∀ c : UInt8, x.Set.has c.toNat = true → y.Set.has c.toNat = true → (aget F.on' (x.To, y.To)).isSome = true → ∃ i : Nat, i < g.rows.length ∧ nLag g.rows i = ⟨(x.To, y.To), lagL ((nLag g.rows k).lag.a ++ fOutB x c) ((nLag g.rows k).lag.b ++ fOutB y c)⟩
  strt : ∀ x ∈ F.t.Starts, ∀ y ∈ F.t.Starts, (aget F.on' (x.State, y.State)).isSome = true → ∃ i : Nat, i < g.rows.length ∧ nLag g.rows i = ⟨(x.State, y.State), lagL x.Out y.Out⟩
  jle : j ≤ g.rows.length
variable {F : Gfun_finder}
/-- a finder that is made of its transducer -/
structure MadeOk (F : Gfun_finder) : Prop where
  go : GoOk F
  tl : TailsSem F F.on'
  frm : ∀ s : Int, 0 ≤ s → ∀ x, x ∈ F.from'.getD s.toNat default ↔ x ∈ F.t.Arcs ∧ x.From = s
  eds : ∀ s : Int, 0 ≤ s → ∀ u, u ∈ F.ends.getD s.toNat default ↔ ∃ x ∈ F.t.Ends, x.State = s ∧ x.Out = u
theorem LInv.sq {j : Nat} {g : Gfun_finder} (hM : MadeOk F) (h : LInv F j g) : g.seen.length ≤ F.t.States.toNat * F.t.States.toNat := by
  have := sq_len hM.go.ok.st h.inv.2.sn.1 h.inv.2.sn.2.1
  rw [keys_len] at this; exact this
theorem LInv.links {j : Nat} {g : Gfun_finder} (hM : MadeOk F) (h : LInv F j g) : LinksOk g.rows := h.inv.2.ok (by have := h.inv.small hM.go.ok.st; omega)
theorem nLag_nat (rows : List Box) (i : Nat) : nLag rows i = (rows.getD i default).it := rfl
theorem wrong_sem (hM : MadeOk F) {j : Nat} {g : Gfun_finder} (h : LInv F j g) (hj : j < g.rows.length) :
    ((nWrong g j).2 = true → Shows F.t (nWrong g j).1) ∧ ((nWrong g j).2 = false → (∀ k, aget g.seen (nLag g.rows j).at' = some k → (nLag g.rows k).lag = (nLag g.rows j).lag) ∧
      ∀ x ∈ F.t.Ends, x.State = (nLag g.rows j).at'.1 → ∀ y ∈ F.t.Ends, y.State = (nLag g.rows j).at'.2 → (nLag g.rows j).lag.a ++ x.Out = (nLag g.rows j).lag.b ++ y.Out) := by
  have hb := h.rsem j hj
  have hsq := h.sq hM
  obtain ⟨on, hon⟩ := aget_some (h.inv.2.at' j hj)
  have hO := hM.go.on _ _ hon
  have hT := hM.tl.sem _ _ hon
  have hTl := hM.tl.len _ _ hon
  have hInSq := hO.1
  unfold nWrong
  rw [h.inv.1.2.2.2, h.inv.1.2.2.1]
  change aget F.on' (nLag g.rows j).at' = some on at hon
  change Fin F.t (nLag g.rows j).at'.1 _ _ ∧ Fin F.t (nLag g.rows j).at'.2 _ _ at hT
  change InSq _ (nLag g.rows j).at' at hInSq
  dsimp only
  rw [hon]
  dsimp only [Option.getD_some]
  by_cases c1 : (nLag g.rows j).lag.a ++ on.a ≠ (nLag g.rows j).lag.b ++ on.b
  · rw [if_pos c1]
    exact ⟨fun _ => shows_of hb hT.1 hT.2 c1 hsq hTl, fun q => by simp at q⟩
  · rw [if_neg c1]
    have c1' : (nLag g.rows j).lag.a ++ on.a = (nLag g.rows j).lag.b ++ on.b := Classical.not_not.1 c1
    by_cases c2 : (aget g.seen (nLag g.rows j).at').isSome = true ∧ (nLag g.rows ((aget g.seen (nLag g.rows j).at').getD 0)).lag ≠ (nLag g.rows j).lag
    · rw [if_pos c2]
      refine ⟨fun _ => ?_, fun q => by simp at q⟩
      obtain ⟨k, hk⟩ := aget_some c2.1
      rw [hk] at c2 ⊢
      dsimp only [Option.getD_some] at c2 ⊢
      obtain ⟨i, rfl, hi, hat⟩ := h.sseen _ _ hk
      have hbi := h.rsem i (by omega)
      rw [← hat] at hT
      refine shows_of hbi hT.1 hT.2 (fun e => ?_) hsq hTl
      exact c2.2 (lag_uniq hbi.2.1 hb.2.1 e c1')
    · rw [if_neg c2]
      have hu : ∀ k, aget g.seen (nLag g.rows j).at' = some k → (nLag g.rows k).lag = (nLag g.rows j).lag := fun k hk => by
        rw [hk] at c2
        exact Classical.byContradiction fun q => c2 ⟨rfl, q⟩
      split <;> rename_i c3
      · refine ⟨fun _ => ?_, fun q => by simp at q⟩
        rw [List.any_eq_true] at c3
        obtain ⟨u, hu1, hv⟩ := c3
        rw [List.any_eq_true] at hv
        obtain ⟨v, hv1, hne⟩ := hv
        obtain ⟨x, hx, hx1, rfl⟩ := (hM.eds _ hInSq.1.1 _).1 hu1
        obtain ⟨y, hy, hy1, rfl⟩ := (hM.eds _ hInSq.2.1 _).1 hv1
        have hne' : (nLag g.rows j).lag.a ++ x.Out ≠ (nLag g.rows j).lag.b ++ y.Out := by simpa using hne
        have := shows_of (w' := []) (u := x.Out) (v := y.Out) hb ⟨x, hx, hx1, rfl⟩ ⟨y, hy, hy1, rfl⟩ hne' hsq (Nat.zero_le _)
        rw [List.append_nil] at this
        exact this
      · refine ⟨fun q => by simp at q, fun _ => ⟨hu, fun x hx hx1 y hy hy1 => ?_⟩⟩
        refine Classical.byContradiction fun hne => c3 ?_
        rw [List.any_eq_true]
        refine ⟨x.Out, (hM.eds _ hInSq.1.1 _).2 ⟨x, hx, hx1, rfl⟩, ?_⟩
        rw [List.any_eq_true]
        exact ⟨y.Out, (hM.eds _ hInSq.2.1 _).2 ⟨y, hy, hy1, rfl⟩, by simpa using hne⟩
theorem LInv.skip {j : Nat} {g : Gfun_finder} (h : LInv F j g) (hj : j < g.rows.length) (h1 : ∃ k, aget g.seen (nLag g.rows j).at' = some k ∧ (nLag g.rows k).lag = (nLag g.rows j).lag)
    (h2 : ∀ x ∈ F.t.Ends, x.State = (nLag g.rows j).at'.1 → ∀ y ∈ F.t.Ends, y.State = (nLag g.rows j).at'.2 → (nLag g.rows j).lag.a ++ x.Out = (nLag g.rows j).lag.b ++ y.Out) : LInv F (j + 1) g := by
  refine ⟨h.inv, h.rsem, fun p k hk => ?_, fun i hi => ?_, fun i hi => ?_, h.clo, h.strt, hj⟩
  · obtain ⟨i, e, hi, q⟩ := h.sseen p k hk
    exact ⟨i, e, by omega, q⟩
  · rcases Nat.lt_succ_iff_lt_or_eq.1 hi with q | rfl
    · exact h.ends i q
    · exact h2
  · rcases Nat.lt_succ_iff_lt_or_eq.1 hi with q | rfl
    · exact h.seen i q
    · exact h1
theorem LInv.go (hM : MadeOk F) {j : Nat} {g : Gfun_finder} (h : LInv F j g) (hj : j < g.rows.length) (hn : ¬ (aget g.seen (nLag g.rows j).at').isSome = true)
    (h2 : ∀ x ∈ F.t.Ends, x.State = (nLag g.rows j).at'.1 → ∀ y ∈ F.t.Ends, y.State = (nLag g.rows j).at'.2 → (nLag g.rows j).lag.a ++ x.Out = (nLag g.rows j).lag.b ++ y.Out) : LInv F (j + 1) (nGo j g) := by
  obtain ⟨k1, k2, k3⟩ := nGo_ok hM.go h.inv hj hn
  have hadd := nGo_add (g := g) hj
  rw [h.inv.1.2.1, h.inv.1.2.2.2] at hadd
  obtain ⟨x0, hx0⟩ := aget_some (h.inv.2.at' j hj)
  have hInSq : InSq F.t.States (nLag g.rows j).at' := (hM.go.on _ _ hx0).1
  have hL := k1.2.ok (by have := k1.small hM.go.ok.st; omega)
  have erows : (nGo j g).rows = g.rows ++ news F.from' F.on' (nLag g.rows j) j := by rw [hadd]; rfl
  have eseen : (nGo j g).seen = aput g.seen (nLag g.rows j).at' j := by rw [hadd]; rfl
  have lagE : ∀ i : Int, 0 ≤ i → i < g.rows.length → nLag (nGo j g).rows i = nLag g.rows i := fun i h0 h1 => nLag_pre k3 h0 h1
  have lagN : ∀ q ∈ news F.from' F.on' (nLag g.rows j) j, ∃ i : Nat, i < (nGo j g).rows.length ∧ nLag (nGo j g).rows i = q.it := fun q hq => by
    obtain ⟨i, hi, e⟩ := List.getElem_of_mem hq
    refine ⟨g.rows.length + i, by rw [erows, List.length_append]; omega, ?_⟩
    rw [nLag_nat, erows, List.getD_eq_getElem?_getD, List.getElem?_append_right (by omega), Nat.add_sub_cancel_left, List.getElem?_eq_getElem hi, e]; rfl
  have hsl : (nGo j g).seen.length = g.seen.length + 1 := k2
  refine ⟨k1, ?_, fun p k hk => ?_, fun i hi => ?_, fun i hi => ?_, fun p k hk x hx ex y hy ey c cx cy hon => ?_, fun x hx y hy hon => ?_, by have := k3.length_le; omega⟩
  · rw [erows, hsl]
    refine h.rsem.add (by omega) (by rw [← erows]; exact hL) fun q hq => ?_
    obtain ⟨x, hx, y, hy, hq⟩ := mem_news.1 hq
    obtain ⟨b, ⟨bx, bY⟩, _, rfl⟩ := mem_newsB.1 hq
    obtain ⟨mx, ex⟩ := (hM.frm _ hInSq.1.1 _).1 hx
    obtain ⟨my, ey⟩ := (hM.frm _ hInSq.2.1 _).1 hy
    obtain ⟨⟨c, r1, r2⟩, r3, r4⟩ := h.rsem j hj
    change Run F.t (nLag g.rows j).at'.1 _ (c ++ (nLag g.rows j).lag.a) at r1
    change Run F.t (nLag g.rows j).at'.2 _ (c ++ (nLag g.rows j).lag.b) at r2
    rw [← ex] at r1
    rw [← ey] at r2
    refine ⟨by dsimp only; omega, ?_⟩
    unfold boxW
    dsimp only
    rw [if_pos (by omega)]
    obtain ⟨d, e1, e2⟩ := lag_split ((nLag g.rows j).lag.a ++ fOutB x b) ((nLag g.rows j).lag.b ++ fOutB y b)
    refine ⟨⟨c ++ d, ?_, ?_⟩, lag_red _ _, by rw [List.length_append, List.length_singleton]; omega⟩
    · have := run_step mx bx r1
      rw [List.append_assoc, e1, ← List.append_assoc] at this
      exact this
    · have := run_step my bY r2
      rw [List.append_assoc, e2, ← List.append_assoc] at this
      exact this
  · rw [eseen, aget_put] at hk
    split at hk
    · rename_i e
      cases hk
      exact ⟨j, rfl, by omega, by rw [lagE j (by omega) (by omega)]; exact e.symm⟩
    · obtain ⟨i, rfl, hi, q⟩ := h.sseen p k hk
      exact ⟨i, rfl, by omega, by rw [lagE i (by omega) (by omega)]; exact q⟩
  · rw [lagE i (by omega) (by omega)]
    rcases Nat.lt_succ_iff_lt_or_eq.1 hi with q | rfl
    · exact h.ends i q
    · exact h2
  · rw [lagE i (by omega) (by omega), eseen]
    rcases Nat.lt_succ_iff_lt_or_eq.1 hi with q | rfl
    · obtain ⟨k, hk, hl⟩ := h.seen i q
      obtain ⟨i', rfl, hi', hat⟩ := h.sseen _ _ hk
      refine ⟨i', ?_, by rw [lagE i' (by omega) (by omega)]; exact hl⟩
      rw [aget_put, if_neg (fun e => hn (by rw [← e, hk]; rfl))]
      exact hk
    · exact ⟨i, by rw [aget_put, if_pos rfl], by rw [lagE i (by omega) (by omega)]⟩
  · rw [eseen, aget_put] at hk
    split at hk
    · rename_i e
      cases hk
      rw [lagE j (by omega) (by omega)]
      subst e
      have hq : (⟨⟨(x.To, y.To), lagL ((nLag g.rows j).lag.a ++ fOutB x c) ((nLag g.rows j).lag.b ++ fOutB y c)⟩, (j : Int), c⟩ : Box) ∈ news F.from' F.on' (nLag g.rows j) j :=
        mem_news.2 ⟨x, (hM.frm _ hInSq.1.1 _).2 ⟨hx, ex⟩, y, (hM.frm _ hInSq.2.1 _).2 ⟨hy, ey⟩, mem_newsB.2 ⟨c, ⟨cx, cy⟩, hon, rfl⟩⟩
      exact lagN _ hq
    · obtain ⟨i', rfl, hi', hat⟩ := h.sseen _ _ hk
      rw [lagE i' (by omega) (by omega)]
      obtain ⟨i, hi, e⟩ := h.clo p i' hk x hx ex y hy ey c cx cy hon
      exact ⟨i, by have := k3.length_le; omega, by rw [lagE i (by omega) (by omega)]; exact e⟩
  · obtain ⟨i, hi, e⟩ := h.strt x hx y hy hon
    exact ⟨i, by have := k3.length_le; omega, by rw [lagE i (by omega) (by omega)]; exact e⟩
theorem find_sem (hM : MadeOk F) : ∀ (n : Nat) {j : Nat} {g : Gfun_finder}, nMu g j < n → LInv F j g → ((nFindAt j g).2 = true → Shows F.t (nFindAt j g).1) ∧ ((nFindAt j g).2 = false → (nFindAt j g).1 = [] ∧ ∃ g', LInv F g'.rows.length g')
  | 0, _, _, h, _ => absurd h (Nat.not_lt_zero _)
  | n + 1, j, g, hn, h => by
    rw [nFindAt_eq hM.go h.inv j]
    by_cases hj : j < g.rows.length
    · rw [if_pos hj]
      obtain ⟨w1, w2⟩ := wrong_sem hM h hj
      by_cases hw : (nWrong g j).2 = true
      · rw [if_pos hw]
        exact ⟨fun _ => w1 hw, fun q => by simp at q⟩
      · rw [if_neg hw]
        obtain ⟨v1, v2⟩ := w2 (by simpa using hw)
        by_cases hs : (aget g.seen (nLag g.rows j).at').isSome = true
        · rw [if_pos hs]
          have : nMu g (j + 1) < nMu g j := by unfold nMu; omega
          obtain ⟨k, hk⟩ := aget_some hs
          exact find_sem hM n (by omega) (h.skip hj ⟨k, hk, v1 k hk⟩ v2)
        · rw [if_neg hs]
          have := nMu_go hM.go h.inv hj hs
          exact find_sem hM n (by omega) (h.go hM hj hs v2)
    · rw [if_neg hj]
      refine ⟨fun q => by simp at q, fun _ => ⟨rfl, g, ?_⟩⟩
      have : j = g.rows.length := by have := h.jle; omega
      rw [← this]; exact h
/-- what is found: nothing only if each text is related to one at most -/
theorem found_none (hM : MadeOk F) {g : Gfun_finder} (h : LInv F g.rows.length g) {w : List UInt8} : ∀ {s1 s2 : Int} {A B : List UInt8}, Run F.t s1 w A → Run F.t s2 w B → (aget F.on' (s1, s2)).isSome = true → ∃ i : Nat, i < g.rows.length ∧ nLag g.rows i = ⟨(s1, s2), lagL A B⟩ := by
  refine @snocInd (fun w => ∀ {s1 s2 : Int} {A B : List UInt8}, Run F.t s1 w A → Run F.t s2 w B → (aget F.on' (s1, s2)).isSome = true → ∃ i : Nat, i < g.rows.length ∧ nLag g.rows i = ⟨(s1, s2), lagL A B⟩) (fun {s1 s2 A B} h1 h2 hon => ?_) (fun w c ih {s1 s2 A B} h1 h2 hon => ?_) w
  · exact h.strt _ (run_nil.1 h1) _ (run_nil.1 h2) hon
  · obtain ⟨x, hx, rfl, cx, A', hA, rfl⟩ := run_snoc.1 h1
    obtain ⟨y, hy, rfl, cy, B', hB, rfl⟩ := run_snoc.1 h2
    obtain ⟨z, hz⟩ := aget_some hon
    have hT := hM.tl.sem _ _ hz
    have hp := hM.tl.all (c :: z.w) (x.From, y.From) _ _ ⟨x, hx, rfl, cx, z.a, hT.1, rfl⟩ ⟨y, hy, rfl, cy, z.b, hT.2, rfl⟩
    obtain ⟨i, hi, e⟩ := ih hA hB hp
    obtain ⟨k, hk, hl⟩ := h.seen i hi
    rw [e] at hk hl
    obtain ⟨i', hi', e'⟩ := h.clo _ k hk x hx rfl y hy rfl c cx cy hon
    refine ⟨i', hi', ?_⟩
    rw [e', hl]
    dsimp only
    rw [← lag_step rfl]
theorem found_uniq (hM : MadeOk F) {g : Gfun_finder} (h : LInv F g.rows.length g) {w o1 o2 : List UInt8} (h1 : Acc F.t w o1) (h2 : Acc F.t w o2) : o1 = o2 := by
  obtain ⟨s1, A, u, r1, ⟨x, hx, ex, rfl⟩, rfl⟩ := h1
  obtain ⟨s2, B, v, r2, ⟨y, hy, ey, rfl⟩, rfl⟩ := h2
  have hon := hM.tl.all [] (s1, s2) _ _ ⟨x, hx, ex, rfl⟩ ⟨y, hy, ey, rfl⟩
  obtain ⟨i, hi, e⟩ := found_none hM h r1 r2 hon
  have := h.ends i hi x hx (by rw [e]; exact ex) y hy (by rw [e]; exact ey)
  rw [e] at this
  dsimp only at this
  obtain ⟨c, e1, e2⟩ := lag_split A B
  generalize lagL A B = l at *
  rw [e1, e2, List.append_assoc, List.append_assoc, this]
/-! ## from the start -/
theorem made_ok {T : GFst} (hF : FdrOk T (nFrom T.States T.Arcs) (nEnds T.States T.Ends)) : MadeOk (nPre (nFdr T)) ∧ (nPre (nFdr T)).t = T := by
  have hG := nPre_go (f := nFdr T) rfl hF
  have ht : (nPre (nFdr T)).t = T := hG.2.1
  have hS := tails_sem (f := nClr (nFdr T)) hF
  refine ⟨⟨hG.1, ⟨?_, ?_, ?_⟩, fun s hs x => ?_, fun s hs u => ?_⟩, ht⟩
  · have := hS.sem; unfold TlSem at this ⊢; rw [ht]; exact this
  · rw [ht]; exact hS.all
  · rw [ht]; exact hS.len
  · rw [hG.2.2.1, ht]; exact mem_nFrom (fun x hx => (hF.arcs.2 x hx).1) hs
  · rw [hG.2.2.2.1, ht]; exact mem_nEnds (fun x hx => (hF.eds.2 x hx).1) hs
theorem begin_inv {T : GFst} (hF : FdrOk T (nFrom T.States T.Arcs) (nEnds T.States T.Ends)) : LInv (nPre (nFdr T)) 0 (nBegin (nFdr T)) := by
  obtain ⟨hM, ht⟩ := made_ok hF
  have hB := nBegin_ok (f := nFdr T) rfl hF
  have hG := nPre_go (f := nFdr T) rfl hF
  have hadd : nBegin (nFdr T) = addR (nPre (nFdr T)) (firsts (nPre (nFdr T)).t (nPre (nFdr T)).on') := nFirst_add
  have erows : (nBegin (nFdr T)).rows = firsts (nPre (nFdr T)).t (nPre (nFdr T)).on' := by
    rw [hadd]; show (nPre (nFdr T)).rows ++ _ = _; rw [hG.2.2.2.2.1]; rfl
  have hB' : FInv (nPre (nFdr T)) (nBegin (nFdr T)) := ⟨hB.same, hB.fit.mono (by omega)⟩
  have hs := hB.seen
  generalize nPre (nFdr T) = F at *
  generalize nBegin (nFdr T) = g at *
  have memF : ∀ q, q ∈ firsts F.t F.on' ↔ ∃ x ∈ F.t.Starts, ∃ y ∈ F.t.Starts, q ∈ pushed F.on' (x.State, y.State) x.Out y.Out (-1) 0 := fun q => by
    unfold firsts
    rw [List.mem_flatMap]
    exact ⟨fun ⟨x, hx, hq⟩ => ⟨x, hx, List.mem_flatMap.1 hq⟩, fun ⟨x, hx, hq⟩ => ⟨x, hx, List.mem_flatMap.2 hq⟩⟩
  have hL : LinksOk g.rows := hB'.2.ok (by have := hB'.small hM.go.ok.st; omega)
  refine ⟨hB', ?_, fun p k hk => ?_, fun i hi => by omega, fun i hi => by omega, fun p k hk => ?_, fun x hx y hy hon => ?_, Nat.zero_le _⟩
  · have h0 : RSem F.t 0 [] := fun i hi => by simp at hi
    have : RSem F.t 0 ([] ++ g.rows) := by
      intro i hi
      have hm : g.rows.getD i default ∈ firsts F.t F.on' := by rw [← erows]; exact getk_mem hi
      obtain ⟨x, hx, y, hy, hq⟩ := (memF _).1 hm
      obtain ⟨_, hq⟩ := mem_pushed.1 hq
      rw [List.nil_append]
      have hw : nWord g.rows i = [] := by
        have := wordK_step hL (i := (i : Int)) (by omega) (by rw [List.nil_append] at hi; omega) []
        unfold nWord
        rw [this, show ((i : Int)).toNat = i by omega, hq, if_neg (by show ¬ (0 : Int) ≤ -1; decide)]
      rw [hw, hq]
      obtain ⟨c, e1, e2⟩ := lag_split x.Out y.Out
      refine ⟨⟨c, ?_, ?_⟩, lag_red _ _, Nat.le_refl _⟩
      · rw [← e1]; exact run_nil.2 hx
      · rw [← e2]; exact run_nil.2 hy
    rw [hs]; exact this
  · rw [hs] at hk; simp [aget] at hk
  · rw [hs] at hk; simp [aget] at hk
  · have hq : (⟨⟨(x.State, y.State), lagL x.Out y.Out⟩, -1, 0⟩ : Box) ∈ g.rows := by
      rw [erows]; exact (memF _).2 ⟨x, hx, y, hy, mem_pushed.2 ⟨hon, rfl⟩⟩
    obtain ⟨i, hi, e⟩ := List.getElem_of_mem hq
    exact ⟨i, hi, by rw [nLag_nat, getk hi, e]⟩
theorem nFind_sem {T : GFst} (hF : FdrOk T (nFrom T.States T.Arcs) (nEnds T.States T.Ends)) : ((nFind (nFdr T)).2 = true → Shows T (nFind (nFdr T)).1) ∧ ((nFind (nFdr T)).2 = false → (nFind (nFdr T)).1 = [] ∧ ∀ w o1 o2, Acc T w o1 → Acc T w o2 → o1 = o2) := by
  obtain ⟨hM, ht⟩ := made_ok hF
  have := find_sem hM _ (Nat.lt_succ_self _) (begin_inv hF)
  rw [← nFind_at, ht] at this
  refine ⟨this.1, fun q => ⟨(this.2 q).1, fun w o1 o2 h1 h2 => ?_⟩⟩
  obtain ⟨g, hg⟩ := (this.2 q).2
  exact found_uniq hM hg (by rw [ht]; exact h1) (by rw [ht]; exact h2)
end Go.Proofs.YtfbbkjhdhjmpnaaGreat

set_option linter.unusedVariables false
set_option linter.unusedSimpArgs false
namespace Go.Proofs.YtfbbkjhdhjmpnaaGreat
theorem nTwo_cases (t : GFst) : ((nTwo t).2.2 ≠ 0 ∧ (nTwo t).1 = [] ∧ (nTwo t).2.1 = false) ∨ ((pTrim t).2 = 0 ∧ ¬ 32 < (pTrim t).1.States ∧ nTwo t = ((nFind (nFdr (pTrim t).1)).1, (nFind (nFdr (pTrim t).1)).2, 0)) := by
  unfold nTwo
  by_cases h1 : (pTrim t).2 = 0
  · rw [if_neg (show ¬ (pTrim t).2 ≠ 0 by simp [h1])]
    by_cases h2 : 32 < (pTrim t).1.States
    · rw [if_pos h2]; exact .inl ⟨by decide, rfl, rfl⟩
    · rw [if_neg h2]; exact .inr ⟨h1, h2, rfl⟩
  · rw [if_pos h1]; exact .inl ⟨h1, rfl, rfl⟩
theorem fOuts_cases {t : GFst} (hR : fRight t = true) (w : List UInt8) : (fOuts t w).2 = 2 ∨ fOuts t w = (ordL cmpS (fOutRaw t (fReach t w)), 0) := by
  unfold fOuts
  rw [if_pos hR]
  split
  · exact .inl rfl
  · split
    · exact .inl rfl
    · exact .inr rfl
theorem outs_uniq {l : List (List UInt8)} (h : ∀ a ∈ l, ∀ b ∈ l, a = b) : (ordL cmpS l).length ≤ 1 := by
  have hr := ordL_rises linS.tot l
  have hm : ∀ x ∈ ordL cmpS l, x ∈ l := fun x hx => mem_ordL.1 hx
  generalize ordL cmpS l = o at *
  match o, hr, hm with
  | [], _, _ => simp
  | [a], _, _ => simp
  | a :: b :: o, hr, hm =>
    have e := h a (hm a (by simp)) b (hm b (by simp))
    subst e
    have h1 := (List.pairwise_cons.1 hr).1 a (by simp)
    exact absurd ((linS.eq0 a a).2 rfl) (by omega)
theorem outs_two {l : List (List UInt8)} {a b : List UInt8} (ha : a ∈ l) (hb : b ∈ l) (hne : a ≠ b) : 1 < (ordL cmpS l).length := by
  have h1 : a ∈ ordL cmpS l := mem_ordL.2 ha
  have h2 : b ∈ ordL cmpS l := mem_ordL.2 hb
  generalize ordL cmpS l = o at *
  match o, h1, h2 with
  | [], h1, _ => simp at h1
  | [c], h1, h2 =>
    rw [List.mem_singleton] at h1 h2
    exact absurd (h1.trans h2.symm) hne
  | c :: d :: o, _, _ => simp
theorem lFunShows_wp {t : GFst} {w : List UInt8} (hp : fSane t) : wp_lFunShows t w (fun r0 => r0 = true) := by
  refine ⟨hp, ?_⟩
  split <;> rename_i h
  · rfl
  · have hs : f19Few t = true := by
      cases h9 : f19Few t
      · simp [h9] at h
      · rfl
    have ha := few19_arcs hs
    refine ⟨by omega, ?_⟩
    rcases nTwo_cases t with ⟨q1, q2, q3⟩ | ⟨h1, h2, e⟩
    · rw [if_pos (by simpa using q1), q2, q3]; rfl
    · have hF := (fdr_ok (t := t) (by omega) h1 h2).1
      have hst := hF.st
      have hsem := nFind_sem hF
      have hR := (pTrim_right h1).1
      rw [e]
      dsimp only
      rw [if_neg (by simp)]
      split <;> rename_i c2
      · rcases fOuts_cases hR w with q | q
        · rw [q]; rfl
        · rw [q] at c2; simp [h1] at c2
      · have hq : fOuts t w = (ordL cmpS (fOutRaw t (fReach t w)), 0) := by
          rcases fOuts_cases hR w with q | q
          · rw [q] at c2; simp at c2
          · exact q
        cases c3 : (nFind (nFdr (pTrim t).1)).2 with
        | false =>
          obtain ⟨e1, e2⟩ := hsem.2 c3
          rw [if_pos (by rfl), e1, hq]
          have := outs_uniq (l := fOutRaw t (fReach t w)) fun a ha b hb => e2 w a b ((acc_trim h1).2 (acc_raw.2 ha)) ((acc_trim h1).2 (acc_raw.2 hb))
          simp only [Bool.and_eq_true, decide_eq_true_eq]
          exact ⟨trivial, by omega⟩
        | true =>
          obtain ⟨o1, o2, hne, a1, a2, hl⟩ := hsem.1 c3
          rw [if_neg (by decide)]
          generalize (nFind (nFdr (pTrim t).1)).1 = s at *
          obtain ⟨n, hn⟩ := Int.eq_ofNat_of_zero_le hst.1
          rw [hn] at hst hl ⊢
          rw [Int.toNat_natCast] at hl
          have hn32 : n ≤ 32 := by omega
          have hnn : n * n ≤ 32 * 32 := Nat.mul_le_mul hn32 hn32
          have e3 : 3 * (n : Int) * (n : Int) = ((3 * (n * n) : Nat) : Int) := by
            rw [Int.mul_assoc]; simp
          rw [e3]
          refine ⟨⟨by omega, by omega⟩, ⟨by omega, by omega⟩, ?_⟩
          have hd : decide ((s.length : Int) ≤ ((3 * (n * n) : Nat) : Int)) = true := decide_eq_true (by omega)
          rw [hd, Bool.true_and]
          rcases fOuts_cases hR s with q | q
          · rw [q]; rfl
          · have := outs_two (acc_raw.1 ((acc_trim h1).1 a1)) (acc_raw.1 ((acc_trim h1).1 a2)) hne
            rw [q]
            simp only [Bool.or_eq_true, Bool.and_eq_true, decide_eq_true_eq]
            exact .inr ⟨trivial, by omega⟩
end Go.Proofs.YtfbbkjhdhjmpnaaGreat
