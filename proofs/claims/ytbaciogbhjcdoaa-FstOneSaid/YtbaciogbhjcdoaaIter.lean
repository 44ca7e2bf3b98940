/- Ranging over a table, in any order. No condition. -/
import Derived.Test.YtbaciogbhjcdoaaSep7
import Derived.Maps.RangeRun
set_option linter.unusedSimpArgs false
set_option linter.unusedVariables false
namespace Go.Proofs.Ytbaciogbhjcdoaa
open Go.ChangeMaps (setBlock)
/-- the table's block, as it stands -/
def tblE (b : Nat) (es : Array MapEntry) (clock : Nat) : As :=
  ⟨fun H _ D => H[b]? = some (.map es clock) ∧ ∀ x, D x ↔ x = b, fun ⟨h1, h2⟩ hb _ => ⟨(hb b (.inl ((h2 b).2 rfl)) (Array.getElem?_eq_some_iff.1 h1).1).trans h1, h2⟩⟩
/-- as long as L stands, block b is this table -/
def TE (L : List As) (b : Nat) (es : Array MapEntry) (clock : Nat) : Prop := ∀ H Z, Own H Z L → H[b]? = some (.map es clock)
/-- births -/
def Brn (es : Array MapEntry) (clock : Nat) : Prop := (es.toList.map (·.born)).Nodup ∧ ∀ x ∈ es.toList, x.born < clock
/-- a walk over a table: what is left, what came last -/
def itr (r b : Nat) (es : Array MapEntry) (clock : Nat) (rem : List MapEntry) (last : Option MapEntry) : As :=
  ⟨fun H _ D => (∃ seen c0, H[r]? = some (.mapIter (some b) clock seen c0) ∧ clock ≤ c0 ∧ (leftOf es seen).toList = rem ∧ ∀ e, last = some e → e ∈ es.toList ∧ ∃ s : Array Nat, seen = s.push e.born ∧ c0 = clock) ∧ ∀ x, D x ↔ x = r,
    fun ⟨⟨seen, c0, h1, h3⟩, h2⟩ hb _ => ⟨⟨seen, c0, (hb r (.inl ((h2 r).2 rfl)) (Array.getElem?_eq_some_iff.1 h1).1).trans h1, h3⟩, h2⟩⟩
section
variable {P : Program} {N : Sz} {f : Frm} {H : Heap} {Z : Nat → Prop} {L : List As} {t kt e ty : TypeId} {x : Operand} {b r i : Nat} {es : Array MapEntry} {clock : Nat} {rem : List MapEntry} {last : Option MapEntry}
theorem Own.tblE {K V : Type} {ke : K → Value} {ve : V → Value} {l : List (K × V)} (h : Own H Z L) (hi : L[i]? = some (Go.Proofs.Ytbaciogbhjcdoaa.tbl ke ve b l)) : ∃ es clock, es.toList.map (fun e => (e.key, e.val)) = (l.map fun p => (ke p.1, ve p.2)) ∧ Brn es clock ∧ Own H Z (L.set i (Go.Proofs.Ytbaciogbhjcdoaa.tblE b es clock)) := by
  obtain ⟨D, ⟨⟨es, clock, k1, k2, k3⟩, h3⟩, _, h5⟩ := h.upd hi
  exact ⟨es, clock, k2, k3, h5 (D' := D) ⟨k1, h3⟩ (fun b hb => .inl hb) (Nat.le_refl _) fun _ _ _ => rfl⟩
theorem Own.tblB {K V : Type} {ke : K → Value} {ve : V → Value} {l : List (K × V)} (h : Own H Z L) (hi : L[i]? = some (Go.Proofs.Ytbaciogbhjcdoaa.tblE b es clock)) (he : es.toList.map (fun e => (e.key, e.val)) = (l.map fun p => (ke p.1, ve p.2))) (hB : Brn es clock) : Own H Z (L.set i (Go.Proofs.Ytbaciogbhjcdoaa.tbl ke ve b l)) := by
  obtain ⟨D, ⟨k1, h3⟩, _, h5⟩ := h.upd hi
  exact h5 (D' := D) ⟨⟨es, clock, k1, he, hB⟩, h3⟩ (fun b hb => .inl hb) (Nat.le_refl _) fun _ _ _ => rfl
theorem TE.of (hi : L[i]? = some (tblE b es clock)) : TE L b es clock := fun H Z h => by obtain ⟨D, h1, _⟩ := h.get hi; exact h1.1
theorem TE.tails (Ls : List As) (h : TE L b es clock) : TE (Ls ++ L) b es clock := fun H Z hO => h H Z (hO.tails Ls)
theorem o_range (hO : Own H Z L) (hm : H[b]? = some (.map es clock)) (ht : P.underlying t = some (.map kt e)) (hx : ev f x = some (.map (some b))) : OpH P N (.range t x) ty f H (fun v H' => ∃ r, v = ptr r 0 ∧ Own H' Z (itr r b es clock es.toList none :: L)) := by
  intro a w hf hH
  subst hH
  have hxt : Ext [] w.heap (w.heap.push (.mapIter (some b) clock #[] clock)) := ⟨by simp, fun b hb _ => by rw [Array.getElem?_push, if_neg (by omega)]⟩
  simp only [opx, execOp, hf.ev hx, Instr.range, Sem.run_bind, run_underlying ht, Result.andThen_ok, run_getObj_map hm, Sem.run_pure, newObj]
  refine ⟨⟨rfl, rfl, rfl, hxt.keep, Nat.le_refl _⟩, w.heap.size, rfl, hO.add hxt (D' := fun x => x = w.heap.size) ⟨⟨#[], clock, by simp, Nat.le_refl _, ?_, fun e h => by cases h⟩, fun _ => Iff.rfl⟩ fun b hb => by subst hb; simp⟩
  unfold leftOf; simp
theorem left_push {seen : Array Nat} {e : MapEntry} : (leftOf es (seen.push e.born)).toList = (leftOf es seen).toList.filter fun x => decide (x.born ≠ e.born) := by
  unfold leftOf
  rw [Array.toList_filter, Array.toList_filter, List.filter_filter]
  congr 1
  funext x
  rw [Array.contains_push]
  cases seen.contains x.born <;> by_cases h : x.born = e.born <;> simp [h]
theorem o_next (hO : Own H Z L) (hi : L[i]? = some (itr r b es clock rem last)) (hm : H[b]? = some (.map es clock)) (hB : Brn es clock) (hx : ev f x = some (ptr r 0)) :
    OpH P N (.next x false) ty f H (fun v H' => (rem = [] ∧ v = .tuple #[.bool false] ∧ Own H' Z L) ∨ ∃ e ∈ rem, v = .tuple #[.bool true, e.key, e.val] ∧ Own H' Z (L.set i (itr r b es clock (rem.filter fun x => decide (x.born ≠ e.born)) (some e)))) := by
  intro a w hf hH
  subst hH
  obtain ⟨D, ⟨⟨seen, c0, k1, k2, k3, _⟩, h3⟩, h4, h5⟩ := hO.upd hi
  simp only [opx, execOp, hf.ev hx]
  rcases run_next_at (P := P) w ty r b clock c0 seen es clock k1 hm hB.2 k2 with ⟨hz, hr⟩ | ⟨e, he, w1, hw1, hr⟩
  · rw [show ptr r 0 = Value.pointer (some ⟨r, 0, none⟩) from rfl, Sem.run_bind, hr]
    have : rem = [] := by rw [← k3]; exact List.eq_nil_of_length_eq_zero (by simpa using hz)
    exact ⟨.refl _, .inl ⟨this, rfl, hO⟩⟩
  · rw [show ptr r 0 = Value.pointer (some ⟨r, 0, none⟩) from rfl, Sem.run_bind, hr]
    have hlt := (Array.getElem?_eq_some_iff.1 k1).1
    have hh : (setBlock w1 r (.mapIter (some b) clock (seen.push e.born) clock)).heap = w.heap.setIfInBounds r (.mapIter (some b) clock (seen.push e.born) clock) := by
      rcases hw1 with rfl | rfl <;> rfl
    have hmem : e ∈ es.toList := by
      unfold leftOf at he; rw [Array.toList_filter] at he; exact (List.mem_filter.1 he).1
    refine ⟨⟨by rcases hw1 with rfl | rfl <;> rfl, by rcases hw1 with rfl | rfl <;> rfl, by rcases hw1 with rfl | rfl <;> rfl, ?_, by rcases hw1 with rfl | rfl <;> first | exact Nat.le_refl _ | exact Nat.le_succ _⟩, .inr ⟨e, by rw [← k3]; exact he, rfl, ?_⟩⟩
    · intro B o hB ho
      rw [hh, Array.getElem?_setIfInBounds]
      split
      · rename_i q; subst q; rw [k1] at hB; cases hB; exact ho.elim
      · exact hB
    · rw [hh]
      refine h5 (D' := D) ⟨⟨seen.push e.born, clock, by simp [hlt], Nat.le_refl _, by rw [left_push, k3], fun e' h => by cases h; exact ⟨hmem, seen, rfl, rfl⟩⟩, h3⟩ (fun b hb => .inl hb) (by simp) fun q hq hnd => ?_
      rw [Array.getElem?_setIfInBounds, if_neg (fun h => hnd ((h3 q).2 h.symm))]
theorem v_entry {e : MapEntry} (hO : Own H Z L) (hi : L[i]? = some (itr r b es clock rem (some e))) (hm : H[b]? = some (.map es clock)) (hB : Brn es clock) (hx : ev f x = some (ptr r 0)) : OpV P N (.entry x) ty f H (.tuple #[e.key, e.val]) := by
  intro a w hf hH
  subst hH
  obtain ⟨D, ⟨⟨seen, c0, k1, k2, k3, k4⟩, h3⟩, _⟩ := hO.get hi
  obtain ⟨h6, s, rfl, hc⟩ := k4 e rfl
  rw [hc] at k1
  simp only [opx, execOp, hf.ev hx]
  exact quiet_pure (run_entry_at (P := P) w r b clock s es clock e k1 hm h6 hB.1)
end
/-! ## in plain terms -/
/-- a walk over a table: what is left (in any order), what came last -/
def itl {K V : Type} (ke : K → Value) (ve : V → Value) (r b : Nat) (es : Array MapEntry) (clock : Nat) (R : List (K × V)) (last : Option (K × V)) : As :=
  ⟨fun H Z D => ∃ rem lst, (itr r b es clock rem lst).r H Z D ∧ rem.map (fun e => (e.key, e.val)) = (R.map fun p => (ke p.1, ve p.2)) ∧ (rem.map fun e : MapEntry => e.born).Nodup ∧ ∀ p, last = some p → ∃ e, lst = some e ∧ e.key = ke p.1 ∧ e.val = ve p.2,
    fun ⟨rem, lst, h1, h2⟩ hb hz => ⟨rem, lst, (itr r b es clock rem lst).keep h1 hb hz, h2⟩⟩
theorem filter_born {e : MapEntry} : ∀ {rem : List MapEntry} {j : Nat} (hj : j < rem.length), (rem.map (·.born)).Nodup → rem[j] = e → rem.filter (fun x => decide (x.born ≠ e.born)) = rem.eraseIdx j
  | [], j, hj, _, _ => absurd hj (by simp)
  | a :: rem, 0, _, hn, he => by
    simp only [List.getElem_cons_zero] at he
    subst he
    simp only [List.map_cons, List.nodup_cons] at hn
    rw [List.filter_cons_of_neg (by simp), List.eraseIdx_zero, List.tail_cons, List.filter_eq_self]
    intro x hx
    have : x.born ≠ a.born := fun h => hn.1 (h ▸ List.mem_map_of_mem hx)
    simpa using this
  | a :: rem, j + 1, hj, hn, he => by
    simp only [List.map_cons, List.nodup_cons] at hn
    have hj' : j < rem.length := by simpa using hj
    have he' : rem[j] = e := by simpa using he
    have hne : a.born ≠ e.born := fun h => hn.1 (by rw [h, ← he']; exact List.mem_map_of_mem (List.getElem_mem hj'))
    rw [List.filter_cons_of_pos (by simpa using hne), List.eraseIdx_cons_succ, filter_born hj' hn.2 he']
section
variable {P : Program} {N : Sz} {f : Frm} {H : Heap} {Z : Nat → Prop} {L : List As} {t kt e ty : TypeId} {x : Operand} {b r i : Nat} {es : Array MapEntry} {clock : Nat} {K V : Type} {ke : K → Value} {ve : V → Value} {R l : List (K × V)} {last : Option (K × V)}
theorem o_rangeL (hO : Own H Z L) (hm : H[b]? = some (.map es clock)) (he : es.toList.map (fun e => (e.key, e.val)) = (l.map fun p => (ke p.1, ve p.2))) (hB : Brn es clock) (ht : P.underlying t = some (.map kt e)) (hx : ev f x = some (.map (some b))) :
    OpH P N (.range t x) ty f H (fun v H' => ∃ r, v = ptr r 0 ∧ Own H' Z (itl ke ve r b es clock l none :: L)) :=
  (o_range hO hm ht hx).mono fun v H' ⟨r, h1, h2⟩ => by
    refine ⟨r, h1, ?_⟩
    obtain ⟨D, k1, _, h5⟩ := h2.upd (i := 0) rfl
    exact h5 (D' := D) ⟨es.toList, none, k1, he, hB.1, fun p h => by cases h⟩ (fun b hb => .inl hb) (Nat.le_refl _) fun _ _ _ => rfl
theorem o_nextL [Inhabited (K × V)] (hO : Own H Z L) (hi : L[i]? = some (itl ke ve r b es clock R last)) (hm : H[b]? = some (.map es clock)) (hB : Brn es clock) (hx : ev f x = some (ptr r 0)) :
    OpH P N (.next x false) ty f H (fun v H' => (R = [] ∧ v = .tuple #[.bool false] ∧ Own H' Z L) ∨ ∃ j, j < R.length ∧ v = .tuple #[.bool true, ke (R.getD j default).1, ve (R.getD j default).2] ∧ Own H' Z (L.set i (itl ke ve r b es clock (R.eraseIdx j) (some (R.getD j default))))) := by
  obtain ⟨D, ⟨rem, lst, k1, k2, k3, k4⟩, _, h5⟩ := hO.upd hi
  have hO' := h5 (D' := D) (A' := itr r b es clock rem lst) k1 (fun b hb => .inl hb) (Nat.le_refl _) fun _ _ _ => rfl
  obtain ⟨hil, heq⟩ := List.getElem?_eq_some_iff.1 hi
  have hset : ∀ A : As, (L.set i A)[i]? = some A := fun A => by rw [List.getElem?_set_self hil]
  refine (o_next hO' (i := i) (hset _) hm hB hx).mono fun v H' h => ?_
  rcases h with ⟨h1, h2, h3⟩ | ⟨e, he, h2, h3⟩
  · subst h1
    have hR : R = [] := by
      have := congrArg List.length k2
      exact List.eq_nil_of_length_eq_zero (by simpa using this.symm)
    refine .inl ⟨hR, h2, ?_⟩
    obtain ⟨D2, q1, _, q5⟩ := h3.upd (i := i) (hset _)
    have := q5 (D' := D2) (A' := itl ke ve r b es clock R last) ⟨[], lst, q1, k2, k3, k4⟩ (fun b hb => .inl hb) (Nat.le_refl _) fun _ _ _ => rfl
    rw [List.set_set, ← heq, List.set_getElem_self] at this
    exact this
  · obtain ⟨j, hj, hje⟩ := List.getElem_of_mem he
    have hlen : rem.length = R.length := by simpa using congrArg List.length k2
    have hjR : j < R.length := by omega
    have hkv : e.key = ke (R.getD j default).1 ∧ e.val = ve (R.getD j default).2 := by
      have h6 : (rem.map (fun e => (e.key, e.val)))[j]? = (R.map fun p => (ke p.1, ve p.2))[j]? := by rw [k2]
      rw [List.getElem?_map, List.getElem?_map, List.getElem?_eq_getElem hj, List.getElem?_eq_getElem hjR, hje] at h6
      simp only [Option.map_some, Option.some.injEq, Prod.mk.injEq] at h6
      rw [show R.getD j default = R[j] by simp [List.getD, hjR]]
      exact h6
    refine .inr ⟨j, hjR, by rw [h2, hkv.1, hkv.2], ?_⟩
    rw [List.set_set] at h3
    obtain ⟨D2, q1, _, q5⟩ := h3.upd (i := i) (hset _)
    have := q5 (D' := D2) (A' := itl ke ve r b es clock (R.eraseIdx j) (some (R.getD j default))) ⟨rem.filter fun x => decide (x.born ≠ e.born), some e, q1, ?_, ?_, fun p hp => by cases hp; exact ⟨e, rfl, hkv.1, hkv.2⟩⟩ (fun b hb => .inl hb) (Nat.le_refl _) fun _ _ _ => rfl
    · rw [List.set_set] at this; exact this
    · rw [filter_born hj k3 hje, Go.ChangeMaps.map_eraseIdx, Go.ChangeMaps.map_eraseIdx, k2]
    · rw [filter_born hj k3 hje]
      exact k3.sublist ((List.eraseIdx_sublist rem j).map _)
theorem v_entryL {p : K × V} (hO : Own H Z L) (hi : L[i]? = some (itl ke ve r b es clock R (some p))) (hm : H[b]? = some (.map es clock)) (hB : Brn es clock) (hx : ev f x = some (ptr r 0)) : OpV P N (.entry x) ty f H (.tuple #[ke p.1, ve p.2]) := by
  obtain ⟨D, ⟨rem, lst, k1, k2, k3, k4⟩, _, h5⟩ := hO.upd hi
  obtain ⟨e, rfl, e1, e2⟩ := k4 p rfl
  have hO' := h5 (D' := D) (A' := itr r b es clock rem (some e)) k1 (fun b hb => .inl hb) (Nat.le_refl _) fun _ _ _ => rfl
  have hil := (List.getElem?_eq_some_iff.1 hi).1
  have := v_entry (P := P) (N := N) (ty := ty) (f := f) (x := x) hO' (i := i) (by rw [List.getElem?_set_self hil]) hm hB hx
  rwa [e1, e2] at this
end
end Go.Proofs.Ytbaciogbhjcdoaa
