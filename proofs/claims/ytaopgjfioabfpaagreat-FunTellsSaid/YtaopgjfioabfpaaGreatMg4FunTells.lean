/- Several texts in one. No condition. -/
import Derived.Test.YtaopgjfioabfpaaGreatMg3FunTells
import Derived.Laws.Cells
import Derived.Laws.Tables
set_option linter.unusedVariables false
set_option linter.unusedSimpArgs false
set_option maxRecDepth 20000
namespace Go.Proofs.YtaopgjfioabfpaaGreat
section
def cellH (H : Heap) (b o : Nat) : Option Value := match H[b]? with
  | some (.cells c _ _) => c[o]?
  | _ => none
theorem cell?_eq (w : World) (b o : Nat) : w.cell? ⟨b, o, none⟩ = cellH w.heap b o := by
  unfold World.cell? cellH
  cases h : w.heap[b]? with
  | none => rfl
  | some ob => cases ob <;> simp
theorem add_mk (b o n : Nat) : Addr.add ⟨b, o, none⟩ n = ⟨b, o + n, none⟩ := Addr.add_lit b o n
def At (H : Heap) (b o : Nat) (cs : List Value) : Prop := ∀ j v, cs[j]? = some v → cellH H b (o + j) = some v
theorem At.drop {H : Heap} {b o : Nat} {cs : List Value} (h : At H b o cs) (k : Nat) : At H b (o + k) (cs.drop k) := fun j v hv => by
  rw [List.getElem?_drop] at hv
  have := h _ _ hv
  rwa [show o + (k + j) = o + k + j by omega] at this
theorem At.take {H : Heap} {b o : Nat} {cs : List Value} (h : At H b o cs) (k : Nat) : At H b o (cs.take k) := fun j v hv => by
  rw [List.getElem?_take] at hv
  split at hv
  · exact h _ _ hv
  · cases hv
/-- Block b holds just these cells, and may be written. -/
def Blk (H : Heap) (b : Nat) (cs : List Value) (T : TypeId) : Prop := H[b]? = some (.cells cs.toArray T (0, 0))
theorem Blk.lt {H : Heap} {b : Nat} {cs : List Value} {T : TypeId} (h : Blk H b cs T) : b < H.size := (Array.getElem?_eq_some_iff.1 h).1
theorem Blk.cell {H : Heap} {b : Nat} {cs : List Value} {T : TypeId} (h : Blk H b cs T) {o : Nat} {v : Value} (hv : cs[o]? = some v) : cellH H b o = some v := by
  unfold Blk at h; simp [cellH, h, hv]
theorem Blk.at0 {H : Heap} {b : Nat} {cs : List Value} {T : TypeId} (h : Blk H b cs T) : At H b 0 cs := fun j v hv => by rw [Nat.zero_add]; exact h.cell hv
theorem Blk.at {H : Heap} {b : Nat} {cs : List Value} {T : TypeId} (h : Blk H b cs T) (o n : Nat) : At H b o ((cs.drop o).take n) := by
  have := (h.at0.drop o).take n; rwa [Nat.zero_add] at this
/-- What there was is as it was, but for the blocks of M. -/
structure Ext (M : List Nat) (H H' : Heap) : Prop where
  size : H.size ≤ H'.size
  old : ∀ b, b < H.size → b ∉ M → H'[b]? = H[b]?
theorem Ext.refl {M : List Nat} (H : Heap) : Ext M H H := ⟨Nat.le_refl _, fun _ _ _ => rfl⟩
theorem Ext.trans {M : List Nat} {a b c : Heap} (h : Ext M a b) (k : Ext M b c) : Ext M a c :=
  ⟨Nat.le_trans h.size k.size, fun i hi hm => (k.old i (Nat.lt_of_lt_of_le hi h.size) hm).trans (h.old i hi hm)⟩
theorem Ext.more {M M' : List Nat} {a b : Heap} (h : Ext M a b) (hm : ∀ x, x ∈ M → x ∈ M') : Ext M' a b := ⟨h.size, fun i hi hn => h.old i hi fun hc => hn (hm _ hc)⟩
theorem Ext.nil {M : List Nat} {a b : Heap} (h : Ext [] a b) : Ext M a b := h.more (by simp)
/-- blocks that were not there when it began may be written -/
theorem Ext.fresh {M M' : List Nat} {a b c : Heap} (h : Ext M a b) (k : Ext M' b c) (hm : ∀ x, x ∈ M' → a.size ≤ x ∨ x ∈ M) : Ext M a c :=
  ⟨Nat.le_trans h.size k.size, fun i hi hn => (k.old i (Nat.lt_of_lt_of_le hi h.size) fun hc => by
    rcases hm _ hc with h1 | h1
    · omega
    · exact hn h1).trans (h.old i hi hn)⟩
theorem Ext.cell {M : List Nat} {H H' : Heap} (h : Ext M H H') {b o : Nat} {v : Value} (hv : cellH H b o = some v) (hm : b ∉ M) : cellH H' b o = some v := by
  have hb : b < H.size := by
    rcases Nat.lt_or_ge b H.size with h1 | h1
    · exact h1
    · simp [cellH, Array.getElem?_eq_none h1] at hv
  unfold cellH at hv ⊢
  rw [h.old b hb hm]; exact hv
theorem Ext.blk {M : List Nat} {H H' : Heap} (h : Ext M H H') {b : Nat} {cs : List Value} {T : TypeId} (hb : Blk H b cs T) (hm : b ∉ M) : Blk H' b cs T :=
  (h.old b hb.lt hm).trans hb
theorem Ext.at {M : List Nat} {H H' : Heap} (h : Ext M H H') {b o : Nat} {cs : List Value} (ha : At H b o cs) (hm : b ∉ M) : At H' b o cs := fun j v hv => h.cell (ha j v hv) hm
theorem Ext.keep {H H' : Heap} (h : Ext [] H H') : Keep H H' := fun D o hd _ => (h.old D (Array.getElem?_eq_some_iff.1 hd).1 (by simp)).trans hd
theorem Keep.setCell (w : World) (a : Addr) (u : Value) : Keep w.heap (w.setCell a u).heap := fun D o hd ho => by
  simp only [World.setCell, Array.getElem?_modify]
  split
  · rw [hd]
    cases o with
    | cells c t fr => exact ho.elim
    | _ => rfl
  · exact hd
/-- A new block of these cells. -/
structure New (H H' : Heap) (cs : List Value) (T : TypeId) : Prop where
  ext : Ext [] H H'
  size : H'.size = H.size + 1
  blk : Blk H' H.size cs T
theorem New.push (H : Heap) (cs : List Value) (T : TypeId) : New H (H.push (.cells cs.toArray T (0, 0))) cs T :=
  ⟨⟨by simp, fun b hb _ => by rw [Array.getElem?_push, if_neg (by omega)]⟩, by simp, by simp [Blk]⟩
section
variable {P : Program} {N : Sz} {f : Frm} {H : Heap} {ty t t' e : TypeId} {x y z : Operand} {b o : Nat}
def ptr (b o : Nat) : Value := .pointer (some ⟨b, o, none⟩)
theorem v_load1 {u : Value} (ha : ∀ w, (isAgg t).run P w = .ok false w) (hx : ev f x = some (ptr b o)) (hc : cellH H b o = some u) : OpV P N (.load t x) ty f H u := by
  intro a w hf hH
  simp only [opx, execOp, hf.ev hx]
  refine quiet_pure ?_
  subst hH
  simp only [Instr.loadAt, ptr, Instr.sureAddr, Sem.run_bind, Sem.run_pure, Result.andThen_ok, loadVar, ha, Bool.false_eq_true, if_false, run_load, cell?_eq, hc]
theorem run_loadCells_at {cs : List Value} {n : Nat} (hc : At H b o cs) (hn : cs.length = n) (w : World) (hw : w.heap = H) : (loadCells ⟨b, o, none⟩ n).run P w = .ok cs.toArray w := by
  subst hn
  exact run_loadCells_list (P := P) w ⟨b, o, none⟩ cs fun j v hv => by rw [add_mk, cell?_eq, hw]; exact hc j v hv
theorem run_loadVar_at {cs : List Value} {n : Nat} (ha : ∀ w, (isAgg t).run P w = .ok true w) (hs : ∀ w, (sizeOf t).run P w = .ok n w) (hc : At H b o cs) (hn : cs.length = n) (w : World) (hw : w.heap = H) :
    (loadVar t ⟨b, o, none⟩).run P w = .ok (.agg cs.toArray) w := by
  have hl := run_loadCells_at (P := P) hc hn w hw
  simp only [loadVar, Sem.run_bind, Sem.run_pure, ha, hs, Result.andThen_ok, if_true, hl]
theorem v_loadA {cs : List Value} {n : Nat} (ha : ∀ w, (isAgg t).run P w = .ok true w) (hs : ∀ w, (sizeOf t).run P w = .ok n w) (hx : ev f x = some (ptr b o)) (hc : At H b o cs) (hn : cs.length = n) :
    OpV P N (.load t x) ty f H (.agg cs.toArray) := by
  intro a w hf hH
  simp only [opx, execOp, hf.ev hx]
  refine quiet_pure ?_
  simp only [Instr.loadAt, ptr, Instr.sureAddr, Sem.run_bind, Sem.run_pure, Result.andThen_ok, run_loadVar_at ha hs hc hn w hH]
theorem run_loadVar1_at {u : Value} (ha : ∀ w, (isAgg t).run P w = .ok false w) (hc : cellH H b o = some u) (w : World) (hw : w.heap = H) : (loadVar t ⟨b, o, none⟩).run P w = .ok u w := by
  simp only [loadVar, Sem.run_bind, ha, Result.andThen_ok, Bool.false_eq_true, if_false, run_load, cell?_eq, hw, hc]
/-- the address of an element of an array in memory -/
theorem v_ixA {k : IntKind} {i : Int} {n sz : Nat} (ht : P.underlying t = some (.array n e)) (hs : ∀ w, (sizeOf e).run P w = .ok sz w) (hx : ev f x = some (ptr b o)) (hy : ev f y = some (.int k i)) (h : 0 ≤ i ∧ i < n) :
    OpV P N (.indexAddr t x y) ty f H (ptr b (o + i.toNat * sz)) := by
  intro a w hf hH
  simp only [opx, execOp, hf.ev hx, hf.ev hy]
  refine quiet_pure ?_
  have h1 : (0 : Int) ≤ i ∧ i < (n : Int) := h
  simp only [Instr.indexAt, ptr, asIntOf, Instr.sureAddr, Sem.run_bind, Sem.run_pure, Result.andThen_ok, run_underlying ht, h1, and_self, if_true, hs, add_mk]
/-- an element of an array that is a value -/
theorem v_ixV {k : IntKind} {i : Int} {n : Nat} {cs : List Value} {u : Value} (ht : P.underlying t = some (.array n e)) (hs : ∀ w, (sizeOf e).run P w = .ok 1 w) (ha : ∀ w, (isAgg e).run P w = .ok false w)
    (hx : ev f x = some (.agg cs.toArray)) (hy : ev f y = some (.int k i)) (h : 0 ≤ i ∧ i < n) (hu : cs[i.toNat]? = some u) : OpV P N (.index t x y) ty f H u := by
  intro a w hf hH
  simp only [opx, execOp, hf.ev hx, hf.ev hy]
  refine quiet_pure ?_
  have h1 : (0 : Int) ≤ i ∧ i < (n : Int) := h
  simp only [Instr.index, asIntOf, Sem.run_bind, Sem.run_pure, Result.andThen_ok, run_underlying ht, h1, and_self, if_true, hs, Nat.mul_one, part, ha, Bool.false_eq_true, if_false, List.getElem?_toArray, hu]
/-- a field's address -/
theorem v_fieldA {fs : Array Field} {fd : Field} {i sz : Nat} (ht : P.underlying t = some (.struct fs)) (hfd : fs[i]? = some fd) (hs : ∀ w, (sizeOf fd.type).run P w = .ok (sz + 1) w) (hx : ev f x = some (ptr b o)) :
    OpV P N (.fieldAddr t x i) ty f H (ptr b (o + fd.offset)) := by
  intro a w hf hH
  simp only [opx, execOp, hf.ev hx]
  refine quiet_pure ?_
  simp only [Instr.fieldAt, ptr, Instr.sureAddr, fieldPlace, Sem.run_bind, Sem.run_pure, Result.andThen_ok, run_underlying ht, hfd, hs, Nat.add_one_ne_zero, if_false, add_mk]
theorem v_nilCheck (hx : ev f x = some (ptr b o)) : OpV P N (.nilCheck x) ty f H (ptr b o) := by
  intro a w hf hH
  simp only [opx, execOp, hf.ev hx]
  exact ⟨rfl, rfl⟩
theorem v_makeFunc {g : Fn} {first captured : List Operand} {us vs : List Value} (h1 : first.map (ev f) = us.map some) (h2 : captured.map (ev f) = vs.map some) :
    OpV P N (.makeFunc g first.toArray captured.toArray) ty f H (.func g us.toArray vs.toArray) := by
  have go : ∀ (l : List Operand) (us : List Value) (a : Act), FS N f a H → l.map (ev f) = us.map some → l.map a.eval = us := by
    intro l
    induction l with
    | nil => intro us a _ h; cases us <;> simp_all
    | cons x l ih =>
      intro us a hf h
      cases us with
      | nil => simp at h
      | cons u us =>
        simp only [List.map_cons, List.cons.injEq] at h
        simp only [List.map_cons, hf.ev h.1, ih us a hf h.2]
  intro a w hf hH
  simp only [opx, execOp]
  refine quiet_pure ?_
  simp only [Instr.makeFunc, List.map_toArray, go _ _ a hf h1, go _ _ a hf h2]; rfl
/-! ### new blocks -/
theorem h_new {op : Op} {cs : List Value} {T : TypeId} {g : Value → Value} (h : ∀ a, FS N f a H → ∀ w, w.heap = H → (execOp a.eval (opx op ty)).run P w = .ok (.value (g (ptr H.size 0))) { w with heap := H.push (.cells cs.toArray T (0, 0)) }) :
    OpH P N op ty f H (fun v H' => v = g (ptr H.size 0) ∧ New H H' cs T) := by
  intro a w hf hH
  rw [h a hf w hH]
  exact ⟨⟨rfl, rfl, rfl, hH ▸ (New.push H cs T).ext.keep, Nat.le_refl _⟩, rfl, New.push _ _ _⟩
theorem run_newRow (T : TypeId) (cs : Array Value) (w : World) : (newRow T cs).run P w = .ok ⟨w.heap.size, 0, none⟩ { w with heap := w.heap.push (.cells cs T (0, 0)) } := rfl
theorem h_box {u : Value} {cs : List Value} (hx : ev f x = some u) (hc : u.cells = cs.toArray) : OpH P N (.box t x) ty f H (fun v H' => v = ptr H.size 0 ∧ New H H' cs t) :=
  h_new (g := id) fun a hf w hH => by
    subst hH
    simp only [opx, execOp, hf.ev hx, Instr.box, newVar, hc, Sem.run_bind, run_newRow, Result.andThen_ok, Sem.run_pure]; rfl
theorem h_alloc {u : Value} {cs : List Value} (hz : ∀ w, (zeroValue t).run P w = .ok u w) (hc : u.cells = cs.toArray) : OpH P N (.alloc t) ty f H (fun v H' => v = ptr H.size 0 ∧ New H H' cs t) :=
  h_new (g := id) fun a hf w hH => by
    subst hH
    simp only [opx, execOp, Instr.alloc, newVar, hz, hc, Sem.run_bind, run_newRow, Result.andThen_ok, Sem.run_pure]; rfl
/-! ### stores -/
theorem setCell_blk {cs : List Value} {T : TypeId} (w : World) (hw : Blk w.heap b cs T) (o : Nat) (u : Value) : (w.setCell ⟨b, o, none⟩ u).heap = w.heap.setIfInBounds b (.cells (cs.set o u).toArray T (0, 0)) := by
  unfold Blk at hw
  simp only [World.setCell]
  apply Array.ext_getElem?
  intro i
  simp only [Array.getElem?_modify, Array.getElem?_setIfInBounds]
  by_cases h : b = i
  · subst h
    obtain ⟨hb, he⟩ := Array.getElem?_eq_some_iff.1 hw
    simp [hb, he]
  · simp [h]
theorem Blk.set {H : Heap} {cs : List Value} {T : TypeId} (h : Blk H b cs T) (cs' : List Value) : Blk (H.setIfInBounds b (.cells cs'.toArray T (0, 0))) b cs' T := by
  simp [Blk, h.lt]
theorem Ext.set (H : Heap) (b : Nat) (ob : Obj) : Ext [b] H (H.setIfInBounds b ob) :=
  ⟨by simp, fun i _ hm => by
    have : b ≠ i := fun e => hm (by simp [e])
    simp [this]⟩
/-- What a store into a block leaves. -/
structure Put (H H' : Heap) (b : Nat) (cs : List Value) (T : TypeId) : Prop where
  ext : Ext [b] H H'
  size : H'.size = H.size
  blk : Blk H' b cs T
theorem Put.of_set {H : Heap} {cs : List Value} {T : TypeId} (h : Blk H b cs T) (cs' : List Value) : Put H (H.setIfInBounds b (.cells cs'.toArray T (0, 0))) b cs' T :=
  ⟨Ext.set _ _ _, by simp, h.set cs'⟩
theorem frozen_blk {cs : List Value} {T : TypeId} {w : World} (h : Blk w.heap b cs T) (o : Nat) : w.frozen? ⟨b, o, none⟩ = false := by
  unfold Blk at h
  simp [World.frozen?, h]
theorem h_store1 {cs : List Value} {T : TypeId} {u : Value} (hs : ∀ w, (sizeOf t).run P w = .ok 1 w) (hx : ev f x = some (ptr b o)) (hy : ev f y = some u) (hb : Blk H b cs T) (ho : o < cs.length) (h1 : u.oneCell' = true) :
    OpH P N (.store t x y) ty f H (fun _ H' => Put H H' b (cs.set o u) T) := by
  intro a w hf hH
  subst hH
  have hcs : u.cells = #[u] := by cases u <;> first | rfl | simp [Value.oneCell'] at h1
  have hcell : w.cell? ⟨b, o, none⟩ = some cs[o] := by rw [cell?_eq]; exact hb.cell (List.getElem?_eq_getElem ho)
  have hst : (store ⟨b, o, none⟩ u .plain).run P w = .ok () (w.setCell ⟨b, o, none⟩ u) := by
    rw [run_store P w _ u .plain h1, hcell, frozen_blk hb]; rfl
  have : (storeVar t ⟨b, o, none⟩ u).run P w = .ok () (w.setCell ⟨b, o, none⟩ u) := by
    simp only [storeVar, hcs, Sem.run_bind, hs, Result.andThen_ok]
    simp only [List.size_toArray, List.length_cons, List.length_nil, Nat.zero_add, ne_eq, not_true_eq_false, if_false, Sem.run_pure, Result.andThen_ok, storeCells, Sem.run_bind, Addr.add_zero', hst]
  simp only [opx, execOp, hf.ev hx, hf.ev hy, Instr.storeAt, ptr, Instr.sureAddr, Sem.run_bind, Sem.run_pure, Result.andThen_ok, this]
  refine ⟨⟨rfl, rfl, rfl, Keep.setCell _ _ _, Nat.le_refl _⟩, ?_⟩
  rw [setCell_blk w hb]
  exact Put.of_set hb _
def repl (cs : List Value) (o : Nat) (us : List Value) : List Value := cs.take o ++ us ++ cs.drop (o + us.length)
theorem repl_all {cs us : List Value} (h : us.length = cs.length) : repl cs 0 us = us := by simp [repl, h]
theorem run_storeCells_at {T : TypeId} : ∀ (us : List Value) (cs : List Value) (i : Nat) (w : World), Blk w.heap b cs T → o + i + us.length ≤ cs.length → (∀ u ∈ us, u.oneCell' = true) →
    ∃ w', (storeCells ⟨b, o, none⟩ us i).run P w = .ok () w' ∧ Env w w' ∧ w'.heap = w.heap.setIfInBounds b (.cells (repl cs (o + i) us).toArray T (0, 0))
  | [], cs, i, w, hb, _, _ => ⟨w, rfl, .refl _, by
      have e : repl cs (o + i) [] = cs := by simp [repl]
      rw [e]
      unfold Blk at hb
      apply Array.ext_getElem?
      intro j
      simp only [Array.getElem?_setIfInBounds]
      by_cases h : b = j
      · subst h
        obtain ⟨hb, he⟩ := Array.getElem?_eq_some_iff.1 hb
        simp [hb, he]
      · simp [h]⟩
  | u :: us, cs, i, w, hb, hl, h1 => by
    simp only [List.length_cons] at hl
    have ho : o + i < cs.length := by omega
    have hcell : w.cell? ⟨b, o + i, none⟩ = some cs[o + i] := by rw [cell?_eq]; exact hb.cell (List.getElem?_eq_getElem ho)
    have hst : (store ⟨b, o + i, none⟩ u .plain).run P w = .ok () (w.setCell ⟨b, o + i, none⟩ u) := by
      rw [run_store P w _ u .plain (h1 u (by simp)), hcell, frozen_blk hb]; rfl
    have hb1 : Blk (w.setCell ⟨b, o + i, none⟩ u).heap b (cs.set (o + i) u) T := by rw [setCell_blk w hb]; exact hb.set _
    obtain ⟨w', h2, h3, h4⟩ := run_storeCells_at us (cs.set (o + i) u) (i + 1) (w.setCell ⟨b, o + i, none⟩ u) hb1 (by simp; omega) (fun v hv => h1 v (by simp [hv]))
    refine ⟨w', ?_, (Env.trans (b := w.setCell ⟨b, o + i, none⟩ u) ⟨rfl, rfl, rfl, Keep.setCell _ _ _, Nat.le_refl _⟩ h3), ?_⟩
    · simp only [storeCells, Sem.run_bind, add_mk, hst, Result.andThen_ok]; exact h2
    · rw [h4, setCell_blk w hb]
      have e : repl (cs.set (o + i) u) (o + (i + 1)) us = repl cs (o + i) (u :: us) := by
        have e1 : (cs.set (o + i) u).take (o + (i + 1)) = cs.take (o + i) ++ [u] := by
          rw [show o + (i + 1) = (o + i) + 1 by omega, List.take_succ_eq_append_getElem (by simp; omega)]
          simp [List.take_set_of_le (Nat.le_refl _)]
        have e2 : (cs.set (o + i) u).drop (o + (i + 1) + us.length) = cs.drop (o + i + (u :: us).length) := by
          rw [List.drop_set_of_lt (by omega), List.length_cons]
          congr 1; omega
        unfold repl
        rw [e1, e2]; simp
      rw [e]; simp
theorem h_storeA {cs us : List Value} {T : TypeId} {n : Nat} (hs : ∀ w, (sizeOf t).run P w = .ok n w) (hx : ev f x = some (ptr b o)) (hy : ev f y = some (.agg us.toArray)) (hb : Blk H b cs T) (hn : us.length = n) (ho : o + n ≤ cs.length)
    (h1 : ∀ u ∈ us, u.oneCell' = true) : OpH P N (.store t x y) ty f H (fun _ H' => Put H H' b (repl cs o us) T) := by
  intro a w hf hH
  subst hH hn
  obtain ⟨w', h2, h3, h4⟩ := run_storeCells_at (P := P) (o := o) us cs 0 w hb (by omega) h1
  have : (storeVar t ⟨b, o, none⟩ (.agg us.toArray)).run P w = .ok () w' := by
    simp only [storeVar, Value.cells, Sem.run_bind, hs, Result.andThen_ok]
    simp only [List.size_toArray, ne_eq, not_true_eq_false, if_false]
    exact h2
  simp only [opx, execOp, hf.ev hx, hf.ev hy, Instr.storeAt, ptr, Instr.sureAddr, Sem.run_bind, Sem.run_pure, Result.andThen_ok, this]
  refine ⟨h3, ?_⟩
  rw [h4]
  exact Put.of_set hb _
end
end
end Go.Proofs.YtaopgjfioabfpaaGreat
