/- Maps in memory: what they hold, look-ups, updates. No condition. -/
import Derived.Test.YtbaciogbhjcdoaaRange
import Derived.Laws.PanicsMore
import Derived.Laws.StructEq
import Derived.MapKept
import Derived.Laws.Small
import Derived.Laws.IdiomStrings
set_option linter.unusedSimpArgs false
set_option linter.unusedVariables false
namespace Go.Proofs.Ytbaciogbhjcdoaa

/-- a type of keys that are compared at once -/
structure KeyT (P : Program) (K : Type) [DecidableEq K] (kt : TypeId) where
  enc : K → Value
  kind : TypeDesc
  und : P.underlying kt = some kind
  same : (∀ a b, Instr.sameNow kind (enc a) (enc b) = some (decide (a = b))) ∨ ((∀ a b, Instr.sameNow kind (enc a) (enc b) = none) ∧ ∀ a b (w : World), (Op.equal kt (enc a) (enc b)).run P w = .ok (decide (a = b)) w)
  check : ∀ (e : Bool) (k : K) (w : World), (Instr.checkKey e 10000 kt (enc k)).run P w = .ok () w
  bits : ∀ a, Instr.sameBits 10000 (enc a) (enc a) = true

def keyStr {P : Program} {kt : TypeId} (hu : P.underlying kt = some .string) : KeyT P (List UInt8) kt where
  enc := str
  kind := .string
  und := hu
  same := .inl fun a b => by
    simp only [str, Instr.sameNow, Option.some.injEq]
    rw [beq_toListBytes, toList_mk, toList_mk, beq_dec]
  check := fun e k w => Go.MapKept.run_checkKey hu (show Go.MapKept.IsKey .string (str k) from trivial) e 9999
  bits := fun a => by
    simp only [str, Instr.sameBits]
    rw [beq_toListBytes, beq_dec]; simp
def keyInt {P : Program} {kt : TypeId} (hu : P.underlying kt = some (.int .i64)) : KeyT P Int kt where
  enc := fun n => .int .i64 n
  kind := .int .i64
  und := hu
  same := .inl fun a b => by
    simp only [Instr.sameNow, if_true, beq_dec]
  check := fun e k w => Go.MapKept.run_checkKey hu (show Go.MapKept.IsKey (.int .i64) (.int .i64 k) from rfl) e 9999
  bits := fun a => by simp [Instr.sameBits]

section
variable {K V : Type} [DecidableEq K]
/-- what a table has for a key -/
def aget : List (K × V) → K → Option V
  | [], _ => none
  | p :: l, k => if k = p.1 then some p.2 else aget l k
def aput : List (K × V) → K → V → List (K × V)
  | [], k, v => [(k, v)]
  | p :: l, k, v => if k = p.1 then (k, v) :: l else p :: aput l k v
def afind : List (K × V) → K → Nat → Option (Nat × V)
  | [], _, _ => none
  | p :: l, k, i => if k = p.1 then some (i, p.2) else afind l k (i + 1)
theorem afind_get : ∀ (l : List (K × V)) (k : K) (i : Nat), (afind l k i).map (·.2) = aget l k
  | [], _, _ => rfl
  | p :: l, k, i => by
    simp only [afind, aget]
    split
    · rfl
    · exact afind_get l k (i + 1)
theorem aget_put (l : List (K × V)) (k k' : K) (v : V) : aget (aput l k v) k' = if k' = k then some v else aget l k' := by
  induction l with
  | nil => simp [aput, aget]
  | cons p l ih =>
    simp only [aput]
    split
    · rename_i h; subst h
      simp only [aget]
      split <;> rfl
    · rename_i h
      simp only [aget, ih]
      by_cases h2 : k' = p.1
      · subst h2; rw [if_pos rfl, if_neg (fun e => h e.symm)]; simp
      · rw [if_neg h2]; simp [h2]
theorem aput_len (l : List (K × V)) (k : K) (v : V) : (aput l k v).length = if (aget l k).isSome then l.length else l.length + 1 := by
  induction l with
  | nil => rfl
  | cons p l ih =>
    simp only [aput, aget]
    split
    · rfl
    · rw [List.length_cons, ih]; split <;> simp
end

/-- block b is a table that holds l -/
def Mp {K V : Type} (ke : K → Value) (ve : V → Value) (H : Heap) (b : Nat) (l : List (K × V)) : Prop :=
  ∃ (es : Array MapEntry) (clock : Nat), H[b]? = some (.map es clock) ∧ es.toList.map (fun e => (e.key, e.val)) = (l.map fun p => (ke p.1, ve p.2)) ∧ (es.toList.map (·.born)).Nodup ∧ ∀ x ∈ es.toList, x.born < clock

section
variable {K V : Type} {ke : K → Value} {ve : V → Value} {H H' : Heap} {b : Nat} {l : List (K × V)}
theorem Mp.lt (h : Mp ke ve H b l) : b < H.size := by
  obtain ⟨es, clock, h1, _⟩ := h
  exact (Array.getElem?_eq_some_iff.1 h1).1
theorem Mp.ext {M : List Nat} (hx : Ext M H H') (h : Mp ke ve H b l) (hm : b ∉ M) : Mp ke ve H' b l := by
  obtain ⟨es, clock, h1, h2⟩ := h
  exact ⟨es, clock, (hx.old b (Array.getElem?_eq_some_iff.1 h1).1 hm).trans h1, h2⟩
theorem Mp.chg {r : Nat} (h : Mp ke ve H b l) (c : Chg r H H') : Mp ke ve H' b l := by
  refine Mp.ext c.ext h ?_
  intro e
  simp at e
  subst e
  obtain ⟨es, clock, h1, _⟩ := h
  obtain ⟨r, hr⟩ := c.was
  rw [h1] at hr; cases hr
theorem Mp.shut {B : Nat} (h : Mp ke ve H b l) (c : Shut B H H') : Mp ke ve H' b l := by
  obtain ⟨es, clock, h1, h2⟩ := h
  exact ⟨es, clock, c.cells h1 (by simp), h2⟩
theorem Mp.len (h : Mp ke ve H b l) : ∃ es clock, H[b]? = some (.map es clock) ∧ es.size = l.length := by
  obtain ⟨es, clock, h1, h2, _⟩ := h
  refine ⟨es, clock, h1, ?_⟩
  have := congrArg List.length h2
  simpa using this

/-- what an update leaves -/
structure PutM (ke : K → Value) (ve : V → Value) (H H' : Heap) (b : Nat) (l : List (K × V)) : Prop where
  ext : Ext [b] H H'
  size : H'.size = H.size
  mp : Mp ke ve H' b l

variable {P : Program} {N : Sz} {f : Frm} {t e kt ty : TypeId} {x y z : Operand}

theorem run_getObj_map {w : World} {es : Array MapEntry} {clock : Nat} (h : w.heap[b]? = some (.map es clock)) : (getObj b).run P w = .ok (.map es clock) w := by simp [getObj, Sem.run, h]

theorem h_makeMap : OpH P N (.makeMap t none) ty f H (fun v H' => v = .map (some H.size) ∧ Ext [] H H' ∧ H'.size = H.size + 1 ∧ Mp ke ve H' H.size []) := by
  intro a w hf hH
  subst hH
  have hx : Ext [] w.heap (w.heap.push (.map #[] 0)) := ⟨by simp, fun b hb _ => by rw [Array.getElem?_push, if_neg (by omega)]⟩
  exact ⟨⟨rfl, rfl, rfl, hx.keep, Nat.le_refl _⟩, rfl, hx, by simp [World.alloc], ⟨#[], 0, by simp [World.alloc], rfl, by simp, by simp⟩⟩

variable [DecidableEq K] {k : K} {d : V}
theorem findNow_eq (kt' : KeyT P K kt) (hs : ∀ a b, Instr.sameNow kt'.kind (kt'.enc a) (kt'.enc b) = some (decide (a = b))) (hke : ke = kt'.enc) : ∀ (l : List (K × V)) (es : List MapEntry) (i : Nat), es.map (fun e => (e.key, e.val)) = l.map (fun p => (ke p.1, ve p.2)) →
    Instr.findNow kt'.kind (ke k) es i = some ((afind l k i).map fun q => (q.1, ve q.2))
  | [], [], i, _ => rfl
  | [], _ :: _, i, h => by simp at h
  | _ :: _, [], i, h => by simp at h
  | p :: l, e :: es, i, h => by
    simp only [List.map_cons, List.cons.injEq, Prod.mk.injEq] at h
    obtain ⟨⟨h1, h2⟩, h3⟩ := h
    simp only [Instr.findNow, h1, hke, hs, afind]
    by_cases hk : k = p.1
    · simp [hk, h2]
    · rw [decide_eq_false hk, if_neg hk]
      have := findNow_eq kt' hs hke l es (i + 1) h3
      rw [hke] at this
      exact this
theorem findAsking_eq (kt' : KeyT P K kt) (hs : ∀ a b (w : World), (Op.equal kt (kt'.enc a) (kt'.enc b)).run P w = .ok (decide (a = b)) w) (hke : ke = kt'.enc) (w : World) : ∀ (l : List (K × V)) (es : List MapEntry) (i : Nat), es.map (fun e => (e.key, e.val)) = l.map (fun p => (ke p.1, ve p.2)) →
    (Instr.findAsking kt (ke k) es i).run P w = .ok ((afind l k i).map fun q => (q.1, ve q.2)) w
  | [], [], i, _ => by simp [Instr.findAsking, afind]
  | [], _ :: _, i, h => by simp at h
  | _ :: _, [], i, h => by simp at h
  | p :: l, e :: es, i, h => by
    simp only [List.map_cons, List.cons.injEq, Prod.mk.injEq] at h
    obtain ⟨⟨h1, h2⟩, h3⟩ := h
    simp only [Instr.findAsking, h1, hke, Sem.run_bind, hs, Result.andThen_ok, afind]
    by_cases hk : k = p.1
    · simp [hk, h2]
    · rw [decide_eq_false hk, if_neg hk]
      have := findAsking_eq kt' hs hke w l es (i + 1) h3
      rw [hke] at this
      simpa using this

theorem run_findKey (kt' : KeyT P K kt) (hke : ke = kt'.enc) {es : List MapEntry} (h : es.map (fun e => (e.key, e.val)) = l.map (fun p => (ke p.1, ve p.2))) (w : World) :
    (Instr.findKey kt (ke k) es).run P w = .ok ((afind l k 0).map fun q => (q.1, ve q.2)) w := by
  rcases kt'.same with hs | ⟨hn, hs⟩
  · simp only [Instr.findKey, Sem.run_bind, run_underlying kt'.und, Result.andThen_ok, findNow_eq kt' hs hke l es 0 h, Sem.run_pure]
  · have hf := findAsking_eq (k := k) kt' hs hke w l es 0 h
    simp only [Instr.findKey, Sem.run_bind, run_underlying kt'.und, Result.andThen_ok]
    cases es with
    | nil =>
      cases l with
      | nil => simp [Instr.findNow, afind]
      | cons p l => simp at h
    | cons e es =>
      cases l with
      | nil => simp at h
      | cons p l =>
        have h1 : e.key = ke p.1 := by simp only [List.map_cons, List.cons.injEq, Prod.mk.injEq] at h; exact h.1.1
        have hnn : Instr.findNow kt'.kind (ke k) (e :: es) 0 = none := by
          simp only [Instr.findNow, h1, hke, hn]
        rw [hnn]; exact hf

theorem run_lookup_at (kt' : KeyT P K kt) (hke : ke = kt'.enc) (ht : P.underlying t = some (.map kt e)) (hz : ∀ w, (zeroValue e).run P w = .ok (ve d) w) (hm : Mp ke ve H b l) (ok : Bool) (w : World) (hw : w.heap = H) :
    (Instr.lookup t (.map (some b)) (ke k) ok).run P w = .ok (if ok then .tuple #[ve ((aget l k).getD d), .bool (aget l k).isSome] else ve ((aget l k).getD d)) w := by
  subst hw
  obtain ⟨es, clock, h1, h2, _⟩ := hm
  have hc := kt'.check es.isEmpty k w
  rw [← hke] at hc
  simp only [Instr.lookup, Sem.run_bind, run_underlying ht, Result.andThen_ok, run_getObj_map h1, Sem.run_pure, hc, run_findKey kt' hke h2]
  have hg := afind_get l k 0
  cases ha : afind l k 0 with
  | none =>
    rw [ha] at hg
    simp only [Option.map_none] at hg ⊢
    rw [← hg]
    simp only [Sem.run_bind, hz, Result.andThen_ok, Sem.run_pure]
    cases ok <;> rfl
  | some q =>
    rw [ha] at hg
    simp only [Option.map_some] at hg ⊢
    rw [← hg]
    cases ok <;> rfl

theorem v_lookup2 (kt' : KeyT P K kt) (hke : ke = kt'.enc) (ht : P.underlying t = some (.map kt e)) (hz : ∀ w, (zeroValue e).run P w = .ok (ve d) w) (hx : ev f x = some (.map (some b))) (hy : ev f y = some (ke k)) (hm : Mp ke ve H b l) :
    OpV P N (.lookup t x y true) ty f H (.tuple #[ve ((aget l k).getD d), .bool (aget l k).isSome]) := by
  intro a w hf hH
  simp only [opx, execOp, hf.ev hx, hf.ev hy]
  exact quiet_pure (run_lookup_at kt' hke ht hz hm true w hH)
theorem v_lookup1 (kt' : KeyT P K kt) (hke : ke = kt'.enc) (ht : P.underlying t = some (.map kt e)) (hz : ∀ w, (zeroValue e).run P w = .ok (ve d) w) (hx : ev f x = some (.map (some b))) (hy : ev f y = some (ke k)) (hm : Mp ke ve H b l) :
    OpV P N (.lookup t x y false) ty f H (ve ((aget l k).getD d)) := by
  intro a w hf hH
  simp only [opx, execOp, hf.ev hx, hf.ev hy]
  exact quiet_pure (run_lookup_at kt' hke ht hz hm false w hH)

omit [DecidableEq K] in
theorem v_lenM {tys : Array TypeId} {t : TypeId} (ha : tys = #[t]) (ht : P.underlying t = some (.map kt e)) (hx : ev f x = some (.map (some b))) (hm : Mp ke ve H b l) : OpV P N (.call ⟨.builtin .len, #[x], tys⟩) ty f H (.int .i64 l.length) := by
  subst ha
  intro a w hf hH
  subst hH
  obtain ⟨es, clock, h1, h2⟩ := hm.len
  simp only [opx, execOp, resolve, List.map_toArray, List.map_cons, List.map_nil, hf.ev hx, Sem.run_bind, Sem.run_pure, Result.andThen_ok, invoke, builtin]
  refine quiet_then ?_
  unfold Builtin.len_
  simp only [List.getElem?_toArray, List.getElem?_cons_zero, Sem.run_bind, run_underlying ht, Result.andThen_ok, run_getObj_map h1, h2]; rfl

theorem modify_put : ∀ (l : List (K × V)) (es : List MapEntry) (i j : Nat) (q : V) (v : V) (kk : Value), es.map (fun e => (e.key, e.val)) = l.map (fun p => (ke p.1, ve p.2)) → afind l k i = some (j, q) → kk = ke k →
    (es.modify (j - i) fun e => { e with key := kk, val := ve v }).map (fun e => (e.key, e.val)) = (aput l k v).map (fun p => (ke p.1, ve p.2)) ∧ i ≤ j
  | [], _, i, j, q, v, kk, _, h, _ => by simp [afind] at h
  | _ :: _, [], i, j, q, v, kk, h, _, _ => by simp at h
  | p :: l, e :: es, i, j, q, v, kk, h, hf, hk => by
    simp only [List.map_cons, List.cons.injEq, Prod.mk.injEq] at h
    obtain ⟨⟨h1, h2⟩, h3⟩ := h
    simp only [afind] at hf
    by_cases hp : k = p.1
    · rw [if_pos hp] at hf
      cases hf
      simp only [aput, if_pos hp, Nat.sub_self, List.modify_zero_cons, List.map_cons, hk]
      exact ⟨by rw [h3], Nat.le_refl _⟩
    · rw [if_neg hp] at hf
      obtain ⟨h4, h5⟩ := modify_put l es (i + 1) j q v kk h3 hf hk
      refine ⟨?_, by omega⟩
      rw [show j - i = (j - (i + 1)) + 1 by omega, List.modify_succ_cons]
      simp only [aput, if_neg hp, List.map_cons, h4, h1, h2]
theorem afind_none_put : ∀ (l : List (K × V)) (i : Nat) (v : V), afind l k i = none → aput l k v = l ++ [(k, v)]
  | [], _, _, _ => rfl
  | p :: l, i, v, h => by
    simp only [afind] at h
    by_cases hp : k = p.1
    · rw [if_pos hp] at h; cases h
    · rw [if_neg hp] at h
      simp only [aput, if_neg hp, afind_none_put l (i + 1) v h, List.cons_append]

omit [DecidableEq K] in
theorem modify_born {kk : Value} {v : V} : ∀ (es : List MapEntry) (j : Nat), (es.modify j fun e => { e with key := kk, val := ve v }).map (·.born) = es.map (·.born)
  | [], _ => by simp
  | _ :: _, 0 => by simp
  | e :: es, j + 1 => by rw [List.modify_succ_cons, List.map_cons, List.map_cons, modify_born es j]
theorem h_mapUpdate {v : V} (kt' : KeyT P K kt) (hke : ke = kt'.enc) (ht : P.underlying t = some (.map kt e)) (hx : ev f x = some (.map (some b))) (hy : ev f y = some (ke k)) (hz : ev f z = some (ve v)) (hm : Mp ke ve H b l) :
    OpH P N (.mapUpdate t x y z) ty f H (fun _ H' => PutM ke ve H H' b (aput l k v)) := by
  intro a w hf hH
  subst hH
  obtain ⟨es, clock, h1, h2, hb1, hb2⟩ := hm
  have hlt := (Array.getElem?_eq_some_iff.1 h1).1
  have hc := kt'.check false k w
  rw [← hke] at hc
  have hkeep : ∀ o, Keep w.heap (w.heap.setIfInBounds b o) := fun o D o' hd ho => by
    rw [Array.getElem?_setIfInBounds]
    split
    · rename_i e; subst e; rw [h1] at hd; cases hd; exact ho.elim
    · exact hd
  have hset : ∀ (o : Obj) (w' : World), w'.heap = w.heap → (setObj b o).run P w' = .ok () { w' with heap := w'.heap.setIfInBounds b o } := fun o w' hw' => by simp [setObj, Sem.run, hw', h1]
  simp only [opx, execOp, hf.ev hx, hf.ev hy, hf.ev hz, Instr.mapUpdate, Sem.run_bind, run_underlying ht, Result.andThen_ok, run_getObj_map h1, hc, run_findKey kt' hke h2]
  cases ha : afind l k 0 with
  | none =>
    simp only [Option.map_none, hset _ w rfl, Result.andThen_ok, Sem.run_pure]
    refine ⟨⟨rfl, rfl, rfl, hkeep _, Nat.le_refl _⟩, ⟨Ext.set _ _ _, by simp, ⟨es.push { key := ke k, val := ve v, born := clock }, clock + 1, by simp [hlt], ?_, ?_, ?_⟩⟩⟩
    · rw [afind_none_put l 0 v ha]
      simp [h2]
    · rw [Array.toList_push, List.map_append, List.nodup_append]
      refine ⟨hb1, by simp, fun a ha b hb hab => ?_⟩
      simp only [List.map_cons, List.map_nil, List.mem_singleton] at hb
      obtain ⟨x, hx, rfl⟩ := List.mem_map.1 ha
      have := hb2 x hx
      omega
    · intro x hx
      rw [Array.toList_push, List.mem_append, List.mem_singleton] at hx
      rcases hx with hx | rfl
      · have := hb2 x hx; omega
      · exact Nat.lt_succ_self _
  | some q =>
    obtain ⟨j, q⟩ := q
    obtain ⟨h3, _⟩ := modify_put l es.toList 0 j q v (ke k) h2 ha rfl
    have hold : ((es[j]?).map (·.key)).getD (ke k) = ke k := by
      have key : ∀ (l : List (K × V)) (es : List MapEntry) (i j : Nat) (q : V), es.map (fun e => (e.key, e.val)) = l.map (fun p => (ke p.1, ve p.2)) → afind l k i = some (j, q) → i ≤ j ∧ (es[j - i]?).map (·.key) = some (ke k) := by
        intro l
        induction l with
        | nil => intro es i j q _ h; simp [afind] at h
        | cons p l ih =>
          intro es i j q h hf
          cases es with
          | nil => simp at h
          | cons e es =>
            simp only [List.map_cons, List.cons.injEq, Prod.mk.injEq] at h
            obtain ⟨⟨h1, h2⟩, h3⟩ := h
            simp only [afind] at hf
            by_cases hp : k = p.1
            · rw [if_pos hp] at hf; cases hf; simp [h1, hp]
            · rw [if_neg hp] at hf
              obtain ⟨h4, h5⟩ := ih es (i + 1) j q h3 hf
              refine ⟨by omega, ?_⟩
              rw [show j - i = (j - (i + 1)) + 1 by omega, List.getElem?_cons_succ]; exact h5
      have := (key l es.toList 0 j q h2 ha).2
      rw [Nat.sub_zero, Array.getElem?_toList] at this
      rw [this]; rfl
    have hb : Instr.sameBits 10000 (ke k) (ke k) = true := by rw [hke]; exact kt'.bits k
    simp only [Option.map_some, Instr.keyThatStays, hold, hb, if_true, Sem.run_bind, Sem.run_pure, Result.andThen_ok, hset _ w rfl]
    refine ⟨⟨rfl, rfl, rfl, hkeep _, Nat.le_refl _⟩, ⟨Ext.set _ _ _, by simp, ⟨es.modify j fun e => { e with key := ke k, val := ve v }, clock, by simp [hlt], ?_, ?_, ?_⟩⟩⟩
    · rw [Nat.sub_zero] at h3
      rw [Array.toList_modify]; exact h3
    · rw [Array.toList_modify, modify_born]; exact hb1
    · intro x hx
      rw [Array.toList_modify] at hx
      have hx2 := List.mem_map_of_mem (f := fun e : MapEntry => e.born) hx
      rw [modify_born] at hx2
      obtain ⟨y, hy, hyx⟩ := List.mem_map.1 hx2
      have := hb2 y hy
      omega
end
section
variable {P : Program} {N : Sz} {f : Frm} {H : Heap} {ty : TypeId} {x y : Operand}
theorem v_maxI {k : IntKind} {m n : Int} {tys : Array TypeId} (hx : ev f x = some (.int k m)) (hy : ev f y = some (.int k n)) : OpV P N (.call ⟨.builtin .max, #[x, y], tys⟩) ty f H (.int k (if n > m then n else m)) := by
  intro a w hf hH
  simp only [opx, execOp, resolve, List.map_toArray, List.map_cons, List.map_nil, hf.ev hx, hf.ev hy, Sem.run_bind, Sem.run_pure, Result.andThen_ok, invoke, builtin]
  exact quiet_then (run_max_int2 _ _ _ _ _ _ _)
end
section
variable {P : Program} {N : Sz} {f : Frm} {H : Heap} {t t' e ty : TypeId} {x : Operand}
theorem v_bytesStr {v : Value} {S : Nat → Prop} {l : List UInt8} (ht : P.underlying t = some (.slice e)) (he : P.underlying e = some (.int .u8)) (hd : P.underlying t' = some .string) (hx : ev f x = some v) (hs : Sl fByte.rep H S v l) : OpV P N (.convert t t' x) ty f H (str l) := by
  intro a w hf hH
  subst hH
  simp only [opx, execOp, hf.ev hx]
  refine quiet_pure ?_
  rw [hs.shape]
  cases ha : sa v with
  | none =>
    have hl : l = [] := by
      rcases Nat.eq_zero_or_pos l.length with h | h
      · exact List.eq_nil_of_length_eq_zero h
      · have h2 := (hs.mem 0 h).1
        rw [h2] at ha; cases ha
    subst hl
    rw [run_convert_bytes_string w t t' e none _ _ ht he hd]
    rfl
  | some ad =>
    refine run_convert_bytes_back w t t' e ad (sc v) l ht he hd fun j hj => ?_
    obtain ⟨h1, _, cs, h3, h4⟩ := hs.mem j hj
    have h5 : ad = ⟨sb v, so v, none⟩ := by rw [h1] at ha; cases ha; rfl
    have h6 : cs = [.int .u8 l[j].toNat] := h4
    subst h6
    rw [h5, add_mk, cell?_eq]
    have h7 := h3 0 _ rfl
    rw [Nat.add_zero] at h7
    rw [← h7]
    congr 1
    show so v + j = so v + j * 1
    omega
end
end Go.Proofs.Ytbaciogbhjcdoaa
