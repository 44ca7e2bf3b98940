/- Several texts in one. No condition. -/
import Derived.Test.YtaopgjfioabfpaaGreatMg9FunTells
import Derived.Laws.PanicsMore
import Derived.Laws.StructEq
import Derived.MapKept
import Derived.Laws.Small
import Derived.Laws.IdiomStrings
set_option linter.unusedVariables false
set_option linter.unusedSimpArgs false
set_option maxRecDepth 20000
namespace Go.Proofs.YtaopgjfioabfpaaGreat
section
/-- a type of keys that are compared at once -/
structure KeyT (P : Program) (K : Type) [DecidableEq K] (kt : TypeId) where
  enc : K → Value
  kind : TypeDesc
  und : P.underlying kt = some kind
  same : (∀ a b, Instr.sameNow kind (enc a) (enc b) = some (decide (a = b))) ∨ ((∀ a b, Instr.sameNow kind (enc a) (enc b) = none) ∧ ∀ a b (w : World), (Op.equal kt (enc a) (enc b)).run P w = .ok (decide (a = b)) w)
  check : ∀ (e : Bool) (k : K) (w : World), (Instr.checkKey e 10000 kt (enc k)).run P w = .ok () w
  bits : ∀ a, Instr.sameBits 10000 (enc a) (enc a) = true
def keyInt {P : Program} {kt : TypeId} (hu : P.underlying kt = some (.int .i64)) : KeyT P Int kt where
  enc := fun n => .int .i64 n
  kind := .int .i64
  und := hu
  same := .inl fun a b => by
    simp only [Instr.sameNow, if_true, beq_dec]
  check := fun e k w => Go.MapKept.run_checkKey hu (show Go.MapKept.IsKey (.int .i64) (.int .i64 k) from rfl) e 9999
  bits := fun a => by simp [Instr.sameBits]
section
variable {K V : Type} [DecidableEq K]
/-- what a table has for a key -/
def aget : List (K × V) → K → Option V
  | [], _ => none
  | p :: l, k => if k = p.1 then some p.2 else aget l k
def aput : List (K × V) → K → V → List (K × V)
  | [], k, v => [(k, v)]
  | p :: l, k, v => if k = p.1 then (k, v) :: l else p :: aput l k v
def afind : List (K × V) → K → Nat → Option (Nat × V)
  | [], _, _ => none
  | p :: l, k, i => if k = p.1 then some (i, p.2) else afind l k (i + 1)
theorem afind_get : ∀ (l : List (K × V)) (k : K) (i : Nat), (afind l k i).map (·.2) = aget l k
  | [], _, _ => rfl
  | p :: l, k, i => by
    simp only [afind, aget]
    split
    · rfl
    · exact afind_get l k (i + 1)
theorem aget_put (l : List (K × V)) (k k' : K) (v : V) : aget (aput l k v) k' = if k' = k then some v else aget l k' := by
  induction l with
  | nil => simp [aput, aget]
  | cons p l ih =>
    simp only [aput]
    split
    · rename_i h; subst h
      simp only [aget]
      split <;> rfl
    · rename_i h
      simp only [aget, ih]
      by_cases h2 : k' = p.1
      · subst h2; rw [if_pos rfl, if_neg (fun e => h e.symm)]; simp
      · rw [if_neg h2]; simp [h2]
theorem aput_len (l : List (K × V)) (k : K) (v : V) : (aput l k v).length = if (aget l k).isSome then l.length else l.length + 1 := by
  induction l with
  | nil => rfl
  | cons p l ih =>
    simp only [aput, aget]
    split
    · rfl
    · rw [List.length_cons, ih]; split <;> simp
end
/-- block b is a table that holds l -/
def Mp {K V : Type} (ke : K → Value) (ve : V → Value) (H : Heap) (b : Nat) (l : List (K × V)) : Prop :=
  ∃ (es : Array MapEntry) (clock : Nat), H[b]? = some (.map es clock) ∧ es.toList.map (fun e => (e.key, e.val)) = (l.map fun p => (ke p.1, ve p.2)) ∧ (es.toList.map (·.born)).Nodup ∧ ∀ x ∈ es.toList, x.born < clock
section
variable {K V : Type} {ke : K → Value} {ve : V → Value} {H H' : Heap} {b : Nat} {l : List (K × V)}
theorem Mp.lt (h : Mp ke ve H b l) : b < H.size := by
  obtain ⟨es, clock, h1, _⟩ := h
  exact (Array.getElem?_eq_some_iff.1 h1).1
theorem Mp.ext {M : List Nat} (hx : Ext M H H') (h : Mp ke ve H b l) (hm : b ∉ M) : Mp ke ve H' b l := by
  obtain ⟨es, clock, h1, h2⟩ := h
  exact ⟨es, clock, (hx.old b (Array.getElem?_eq_some_iff.1 h1).1 hm).trans h1, h2⟩
theorem Mp.chg {r : Nat} (h : Mp ke ve H b l) (c : Chg r H H') : Mp ke ve H' b l := by
  refine Mp.ext c.ext h ?_
  intro e
  simp at e
  subst e
  obtain ⟨es, clock, h1, _⟩ := h
  obtain ⟨r, hr⟩ := c.was
  rw [h1] at hr; cases hr
theorem Mp.shut {B : Nat} (h : Mp ke ve H b l) (c : Shut B H H') : Mp ke ve H' b l := by
  obtain ⟨es, clock, h1, h2⟩ := h
  exact ⟨es, clock, c.cells h1 (by simp), h2⟩
theorem Mp.len (h : Mp ke ve H b l) : ∃ es clock, H[b]? = some (.map es clock) ∧ es.size = l.length := by
  obtain ⟨es, clock, h1, h2, _⟩ := h
  refine ⟨es, clock, h1, ?_⟩
  have := congrArg List.length h2
  simpa using this
/-- what an update leaves -/
structure PutM (ke : K → Value) (ve : V → Value) (H H' : Heap) (b : Nat) (l : List (K × V)) : Prop where
  ext : Ext [b] H H'
  size : H'.size = H.size
  mp : Mp ke ve H' b l
variable {P : Program} {N : Sz} {f : Frm} {t e kt ty : TypeId} {x y z : Operand}
theorem run_getObj_map {w : World} {es : Array MapEntry} {clock : Nat} (h : w.heap[b]? = some (.map es clock)) : (getObj b).run P w = .ok (.map es clock) w := by simp [getObj, Sem.run, h]
theorem h_makeMap : OpH P N (.makeMap t none) ty f H (fun v H' => v = .map (some H.size) ∧ Ext [] H H' ∧ H'.size = H.size + 1 ∧ Mp ke ve H' H.size []) := by
  intro a w hf hH
  subst hH
  have hx : Ext [] w.heap (w.heap.push (.map #[] 0)) := ⟨by simp, fun b hb _ => by rw [Array.getElem?_push, if_neg (by omega)]⟩
  exact ⟨⟨rfl, rfl, rfl, hx.keep, Nat.le_refl _⟩, rfl, hx, by simp [World.alloc], ⟨#[], 0, by simp [World.alloc], rfl, by simp, by simp⟩⟩
variable [DecidableEq K] {k : K} {d : V}
theorem findNow_eq (kt' : KeyT P K kt) (hs : ∀ a b, Instr.sameNow kt'.kind (kt'.enc a) (kt'.enc b) = some (decide (a = b))) (hke : ke = kt'.enc) : ∀ (l : List (K × V)) (es : List MapEntry) (i : Nat), es.map (fun e => (e.key, e.val)) = l.map (fun p => (ke p.1, ve p.2)) →
    Instr.findNow kt'.kind (ke k) es i = some ((afind l k i).map fun q => (q.1, ve q.2))
  | [], [], i, _ => rfl
  | [], _ :: _, i, h => by simp at h
  | _ :: _, [], i, h => by simp at h
  | p :: l, e :: es, i, h => by
    simp only [List.map_cons, List.cons.injEq, Prod.mk.injEq] at h
    obtain ⟨⟨h1, h2⟩, h3⟩ := h
    simp only [Instr.findNow, h1, hke, hs, afind]
    by_cases hk : k = p.1
    · simp [hk, h2]
    · rw [decide_eq_false hk, if_neg hk]
      have := findNow_eq kt' hs hke l es (i + 1) h3
      rw [hke] at this
      exact this
theorem findAsking_eq (kt' : KeyT P K kt) (hs : ∀ a b (w : World), (Op.equal kt (kt'.enc a) (kt'.enc b)).run P w = .ok (decide (a = b)) w) (hke : ke = kt'.enc) (w : World) : ∀ (l : List (K × V)) (es : List MapEntry) (i : Nat), es.map (fun e => (e.key, e.val)) = l.map (fun p => (ke p.1, ve p.2)) →
    (Instr.findAsking kt (ke k) es i).run P w = .ok ((afind l k i).map fun q => (q.1, ve q.2)) w
  | [], [], i, _ => by simp [Instr.findAsking, afind]
  | [], _ :: _, i, h => by simp at h
  | _ :: _, [], i, h => by simp at h
  | p :: l, e :: es, i, h => by
    simp only [List.map_cons, List.cons.injEq, Prod.mk.injEq] at h
    obtain ⟨⟨h1, h2⟩, h3⟩ := h
    simp only [Instr.findAsking, h1, hke, Sem.run_bind, hs, Result.andThen_ok, afind]
    by_cases hk : k = p.1
    · simp [hk, h2]
    · rw [decide_eq_false hk, if_neg hk]
      have := findAsking_eq kt' hs hke w l es (i + 1) h3
      rw [hke] at this
      simpa using this
theorem run_findKey (kt' : KeyT P K kt) (hke : ke = kt'.enc) {es : List MapEntry} (h : es.map (fun e => (e.key, e.val)) = l.map (fun p => (ke p.1, ve p.2))) (w : World) :
    (Instr.findKey kt (ke k) es).run P w = .ok ((afind l k 0).map fun q => (q.1, ve q.2)) w := by
  rcases kt'.same with hs | ⟨hn, hs⟩
  · simp only [Instr.findKey, Sem.run_bind, run_underlying kt'.und, Result.andThen_ok, findNow_eq kt' hs hke l es 0 h, Sem.run_pure]
  · have hf := findAsking_eq (k := k) kt' hs hke w l es 0 h
    simp only [Instr.findKey, Sem.run_bind, run_underlying kt'.und, Result.andThen_ok]
    cases es with
    | nil =>
      cases l with
      | nil => simp [Instr.findNow, afind]
      | cons p l => simp at h
    | cons e es =>
      cases l with
      | nil => simp at h
      | cons p l =>
        have h1 : e.key = ke p.1 := by simp only [List.map_cons, List.cons.injEq, Prod.mk.injEq] at h; exact h.1.1
        have hnn : Instr.findNow kt'.kind (ke k) (e :: es) 0 = none := by
          simp only [Instr.findNow, h1, hke, hn]
        rw [hnn]; exact hf
theorem run_lookup_at (kt' : KeyT P K kt) (hke : ke = kt'.enc) (ht : P.underlying t = some (.map kt e)) (hz : ∀ w, (zeroValue e).run P w = .ok (ve d) w) (hm : Mp ke ve H b l) (ok : Bool) (w : World) (hw : w.heap = H) :
    (Instr.lookup t (.map (some b)) (ke k) ok).run P w = .ok (if ok then .tuple #[ve ((aget l k).getD d), .bool (aget l k).isSome] else ve ((aget l k).getD d)) w := by
  subst hw
  obtain ⟨es, clock, h1, h2, _⟩ := hm
  have hc := kt'.check es.isEmpty k w
  rw [← hke] at hc
  simp only [Instr.lookup, Sem.run_bind, run_underlying ht, Result.andThen_ok, run_getObj_map h1, Sem.run_pure, hc, run_findKey kt' hke h2]
  have hg := afind_get l k 0
  cases ha : afind l k 0 with
  | none =>
    rw [ha] at hg
    simp only [Option.map_none] at hg ⊢
    rw [← hg]
    simp only [Sem.run_bind, hz, Result.andThen_ok, Sem.run_pure]
    cases ok <;> rfl
  | some q =>
    rw [ha] at hg
    simp only [Option.map_some] at hg ⊢
    rw [← hg]
    cases ok <;> rfl
theorem v_lookup2 (kt' : KeyT P K kt) (hke : ke = kt'.enc) (ht : P.underlying t = some (.map kt e)) (hz : ∀ w, (zeroValue e).run P w = .ok (ve d) w) (hx : ev f x = some (.map (some b))) (hy : ev f y = some (ke k)) (hm : Mp ke ve H b l) :
    OpV P N (.lookup t x y true) ty f H (.tuple #[ve ((aget l k).getD d), .bool (aget l k).isSome]) := by
  intro a w hf hH
  simp only [opx, execOp, hf.ev hx, hf.ev hy]
  exact quiet_pure (run_lookup_at kt' hke ht hz hm true w hH)
theorem v_lookup1 (kt' : KeyT P K kt) (hke : ke = kt'.enc) (ht : P.underlying t = some (.map kt e)) (hz : ∀ w, (zeroValue e).run P w = .ok (ve d) w) (hx : ev f x = some (.map (some b))) (hy : ev f y = some (ke k)) (hm : Mp ke ve H b l) :
    OpV P N (.lookup t x y false) ty f H (ve ((aget l k).getD d)) := by
  intro a w hf hH
  simp only [opx, execOp, hf.ev hx, hf.ev hy]
  exact quiet_pure (run_lookup_at kt' hke ht hz hm false w hH)
omit [DecidableEq K] in
theorem v_lenM {tys : Array TypeId} {t : TypeId} (ha : tys = #[t]) (ht : P.underlying t = some (.map kt e)) (hx : ev f x = some (.map (some b))) (hm : Mp ke ve H b l) : OpV P N (.call ⟨.builtin .len, #[x], tys⟩) ty f H (.int .i64 l.length) := by
  subst ha
  intro a w hf hH
  subst hH
  obtain ⟨es, clock, h1, h2⟩ := hm.len
  simp only [opx, execOp, resolve, List.map_toArray, List.map_cons, List.map_nil, hf.ev hx, Sem.run_bind, Sem.run_pure, Result.andThen_ok, invoke, builtin]
  refine quiet_then ?_
  unfold Builtin.len_
  simp only [List.getElem?_toArray, List.getElem?_cons_zero, Sem.run_bind, run_underlying ht, Result.andThen_ok, run_getObj_map h1, h2]; rfl
theorem modify_put : ∀ (l : List (K × V)) (es : List MapEntry) (i j : Nat) (q : V) (v : V) (kk : Value), es.map (fun e => (e.key, e.val)) = l.map (fun p => (ke p.1, ve p.2)) → afind l k i = some (j, q) → kk = ke k →
    (es.modify (j - i) fun e => { e with key := kk, val := ve v }).map (fun e => (e.key, e.val)) = (aput l k v).map (fun p => (ke p.1, ve p.2)) ∧ i ≤ j
  | [], _, i, j, q, v, kk, _, h, _ => by simp [afind] at h
  | _ :: _, [], i, j, q, v, kk, h, _, _ => by simp at h
  | p :: l, e :: es, i, j, q, v, kk, h, hf, hk => by
    simp only [List.map_cons, List.cons.injEq, Prod.mk.injEq] at h
    obtain ⟨⟨h1, h2⟩, h3⟩ := h
    simp only [afind] at hf
    by_cases hp : k = p.1
    · rw [if_pos hp] at hf
      cases hf
      simp only [aput, if_pos hp, Nat.sub_self, List.modify_zero_cons, List.map_cons, hk]
      exact ⟨by rw [h3], Nat.le_refl _⟩
    · rw [if_neg hp] at hf
      obtain ⟨h4, h5⟩ := modify_put l es (i + 1) j q v kk h3 hf hk
      refine ⟨?_, by omega⟩
      rw [show j - i = (j - (i + 1)) + 1 by omega, List.modify_succ_cons]
      simp only [aput, if_neg hp, List.map_cons, h4, h1, h2]
theorem afind_none_put : ∀ (l : List (K × V)) (i : Nat) (v : V), afind l k i = none → aput l k v = l ++ [(k, v)]
  | [], _, _, _ => rfl
  | p :: l, i, v, h => by
    simp only [afind] at h
    by_cases hp : k = p.1
    · rw [if_pos hp] at h; cases h
    · rw [if_neg hp] at h
      simp only [aput, if_neg hp, afind_none_put l (i + 1) v h, List.cons_append]
omit [DecidableEq K] in
theorem modify_born {kk : Value} {v : V} : ∀ (es : List MapEntry) (j : Nat), (es.modify j fun e => { e with key := kk, val := ve v }).map (·.born) = es.map (·.born)
  | [], _ => by simp
  | _ :: _, 0 => by simp
  | e :: es, j + 1 => by rw [List.modify_succ_cons, List.map_cons, List.map_cons, modify_born es j]
theorem h_mapUpdate {v : V} (kt' : KeyT P K kt) (hke : ke = kt'.enc) (ht : P.underlying t = some (.map kt e)) (hx : ev f x = some (.map (some b))) (hy : ev f y = some (ke k)) (hz : ev f z = some (ve v)) (hm : Mp ke ve H b l) :
    OpH P N (.mapUpdate t x y z) ty f H (fun _ H' => PutM ke ve H H' b (aput l k v)) := by
  intro a w hf hH
  subst hH
  obtain ⟨es, clock, h1, h2, hb1, hb2⟩ := hm
  have hlt := (Array.getElem?_eq_some_iff.1 h1).1
  have hc := kt'.check false k w
  rw [← hke] at hc
  have hkeep : ∀ o, Keep w.heap (w.heap.setIfInBounds b o) := fun o D o' hd ho => by
    rw [Array.getElem?_setIfInBounds]
    split
    · rename_i e; subst e; rw [h1] at hd; cases hd; exact ho.elim
    · exact hd
  have hset : ∀ (o : Obj) (w' : World), w'.heap = w.heap → (setObj b o).run P w' = .ok () { w' with heap := w'.heap.setIfInBounds b o } := fun o w' hw' => by simp [setObj, Sem.run, hw', h1]
  simp only [opx, execOp, hf.ev hx, hf.ev hy, hf.ev hz, Instr.mapUpdate, Sem.run_bind, run_underlying ht, Result.andThen_ok, run_getObj_map h1, hc, run_findKey kt' hke h2]
  cases ha : afind l k 0 with
  | none =>
    simp only [Option.map_none, hset _ w rfl, Result.andThen_ok, Sem.run_pure]
    refine ⟨⟨rfl, rfl, rfl, hkeep _, Nat.le_refl _⟩, ⟨Ext.set _ _ _, by simp, ⟨es.push { key := ke k, val := ve v, born := clock }, clock + 1, by simp [hlt], ?_, ?_, ?_⟩⟩⟩
    · rw [afind_none_put l 0 v ha]
      simp [h2]
    · rw [Array.toList_push, List.map_append, List.nodup_append]
      refine ⟨hb1, by simp, fun a ha b hb hab => ?_⟩
      simp only [List.map_cons, List.map_nil, List.mem_singleton] at hb
      obtain ⟨x, hx, rfl⟩ := List.mem_map.1 ha
      have := hb2 x hx
      omega
    · intro x hx
      rw [Array.toList_push, List.mem_append, List.mem_singleton] at hx
      rcases hx with hx | rfl
      · have := hb2 x hx; omega
      · exact Nat.lt_succ_self _
  | some q =>
    obtain ⟨j, q⟩ := q
    obtain ⟨h3, _⟩ := modify_put l es.toList 0 j q v (ke k) h2 ha rfl
    have hold : ((es[j]?).map (·.key)).getD (ke k) = ke k := by
      have key : ∀ (l : List (K × V)) (es : List MapEntry) (i j : Nat) (q : V), es.map (fun e => (e.key, e.val)) = l.map (fun p => (ke p.1, ve p.2)) → afind l k i = some (j, q) → i ≤ j ∧ (es[j - i]?).map (·.key) = some (ke k) := by
        intro l
        induction l with
        | nil => intro es i j q _ h; simp [afind] at h
        | cons p l ih =>
          intro es i j q h hf
          cases es with
          | nil => simp at h
          | cons e es =>
            simp only [List.map_cons, List.cons.injEq, Prod.mk.injEq] at h
            obtain ⟨⟨h1, h2⟩, h3⟩ := h
            simp only [afind] at hf
            by_cases hp : k = p.1
            · rw [if_pos hp] at hf; cases hf; simp [h1, hp]
            · rw [if_neg hp] at hf
              obtain ⟨h4, h5⟩ := ih es (i + 1) j q h3 hf
              refine ⟨by omega, ?_⟩
              rw [show j - i = (j - (i + 1)) + 1 by omega, List.getElem?_cons_succ]; exact h5
      have := (key l es.toList 0 j q h2 ha).2
      rw [Nat.sub_zero, Array.getElem?_toList] at this
      rw [this]; rfl
    have hb : Instr.sameBits 10000 (ke k) (ke k) = true := by rw [hke]; exact kt'.bits k
    simp only [Option.map_some, Instr.keyThatStays, hold, hb, if_true, Sem.run_bind, Sem.run_pure, Result.andThen_ok, hset _ w rfl]
    refine ⟨⟨rfl, rfl, rfl, hkeep _, Nat.le_refl _⟩, ⟨Ext.set _ _ _, by simp, ⟨es.modify j fun e => { e with key := ke k, val := ve v }, clock, by simp [hlt], ?_, ?_, ?_⟩⟩⟩
    · rw [Nat.sub_zero] at h3
      rw [Array.toList_modify]; exact h3
    · rw [Array.toList_modify, modify_born]; exact hb1
    · intro x hx
      rw [Array.toList_modify] at hx
      have hx2 := List.mem_map_of_mem (f := fun e : MapEntry => e.born) hx
      rw [modify_born] at hx2
      obtain ⟨y, hy, hyx⟩ := List.mem_map.1 hx2
      have := hb2 y hy
      omega
end
section
variable {P : Program} {N : Sz} {f : Frm} {H : Heap} {ty : TypeId} {x y : Operand}
end
section
variable {P : Program} {N : Sz} {f : Frm} {H : Heap} {t t' e ty : TypeId} {x : Operand}
theorem v_bytesStr {v : Value} {S : Nat → Prop} {l : List UInt8} (ht : P.underlying t = some (.slice e)) (he : P.underlying e = some (.int .u8)) (hd : P.underlying t' = some .string) (hx : ev f x = some v) (hs : Sl fByte.rep H S v l) : OpV P N (.convert t t' x) ty f H (str l) := by
  intro a w hf hH
  subst hH
  simp only [opx, execOp, hf.ev hx]
  refine quiet_pure ?_
  rw [hs.shape]
  cases ha : sa v with
  | none =>
    have hl : l = [] := by
      rcases Nat.eq_zero_or_pos l.length with h | h
      · exact List.eq_nil_of_length_eq_zero h
      · have h2 := (hs.mem 0 h).1
        rw [h2] at ha; cases ha
    subst hl
    rw [run_convert_bytes_string w t t' e none _ _ ht he hd]
    rfl
  | some ad =>
    refine run_convert_bytes_back w t t' e ad (sc v) l ht he hd fun j hj => ?_
    obtain ⟨h1, _, cs, h3, h4⟩ := hs.mem j hj
    have h5 : ad = ⟨sb v, so v, none⟩ := by rw [h1] at ha; cases ha; rfl
    have h6 : cs = [.int .u8 l[j].toNat] := h4
    subst h6
    rw [h5, add_mk, cell?_eq]
    have h7 := h3 0 _ rfl
    rw [Nat.add_zero] at h7
    rw [← h7]
    congr 1
    show so v + j = so v + j * 1
    omega
end
end
section
/-- what a part of a heap is: the blocks of D are its own, the blocks of Z nobody turns any more -/
structure As where
  r : Heap → (Nat → Prop) → (Nat → Prop) → Prop
  keep : ∀ {H H' : Heap} {Z Z' D : Nat → Prop}, r H Z D → H.size ≤ H'.size → (∀ b, D b ∨ Z b → b < H.size → H'[b]? = H[b]?) → (∀ b, Z b → Z' b) → r H' Z' D
  dat : ∀ {H : Heap} {Z D : Nat → Prop}, r H Z D → ∀ b, D b → ¬ dfr H b
def OwnF (H : Heap) (Z : Nat → Prop) : (Nat → Prop) → List As → Prop
  | _, [] => True
  | F, A :: L => ∃ D, A.r H Z D ∧ (∀ b, D b → F b) ∧ OwnF H Z (fun b => F b ∧ ¬ D b) L
structure Own (H : Heap) (Z : Nat → Prop) (L : List As) : Prop where
  z : ∀ b, Z b → b < H.size ∧ ¬ dfr H b
  f : OwnF H Z (fun b => b < H.size ∧ ¬ Z b) L
section
variable {H H' : Heap} {Z Z' F F' : Nat → Prop} {L : List As} {A A' : As}
theorem OwnF.frame : ∀ {L : List As} {F F' : Nat → Prop}, OwnF H Z F L → H.size ≤ H'.size → (∀ b, F b → F' b) → (∀ b, F b ∨ Z b → b < H.size → H'[b]? = H[b]?) → (∀ b, Z b → Z' b) → OwnF H' Z' F' L
  | [], _, _, _, _, _, _, _ => trivial
  | A :: L, F, F', ⟨D, h1, h2, h3⟩, hs, hF, hb, hz =>
    ⟨D, A.keep h1 hs (fun b h => hb b (h.imp (h2 b) id)) hz, fun b h => hF b (h2 b h), OwnF.frame h3 hs (fun b ⟨k1, k2⟩ => ⟨hF b k1, k2⟩) (fun b h => hb b (h.imp (fun q => q.1) id)) hz⟩
theorem OwnF.at : ∀ {L : List As} {F : Nat → Prop} {i : Nat} {A : As}, OwnF H Z F L → L[i]? = some A → ∃ D, A.r H Z D ∧ (∀ b, D b → F b) ∧
    ∀ {H' : Heap} {Z' F' D' : Nat → Prop} {A' : As}, A'.r H' Z' D' → H.size ≤ H'.size → (∀ b, D' b → F' b) → (∀ b, F b → ¬ D b → F' b ∧ ¬ D' b) → (∀ b, (F b ∧ ¬ D b) ∨ Z b → b < H.size → H'[b]? = H[b]?) → (∀ b, Z b → Z' b) → OwnF H' Z' F' (L.set i A')
  | [], _, _, _, _, hi => by simp at hi
  | B :: L, F, 0, A, ⟨D, h1, h2, h3⟩, hi => by
    simp only [List.getElem?_cons_zero, Option.some.injEq] at hi
    subst hi
    refine ⟨D, h1, h2, fun k1 k0 k2 k3 k4 k5 => ⟨_, k1, k2, OwnF.frame h3 k0 (fun b ⟨q1, q2⟩ => k3 b q1 q2) k4 k5⟩⟩
  | B :: L, F, i + 1, A, ⟨DB, h1, h2, h3⟩, hi => by
    simp only [List.getElem?_cons_succ] at hi
    obtain ⟨D, g1, g2, g3⟩ := OwnF.at h3 hi
    refine ⟨D, g1, fun b h => (g2 b h).1, fun {H' Z' F' D' A'} k1 k0 k2 k3 k4 k5 => ?_⟩
    have q : ∀ b, DB b → F b ∧ ¬ D b := fun b h => ⟨h2 b h, fun hd => (g2 b hd).2 h⟩
    refine ⟨DB, B.keep h1 k0 (fun b h => k4 b (h.imp (q b) id)) k5, fun b h => (k3 b (q b h).1 (q b h).2).1, g3 (F' := fun b => F' b ∧ ¬ DB b) k1 k0 ?_ ?_ ?_ k5⟩
    · intro b h
      exact ⟨k2 b h, fun hd => (k3 b (q b hd).1 (q b hd).2).2 h⟩
    · rintro b ⟨f1, f2⟩ f3
      exact ⟨⟨(k3 b f1 f3).1, f2⟩, (k3 b f1 f3).2⟩
    · intro b h
      exact k4 b (h.imp (fun ⟨⟨f1, _⟩, f3⟩ => ⟨f1, f3⟩) id)
theorem Own.get {i : Nat} (h : Own H Z L) (hi : L[i]? = some A) : ∃ D, A.r H Z D ∧ ∀ b, D b → b < H.size ∧ ¬ Z b := by
  obtain ⟨D, h1, h2, _⟩ := h.f.at hi
  exact ⟨D, h1, h2⟩
theorem Own.upd {i : Nat} (h : Own H Z L) (hi : L[i]? = some A) : ∃ D, A.r H Z D ∧ (∀ b, D b → b < H.size ∧ ¬ Z b) ∧
    ∀ {H' : Heap} {A' : As} {D' : Nat → Prop}, A'.r H' Z D' → (∀ b, D' b → D b ∨ (H.size ≤ b ∧ b < H'.size)) → H.size ≤ H'.size → (∀ b, b < H.size → ¬ D b → H'[b]? = H[b]?) → Own H' Z (L.set i A') := by
  obtain ⟨D, h1, h2, h3⟩ := h.f.at hi
  refine ⟨D, h1, h2, fun k1 k2 k3 k4 => ⟨fun b hb => ⟨Nat.lt_of_lt_of_le (h.z b hb).1 k3, by rw [dfr, k4 b (h.z b hb).1 fun hd => (h2 b hd).2 hb]; exact (h.z b hb).2⟩, h3 (F' := fun b => b < _ ∧ ¬ Z b) k1 k3 ?_ ?_ ?_ fun _ h => h⟩⟩
  · intro b hb
    rcases k2 b hb with q | ⟨q1, q2⟩
    · exact ⟨Nat.lt_of_lt_of_le (h2 b q).1 k3, (h2 b q).2⟩
    · exact ⟨q2, fun hz => absurd (h.z b hz).1 (by omega)⟩
  · rintro b ⟨f1, f2⟩ f3
    refine ⟨⟨Nat.lt_of_lt_of_le f1 k3, f2⟩, fun hd => ?_⟩
    rcases k2 b hd with q | ⟨q1, _⟩
    · exact f3 q
    · omega
  · intro b hb hl
    rcases hb with ⟨_, q⟩ | q
    · exact k4 b hl q
    · exact k4 b hl fun hd => (h2 b hd).2 q
theorem Own.ext (h : Own H Z L) (hx : Ext [] H H') : Own H' Z L :=
  ⟨fun b hb => ⟨Nat.lt_of_lt_of_le (h.z b hb).1 hx.size, by rw [dfr, hx.old b (h.z b hb).1 (by simp)]; exact (h.z b hb).2⟩, h.f.frame hx.size (fun b ⟨k1, k2⟩ => ⟨Nat.lt_of_lt_of_le k1 hx.size, k2⟩) (fun b _ hl => hx.old b hl (by simp)) fun _ h => h⟩
theorem Own.add {D' : Nat → Prop} (h : Own H Z L) (hx : Ext [] H H') (hA : A'.r H' Z D') (hd : ∀ b, D' b → H.size ≤ b ∧ b < H'.size) : Own H' Z (A' :: L) :=
  ⟨fun b hb => ⟨Nat.lt_of_lt_of_le (h.z b hb).1 hx.size, by rw [dfr, hx.old b (h.z b hb).1 (by simp)]; exact (h.z b hb).2⟩, D', hA, fun b hb => ⟨(hd b hb).2, fun hz => absurd (h.z b hz).1 (by have := (hd b hb).1; omega)⟩,
    h.f.frame hx.size (fun b ⟨k1, k2⟩ => ⟨⟨Nat.lt_of_lt_of_le k1 hx.size, k2⟩, fun hb => by have := (hd b hb).1; omega⟩) (fun b _ hl => hx.old b hl (by simp)) fun _ h => h⟩
theorem Own.frz {i : Nat} (h : Own H Z L) (hi : L[i]? = some A) (hA : ∀ D, A.r H Z D → A'.r H (fun b => Z b ∨ D b) (fun _ => False)) : ∃ Z', (∀ b, Z b → Z' b) ∧ Own H Z' (L.set i A') := by
  obtain ⟨D, h1, h2, h3⟩ := h.f.at hi
  refine ⟨fun b => Z b ∨ D b, fun _ h => .inl h, ⟨fun b hb => ?_, ?_⟩⟩
  · rcases hb with hb | hb
    · exact h.z b hb
    · exact ⟨(h2 b hb).1, A.dat h1 b hb⟩
  · exact h3 (F' := fun b => b < H.size ∧ ¬ (Z b ∨ D b)) (hA D h1) (Nat.le_refl _) (fun b hb => hb.elim) (fun b ⟨f1, f2⟩ f3 => ⟨⟨f1, fun hh => hh.elim f2 f3⟩, fun hh => hh⟩) (fun _ _ _ => rfl) fun _ h => .inl h
/-- nothing -/
def emp : As := ⟨fun _ _ D => ∀ b, ¬ D b, fun h _ _ _ => h, fun h b hb => absurd hb (h b)⟩
def sel (Ls : List As) (is : List Nat) : List As := is.map fun i => Ls.getD i emp
theorem OwnF.sel : ∀ (is : List Nat) (Ls : List As) (F : Nat → Prop), is.Nodup → (∀ i ∈ is, i < Ls.length) → OwnF H Z F (Ls ++ L) → OwnF H Z F (sel Ls is ++ L)
  | [], [], F, _, _, h => h
  | [], A :: Ls, F, hn, hb, ⟨D, h1, h2, h3⟩ => by
    have := OwnF.sel [] Ls _ hn (by simp) h3
    exact this.frame (Nat.le_refl _) (fun b h => h.1) (fun _ _ _ => rfl) fun _ h => h
  | i :: is, Ls, F, hn, hb, h => by
    obtain ⟨hn1, hn2⟩ := List.nodup_cons.1 hn
    have hi : i < Ls.length := hb i (by simp)
    obtain ⟨D, h1, h2, h3⟩ := h.at (i := i) (A := Ls.getD i emp) (by rw [List.getElem?_append_left hi, List.getD, List.getElem?_eq_getElem hi]; rfl)
    have h4 := h3 (H' := H) (Z' := Z) (F' := fun b => F b ∧ ¬ D b) (D' := fun _ => False) (A' := emp) (fun _ h => h) (Nat.le_refl _) (fun _ h => h.elim) (fun b f1 f2 => ⟨⟨f1, f2⟩, fun h => h⟩) (fun _ _ _ => rfl) fun _ h => h
    rw [List.set_append_left _ _ hi] at h4
    have h5 := OwnF.sel is (Ls.set i emp) _ hn2 (fun j hj => by rw [List.length_set]; exact hb j (by simp [hj])) h4
    refine ⟨D, h1, h2, ?_⟩
    have e : Go.Proofs.YtaopgjfioabfpaaGreat.sel (Ls.set i emp) is = Go.Proofs.YtaopgjfioabfpaaGreat.sel Ls is := by
      unfold Go.Proofs.YtaopgjfioabfpaaGreat.sel
      apply List.map_congr_left
      intro j hj
      have : i ≠ j := by rintro rfl; exact hn1 hj
      simp [List.getD, List.getElem?_set_ne this]
    rw [e] at h5; exact h5
def okSel (n : Nat) (is : List Nat) : Bool := match is with
  | [] => true
  | i :: r => Nat.blt i n && !(r.contains i) && okSel n r
theorem okSel_ok {n : Nat} : ∀ {is : List Nat}, okSel n is = true → is.Nodup ∧ ∀ i ∈ is, i < n
  | [], _ => ⟨List.nodup_nil, by simp⟩
  | i :: r, h => by
    simp only [okSel, Bool.and_eq_true, Bool.not_eq_true'] at h
    obtain ⟨⟨h1, h2⟩, h3⟩ := h
    obtain ⟨k1, k2⟩ := okSel_ok h3
    refine ⟨List.nodup_cons.2 ⟨fun hc => by simp [hc] at h2, k1⟩, fun j hj => ?_⟩
    rcases List.mem_cons.1 hj with rfl | hj
    · exact blt_lt h1
    · exact k2 j hj
theorem Own.sel {Ls : List As} (is : List Nat) (hn : okSel Ls.length is = true) (h : Own H Z (Ls ++ L)) : Own H Z (sel Ls is ++ L) :=
  ⟨h.z, OwnF.sel is Ls _ (okSel_ok hn).1 (okSel_ok hn).2 h.f⟩
theorem Own.tail (h : Own H Z (A :: L)) : Own H Z L := by
  obtain ⟨D, h1, h2, h3⟩ := h.f
  exact ⟨h.z, h3.frame (Nat.le_refl _) (fun b k => k.1) (fun _ _ _ => rfl) fun _ h => h⟩
theorem Own.tails (Ls : List As) (h : Own H Z (Ls ++ L)) : Own H Z L := Own.sel (Ls := Ls) [] rfl h
/-- one more of what nobody turns -/
theorem Own.dup (h : Own H Z L) (hA : A'.r H Z fun _ => False) : Own H Z (A' :: L) :=
  ⟨h.z, fun _ => False, hA, fun _ hb => hb.elim, h.f.frame (Nat.le_refl _) (fun b k => ⟨k, fun h => h⟩) (fun _ _ _ => rfl) fun _ h => h⟩
/-! ## what there is -/
variable {b : Nat} {cs cs' : List Value} {T e : TypeId} {v v' : Value}
def box (b : Nat) (cs : List Value) (T : TypeId) : As := ⟨fun H _ D => Blk H b cs T ∧ ∀ x, D x ↔ x = b, fun ⟨h1, h2⟩ _ hb _ => ⟨(hb b (.inl ((h2 b).2 rfl)) h1.lt).trans h1, h2⟩, fun ⟨h1, h2⟩ x hx hd => by
  have := (h2 x).1 hx
  subst this
  unfold Blk at h1
  rw [dfr, h1] at hd; cases hd⟩
def own {α : Type} (g : Flat α) (e : TypeId) (v : Value) (l : List α) : As :=
  ⟨fun H _ D => Ow g H 0 e v l ∧ ∀ x, D x ↔ x ∈ mb v, fun {H H' Z Z' D} ⟨h1, h2⟩ _ hb _ => by
    refine ⟨?_, h2⟩
    obtain ⟨k1, k2⟩ := h1
    refine ⟨k1, ?_⟩
    rcases k2 with k2 | ⟨k, cap, cur, rfl, h3, h4, h5⟩
    · exact .inl k2
    · exact .inr ⟨k, cap, cur, rfl, h3, (hb k (.inl ((h2 k).2 (by simp [mb]))) (Array.getElem?_eq_some_iff.1 h4).1).trans h4, h5⟩, fun ⟨⟨_, k2⟩, h2⟩ x hx hd => by
      rcases k2 with ⟨rfl, _⟩ | ⟨k, cap, cur, rfl, _, h4, _⟩
      · have := (h2 x).1 hx; simp [mb] at this
      · have := (h2 x).1 hx
        simp [mb] at this
        subst this
        rw [dfr, h4] at hd; cases hd⟩
def fz {α : Type} (r : Rep α) (v : Value) (l : List α) : As := ⟨fun H Z D => Sl r H Z v l ∧ ∀ x, ¬ D x, fun ⟨h1, h2⟩ _ hb hz => ⟨h1.keep (fun b hZ hl => hb b (.inr hZ) hl) hz, h2⟩, fun ⟨_, h2⟩ x hx => absurd hx (h2 x)⟩
def tbl {K V : Type} (ke : K → Value) (ve : V → Value) (b : Nat) (l : List (K × V)) : As :=
  ⟨fun H _ D => Mp ke ve H b l ∧ ∀ x, D x ↔ x = b, fun ⟨h1, h2⟩ _ hb _ => by
    obtain ⟨es, clock, k1, k2⟩ := h1
    exact ⟨⟨es, clock, (hb b (.inl ((h2 b).2 rfl)) (Array.getElem?_eq_some_iff.1 k1).1).trans k1, k2⟩, h2⟩, fun ⟨⟨es, clock, k1, _⟩, h2⟩ x hx hd => by
      have := (h2 x).1 hx
      subst this
      rw [dfr, k1] at hd; cases hd⟩
/-- blocks as they were in H0 -/
def was (H0 : Heap) : As := ⟨fun H Z D => (∀ b, inD H0 b → Z b ∧ b < H.size ∧ H[b]? = H0[b]?) ∧ ∀ x, ¬ D x, fun {H H' Z Z' D} ⟨h1, h2⟩ _ hb hz => ⟨fun b hb0 => by
    obtain ⟨k1, k2, k3⟩ := h1 b hb0
    have e := hb b (.inr k1) k2
    refine ⟨hz b k1, ?_, e.trans k3⟩
    rcases Nat.lt_or_ge b H'.size with q | q
    · exact q
    · exact absurd (e.symm.trans (Array.getElem?_eq_none q)) (by rw [Array.getElem?_eq_getElem k2]; simp), h2⟩, fun ⟨_, h2⟩ x hx => absurd hx (h2 x)⟩
theorem Own.start (H : Heap) : Own H (inD H) [was H] := ⟨fun _ h => h, fun _ => False, ⟨fun b hb => ⟨hb, hb.1, rfl⟩, fun _ h => h⟩, fun _ h => h.elim, trivial⟩
theorem Own.same {H0 : Heap} {i : Nat} (h : Own H Z L) (hi : L[i]? = some (was H0)) (hk : Keep H0 H) : Ext [] H0 H := by
  obtain ⟨D, ⟨h1, _⟩, _⟩ := h.get hi
  have key : ∀ b, b < H0.size → b < H.size ∧ H[b]? = H0[b]? := fun b hb => by
    by_cases hd : dfr H0 b
    · have := hk b _ hd trivial
      exact ⟨(Array.getElem?_eq_some_iff.1 this).1, this.trans hd.symm⟩
    · exact ⟨(h1 b ⟨hb, hd⟩).2.1, (h1 b ⟨hb, hd⟩).2.2⟩
  refine ⟨?_, fun b hb _ => (key b hb).2⟩
  rcases Nat.eq_zero_or_pos H0.size with h0 | h0
  · omega
  · have := (key (H0.size - 1) (by omega)).1; omega
section
variable {α : Type} {g : Flat α} {r : Rep α} {l l' : List α} {i : Nat}
theorem Own.box (h : Own H Z L) (i : Nat) (hi : L[i]? = some (box b cs T)) : Blk H b cs T := by obtain ⟨D, h1, _⟩ := h.get hi; exact h1.1
theorem Own.ow (h : Own H Z L) (i : Nat) (hi : L[i]? = some (own g e v l)) : Ow g H 0 e v l := by obtain ⟨D, h1, _⟩ := h.get hi; exact h1.1
theorem Own.osl (h : Own H Z L) (i : Nat) (hi : L[i]? = some (own g e v l)) : Sl g.rep H (fun b => b ∈ mb v) v l := (h.ow i hi).sl0
theorem Own.fsl (h : Own H Z L) (i : Nat) (hi : L[i]? = some (fz r v l)) : Sl r H Z v l := by obtain ⟨D, h1, _⟩ := h.get hi; exact h1.1
theorem Own.tbl {K V : Type} {ke : K → Value} {ve : V → Value} {l : List (K × V)} (h : Own H Z L) (i : Nat) (hi : L[i]? = some (tbl ke ve b l)) : Mp ke ve H b l := by obtain ⟨D, h1, _⟩ := h.get hi; exact h1.1
theorem Own.new (h : Own H Z L) (n : New H H' cs T) : Own H' Z (Go.Proofs.YtaopgjfioabfpaaGreat.box H.size cs T :: L) :=
  h.add n.ext (D' := fun x => x = H.size) ⟨n.blk, fun _ => Iff.rfl⟩ fun b hb => by subst hb; exact ⟨Nat.le_refl _, by rw [n.size]; omega⟩
theorem Own.made (h : Own H Z L) (ho : Ow g H' H.size e v l) (hx : Ext [] H H') : Own H' Z (own g e v l :: L) :=
  h.add hx (D' := fun x => x ∈ mb v) ⟨ho.base (Nat.zero_le _), fun _ => Iff.rfl⟩ fun b hb => ho.lt b hb
theorem Own.newSl (h : Own H Z L) (n : New H H' (l.flatMap g.enc) e) (hl : l.length ≤ 9223372036854775807) : Own H' Z (own g e (.slice (some ⟨H.size, 0, none⟩) l.length l.length) l :: L) :=
  h.made (Ow.new n rfl (Nat.le_refl _) hl) n.ext
theorem Own.nil (h : Own H Z L) (g : Flat α) (e : TypeId) : Own H Z (own g e (.slice none 0 0) [] :: L) :=
  h.add (.refl _) (D' := fun x => x ∈ mb (.slice none 0 0)) ⟨Ow.nil, fun _ => Iff.rfl⟩ fun b hb => by simp [mb] at hb
theorem Own.put (h : Own H Z L) (hi : L[i]? = some (Go.Proofs.YtaopgjfioabfpaaGreat.box b cs T)) (p : Put H H' b cs' T) : Own H' Z (L.set i (Go.Proofs.YtaopgjfioabfpaaGreat.box b cs' T)) := by
  obtain ⟨D, ⟨h1, h2⟩, h3, h4⟩ := h.upd hi
  refine h4 (D' := D) ⟨p.blk, h2⟩ (fun b hb => .inl hb) (by rw [p.size]; exact Nat.le_refl _) fun x hx hd => p.ext.old x hx ?_
  intro hm; simp only [List.mem_cons, List.not_mem_nil, or_false] at hm; exact hd ((h2 x).2 hm)
theorem Own.grow (h : Own H Z L) (hi : L[i]? = some (own g e v l)) (ho : Ow g H' 0 e v' l') (hx : Ext (mb v) H H') (hb : ∀ b, b ∈ mb v' → b ∈ mb v ∨ H.size ≤ b) : Own H' Z (L.set i (own g e v' l')) := by
  obtain ⟨D, ⟨h1, h2⟩, h3, h4⟩ := h.upd hi
  refine h4 (D' := fun x => x ∈ mb v') ⟨ho, fun _ => Iff.rfl⟩ (fun b k => ?_) hx.size fun x hl hd => hx.old x hl fun hm => hd ((h2 x).2 hm)
  rcases hb b k with q | q
  · exact .inl ((h2 b).2 q)
  · exact .inr ⟨q, (ho.lt b k).2⟩
theorem Own.pat {B : Nat} (h : Own H Z L) (hi : L[i]? = some (own g e v l)) (p : Pat g H H' B e v l') : Own H' Z (L.set i (own g e v l')) :=
  h.grow hi (p.ow.base (Nat.zero_le _)) p.ext fun _ k => .inl k
theorem Own.putM {K V : Type} {ke : K → Value} {ve : V → Value} {l l' : List (K × V)} (h : Own H Z L) (hi : L[i]? = some (Go.Proofs.YtaopgjfioabfpaaGreat.tbl ke ve b l)) (p : PutM ke ve H H' b l') : Own H' Z (L.set i (Go.Proofs.YtaopgjfioabfpaaGreat.tbl ke ve b l')) := by
  obtain ⟨D, ⟨h1, h2⟩, h3, h4⟩ := h.upd hi
  refine h4 (D' := D) ⟨p.mp, h2⟩ (fun b hb => .inl hb) (by rw [p.size]; exact Nat.le_refl _) fun x hx hd => p.ext.old x hx ?_
  intro hm; simp only [List.mem_cons, List.not_mem_nil, or_false] at hm; exact hd ((h2 x).2 hm)
theorem Own.newM {K V : Type} {ke : K → Value} {ve : V → Value} {l : List (K × V)} (h : Own H Z L) (hx : Ext [] H H') (hs : H'.size = H.size + 1) (hm : Mp ke ve H' H.size l) : Own H' Z (Go.Proofs.YtaopgjfioabfpaaGreat.tbl ke ve H.size l :: L) :=
  h.add hx (D' := fun x => x = H.size) ⟨hm, fun _ => Iff.rfl⟩ fun b hb => by subst hb; exact ⟨Nat.le_refl _, by omega⟩
theorem Own.freeze (h : Own H Z L) (hi : L[i]? = some (own g e v l)) : ∃ Z', (∀ b, Z b → Z' b) ∧ Own H Z' (L.set i (fz g.rep v l)) :=
  h.frz hi fun D ⟨h1, h2⟩ => ⟨h1.sl fun b hb => .inr ((h2 b).2 hb), fun _ h => h⟩
theorem Own.congr (h : Own H Z L) {L' : List As} (e : L = L') : Own H Z L' := e ▸ h
end
end
/-! ## loops and cuts over relations of frames -/
section
variable {P : Program} {r : Option Nat} {N : Sz} {Q : Post} {f : Frm} {H : Heap}
theorem hw_lp {c : Code} (Inv : Nat → Frm → Heap → Prop) (n0 : Nat) (g0 : Frm) (hf : AllIn f g0) (h0 : Inv n0 g0 H)
    (round : ∀ n g H, Inv n g H → HW P r N c (thenQ (fun f' H' => ∃ m g', AllIn f' g' ∧ Inv m g' H' ∧ m < n) Q) g H) : HW P r N (.loop c) Q f H := by
  refine hw_loop (α := Nat × Frm) [] (fun x => x.2) (fun x H => Inv x.1 x.2 H) (fun x => x.1) (n0, g0) (by rw [List.append_nil]; exact hf) h0 ?_
  intro x H hI
  rw [List.append_nil]
  refine hw_mono (round x.1 x.2 H hI) fun e f' H' hq => ?_
  cases e with
  | normal =>
    obtain ⟨m, g', h1, h2, h3⟩ := hq
    exact ⟨(m, g'), by rw [List.append_nil]; exact h1, h2, h3⟩
  | exit id => exact hq
  | goto l => exact hq
  | ret => exact hq
  | panic c => exact hq
  | outgrown => exact hq
theorem hw_jn {x y : Code} (Inv : Frm → Heap → Prop) (h : HW P r N x (thenQ (fun f' H' => ∃ g, AllIn f' g ∧ Inv g H') Q) f H) (k : ∀ g H', Inv g H' → HW P r N y Q g H') : HW P r N (.seq x y) Q f H :=
  hw_seq (hw_mono h fun e f' H' hq => by
    cases e with
    | normal => obtain ⟨z, h1, h2⟩ := hq; exact hw_sub _ h1 (k z H' h2)
    | exit id => exact hq
    | goto l => exact hq
    | ret => exact hq
    | panic c => exact hq
    | outgrown => exact hq)
end
end
section
/-- a slice that may be read as long as L stands -/
def Rd {α : Type} (r : Rep α) (L : List As) (v : Value) (l : List α) : Prop := ∀ H Z, Own H Z L → ∃ S, Sl r H S v l
/-- a slice that nobody turns any more -/
def Fz {α : Type} (r : Rep α) (L : List As) (v : Value) (l : List α) : Prop := ∀ H Z, Own H Z L → Sl r H Z v l
/-- a variable that is only read -/
def Bx (L : List As) (b : Nat) (cs : List Value) (T : TypeId) : Prop := ∀ H Z, Own H Z L → Blk H b cs T
/-- a table that is only read -/
def Tb {K V : Type} (L : List As) (ke : K → Value) (ve : V → Value) (b : Nat) (l : List (K × V)) : Prop := ∀ H Z, Own H Z L → Mp ke ve H b l
section
variable {α : Type} {g : Flat α} {r : Rep α} {L : List As} {v : Value} {l : List α} {i : Nat} {e : TypeId}
theorem Rd.sl {H : Heap} {Z : Nat → Prop} (h : Rd r L v l) (hO : Own H Z L) : Sl r H (Classical.choose (h H Z hO)) v l := Classical.choose_spec (h H Z hO)
theorem Rd.of_own (hi : L[i]? = some (own g e v l)) : Rd g.rep L v l := fun H Z h => ⟨_, h.osl i hi⟩
theorem Rd.of_fz (hi : L[i]? = some (fz r v l)) : Rd r L v l := fun H Z h => ⟨_, h.fsl i hi⟩
theorem Rd.tails (Ls : List As) (h : Rd r L v l) : Rd r (Ls ++ L) v l := fun H Z hO => h H Z (hO.tails Ls)
theorem Rd.nil : Rd r L (.slice none 0 0) [] := fun _ _ _ => ⟨fun _ => True, Sl.nil⟩
theorem Fz.of (hi : L[i]? = some (fz r v l)) : Fz r L v l := fun H Z h => h.fsl i hi
theorem Fz.tails (Ls : List As) (h : Fz r L v l) : Fz r (Ls ++ L) v l := fun H Z hO => h H Z (hO.tails Ls)
theorem Fz.nil : Fz r L (.slice none 0 0) [] := fun _ _ _ => Sl.nil
theorem Fz.item {H : Heap} {Z : Nat → Prop} (h : Fz r L v l) (hO : Own H Z L) : Own H Z (fz r v l :: L) := hO.dup ⟨h H Z hO, fun _ h => h⟩
theorem Fz.items {H : Heap} {Z : Nat → Prop} (Ls : List As) (h : Fz r L v l) (hO : Own H Z (Ls ++ L)) : Own H Z (fz r v l :: (Ls ++ L)) := hO.dup ⟨h H Z (hO.tails Ls), fun _ h => h⟩
theorem Bx.of {b : Nat} {cs : List Value} {T : TypeId} (hi : L[i]? = some (box b cs T)) : Bx L b cs T := fun H Z h => h.box i hi
theorem Bx.tails {b : Nat} {cs : List Value} {T : TypeId} (Ls : List As) (h : Bx L b cs T) : Bx (Ls ++ L) b cs T := fun H Z hO => h H Z (hO.tails Ls)
theorem Tb.of {K V : Type} {ke : K → Value} {ve : V → Value} {b : Nat} {l : List (K × V)} (hi : L[i]? = some (tbl ke ve b l)) : Tb L ke ve b l := fun H Z h => h.tbl i hi
theorem Tb.tails {K V : Type} {ke : K → Value} {ve : V → Value} {b : Nat} {l : List (K × V)} (Ls : List As) (h : Tb L ke ve b l) : Tb (Ls ++ L) ke ve b l := fun H Z hO => h H Z (hO.tails Ls)
theorem Own.cut {H : Heap} {Z : Nat → Prop} {L' : List As} (h : Own H Z L) (e : L = L') : Own H Z L' := e ▸ h
end
theorem Blk.sub {H : Heap} {b : Nat} {cs : List Value} {T : TypeId} (h : Blk H b cs T) {o n : Nat} {cs' : List Value} (e : (cs.drop o).take n = cs') : At H b o cs' := e ▸ h.at o n
section
variable {P : Program} {N : Sz} {f : Frm} {H : Heap} {Z : Nat → Prop} {L : List As} {ty t t' e : TypeId} {x y z : Operand} {b o i : Nat} {cs us : List Value} {T : TypeId}
theorem o_box {u : Value} (hO : Own H Z L) (hx : ev f x = some u) (hc : u.cells = cs.toArray) : OpH P N (.box t x) ty f H (fun v H' => ∃ b, v = ptr b 0 ∧ Own H' Z (box b cs t :: L)) :=
  (h_box hx hc).mono fun v H' ⟨h1, h2⟩ => ⟨_, h1, hO.new h2⟩
theorem o_alloc {u : Value} (hO : Own H Z L) (hz : ∀ w, (zeroValue t).run P w = .ok u w) (hc : u.cells = cs.toArray) : OpH P N (.alloc t) ty f H (fun v H' => ∃ b, v = ptr b 0 ∧ Own H' Z (box b cs t :: L)) :=
  (h_alloc hz hc).mono fun v H' ⟨h1, h2⟩ => ⟨_, h1, hO.new h2⟩
theorem o_store1 {u : Value} (hO : Own H Z L) (i : Nat) (hi : L[i]? = some (box b cs T)) (hs : ∀ w, (sizeOf t).run P w = .ok 1 w) (hx : ev f x = some (ptr b o)) (hy : ev f y = some u) (ho : Nat.blt o cs.length = true) (h1 : u.oneCell' = true) :
    OpH P N (.store t x y) ty f H (fun _ H' => Own H' Z (L.set i (box b (cs.set o u) T))) :=
  (h_store1 hs hx hy (hO.box i hi) (blt_lt ho) h1).mono fun v H' p => hO.put hi p
theorem o_storeA {n : Nat} (hO : Own H Z L) (i : Nat) (hi : L[i]? = some (box b cs T)) (hs : ∀ w, (sizeOf t).run P w = .ok n w) (hx : ev f x = some (ptr b o)) (hy : ev f y = some (.agg us.toArray)) (hn : us.length = n) (ho : Nat.ble (o + n) cs.length = true)
    (h1 : ∀ u ∈ us, u.oneCell' = true) : OpH P N (.store t x y) ty f H (fun _ H' => Own H' Z (L.set i (box b (repl cs o us) T))) :=
  (h_storeA hs hx hy (hO.box i hi) hn (Nat.le_of_ble_eq_true ho) h1).mono fun v H' p => hO.put hi p
theorem o_lit {α : Type} {g : Flat α} {l : List α} {parts : List (Nat × Operand)} {xs : List Operand} {vs : List Value} {n sz : Nat} {z : Value} (hO : Own H Z L) (ht : P.underlying t = some (.slice e)) (hs : ∀ w, (sizeOf e).run P w = .ok sz w) (hz : ∀ w, (zeroValue e).run P w = .ok z w)
    (hp : parts = xs.zipIdx.map fun p => (p.2, p.1)) (hv : evs f xs vs) (hn : vs.length = n) (hn2 : Nat.ble (n * sz) (2 ^ 24) = true) (hpos : Nat.blt 0 (n * sz) = true) (hc : vs.map Value.cells = l.map fun x => (g.enc x).toArray) (hg : g.sz = sz) :
    OpH P N (.buildSlice t n parts.toArray) ty f H (fun v H' => Own H' Z (own g e v l :: L)) := by
  have hl : l.length = n := by
    have := congrArg List.length hc
    simpa [hn] using this.symm
  refine (h_buildSlice ht hs hz hp hv hn (Nat.le_of_ble_eq_true hn2) (by have := blt_lt hpos; omega) ?_).mono fun v H' ⟨h1, h2⟩ => ?_
  · intro v hv
    obtain ⟨i, hi, rfl⟩ := List.getElem_of_mem hv
    have h3 : (vs.map Value.cells)[i]? = (l.map fun x => (g.enc x).toArray)[i]? := by rw [hc]
    rw [List.getElem?_map, List.getElem?_map, List.getElem?_eq_getElem hi, List.getElem?_eq_getElem (by omega)] at h3
    simp only [Option.map_some, Option.some.injEq] at h3
    rw [h3, List.size_toArray, g.len, hg]
  · subst h1
    have e1 : vs.flatMap (fun v => v.cells.toList) = l.flatMap g.enc := by
      rw [List.flatMap_def, List.flatMap_def]
      congr 1
      have := congrArg (List.map Array.toList) hc
      simpa [List.map_map, Function.comp_def] using this
    rw [e1] at h2
    have hn3 : n ≤ 9223372036854775807 := by
      have h4 := Nat.le_of_ble_eq_true hn2
      have h5 := blt_lt hpos
      have h6 : 1 ≤ sz := Nat.pos_of_ne_zero (by rintro rfl; omega)
      have h7 : n * 1 ≤ n * sz := Nat.mul_le_mul_left _ h6
      have h8 : (2 : Nat) ^ 24 = 16777216 := by decide
      omega
    have := hO.newSl h2 (by omega)
    rwa [hl] at this
theorem o_append {α : Type} {g : Flat α} {l l2 : List α} {v w2 : Value} {S : Nat → Prop} {q : TypeInfo} {zv : Value} {sz : Nat} {tys : Array TypeId} (hO : Own H Z L) (i : Nat) (hi : L[i]? = some (own g e v l)) (ha : tys = #[t, t]) (ht : P.underlying t = some (.slice e)) (hq : P.info? e = some q) (hz : q.zero = some zv) (hsz : q.size = sz) (hg : g.sz = sz) (hzs : zv.cells.size = sz) (hpos : Nat.blt 0 sz = true)
    (hx : ev f x = some v) (hy : ev f y = some w2) (hs : Sl g.rep H S w2 l2) (hlen : (l.length + l2.length) * q.bytes ≤ 140737488355328) (h63 : l.length + l2.length ≤ 9223372036854775807) :
    OpH P N (.call ⟨.builtin .append, #[x, y], tys⟩) ty f H (fun v' H' => Own H' Z (L.set i (own g e v' (l ++ l2)))) :=
  (h_append (B := 0) ha ht hq hz hsz hg hzs (blt_lt hpos) hx hy (hO.ow i hi) hs (Nat.zero_le _) hlen h63).mono fun v' H' ⟨h1, h2, _, h4⟩ => hO.grow hi h1 h2 h4
theorem o_makeSlice {α : Type} {g : Flat α} {d : α} {n : Int} {q : TypeInfo} {zv : Value} (hO : Own H Z L) (ht : P.underlying t = some (.slice e)) (hq : P.info? e = some q) (hz : q.zero = some zv) (hsz : q.size = g.sz) (hzs : zv.cells = (g.enc d).toArray) (hpos : Nat.blt 0 g.sz = true)
    (hx : ev f x = some (.int .i64 n)) (hy : ev f y = some (.int .i64 n)) (h0 : 0 ≤ n) (hb : q.bytes * n.toNat ≤ 281474976710656) (h63 : n ≤ 9223372036854775807) :
    OpH P N (.makeSlice t x y) ty f H (fun v' H' => Own H' Z (own g e v' (List.replicate n.toNat d) :: L)) :=
  (h_makeSlice (B := H.size) ht hq hz hsz hzs (blt_lt hpos) hx hy (Nat.le_refl _) h0 hb h63).mono fun v' H' ⟨_, h2, h3, _⟩ => hO.made h2 h3
theorem o_set1 {α : Type} {g : Flat α} {l : List α} {v u : Value} [Inhabited α] {j : Int} {sz : Nat} {x' : α} (hO : Own H Z L) (i : Nat) (hi : L[i]? = some (own g e v l)) (hs : ∀ w, (sizeOf t).run P w = .ok 1 w) (hg : g.sz = sz) (h1' : sz = 1) (hx : ev f x = some (ptr (sb v) (so v + j.toNat * sz))) (hy : ev f y = some u)
    (hj : 0 ≤ j ∧ j < l.length) (hx' : [u] = g.enc x') (h1 : u.oneCell' = true) : OpH P N (.store t x y) ty f H (fun _ H' => Own H' Z (L.set i (own g e v (l.set j.toNat x')))) :=
  (h_storeOw1 hs hg h1' hx hy (hO.ow i hi) hj hx' h1).mono fun _ H' p => hO.pat hi p
theorem o_setA {α : Type} {g : Flat α} {l : List α} {v : Value} [Inhabited α] {j : Int} {n : Nat} {x' : α} (hO : Own H Z L) (i : Nat) (hi : L[i]? = some (own g e v l)) (hs : ∀ w, (sizeOf t).run P w = .ok n w) (hg : g.sz = n) (hx : ev f x = some (ptr (sb v) (so v + j.toNat * n))) (hy : ev f y = some (.agg us.toArray))
    (hj : 0 ≤ j ∧ j < l.length) (hx' : us = g.enc x') : OpH P N (.store t x y) ty f H (fun _ H' => Own H' Z (L.set i (own g e v (l.set j.toNat x')))) :=
  (h_storeOwA hs hg hx hy (hO.ow i hi) hj hx').mono fun _ H' p => hO.pat hi p
theorem o_makeMap {K V : Type} {ke : K → Value} {ve : V → Value} (hO : Own H Z L) : OpH P N (.makeMap t none) ty f H (fun v H' => ∃ b, v = .map (some b) ∧ Own H' Z (tbl ke ve b [] :: L)) :=
  (h_makeMap (ke := ke) (ve := ve)).mono fun v H' ⟨h1, h2, h3, h4⟩ => ⟨_, h1, hO.newM h2 h3 h4⟩
theorem o_mapUpdate {K V : Type} [DecidableEq K] {ke : K → Value} {ve : V → Value} {l : List (K × V)} {k : K} {v : V} {kt : TypeId} (hO : Own H Z L) (i : Nat) (hi : L[i]? = some (tbl ke ve b l)) (kt' : KeyT P K kt) (hke : ke = kt'.enc) (ht : P.underlying t = some (.map kt e)) (hx : ev f x = some (.map (some b))) (hy : ev f y = some (ke k)) (hz : ev f z = some (ve v)) :
    OpH P N (.mapUpdate t x y z) ty f H (fun _ H' => Own H' Z (L.set i (tbl ke ve b (aput l k v)))) :=
  (h_mapUpdate kt' hke ht hx hy hz (hO.tbl i hi)).mono fun _ H' p => hO.putM hi p
end
/-! ## guarded operations whose answer is a value -/
section
variable {P : Program} {r : Option Nat} {N : Sz} {Q : Post} {f : Frm} {H : Heap} {l0 rest : List Oper} {d : Nat} {op : Op} {ty : TypeId} {p : String} {af : Array Edge} {j : Nat} {want : Bool}
theorem hl_gc {vg v : Value} {dj : Nat} {R : Heap → Prop} (hj : gslot l0 j = some dj) (hv : lk f dj = some vg) (h : gb vg want = true → OpH P N op ty f H (fun v' H' => v' = v ∧ R H')) (h0 : R H) (hd : Nat.blt d N.1 = true)
    (k : ∀ H', R H' → HL P r N l0 rest Q ((d, gv (gb vg want) v) :: f) H') : HL P r N l0 (⟨some d, op, ty, p, af, some (j, want)⟩ :: rest) Q f H := by
  cases hc : gb vg want with
  | false =>
    refine hl_gf hj hv hc hd ?_
    have := k H h0
    rwa [hc] at this
  | true =>
    refine hl_gh hj hv hc (h hc) hd ?_
    rintro v' H' ⟨rfl, hR⟩
    have := k H' hR
    rwa [hc] at this
end
/-! ## the law's answer -/
abbrev i64 (x : Int) : Prop := -9223372036854775808 ≤ x ∧ x ≤ 9223372036854775807
end
end Go.Proofs.YtaopgjfioabfpaaGreat
