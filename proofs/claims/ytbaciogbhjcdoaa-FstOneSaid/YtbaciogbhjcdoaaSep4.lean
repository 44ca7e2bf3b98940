/- More operations: slices against nil, literals of nothing, room made ahead. No condition. -/
import Derived.Test.YtbaciogbhjcdoaaSep3
set_option linter.unusedSimpArgs false
set_option linter.unusedVariables false
namespace Go.Proofs.Ytbaciogbhjcdoaa
section
variable {α : Type} {g : Flat α} {r : Rep α} {P : Program} {N : Sz} {f : Frm} {H : Heap} {Z : Nat → Prop} {L : List As} {ty t t' e : TypeId} {x y : Operand} {S : Nat → Prop} {v : Value} {l : List α}
theorem run_eqlNil (w : World) {a : Option Addr} {n c : Nat} (ht : P.underlying t = some (.slice e)) : (binOp .eql t (.slice a n c) (.slice none 0 0)).run P w = .ok (.bool a.isNone) w ∧ (binOp .neq t (.slice a n c) (.slice none 0 0)).run P w = .ok (.bool (!a.isNone)) w := by
  have h : ∀ d : Nat, (Op.equalIn (d + 1) t (.slice a n c) (.slice none 0 0)).run P w = .ok a.isNone w := fun d => by
    cases a <;> simp [Op.equalIn, run_underlying ht]
  constructor
  · simp only [binOp]; simp [Op.equal, Op.maxDepth, h 9999]
  · simp only [binOp]; simp [Op.equal, Op.maxDepth, h 9999]
theorem v_eqlNil (ht : P.underlying t = some (.slice e)) (hx : ev f x = some v) (hs : Sl r H S v l) : OpV P N (.binOp .eql t x (.const (.slice none 0 0)) t') ty f H (.bool (isNil v)) := by
  obtain ⟨a, hv⟩ : ∃ a, v = .slice a l.length (sc v) := ⟨_, hs.shape⟩
  generalize sc v = c at hv
  clear hs
  subst hv
  have e1 : isNil (.slice a l.length c) = a.isNone := by cases a <;> rfl
  refine v_bin hx (y := .const (.slice none 0 0)) (v := .slice none 0 0) rfl fun w => ?_
  rw [e1, Sem.run_bind, show (eqGuard .eql t x (.const (.slice none 0 0)) (.slice a l.length c) (.slice none 0 0)).run P w = .ok () w by simp [eqGuard], Result.andThen_ok]
  exact (run_eqlNil w ht).1
theorem v_neqNil (ht : P.underlying t = some (.slice e)) (hx : ev f x = some v) (hs : Sl r H S v l) : OpV P N (.binOp .neq t x (.const (.slice none 0 0)) t') ty f H (.bool (!isNil v)) := by
  obtain ⟨a, hv⟩ : ∃ a, v = .slice a l.length (sc v) := ⟨_, hs.shape⟩
  generalize sc v = c at hv
  clear hs
  subst hv
  have e1 : isNil (.slice a l.length c) = a.isNone := by cases a <;> rfl
  refine v_bin hx (y := .const (.slice none 0 0)) (v := .slice none 0 0) rfl fun w => ?_
  rw [e1, Sem.run_bind, show (eqGuard .neq t x (.const (.slice none 0 0)) (.slice a l.length c) (.slice none 0 0)).run P w = .ok () w by simp [eqGuard], Result.andThen_ok]
  exact (run_eqlNil w ht).2
theorem h_lit0 {sz : Nat} (ht : P.underlying t = some (.slice e)) (hs : ∀ w, (sizeOf e).run P w = .ok sz w) : OpH P N (.buildSlice t 0 #[]) ty f H (fun v H' => v = .slice (some ⟨H.size, 0, none⟩) 0 0 ∧ New H H' [] e) := by
  intro a w hf hH
  subst hH
  simp only [opx, execOp, Instr.buildSlice, Sem.run_bind, run_underlying ht, hs, Result.andThen_ok, Nat.zero_mul, Sem.run_pure]
  simp [Instr.fill, run_newRow]
  have e0 : (Array.map (fun _ => (default : Value)) (Array.range 0)) = #[] := by simp
  rw [e0]
  exact ⟨⟨rfl, rfl, rfl, (New.push _ [] _).ext.keep, Nat.le_refl _⟩, rfl, New.push _ [] _⟩
theorem o_lit0 {sz : Nat} (hO : Own H Z L) (ht : P.underlying t = some (.slice e)) (hs : ∀ w, (sizeOf e).run P w = .ok sz w) : OpH P N (.buildSlice t 0 #[]) ty f H (fun v H' => Own H' Z (own g e v [] :: L)) :=
  (h_lit0 ht hs).mono fun v H' ⟨h1, h2⟩ => by
    subst h1
    refine hO.made (H' := H') ⟨by simp, .inr ⟨H.size, 0, _, rfl, Nat.le_refl _, h2.blk, Nat.le_refl _, by simp only [maxLen]; omega, by simp, by simp⟩⟩ h2.ext
theorem o_lit0R {sz : Nat} (hO : Own H Z L) (ht : P.underlying t = some (.slice e)) (hs : ∀ w, (sizeOf e).run P w = .ok sz w) : OpH P N (.buildSlice t 0 #[]) ty f H (fun v H' => Own H' Z (ownR r e v [] :: L)) :=
  (h_lit0 ht hs).mono fun v H' ⟨h1, h2⟩ => by
    subst h1
    refine hO.add h2.ext (D' := fun x => x = H.size) ⟨⟨[], ⟨by simp, .inr ⟨H.size, 0, _, rfl, Nat.zero_le _, h2.blk, Nat.le_refl _, by simp only [maxLen]; omega, by simp, by simp⟩⟩, trivial⟩, fun x => by simp [mb]⟩ fun b hb => by subst hb; exact ⟨Nat.le_refl _, by rw [h2.size]; omega⟩
/-- append of n zero elements to nothing -/
theorem o_appendZ {d : α} {n : Int} {q : TypeInfo} {zv : Value} {ti : TypeId} {tys : Array TypeId} {k : IntKind} (hO : Own H Z L) (ha : tys = #[t, ti]) (ht : P.underlying t = some (.slice e)) (hti : P.underlying ti = some (.int k)) (hq : P.info? e = some q) (hz : q.zero = some zv) (hsz : q.size = g.sz) (hzs : zv.cells = (g.enc d).toArray) (hpos : Nat.blt 0 g.sz = true)
    (hx : ev f x = some (.slice none 0 0)) (hy : ev f y = some (.int .i64 n)) (h0 : 0 < n) (hb : n.toNat * q.bytes ≤ 140737488355328) (h63 : n ≤ 9223372036854775807) :
    OpH P N (.call ⟨.builtin .append, #[x, y], tys⟩) ty f H (fun v' H' => Own H' Z (own g e v' (List.replicate n.toNat d) :: L)) := by
  subst ha
  intro a w hf hH
  subst hH
  obtain ⟨m, rfl⟩ := Int.eq_ofNat_of_zero_le (show 0 ≤ n by omega)
  have hm0 : m ≠ 0 := by omega
  simp only [Int.toNat_natCast] at hb ⊢
  have hwr : IntKind.i64.wrap (m : Int) = (m : Int) := IntWalk.i64_in _ (by omega)
  have h48a : ¬ (281474976710656 < (m : Int) * (q.bytes : Int)) := by
    have : ((m * q.bytes : Nat) : Int) ≤ 140737488355328 := by omega
    rw [Int.natCast_mul] at this; omega
  have h63' : ¬ (9223372036854775807 < (m : Int)) := by omega
  have h48' : ¬ (281474976710656 < Builtin.nextslicecap m 0 * q.bytes) := by rw [nextslicecap_zero (by omega)]; omega
  have hgs : g.sz ≠ 0 := by have := blt_lt hpos; omega
  have hlen : (g.enc d).length = g.sz := g.len d
  have hsz0 : ¬ (m * q.size = 0) := by rw [hsz]; exact Nat.mul_ne_zero hm0 hgs
  have hr : (Builtin.append_ #[t, ti] ty #[.slice none 0 0, .int .i64 m]).run P w =
      .ok (.slice (some ⟨w.heap.size, 0, none⟩) m (grownCap w m 0 e)) (w.drew.alloc (.cells (Builtin.zeroCells zv.cells m ++ Builtin.zeroCells zv.cells (grownCap w m 0 e - m)) e)) := by
    simp [Builtin.append_, run_underlying ht, run_underlying hti, sizeOf, typeInfo, zeroValue, hq, hz, asInt, asIntOf, hwr, hm0, h63', h48a, h48', Question.forced, run_firstCells_none, newRow, grownCap, hsz, hgs]
    rw [if_neg (by omega), if_neg (by rw [hsz] at hsz0; exact hsz0)]
  simp only [opx, execOp, resolve, List.map_toArray, List.map_cons, List.map_nil, hf.ev hx, hf.ev hy, Sem.run_bind, Sem.run_pure, Result.andThen_ok, invoke, builtin, hr]
  have hge := grownCap_ge w m 0 e
  have hcm : grownCap w m 0 e ≤ maxLen := grownCap_le_maxLen w m 0 e (by simp only [maxLen]; omega)
  have hx2 : Ext [] w.heap (w.drew.alloc (.cells (Builtin.zeroCells zv.cells m ++ Builtin.zeroCells zv.cells (grownCap w m 0 e - m)) e)).heap := ⟨by simp, fun b hl _ => (heap_alloc_old w.drew _ (by simpa using hl))⟩
  have hzl : (Builtin.zeroCells zv.cells m).toList = (List.replicate m d).flatMap g.enc := by
    rw [flatMap_replicate, ← made_eq (g.enc d) (by omega) m, hlen]
    simp only [Builtin.zeroCells, hzs, Array.toList_map, Array.toList_range, List.size_toArray, hlen]
    apply List.map_congr_left
    intro j _
    simp [hlen]
  refine ⟨⟨rfl, rfl, rfl, hx2.keep, Nat.le_succ _⟩, ?_⟩
  refine hO.made (H' := _) ⟨flat_len g _, .inr ⟨w.heap.size, grownCap w m 0 e, _, by simp, Nat.le_refl _, heap_alloc_new w.drew _, by simpa using hge, hcm, ?_, ?_⟩⟩ hx2
  · have h1 : (zv.cells).size = g.sz := by rw [hzs]; simp [hlen]
    simp only [Array.size_append, size_zeroCells, h1, ← Nat.add_mul]
    congr 1; omega
  · rw [Array.toList_append, hzl, List.length_replicate]
    have : ((List.replicate m d).flatMap g.enc).length = m * g.sz := by rw [flat_len, List.length_replicate]
    rw [← this]; exact List.take_left
end
section
variable {α : Type} {g : Flat α} {P : Program} {N : Sz} {f : Frm} {H : Heap} {Z : Nat → Prop} {L : List As} {ty t e : TypeId} {x y : Operand} {v : Value} {l : List α} {i : Nat}
/-- an own slice is cut behind: what stays -/
theorem Own.trunc (h : Own H Z L) (hi : L[i]? = some (own g e v l)) {k sz : Nat} (hk : k ≤ l.length) : Own H Z (L.set i (own g e (slv v sz 0 k) (l.take k))) := by
  obtain ⟨D, ⟨h1, h2⟩, h3, h4⟩ := h.upd hi
  have hmb : ∀ b, b ∈ mb (slv v sz 0 k) ↔ b ∈ mb v := by
    intro b
    rcases h1.2 with ⟨rfl, _⟩ | ⟨j, cap, cur, rfl, _⟩
    · simp [slv, sc, sa, mb]
    · simp only [slv, sc, sa]
      by_cases hc : cap = 0 <;> simp [mb, Addr.add, hc]
  refine h4 (D' := D) ⟨?_, fun b => (h2 b).trans (hmb b).symm⟩ (fun b hb => .inl hb) (Nat.le_refl _) fun _ _ _ => rfl
  have hl : (l.take k).length = k := by rw [List.length_take]; omega
  obtain ⟨k1, k2⟩ := h1
  refine ⟨flat_len g _, ?_⟩
  rcases k2 with ⟨rfl, h5⟩ | ⟨j, cap, cur, rfl, h5, h6, h7, h8, h9, h10⟩
  · left
    have : k = 0 := by omega
    subst this
    exact ⟨rfl, by simp⟩
  · right
    refine ⟨j, cap, cur, ?_, h5, h6, by omega, h8, h9, ?_⟩
    · rw [hl]
      show (Value.slice (if cap = 0 then _ else _) k (cap - 0)) = _
      simp only [sa]
      by_cases hc : cap = 0 <;> simp [Addr.add, hc]
    · rw [hl]
      have e1 : (l.take k).flatMap g.enc = (l.flatMap g.enc).take (k * g.sz) := by
        have h11 : l.flatMap g.enc = (l.take k).flatMap g.enc ++ (l.drop k).flatMap g.enc := by rw [← List.flatMap_append, List.take_append_drop]
        have h12 : ((l.take k).flatMap g.enc).length = k * g.sz := by rw [flat_len, hl]
        rw [h11, ← h12]; exact List.take_left.symm
      rw [e1, ← h10, List.take_take]
      congr 1
      have := Nat.mul_le_mul_right g.sz hk
      omega
end
section
variable {P : Program} {N : Sz} {f : Frm} {H : Heap} {ty t e : TypeId} {x : Operand}
theorem v_capNil {as : Array TypeId} (ha : as = #[t]) (ht : P.underlying t = some (.slice e)) (hx : ev f x = some (.slice none 0 0)) : OpV P N (.call ⟨.builtin .cap, #[x], as⟩) ty f H (.int .i64 0) := by
  subst ha
  intro c w hf hH
  simp only [opx, execOp, resolve, List.map_toArray, List.map_cons, List.map_nil, hf.ev hx, Sem.run_bind, Sem.run_pure, Result.andThen_ok, invoke, builtin]
  refine quiet_then ?_
  unfold Builtin.cap_
  simp only [List.getElem?_toArray, List.getElem?_cons_zero, Sem.run_bind, run_underlying ht, Result.andThen_ok]; rfl
end
section
variable {P : Program} {b : Frame} {a : Act} {k : List Item} {cs : List Frame} {w : World}
theorem stepR_scope {c : Code} : step P (lone (b.atR a (.code (.scope c) :: k)) cs w) = .next (lone (b.atR a (.code c :: .inScope c :: k)) cs w) :=
  step_lone_go (by simp [stepG, stepG.exec, Frame.atR])
theorem stepR_inScope {c : Code} : step P (lone (b.atR a (.inScope c :: k)) cs w) = .next (lone (b.atR a k) cs w) :=
  step_lone_go (by simp [stepG, stepG.exec, Frame.atR])
end
section
variable {P : Program} {r : Option Nat} {N : Sz} {Q : Post} {f : Frm} {H : Heap}
def scopeQ (Q : Post) : Post
  | .goto _, _, _ => False
  | e, f, H => Q e f H
theorem hw_scope {c : Code} (h : HW P r N c (scopeQ Q) f H) : HW P r N (.scope c) Q f H := by
  intro w0 a w h1 h2 h3 b k cs hro hb hr
  obtain ⟨e, a₁, w₁, ⟨q1, f1, q2, q3⟩, harr⟩ := h w0 a w h1 h2 h3 b (.inScope c :: k) cs hro hb hr
  have h0 : (lone (b.atR a (.code (.scope c) :: k)) cs w).fenced P (Fr r) := fenced_calm hb hr rfl
  cases e with
  | normal => exact ⟨.normal, a₁, w₁, ⟨q1, f1, q2, q3⟩, .head h0 stepR_scope (StepsIn.trans harr (.one (fenced_calm hb hr rfl) stepR_inScope))⟩
  | exit id =>
    have hx : exitTo id (.inScope c :: k) = exitTo id k := by simp [exitTo]
    exact ⟨.exit id, a₁, w₁, ⟨q1, f1, q2, q3⟩, fun k' hk => .head h0 stepR_scope (harr.1 k' (by rw [hx]; exact hk)),
      fun hr' hk => let ⟨k₁, h1, h2⟩ := harr.2 hr' (by rw [hx]; exact hk); ⟨k₁, h1, .head h0 stepR_scope h2⟩⟩
  | goto l => exact q3.elim
  | ret => exact ⟨_, a₁, w₁, ⟨q1, f1, q2, q3⟩, .of_steps (.one h0 stepR_scope) harr⟩
  | panic ch => exact ⟨_, a₁, w₁, ⟨q1, f1, q2, q3⟩, .of_steps (.one h0 stepR_scope) harr⟩
  | outgrown => exact ⟨_, a₁, w₁, ⟨q1, f1, q2, q3⟩, .of_steps (.one h0 stepR_scope) harr⟩
theorem scopeQ_n (h : Q .normal f H) : scopeQ Q .normal f H := h
theorem scopeQ_r (h : Q .ret f H) : scopeQ Q .ret f H := h
theorem scopeQ_e {id : Nat} (h : Q (.exit id) f H) : scopeQ Q (.exit id) f H := h
end
theorem Sl.inb {α : Type} {g : Flat α} {H : Heap} {S : Nat → Prop} {v : Value} {l : List α} (h : Sl g.rep H S v l) (hpos : 0 < g.sz) : Sl g.rep H (fun b => b < H.size) v l :=
  ⟨h.shape, h.cap, fun i hi => by
    obtain ⟨h1, h2, cs, h3, h4⟩ := h.mem i hi
    exact ⟨h1, h3.lt (by have e := g.len l[i]; have h5 : cs = g.enc l[i] := h4; rintro rfl; rw [← h5] at e; simp at e; omega), cs, h3, h4⟩⟩
theorem Sl.sh {α : Type} {r : Rep α} {H : Heap} {S : Nat → Prop} {v : Value} {l : List α} (h : Sl r H S v l) : ∃ a n c, v = .slice a n c := ⟨_, _, _, h.shape⟩
end Go.Proofs.Ytbaciogbhjcdoaa
