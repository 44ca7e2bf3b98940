/- Several texts in one. No condition. -/
import Derived.Test.YtaopgjfioabfpaaGreatMg2FunTells
import Derived.IntWalk
import Derived.Laws.Entries
import Derived.Laws.Strings3
set_option linter.unusedVariables false
set_option linter.unusedSimpArgs false
set_option maxRecDepth 20000
namespace Go.Proofs.YtaopgjfioabfpaaGreat
section
/-- a text -/
def str (l : List UInt8) : Value := .string ⟨l.toArray⟩
theorem beq_dec {α : Type} [BEq α] [LawfulBEq α] [DecidableEq α] (a b : α) : (a == b) = decide (a = b) := by
  by_cases h : a = b
  · subst h; simp
  · simp [h]
theorem toList_mk (l : List UInt8) : (ByteArray.mk l.toArray).toList = l := ByteArray.toList_mk l
section
variable {P : Program} {N : Sz} {f : Frm} {H : Heap} {ty t t' : TypeId} {x y z : Operand}
theorem quiet_pure {w : World} {C : World → Prop} {v : Value} {s : Sem Value} (h : s.run P w = .ok v w) :
    Oper.quietUpon P C w v ((do pure (Next.value (← s)) : Sem Next).run P w) := by
  simp only [Sem.run_bind, h, Result.andThen_ok]
  exact ⟨rfl, rfl⟩
theorem quiet_then {w : World} {C : World → Prop} {v : Value} {s : Sem Value} (h : s.run P w = .ok v w) :
    Oper.quietUpon P C w v ((s.run P w).andThen fun a w' => .ok (Next.value a) w') := by
  rw [h]; exact ⟨rfl, rfl⟩
theorem v_move {v : Value} (hx : ev f x = some v) : OpV P N (.move x) ty f H v := by
  intro a w hf hH; exact ⟨rfl, hf.ev hx⟩
theorem v_assign {v : Value} (hx : ev f x = some v) : OpV P N (.assign x) ty f H v := by
  intro a w hf hH; exact ⟨rfl, hf.ev hx⟩
/-- 'a && b' -/
theorem v_and {c b : Bool} (hc : ev f x = some (.bool c)) (hy : ev f y = some (gv (gb (.bool c) true) (.bool b))) : OpV P N (.pick x y (.const (.bool false))) ty f H (.bool (c && b)) := by
  intro a w hf hH
  simp only [opx, execOp, hf.ev hc, hf.ev hy]
  cases c <;> exact ⟨rfl, rfl⟩
/-- 'a || b' -/
theorem v_or {c b : Bool} (hc : ev f x = some (.bool c)) (hy : ev f y = some (gv (gb (.bool c) false) (.bool b))) : OpV P N (.pick x (.const (.bool true)) y) ty f H (.bool (c || b)) := by
  intro a w hf hH
  simp only [opx, execOp, hf.ev hc, hf.ev hy]
  cases c <;> exact ⟨rfl, rfl⟩
/-! ### integers -/
theorem v_bin {op : BinOp} {u v r : Value} (hx : ev f x = some u) (hy : ev f y = some v) (h : ∀ w, (do eqGuard op t x y u v; binOp op t u v : Sem Value).run P w = .ok r w) :
    OpV P N (.binOp op t x y t') ty f H r := by
  intro a w hf hH
  simp only [opx, execOp, hf.ev hx, hf.ev hy]
  exact quiet_pure (h w)
section ints
variable {k : IntKind} {m n : Int}
theorem v_addw (hx : ev f x = some (.int k m)) (hy : ev f y = some (.int k n)) : OpV P N (.binOp .add t x y t') ty f H (.int k (k.wrap (m + n))) :=
  v_bin hx hy fun w => by simp [go_sem, Op.intArith]
theorem v_subw (hx : ev f x = some (.int k m)) (hy : ev f y = some (.int k n)) : OpV P N (.binOp .sub t x y t') ty f H (.int k (k.wrap (m - n))) :=
  v_bin hx hy fun w => by simp [go_sem, Op.intArith]
theorem v_mulw (hx : ev f x = some (.int k m)) (hy : ev f y = some (.int k n)) : OpV P N (.binOp .mul t x y t') ty f H (.int k (k.wrap (m * n))) :=
  v_bin hx hy fun w => by simp [go_sem, Op.intArith]
theorem v_add (hx : ev f x = some (.int .i64 m)) (hy : ev f y = some (.int .i64 n)) (h : -9223372036854775808 ≤ m + n ∧ m + n ≤ 9223372036854775807) :
    OpV P N (.binOp .add t x y t') ty f H (.int .i64 (m + n)) := by
  have := v_addw (P := P) (N := N) (t := t) (t' := t') (ty := ty) (H := H) hx hy
  rwa [IntWalk.i64_in _ h] at this
theorem v_sub (hx : ev f x = some (.int .i64 m)) (hy : ev f y = some (.int .i64 n)) (h : -9223372036854775808 ≤ m - n ∧ m - n ≤ 9223372036854775807) :
    OpV P N (.binOp .sub t x y t') ty f H (.int .i64 (m - n)) := by
  have := v_subw (P := P) (N := N) (t := t) (t' := t') (ty := ty) (H := H) hx hy
  rwa [IntWalk.i64_in _ h] at this
theorem v_lss (hx : ev f x = some (.int k m)) (hy : ev f y = some (.int k n)) : OpV P N (.binOp .lss t x y t') ty f H (.bool (decide (m < n))) :=
  v_bin hx hy fun w => by simp [go_sem]
theorem v_leq (hx : ev f x = some (.int k m)) (hy : ev f y = some (.int k n)) : OpV P N (.binOp .leq t x y t') ty f H (.bool (decide (m ≤ n))) :=
  v_bin hx hy fun w => by simp [go_sem]
theorem v_gtr (hx : ev f x = some (.int k m)) (hy : ev f y = some (.int k n)) : OpV P N (.binOp .gtr t x y t') ty f H (.bool (decide (n < m))) :=
  v_bin hx hy fun w => by simp [go_sem]
theorem v_geq (hx : ev f x = some (.int k m)) (hy : ev f y = some (.int k n)) : OpV P N (.binOp .geq t x y t') ty f H (.bool (decide (n ≤ m))) :=
  v_bin hx hy fun w => by simp [go_sem]
theorem v_eql (hx : ev f x = some (.int k m)) (hy : ev f y = some (.int k n)) : OpV P N (.binOp .eql t x y t') ty f H (.bool (decide (m = n))) :=
  v_bin hx hy fun w => by simp [go_sem, beq_dec]
theorem v_neq (hx : ev f x = some (.int k m)) (hy : ev f y = some (.int k n)) : OpV P N (.binOp .neq t x y t') ty f H (.bool (!decide (m = n))) :=
  v_bin hx hy fun w => by simp [go_sem, bne, beq_dec]
theorem v_quow (hx : ev f x = some (.int k m)) (hy : ev f y = some (.int k n)) (h : n ≠ 0) : OpV P N (.binOp .quo t x y t') ty f H (.int k (k.wrap (m.tdiv n))) :=
  v_bin hx hy fun w => by simp [go_sem, Op.intDiv, h]
theorem v_remw (hx : ev f x = some (.int k m)) (hy : ev f y = some (.int k n)) (h : n ≠ 0) : OpV P N (.binOp .rem t x y t') ty f H (.int k (m.tmod n)) :=
  v_bin hx hy fun w => by simp [go_sem, Op.intDiv, h]
theorem v_quo8 (hx : ev f x = some (.int .u8 m)) (hy : ev f y = some (.int .u8 n)) (h : 0 ≤ m ∧ m ≤ 255 ∧ 1 ≤ n) : OpV P N (.binOp .quo t x y t') ty f H (.int .u8 (m / n)) := by
  have := v_quow (P := P) (N := N) (t := t) (t' := t') (ty := ty) (H := H) hx hy (by omega)
  rwa [IntWalk.u8_quo _ _ h] at this
theorem v_rem8 (hx : ev f x = some (.int .u8 m)) (hy : ev f y = some (.int .u8 n)) (h : 0 ≤ m ∧ 1 ≤ n) : OpV P N (.binOp .rem t x y t') ty f H (.int .u8 (m % n)) := by
  have := v_remw (P := P) (N := N) (t := t) (t' := t') (ty := ty) (H := H) hx hy (by omega)
  rwa [IntWalk.rem_in _ _ h.1] at this
theorem v_quo (hx : ev f x = some (.int .i64 m)) (hy : ev f y = some (.int .i64 n)) (h : 0 ≤ m ∧ m ≤ 9223372036854775807 ∧ 1 ≤ n) : OpV P N (.binOp .quo t x y t') ty f H (.int .i64 (m / n)) := by
  have := v_quow (P := P) (N := N) (t := t) (t' := t') (ty := ty) (H := H) hx hy (by omega)
  rwa [IntWalk.i64_quo _ _ h] at this
theorem v_rem (hx : ev f x = some (.int .i64 m)) (hy : ev f y = some (.int .i64 n)) (h : 0 ≤ m ∧ 1 ≤ n) : OpV P N (.binOp .rem t x y t') ty f H (.int .i64 (m % n)) := by
  have := v_remw (P := P) (N := N) (t := t) (t' := t') (ty := ty) (H := H) hx hy (by omega)
  rwa [IntWalk.rem_in _ _ h.1] at this
theorem v_quo64 (hx : ev f x = some (.int .u64 m)) (hy : ev f y = some (.int .u64 n)) (h : 0 ≤ m ∧ m ≤ 18446744073709551615 ∧ 1 ≤ n) : OpV P N (.binOp .quo t x y t') ty f H (.int .u64 (m / n)) := by
  have := v_quow (P := P) (N := N) (t := t) (t' := t') (ty := ty) (H := H) hx hy (by omega)
  rwa [IntWalk.u64_quo _ _ h] at this
theorem v_rem64 (hx : ev f x = some (.int .u64 m)) (hy : ev f y = some (.int .u64 n)) (h : 0 ≤ m ∧ 1 ≤ n) : OpV P N (.binOp .rem t x y t') ty f H (.int .u64 (m % n)) := by
  have := v_remw (P := P) (N := N) (t := t) (t' := t') (ty := ty) (H := H) hx hy (by omega)
  rwa [IntWalk.rem_in _ _ h.1] at this
/-! bits of 64-bit words: numbers by 'BitVec' -/
def w64 (b : BitVec 64) : Value := .int .u64 b.toNat
theorem wrap64_toNat (b : BitVec 64) : IntKind.u64.wrap (b.toNat : Int) = (b.toNat : Int) := IntWalk.u64_in _ (by have := b.isLt; omega)
theorem ofInt_toNat (b : BitVec 64) : BitVec.ofInt 64 (b.toNat : Int) = b := by simp
variable {a b : BitVec 64}
theorem v_and64 (hx : ev f x = some (w64 a)) (hy : ev f y = some (w64 b)) : OpV P N (.binOp .and t x y t') ty f H (w64 (a &&& b)) :=
  v_bin hx hy fun w => by simp only [w64, eqGuard_and, binOp_and, Op.intBits, IntKind.bits, ofInt_toNat, wrap64_toNat]; rfl
theorem v_or64 (hx : ev f x = some (w64 a)) (hy : ev f y = some (w64 b)) : OpV P N (.binOp .or t x y t') ty f H (w64 (a ||| b)) :=
  v_bin hx hy fun w => by simp only [w64, eqGuard_or, binOp_or, Op.intBits, IntKind.bits, ofInt_toNat, wrap64_toNat]; rfl
theorem wrap_u64' (n : Int) : IntKind.u64.wrap n = n % 18446744073709551616 := by simp [IntKind.wrap, IntKind.bits, IntKind.signed]
theorem v_shl64 {q : IntKind} {n : Int} (hx : ev f x = some (w64 a)) (hy : ev f y = some (.int q n)) (h : 0 ≤ n ∧ n ≤ 63) : OpV P N (.binOp .shl t x y t') ty f H (w64 (a <<< n.toNat)) :=
  v_bin hx hy fun w => by
    obtain ⟨k, rfl⟩ := Int.eq_ofNat_of_zero_le h.1
    have hk : k ≤ 63 := by omega
    have e : IntKind.u64.wrap ((a.toNat : Int) * 2 ^ k) = ((a <<< k).toNat : Int) := by
      rw [wrap_u64', BitVec.toNat_shiftLeft, Nat.shiftLeft_eq, show ((a.toNat : Int) * 2 ^ k) = ((a.toNat * 2 ^ k : Nat) : Int) from by push_cast; rfl]
      generalize a.toNat * 2 ^ k = q
      omega
    simp only [w64, eqGuard_shl, binOp_shl, Op.shift, Int.toNat_natCast, IntKind.bits, Nat.min_eq_left (show k ≤ 64 by omega), e, if_neg (show ¬ ((k : Int) < 0) by omega)]; rfl
theorem v_shr64 {q : IntKind} {n : Int} (hx : ev f x = some (w64 a)) (hy : ev f y = some (.int q n)) (h : 0 ≤ n ∧ n ≤ 63) : OpV P N (.binOp .shr t x y t') ty f H (w64 (a >>> n.toNat)) :=
  v_bin hx hy fun w => by
    obtain ⟨k, rfl⟩ := Int.eq_ofNat_of_zero_le h.1
    have hk : k ≤ 63 := by omega
    have e : (a.toNat : Int).fdiv (2 ^ k) = ((a >>> k).toNat : Int) := by
      rw [Int.fdiv_eq_ediv_of_nonneg _ (Int.pow_nonneg (by omega)), BitVec.toNat_ushiftRight, Nat.shiftRight_eq_div_pow]
      norm_cast
    simp only [w64, eqGuard_shr, binOp_shr, Op.shift, Int.toNat_natCast, IntKind.bits, Nat.min_eq_left (show k ≤ 64 by omega), e, if_neg (show ¬ ((k : Int) < 0) by omega)]; rfl
theorem v_eql64 (hx : ev f x = some (w64 a)) (hy : ev f y = some (w64 b)) : OpV P N (.binOp .eql t x y t') ty f H (.bool (decide (a = b))) := by
  have := v_eql (P := P) (N := N) (t := t) (t' := t') (ty := ty) (H := H) hx hy
  have e : decide ((a.toNat : Int) = (b.toNat : Int)) = decide (a = b) := by
    rw [decide_eq_decide, Int.natCast_inj, BitVec.toNat_inj]
  rwa [e] at this
end ints
theorem v_not {b : Bool} (hx : ev f x = some (.bool b)) : OpV P N (.unOp .not t x) ty f H (.bool (!b)) := by
  intro a w hf hH
  simp only [opx, execOp, hf.ev hx]
  exact quiet_pure rfl
theorem equalIn_bool {a b : Bool} (ht : P.underlying t = some .bool) (d : Nat) (w : World) : (Op.equalIn (d + 1) t (.bool a) (.bool b)).run P w = .ok (a == b) w := by
  simp [Op.equalIn, run_underlying ht]
theorem v_eqlb {a b : Bool} (ht : P.underlying t = some .bool) (hx : ev f x = some (.bool a)) (hy : ev f y = some (.bool b)) : OpV P N (.binOp .eql t x y t') ty f H (.bool (a == b)) :=
  v_bin hx hy fun w => by
    rw [eqGuard_at_bool]
    show ((Op.equalIn (9999 + 1) t (.bool a) (.bool b)) >>= fun r => pure (Value.bool r)).run P w = _
    rw [Sem.run_bind, equalIn_bool ht]; rfl
/-! ### texts -/
section texts
variable {a b : List UInt8}
theorem v_addS (hx : ev f x = some (str a)) (hy : ev f y = some (str b)) (h : a.length + b.length ≤ 9223372036854775807) : OpV P N (.binOp .add t x y t') ty f H (str (a ++ b)) :=
  v_bin hx hy fun w => by
    have h1 : ¬ (((a.length + b.length : Nat) : Int) > IntKind.i64.max) := by
      show ¬ (_ > (9223372036854775807 : Int)); omega
    have e : (ByteArray.mk a.toArray ++ ByteArray.mk b.toArray) = ByteArray.mk (a ++ b).toArray := by
      apply ByteArray.ext; simp
    simp only [str, eqGuard_add, binOp, Op.stringOp, ByteArray.size, List.size_toArray, h1, if_false, e]; rfl
theorem v_eqlS (hx : ev f x = some (str a)) (hy : ev f y = some (str b)) : OpV P N (.binOp .eql t x y t') ty f H (.bool (decide (a = b))) :=
  v_bin hx hy fun w => by
    simp only [str, eqGuard_at_string, binOp, Op.stringOp, toList_mk, beq_dec]; rfl
theorem v_neqS (hx : ev f x = some (str a)) (hy : ev f y = some (str b)) : OpV P N (.binOp .neq t x y t') ty f H (.bool (!decide (a = b))) :=
  v_bin hx hy fun w => by
    simp only [str, eqGuard_at_string, binOp, Op.stringOp, toList_mk, beq_dec]; rfl
theorem v_lssS (hx : ev f x = some (str a)) (hy : ev f y = some (str b)) : OpV P N (.binOp .lss t x y t') ty f H (.bool (Op.bytesLess a b)) :=
  v_bin hx hy fun w => by
    simp only [str, eqGuard_at_string, binOp, Op.stringOp, toList_mk]; rfl
theorem v_lenS {as : Array TypeId} {t : TypeId} (ha : as = #[t]) (ht : P.underlying t = some .string) (hx : ev f x = some (str a)) : OpV P N (.call ⟨.builtin .len, #[x], as⟩) ty f H (.int .i64 a.length) := by
  subst ha
  intro c w hf hH
  simp only [opx, execOp, resolve, List.map_toArray, List.map_cons, List.map_nil, hf.ev hx, Sem.run_bind, Sem.run_pure, Result.andThen_ok, invoke, builtin]
  refine quiet_then ?_
  unfold Builtin.len_
  simp only [List.getElem?_toArray, List.getElem?_cons_zero, Sem.run_bind, run_underlying ht, Result.andThen_ok, str]
  rfl
theorem v_idxS {k : IntKind} {i : Int} (ht : P.underlying t = some .string) (hx : ev f x = some (str a)) (hy : ev f y = some (.int k i)) (h : 0 ≤ i ∧ i < a.length) :
    OpV P N (.index t x y) ty f H (.int .u8 (a.getD i.toNat 0).toNat) := by
  intro c w hf hH
  simp only [opx, execOp, hf.ev hx, hf.ev hy]
  refine quiet_pure ?_
  obtain ⟨j, rfl⟩ := Int.eq_ofNat_of_zero_le h.1
  have hj : j < a.length := by omega
  simp only [Instr.index, asIntOf, Sem.run_bind, Sem.run_pure, Result.andThen_ok, run_underlying ht, str, Int.toNat_natCast, h.1, if_true]
  have e : (ByteArray.mk a.toArray)[j]? = some (a.getD j 0) := by
    show (a.toArray)[j]? = _
    simp [List.getD, hj]
  rw [e]; rfl
theorem v_sliceSl {lo : Int} (ht : P.underlying t = some .string) (hx : ev f x = some (str a)) (hy : ev f y = some (.int .i64 lo)) (h : 0 ≤ lo ∧ lo ≤ a.length) :
    OpV P N (.slice t x (some y) none none) ty f H (str (a.drop lo.toNat)) := by
  intro c w hf hH
  simp only [opx, execOp, Option.map_some, Option.map_none, hf.ev hx, hf.ev hy]
  refine quiet_pure ?_
  obtain ⟨i, rfl⟩ := Int.eq_ofNat_of_zero_le h.1
  have e : (ByteArray.mk a.toArray).extract i a.length = ByteArray.mk (a.drop i).toArray := by
    apply ByteArray.ext; simp [List.take_of_length_le]
  have h2 : (0 : Int) ≤ (i : Int) ∧ (i : Int) ≤ (a.length : Int) := by omega
  simp only [Instr.sliceAt, Instr.slice, Sem.run_bind, Sem.run_pure, Result.andThen_ok, run_underlying ht, str, Instr.sliceBounds, Instr.sliceBound, asIntOf, ByteArray.size, List.size_toArray, h2, if_true, Int.toNat_natCast, Option.isSome_none, Bool.false_eq_true, if_false, and_self, e]
theorem v_sliceSh {hi : Int} (ht : P.underlying t = some .string) (hx : ev f x = some (str a)) (hz : ev f z = some (.int .i64 hi)) (h : 0 ≤ hi ∧ hi ≤ a.length) :
    OpV P N (.slice t x none (some z) none) ty f H (str (a.take hi.toNat)) := by
  intro c w hf hH
  simp only [opx, execOp, Option.map_some, Option.map_none, hf.ev hx, hf.ev hz]
  refine quiet_pure ?_
  obtain ⟨j, rfl⟩ := Int.eq_ofNat_of_zero_le h.1
  have e : (ByteArray.mk a.toArray).extract 0 j = ByteArray.mk (a.take j).toArray := by
    apply ByteArray.ext; simp
  have h1 : (0 : Int) ≤ (j : Int) ∧ (j : Int) ≤ (a.length : Int) := by omega
  simp only [Instr.sliceAt, Instr.slice, Sem.run_bind, Sem.run_pure, Result.andThen_ok, run_underlying ht, str, Instr.sliceBounds, Instr.sliceBound, asIntOf, ByteArray.size, List.size_toArray, h1, if_true, Int.toNat_natCast, Option.isSome_none, Bool.false_eq_true, if_false, and_self, e]
end texts
theorem v_extract {vs : List Value} {v : Value} {i : Nat} (hx : ev f x = some (.tuple vs.toArray)) (h : vs[i]? = some v) : OpV P N (.extract x i) ty f H v := by
  intro c w hf hH
  simp only [opx, execOp, hf.ev hx]
  refine quiet_pure ?_
  simp only [Instr.extract, List.getElem?_toArray, h]; rfl
theorem v_conv {k k' : IntKind} {n : Int} (hs : (P.underlying t).isSome = true) (ht : P.underlying t' = some (.int k')) (hx : ev f x = some (.int k n)) : OpV P N (.convert t t' x) ty f H (.int k' (k'.wrap n)) := by
  intro c w hf hH
  simp only [opx, execOp, hf.ev hx]
  refine quiet_pure ?_
  obtain ⟨d, hd⟩ := Option.isSome_iff_exists.1 hs
  simp only [convert, Sem.run_bind, run_underlying hd, run_underlying ht, Result.andThen_ok, Conv.intToInt]; rfl
/-- a conversion that turns no number -/
theorem v_conv_id {k k' : IntKind} {n : Int} (hs : (P.underlying t).isSome = true) (ht : P.underlying t' = some (.int k')) (hx : ev f x = some (.int k n)) (h : k'.wrap n = n) : OpV P N (.convert t t' x) ty f H (.int k' n) := by
  have := v_conv (P := P) (N := N) (ty := ty) (H := H) hs ht hx
  rwa [h] at this
end
end
end Go.Proofs.YtaopgjfioabfpaaGreat
