/- Several texts in one. No condition. -/
import Derived.Test.YtaopgjfioabfpaaGreatMg6FunTells
import Derived.Laws.StructEq
import Derived.ChangeKeysEq
set_option linter.unusedVariables false
set_option linter.unusedSimpArgs false
set_option maxRecDepth 20000
namespace Go.Proofs.YtaopgjfioabfpaaGreat
section
/-! ## arrays of numbers are compared number by number -/
section
variable {P : Program}
theorem all_range_int : ∀ (xs ys : List Int), xs.length = ys.length → ((List.range xs.length).all fun i => xs.getD i 0 == ys.getD i 0) = (xs == ys)
  | [], [], _ => rfl
  | x :: xs, y :: ys, h => by
    have ih := all_range_int xs ys (by simpa using h)
    rw [List.length_cons, List.range_succ_eq_map, List.all_cons, List.all_map]
    simp only [List.getD_cons_zero, Function.comp_def, List.getD_cons_succ, ih]
    simp [List.cons_beq_cons]
  | [], _ :: _, h => by simp at h
  | _ :: _, [], h => by simp at h
theorem run_equalIn_ints (d : Nat) {t e : TypeId} {n : Nat} {k : IntKind} (ht : P.underlying t = some (.array n e)) (he : P.underlying e = some (.int k)) (hsz : ∀ w, (sizeOf e).run P w = .ok 1 w)
    (xs ys : List Int) (hx : xs.length = n) (hy : ys.length = n) (w : World) :
    (Op.equalIn (d + 2) t (.agg (xs.map (.int k)).toArray) (.agg (ys.map (.int k)).toArray)).run P w = .ok (xs == ys) w := by
  rw [← all_range_int xs ys (hx.trans hy.symm), hx, List.range_eq_range', Op.equalIn]
  simp only [Sem.run_bind, run_underlying ht, Result.andThen_ok, hsz, Std.Legacy.Range.forIn_eq_forIn_range', Std.Legacy.Range.size, Nat.sub_zero, Nat.add_sub_cancel, Nat.div_one]
  have hl : ∀ i ∈ List.range' 0 n 1, i < n := fun i hi => by simpa using (List.mem_range'_1.1 hi).2
  generalize List.range' 0 n 1 = l at hl ⊢
  induction l with
  | nil => simp
  | cons i l ih =>
    have hi : i < n := hl i (by simp)
    have px : (part e (xs.map (Value.int k)).toArray (i * 1)).run P w = .ok (.int k (xs.getD i 0)) w := by
      simp [part, isAgg, run_underlying he, List.getD, List.getElem?_eq_getElem (show i < xs.length by omega)]
    have py : (part e (ys.map (Value.int k)).toArray (i * 1)).run P w = .ok (.int k (ys.getD i 0)) w := by
      simp [part, isAgg, run_underlying he, List.getD, List.getElem?_eq_getElem (show i < ys.length by omega)]
    have pe : (Op.equalIn (d + 1) e (.int k (xs.getD i 0)) (.int k (ys.getD i 0))).run P w = .ok (xs.getD i 0 == ys.getD i 0) w := by
      rw [run_equalIn_int w d e k k _ _ he]
    simp only [List.forIn_cons, Sem.run_bind, px, py, pe, Result.andThen_ok, List.all_cons]
    cases hb : (xs.getD i 0 == ys.getD i 0)
    · simp
    · simp only [Bool.not_true, Bool.false_eq_true, if_false, Sem.run_pure, Result.andThen_ok, Bool.true_and]
      exact ih fun j hj => hl j (by simp [hj])
variable {N : Sz} {f : Frm} {H : Heap} {t t' e ty : TypeId} {x y : Operand}
theorem v_eqlInts {n : Nat} {k : IntKind} {xs ys : List Int} {u v : Value} {b : Bool} (ht : P.underlying t = some (.array n e)) (he : P.underlying e = some (.int k)) (hsz : ∀ w, (sizeOf e).run P w = .ok 1 w) (hm : P.eqGuardType P.depth t = false)
    (hx : ev f x = some u) (hy : ev f y = some v) (hu : u = .agg (xs.map (.int k)).toArray) (hv : v = .agg (ys.map (.int k)).toArray) (hxn : xs.length = n) (hyn : ys.length = n) (hb : (xs == ys) = b) : OpV P N (.binOp .eql t x y t') ty f H (.bool b) :=
  v_bin hx hy fun w => by
    subst hu hv hb
    rw [Sem.run_bind, run_eqGuard_agg w _ t x y _ _ hm, Result.andThen_ok, run_eql_struct, run_equalIn_ints 9998 ht he hsz xs ys hxn hyn]; rfl
theorem v_neqInts {n : Nat} {k : IntKind} {xs ys : List Int} {u v : Value} {b : Bool} (ht : P.underlying t = some (.array n e)) (he : P.underlying e = some (.int k)) (hsz : ∀ w, (sizeOf e).run P w = .ok 1 w) (hm : P.eqGuardType P.depth t = false)
    (hx : ev f x = some u) (hy : ev f y = some v) (hu : u = .agg (xs.map (.int k)).toArray) (hv : v = .agg (ys.map (.int k)).toArray) (hxn : xs.length = n) (hyn : ys.length = n) (hb : (!(xs == ys)) = b) : OpV P N (.binOp .neq t x y t') ty f H (.bool b) :=
  v_bin hx hy fun w => by
    subst hu hv hb
    rw [Sem.run_bind, run_eqGuard_agg w _ t x y _ _ hm, Result.andThen_ok, run_neq_struct, run_equalIn_ints 9998 ht he hsz xs ys hxn hyn]; rfl
end
/-! ## sets -/
structure BSet where
  a : BitVec 64
  b : BitVec 64
  c : BitVec 64
  d : BitVec 64
  deriving DecidableEq
instance : Inhabited BSet := ⟨⟨0, 0, 0, 0⟩⟩
namespace BSet
def zero : BSet := ⟨0#64, 0#64, 0#64, 0#64⟩
def wd (s : BSet) : Nat → BitVec 64
  | 0 => s.a
  | 1 => s.b
  | 2 => s.c
  | _ => s.d
def setw (s : BSet) (k : Nat) (x : BitVec 64) : BSet := match k with
  | 0 => { s with a := x }
  | 1 => { s with b := x }
  | 2 => { s with c := x }
  | _ => { s with d := x }
/-- is byte n in it -/
def has (s : BSet) (n : Nat) : Bool := (s.wd (n / 64)).getLsbD (n % 64)
def add (s : BSet) (n : Nat) : BSet := s.setw (n / 64) (s.wd (n / 64) ||| (1#64 <<< (n % 64)))
def map2 (J : BitVec 64 → BitVec 64 → BitVec 64) (s t : BSet) : BSet := ⟨J s.a t.a, J s.b t.b, J s.c t.c, J s.d t.d⟩
def band (s t : BSet) : BSet := map2 (fun x y => x &&& y) s t
def bor (s t : BSet) : BSet := map2 (fun x y => x ||| y) s t
def bnot (s : BSet) : BSet := map2 (fun x _ => ~~~x) s s
def ofL (l : List UInt8) : BSet := l.foldl (fun s c => s.add c.toNat) zero
def ofFn (p : Nat → Bool) (n : Nat) : BSet := (List.range n).foldl (fun s m => if p m then s.add m else s) zero
theorem wd_setw (s : BSet) (x : BitVec 64) {k j : Nat} (hk : k < 4) (hj : j < 4) : (s.setw k x).wd j = if j = k then x else s.wd j := by
  rcases (show k = 0 ∨ k = 1 ∨ k = 2 ∨ k = 3 by omega) with rfl | rfl | rfl | rfl <;> rcases (show j = 0 ∨ j = 1 ∨ j = 2 ∨ j = 3 by omega) with rfl | rfl | rfl | rfl <;> rfl
theorem wd_ext {s t : BSet} (h : ∀ k, k < 4 → s.wd k = t.wd k) : s = t := by
  obtain ⟨a, b, c, d⟩ := s
  obtain ⟨a', b', c', d'⟩ := t
  have h0 : a = a' := h 0 (by omega)
  have h1 : b = b' := h 1 (by omega)
  have h2 : c = c' := h 2 (by omega)
  have h3 : d = d' := h 3 (by omega)
  rw [h0, h1, h2, h3]
theorem ext {s t : BSet} (h : ∀ n, n < 256 → s.has n = t.has n) : s = t := by
  apply wd_ext
  intro k hk
  apply BitVec.eq_of_getLsbD_eq
  intro i hi
  have := h (64 * k + i) (by omega)
  unfold has at this
  rwa [show (64 * k + i) / 64 = k by omega, show (64 * k + i) % 64 = i by omega] at this
theorem has_zero (n : Nat) : zero.has n = false := by
  unfold has
  have : zero.wd (n / 64) = 0#64 := by
    unfold wd; split <;> rfl
  rw [this]; simp
theorem has_add (s : BSet) {n m : Nat} (hn : n < 256) (hm : m < 256) : (s.add n).has m = (s.has m || decide (m = n)) := by
  unfold has add
  rw [wd_setw _ _ (by omega) (by omega)]
  split
  · rename_i e
    rw [BitVec.getLsbD_or, e]
    congr 1
    rw [BitVec.getLsbD_shiftLeft, BitVec.getLsbD_one]
    by_cases h : m = n
    · subst h; simp; omega
    · have : m % 64 ≠ n % 64 := by omega
      simp only [h, decide_false]
      by_cases h2 : m % 64 < n % 64
      · simp [h2]
      · have : m % 64 - n % 64 ≠ 0 := by omega
        simp [this]
  · rename_i e
    have : m ≠ n := by rintro rfl; exact e rfl
    simp [this]
theorem wd_map2 (J : BitVec 64 → BitVec 64 → BitVec 64) (s t : BSet) {k : Nat} (hk : k < 4) : (map2 J s t).wd k = J (s.wd k) (t.wd k) := by
  rcases (show k = 0 ∨ k = 1 ∨ k = 2 ∨ k = 3 by omega) with rfl | rfl | rfl | rfl <;> rfl
theorem has_band (s t : BSet) {n : Nat} (h : n < 256) : (band s t).has n = (s.has n && t.has n) := by
  unfold has band; rw [wd_map2 _ _ _ (by omega)]; simp
theorem has_bor (s t : BSet) {n : Nat} (h : n < 256) : (bor s t).has n = (s.has n || t.has n) := by
  unfold has bor; rw [wd_map2 _ _ _ (by omega)]; simp
theorem has_bnot (s : BSet) {n : Nat} (h : n < 256) : (bnot s).has n = !s.has n := by
  unfold has bnot; rw [wd_map2 _ _ _ (by omega)]; simp [show n % 64 < 64 by omega]
theorem ofL_snoc (l : List UInt8) (c : UInt8) : ofL (l ++ [c]) = (ofL l).add c.toNat := by simp [ofL]
theorem ofFn_succ (p : Nat → Bool) (n : Nat) : ofFn p (n + 1) = if p n then (ofFn p n).add n else ofFn p n := by
  unfold ofFn; rw [List.range_succ, List.foldl_append]; rfl
theorem has_ofFn (p : Nat → Bool) : ∀ (n : Nat), n ≤ 256 → ∀ {m : Nat}, m < 256 → (ofFn p n).has m = (decide (m < n) && p m)
  | 0, _, m, _ => by simp [ofFn, has_zero]
  | n + 1, hn, m, hm => by
    rw [ofFn_succ]
    have ih := has_ofFn p n (by omega) hm
    split
    · rename_i h
      rw [has_add _ (by omega) hm, ih]
      by_cases e : m = n
      · subst e; simp [h]
      · rw [show decide (m < n + 1) = decide (m < n) from decide_eq_decide.2 (by omega)]; simp [e]
    · rename_i h
      rw [ih]
      by_cases e : m = n
      · subst e; simp [h]
      · rw [show decide (m < n + 1) = decide (m < n) from decide_eq_decide.2 (by omega)]
theorem wd_toNat (s : BSet) (n : Nat) : s.has n = decide ((s.wd (n / 64)).toNat / 2 ^ (n % 64) % 2 = 1) := by
  unfold has
  rw [← BitVec.testBit_toNat, Nat.testBit_eq_decide_div_mod_eq]
end BSet
/-- a set's cells -/
def sw (s : BSet) : List Value := [w64 s.a, w64 s.b, w64 s.c, w64 s.d]
/-- a set as a value -/
def sv (s : BSet) : Value := .agg (sw s).toArray
theorem sw_get (s : BSet) {k : Nat} (h : k < 4) : (sw s)[k]? = some (w64 (s.wd k)) := by
  rcases (show k = 0 ∨ k = 1 ∨ k = 2 ∨ k = 3 by omega) with rfl | rfl | rfl | rfl <;> rfl
theorem sw_set (s : BSet) (x : BitVec 64) {k : Nat} (h : k < 4) : (sw s).set k (w64 x) = sw (s.setw k x) := by
  rcases (show k = 0 ∨ k = 1 ∨ k = 2 ∨ k = 3 by omega) with rfl | rfl | rfl | rfl <;> rfl
theorem sw_one (s : BSet) : ∀ c ∈ sw s, c.oneCell' = true := by intro c h; simp [sw] at h; rcases h with rfl | rfl | rfl | rfl <;> rfl
def fSet : Flat BSet := ⟨sw, 4, fun _ => rfl, sw_one⟩
def fWord : Flat (BitVec 64) := ⟨fun x => [w64 x], 1, fun _ => rfl, fun _ c h => by simp at h; subst h; rfl⟩
def swInts (s : BSet) : List Int := [(s.a.toNat : Int), s.b.toNat, s.c.toNat, s.d.toNat]
theorem swInts_eq (s t : BSet) : (swInts s == swInts t) = decide (s = t) := by
  rw [beq_dec]
  apply decide_eq_decide.2
  obtain ⟨a, b, c, d⟩ := s
  obtain ⟨a', b', c', d'⟩ := t
  simp only [swInts, List.cons.injEq, and_true, BSet.mk.injEq, Int.natCast_inj, BitVec.toNat_inj]
section
variable {P : Program} {N : Sz} {f : Frm} {H : Heap} {t t' e ty : TypeId} {x y : Operand} {b k : Nat} {T : TypeId} {s s' : BSet}
theorem h_boxS (hx : ev f x = some (sv s)) : OpH P N (.box t x) ty f H (fun v H' => v = ptr H.size 0 ∧ New H H' (sw s) t) := h_box hx rfl
theorem h_allocS (hz : ∀ w, (zeroValue t).run P w = .ok (sv .zero) w) : OpH P N (.alloc t) ty f H (fun v H' => v = ptr H.size 0 ∧ New H H' (sw .zero) t) := h_alloc hz rfl
theorem v_ixS {q : IntKind} {i : Int} (ht : P.underlying t = some (.array 4 e)) (hs : ∀ w, (sizeOf e).run P w = .ok 1 w) (hx : ev f x = some (ptr b 0)) (hy : ev f y = some (.int q i)) (h : 0 ≤ i ∧ i < 4) :
    OpV P N (.indexAddr t x y) ty f H (ptr b i.toNat) := by
  have := v_ixA (N := N) (H := H) (ty := ty) (x := x) (y := y) ht hs hx hy h
  rwa [Nat.zero_add, Nat.mul_one] at this
theorem v_loadW (ha : ∀ w, (isAgg t).run P w = .ok false w) (hx : ev f x = some (ptr b k)) (hb : Blk H b (sw s) T) (hk : k < 4) : OpV P N (.load t x) ty f H (w64 (s.wd k)) :=
  v_load1 ha hx (hb.cell (sw_get s hk))
theorem v_loadS (ha : ∀ w, (isAgg t).run P w = .ok true w) (hs : ∀ w, (sizeOf t).run P w = .ok 4 w) (hx : ev f x = some (ptr b 0)) (hb : Blk H b (sw s) T) : OpV P N (.load t x) ty f H (sv s) :=
  v_loadA ha hs hx hb.at0 rfl
theorem h_storeW {u : BitVec 64} (hs : ∀ w, (sizeOf t).run P w = .ok 1 w) (hx : ev f x = some (ptr b k)) (hy : ev f y = some (w64 u)) (hb : Blk H b (sw s) T) (hk : k < 4) :
    OpH P N (.store t x y) ty f H (fun _ H' => Put H H' b (sw (s.setw k u)) T) := by
  have := h_store1 (P := P) (N := N) (ty := ty) (t := t) hs hx hy hb hk rfl
  rwa [sw_set s u hk] at this
theorem h_storeS (hs : ∀ w, (sizeOf t).run P w = .ok 4 w) (hx : ev f x = some (ptr b 0)) (hy : ev f y = some (sv s')) (hb : Blk H b (sw s) T) :
    OpH P N (.store t x y) ty f H (fun _ H' => Put H H' b (sw s') T) :=
  h_storeA (P := P) (N := N) (ty := ty) (t := t) (us := sw s') (cs := sw s) hs hx hy hb rfl (Nat.le_refl 4) (sw_one s')
theorem v_ixVS {q : IntKind} {i : Int} (ht : P.underlying t = some (.array 4 e)) (hs : ∀ w, (sizeOf e).run P w = .ok 1 w) (ha : ∀ w, (isAgg e).run P w = .ok false w)
    (hx : ev f x = some (sv s)) (hy : ev f y = some (.int q i)) (h : 0 ≤ i ∧ i < 4) : OpV P N (.index t x y) ty f H (w64 (s.wd i.toNat)) :=
  v_ixV ht hs ha hx hy h (sw_get s (by omega))
theorem v_eqlSet (ht : P.underlying t = some (.array 4 e)) (he : P.underlying e = some (.int .u64)) (hsz : ∀ w, (sizeOf e).run P w = .ok 1 w) (hm : P.eqGuardType P.depth t = false) (hx : ev f x = some (sv s)) (hy : ev f y = some (sv s')) :
    OpV P N (.binOp .eql t x y t') ty f H (.bool (decide (s = s'))) := v_eqlInts (xs := swInts s) (ys := swInts s') ht he hsz hm hx hy rfl rfl rfl rfl (swInts_eq s s')
theorem v_neqSet (ht : P.underlying t = some (.array 4 e)) (he : P.underlying e = some (.int .u64)) (hsz : ∀ w, (sizeOf e).run P w = .ok 1 w) (hm : P.eqGuardType P.depth t = false) (hx : ev f x = some (sv s)) (hy : ev f y = some (sv s')) :
    OpV P N (.binOp .neq t x y t') ty f H (.bool (!decide (s = s'))) := v_neqInts (xs := swInts s) (ys := swInts s') ht he hsz hm hx hy rfl rfl rfl rfl (by rw [swInts_eq])
end
/-! ## words -/
section
variable {P : Program} {N : Sz} {f : Frm} {H : Heap} {t t' e ty : TypeId} {x y : Operand} {a b : BitVec 64}
theorem v_add64 (hx : ev f x = some (w64 a)) (hy : ev f y = some (w64 b)) : OpV P N (.binOp .add t x y t') ty f H (w64 (a + b)) := by
  have := v_addw (P := P) (N := N) (t := t) (t' := t') (ty := ty) (H := H) hx hy
  rwa [wrap_u64', show ((a.toNat : Int) + (b.toNat : Int)) % 18446744073709551616 = ((a + b).toNat : Int) by rw [BitVec.toNat_add, Int.natCast_emod, Int.natCast_add]; rfl] at this
theorem v_mul64 (hx : ev f x = some (w64 a)) (hy : ev f y = some (w64 b)) : OpV P N (.binOp .mul t x y t') ty f H (w64 (a * b)) := by
  have := v_mulw (P := P) (N := N) (t := t) (t' := t') (ty := ty) (H := H) hx hy
  rwa [wrap_u64', show ((a.toNat : Int) * (b.toNat : Int)) % 18446744073709551616 = ((a * b).toNat : Int) by rw [BitVec.toNat_mul, Int.natCast_emod, Int.natCast_mul]; rfl] at this
theorem v_uquo64 (hx : ev f x = some (w64 a)) (hy : ev f y = some (w64 b)) (h : b ≠ 0#64) : OpV P N (.binOp .quo t x y t') ty f H (w64 (a / b)) := by
  have hb : 1 ≤ (b.toNat : Int) := by
    have : b.toNat ≠ 0 := fun e => h (BitVec.eq_of_toNat_eq e)
    omega
  have := v_quo64 (P := P) (N := N) (t := t) (t' := t') (ty := ty) (H := H) hx hy ⟨by omega, by have := a.isLt; omega, hb⟩
  rwa [show (a.toNat : Int) / (b.toNat : Int) = ((a / b).toNat : Int) by rw [BitVec.toNat_udiv]; push_cast; rfl] at this
theorem v_urem64 (hx : ev f x = some (w64 a)) (hy : ev f y = some (w64 b)) (h : b ≠ 0#64) : OpV P N (.binOp .rem t x y t') ty f H (w64 (a % b)) := by
  have hb : 1 ≤ (b.toNat : Int) := by
    have : b.toNat ≠ 0 := fun e => h (BitVec.eq_of_toNat_eq e)
    omega
  have := v_rem64 (P := P) (N := N) (t := t) (t' := t') (ty := ty) (H := H) hx hy ⟨by omega, hb⟩
  rwa [show (a.toNat : Int) % (b.toNat : Int) = ((a % b).toNat : Int) by rw [BitVec.toNat_umod]; push_cast; rfl] at this
theorem v_toB {k : IntKind} {n : Int} (ht : (P.underlying t).isSome = true) (ht' : P.underlying t' = some (.int .u8)) (hx : ev f x = some (.int k n)) (h : 0 ≤ n ∧ n ≤ 255) : OpV P N (.convert t t' x) ty f H (.int .u8 (UInt8.ofNat n.toNat).toNat) := by
  have := v_conv_id (N := N) (ty := ty) (H := H) ht ht' hx (IntWalk.u8_in _ h)
  rwa [show n = (((UInt8.ofNat n.toNat).toNat : Nat) : Int) by rw [UInt8.toNat_ofNat']; omega] at this
end
/-- pairs of bytes -/
def fPair : Flat (UInt8 × UInt8) := ⟨fun p => [.int .u8 p.1.toNat, .int .u8 p.2.toNat], 2, fun _ => rfl, fun _ c h => by simp at h; rcases h with rfl | rfl <;> rfl⟩
def pv (p : UInt8 × UInt8) : Value := .agg (fPair.enc p).toArray
section
variable {P : Program} {N : Sz} {f : Frm} {H : Heap} {t t' e ty : TypeId} {x y : Operand} {p q : UInt8 × UInt8}
theorem v_buildS0 (ht : P.underlying t = some (.array 4 e)) (hz : ∀ w, (zeroValue t).run P w = .ok (sv .zero) w) (hsz : ∀ w, (sizeOf e).run P w = .ok 1 w) : OpV P N (.build t #[]) ty f H (sv .zero) := by
  intro c w hf hH
  simp only [opx, execOp]
  refine quiet_pure ?_
  have e1 : (#[] : Array (Nat × Operand)).map (fun x => (x.1, c.eval x.2)) = #[] := by simp
  rw [e1]
  simp only [Instr.build, Sem.run_bind, hz, Result.andThen_ok, run_underlying ht, hsz]
  rfl
end
end
end Go.Proofs.YtaopgjfioabfpaaGreat
