/- Several texts in one. No condition. -/
import Derived.Test.YtaopgjfioabfpaaGreatMg11FunTells
import Derived.Lib.ConvBytes
set_option linter.unusedVariables false
set_option linter.unusedSimpArgs false
set_option maxRecDepth 20000
namespace Go.Proofs.YtaopgjfioabfpaaGreat
section
section
variable {P : Program} {N : Sz} {f : Frm} {H : Heap} {Z : Nat → Prop} {L : List As} {t t' e ty : TypeId} {x : Operand}
/-- a new slice that nobody turns -/
def newSl {α : Type} (r : Rep α) (v : Value) (l : List α) : As := ⟨fun H Z D => Sl r H D v l ∧ ∀ b, D b → b < H.size ∧ (∃ o, H[b]? = some o) ∧ ¬ dfr H b, fun {H H' Z Z' D} ⟨h1, h2⟩ _ hb hz =>
  ⟨h1.keep (fun b hd hl => hb b (.inl hd) hl) fun _ h => h, fun b hd => by
    obtain ⟨k1, ⟨o, k2⟩, k3⟩ := h2 b hd
    have e := (hb b (.inl hd) k1).trans k2
    exact ⟨(Array.getElem?_eq_some_iff.1 e).1, ⟨o, e⟩, by rw [dfr, hb b (.inl hd) k1]; exact k3⟩⟩, fun ⟨_, h2⟩ b hb => (h2 b hb).2.2⟩
end
/-! ## records are compared -/
section
variable {P : Program} {d : Nat} {xs ys : Array Value}
theorem eqF_nil (w : World) : (Op.eqFields d xs ys []).run P w = .ok true w := by simp [Op.eqFields]
theorem eqF_cons {f : Field} {fs : List Field} {u v : Value} {b b' : Bool} (hn : f.name ≠ "_") (hu : ∀ w, (part f.type xs f.offset).run P w = .ok u w) (hv : ∀ w, (part f.type ys f.offset).run P w = .ok v w)
    (he : ∀ w, (Op.equalIn d f.type u v).run P w = .ok b w) (hr : ∀ w, (Op.eqFields d xs ys fs).run P w = .ok b' w) (w : World) : (Op.eqFields d xs ys (f :: fs)).run P w = .ok (b && b') w := by
  simp only [Op.eqFields, if_pos hn, Sem.run_bind, hu, hv, he, Result.andThen_ok]
  cases b
  · simp
  · simp [hr]
theorem part1 {t : TypeId} {off : Nat} {v : Value} (ha : ∀ w, (isAgg t).run P w = .ok false w) (hc : xs[off]? = some v) (w : World) : (part t xs off).run P w = .ok v w := by
  simp only [part, Sem.run_bind, ha, Result.andThen_ok, hc]; rfl
theorem partA {t : TypeId} {off n : Nat} {us : Array Value} (ha : ∀ w, (isAgg t).run P w = .ok true w) (hs : ∀ w, (sizeOf t).run P w = .ok n w) (hc : xs.extract off (off + n) = us) (w : World) : (part t xs off).run P w = .ok (.agg us) w := by
  simp only [part, Sem.run_bind, ha, hs, Result.andThen_ok, if_true]; rw [← hc]; rfl
theorem eqI {t : TypeId} {k k' : IntKind} {a b : Int} (h : P.underlying t = some (.int k')) (w : World) : (Op.equalIn (d + 1) t (.int k a) (.int k b)).run P w = .ok (decide (a = b)) w := by
  rw [run_equalIn_int w d t k k' a b h]; rfl
theorem eqB {t : TypeId} {a b : Bool} (h : P.underlying t = some .bool) (w : World) : (Op.equalIn (d + 1) t (.bool a) (.bool b)).run P w = .ok (decide (a = b)) w := by
  rw [run_equalIn_bool' w d t a b h]; cases a <;> cases b <;> rfl
theorem eqS {t : TypeId} {a b : List UInt8} (h : P.underlying t = some .string) (w : World) : (Op.equalIn (d + 1) t (str a) (str b)).run P w = .ok (decide (a = b)) w := by
  unfold str
  rw [run_equalIn_string w d t _ _ h]
  congr 1
  rw [beq_dec, ByteArray.toList_eq, ByteArray.toList_eq]
theorem eqSet {t e : TypeId} {a b : BSet} (ht : P.underlying t = some (.array 4 e)) (he : P.underlying e = some (.int .u64)) (hsz : ∀ w, (sizeOf e).run P w = .ok 1 w) (w : World) : (Op.equalIn (d + 2) t (sv a) (sv b)).run P w = .ok (decide (a = b)) w := by
  have := run_equalIn_ints d ht he hsz (swInts a) (swInts b) rfl rfl w
  rw [swInts_eq] at this; exact this
end
section
variable {P : Program} {N : Sz} {f : Frm} {H : Heap} {t t' ty : TypeId} {x y : Operand} {xs ys : Array Value} {b : Bool}
theorem v_eqlRec (hm : P.eqGuardType P.depth t = false) (hx : ev f x = some (.agg xs)) (hy : ev f y = some (.agg ys)) (he : ∀ w, (Op.equalIn 10000 t (.agg xs) (.agg ys)).run P w = .ok b w) : OpV P N (.binOp .eql t x y t') ty f H (.bool b) :=
  v_bin hx hy fun w => by rw [Sem.run_bind, run_eqGuard_agg w _ t x y _ _ hm, Result.andThen_ok, run_eql_struct, he]; rfl
theorem v_neqRec (hm : P.eqGuardType P.depth t = false) (hx : ev f x = some (.agg xs)) (hy : ev f y = some (.agg ys)) (he : ∀ w, (Op.equalIn 10000 t (.agg xs) (.agg ys)).run P w = .ok b w) : OpV P N (.binOp .neq t x y t') ty f H (.bool (!b)) :=
  v_bin hx hy fun w => by rw [Sem.run_bind, run_eqGuard_agg w _ t x y _ _ hm, Result.andThen_ok, run_neq_struct, he]; rfl
end
section
variable {α : Type} {g : Flat α} {P : Program} {N : Sz} {f : Frm} {H : Heap} {t ty : TypeId} {x : Operand} {v : Value} {l : List α}
theorem v_loadSubA [Inhabited α] {S : Nat → Prop} {i : Int} {o sz n : Nat} {us : List Value} (ha : ∀ w, (isAgg t).run P w = .ok true w) (hz : ∀ w, (sizeOf t).run P w = .ok n w) (hx : ev f x = some (ptr (sb v) (so v + i.toNat * sz + o))) (hs : Sl g.rep H S v l) (hsz : g.sz = sz)
    (h : 0 ≤ i ∧ i < l.length) (hu : ((g.enc (l.getD i.toNat default)).drop o).take n = us) (hn : us.length = n := by rfl) : OpV P N (.load t x) ty f H (.agg us.toArray) := by
  subst hsz
  have hi : i.toNat < l.length := by omega
  obtain ⟨_, _, cs, h3, h4⟩ := hs.mem i.toNat hi
  have h5 : cs = g.enc l[i.toNat] := h4
  rw [← show l.getD i.toNat default = l[i.toNat] by simp [List.getD, hi]] at h5
  subst h5
  refine v_loadA ha hz hx (fun j u hj => ?_) hn
  rw [← hu] at hj
  rw [List.getElem?_take] at hj
  split at hj
  · rw [List.getElem?_drop] at hj
    have := h3 (o + j) u hj
    rwa [← Nat.add_assoc] at this
  · cases hj
end
end
end Go.Proofs.YtaopgjfioabfpaaGreat
