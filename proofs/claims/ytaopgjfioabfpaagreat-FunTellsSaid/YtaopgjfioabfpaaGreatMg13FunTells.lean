/- Several texts in one. No condition. -/
import Derived.Test.YtaopgjfioabfpaaGreatMg12FunTells
import Derived.Laws.CopyRow
set_option linter.unusedVariables false
set_option linter.unusedSimpArgs false
set_option maxRecDepth 20000
namespace Go.Proofs.YtaopgjfioabfpaaGreat
section
section
variable {α : Type} {r : Rep α} {P : Program} {N : Sz} {f : Frm} {H : Heap} {Z : Nat → Prop} {L : List As} {ty t t' e : TypeId} {x y : Operand} {v : Value} {l l2 : List α} {i : Nat}
theorem relAll.rep {zc : List Value} {d : α} (h : r.rel H Z zc d) : ∀ n, relAll r H Z (List.replicate n zc) (List.replicate n d)
  | 0 => trivial
  | n + 1 => ⟨h, relAll.rep h n⟩
end
section
variable {P : Program} {N : Sz} {f : Frm} {H : Heap} {t t' ty : TypeId} {x y : Operand} {a b : BitVec 64}
theorem v_gtr64 (hx : ev f x = some (w64 a)) (hy : ev f y = some (w64 b)) : OpV P N (.binOp .gtr t x y t') ty f H (.bool (decide (b < a))) := by
  have := v_gtr (P := P) (N := N) (t := t) (t' := t') (ty := ty) (H := H) (show ev f x = some (.int .u64 (a.toNat : Int)) from hx) (show ev f y = some (.int .u64 (b.toNat : Int)) from hy)
  rwa [show decide ((b.toNat : Int) < a.toNat) = decide (b < a) from decide_eq_decide.2 (by rw [BitVec.lt_def]; omega)] at this
end
end
section
theorem a_n {f : Frm} : AllIn f [] := trivial
theorem a_c {f r : Frm} (t : Nat) {v : Value} (h : lk f t = some v) (k : AllIn f r) : AllIn f ((t, v) :: r) := ⟨h, k⟩
/-- what nobody turned at the start, nobody turns now -/
def inZ (Z0 : Nat → Prop) : As := ⟨fun _ Z D => (∀ b, Z0 b → Z b) ∧ ∀ x, ¬ D x, fun ⟨h1, h2⟩ _ _ hz => ⟨fun b hb => hz b (h1 b hb), h2⟩, fun ⟨_, h2⟩ x hx => absurd hx (h2 x)⟩
section
variable {H : Heap} {Z Z0 : Nat → Prop} {L : List As}
theorem Own.inZ (h : Own H Z L) : Own H Z (Go.Proofs.YtaopgjfioabfpaaGreat.inZ Z :: L) := h.dup ⟨fun _ h => h, fun _ h => h⟩
theorem Own.inz (h : Own H Z L) (i : Nat) (hi : L[i]? = some (Go.Proofs.YtaopgjfioabfpaaGreat.inZ Z0)) : ∀ b, Z0 b → Z b := by
  obtain ⟨D, h1, _⟩ := h.get hi
  exact h1.1
theorem Sl.item {α : Type} {r : Rep α} {v : Value} {l : List α} (h : Sl r H Z v l) (hO : Own H Z L) : Own H Z (fz r v l :: L) := hO.dup ⟨h, fun _ h => h⟩
theorem g_c {v0 : Value} {p : (Nat → Prop) → Prop} {q : Heap → (Nat → Prop) → Prop} (v : Value) (H' : Heap) (h : ∃ Z' : Nat → Prop, p Z' ∧ v = v0 ∧ q H' Z') : v = v0 ∧ ∃ Z' : Nat → Prop, q H' Z' :=
  let ⟨Z', _, h2, h3⟩ := h; ⟨h2, Z', h3⟩
end
end
end Go.Proofs.YtaopgjfioabfpaaGreat
