/- Short words for the walks. No condition. -/
import Derived.Test.YtbaciogbhjcdoaaSep7
set_option linter.unusedSimpArgs false
set_option linter.unusedVariables false
namespace Go.Proofs.Ytbaciogbhjcdoaa
theorem a_n {f : Frm} : AllIn f [] := trivial
theorem a_c {f r : Frm} (t : Nat) {v : Value} (h : lk f t = some v) (k : AllIn f r) : AllIn f ((t, v) :: r) := ⟨h, k⟩
/-- what nobody turned at the start, nobody turns now -/
def inZ (Z0 : Nat → Prop) : As := ⟨fun _ Z D => (∀ b, Z0 b → Z b) ∧ ∀ x, ¬ D x, fun ⟨h1, h2⟩ _ hz => ⟨fun b hb => hz b (h1 b hb), h2⟩⟩
section
variable {H : Heap} {Z Z0 : Nat → Prop} {L : List As}
theorem Own.inZ (h : Own H Z L) : Own H Z (Go.Proofs.Ytbaciogbhjcdoaa.inZ Z :: L) := h.dup ⟨fun _ h => h, fun _ h => h⟩
theorem Own.inz (h : Own H Z L) (i : Nat) (hi : L[i]? = some (Go.Proofs.Ytbaciogbhjcdoaa.inZ Z0)) : ∀ b, Z0 b → Z b := by
  obtain ⟨D, h1, _⟩ := h.get hi
  exact h1.1
theorem Sl.item {α : Type} {r : Rep α} {v : Value} {l : List α} (h : Sl r H Z v l) (hO : Own H Z L) : Own H Z (fz r v l :: L) := hO.dup ⟨h, fun _ h => h⟩
theorem g_c {v0 : Value} {p : (Nat → Prop) → Prop} {q : Heap → (Nat → Prop) → Prop} (v : Value) (H' : Heap) (h : ∃ Z' : Nat → Prop, p Z' ∧ v = v0 ∧ q H' Z') : v = v0 ∧ ∃ Z' : Nat → Prop, q H' Z' :=
  let ⟨Z', _, h2, h3⟩ := h; ⟨h2, Z', h3⟩
end
end Go.Proofs.Ytbaciogbhjcdoaa
