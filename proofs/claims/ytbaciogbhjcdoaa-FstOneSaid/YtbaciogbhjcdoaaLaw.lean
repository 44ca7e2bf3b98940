/- A law's parameters as shut data, and its answer. No condition. -/
import Derived.Test.YtbaciogbhjcdoaaSep4
set_option linter.unusedSimpArgs false
set_option linter.unusedVariables false
namespace Go.Proofs.Ytbaciogbhjcdoaa
theorem Fz.law {α : Type} {r : Rep α} {H0 : Heap} {v : Value} {l : List α} (h : Sl r H0 (inH H0) v l) : Fz r [was H0] v l := fun H Z hO => by
  obtain ⟨D, ⟨h1, _⟩, _⟩ := hO.get (i := 0) rfl
  exact h.keep (fun b hb hlt => (h1 b hb).2.2) fun b hb => (h1 b hb).1
theorem law_true {P : Program} {g : FuncId} {args : List Value} {H0 : Heap} (h : HC P g args H0 (fun v H' => ∃ Z' : Nat → Prop, (∀ b, inH H0 b → Z' b) ∧ v = .bool true ∧ Own H' Z' [was H0])) : HC P g args H0 (fun v H' => v = .bool true ∧ Ext [] H0 H') :=
  h.mono fun v H' ⟨Z', _, h1, h2⟩ => ⟨h1, h2.same (i := 0) rfl⟩
theorem uncons {α : Type} {l : List α} {n : Nat} (h : l.length = n + 1) : ∃ a r, l = a :: r ∧ r.length = n := by
  cases l with
  | nil => simp at h
  | cons a r => exact ⟨a, r, rfl, by simpa using h⟩
end Go.Proofs.Ytbaciogbhjcdoaa
