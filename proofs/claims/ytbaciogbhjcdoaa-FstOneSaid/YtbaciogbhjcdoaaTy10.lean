/- The program's records as plain ones, and how they lie in cells. No condition. -/
import Derived.Test.YtbaciogbhjcdoaaSep3
set_option linter.unusedVariables false
set_option linter.unusedSimpArgs false
namespace Go.Proofs.Ytbaciogbhjcdoaa
structure GEdge where
  From : Int
  To : Int
  Set : BSet
  deriving DecidableEq, Inhabited
def fGEdge : Flat GEdge := ⟨fun x => [.int .i64 x.From, .int .i64 x.To, w64 x.Set.a, w64 x.Set.b, w64 x.Set.c, w64 x.Set.d], 6, fun _ => rfl, fun x c h => by
  simp only [List.mem_cons, List.not_mem_nil, or_false] at h
  rcases h with rfl | rfl | rfl | rfl | rfl | rfl <;> rfl⟩
structure GNfa where
  States : Int
  Starts : List Int
  Ends : List Int
  Edges : List GEdge
  deriving DecidableEq, Inhabited
def rGNfa : Rep GNfa where
  sz := 4
  rel := fun H S cs x => ∃ v0 v1 v2 : Value, cs = [.int .i64 x.States, v0, v1, v2] ∧ Sl fInt.rep H S v0 x.Starts ∧ Sl fInt.rep H S v1 x.Ends ∧ Sl fGEdge.rep H S v2 x.Edges
  len := fun ⟨_, _, _, h, _⟩ => by rw [h]; rfl
  one := fun ⟨_, _, _, h, h0, h1, h2⟩ c hc => by
    rw [h] at hc
    simp only [List.mem_cons, List.not_mem_nil, or_false] at hc
    rcases hc with rfl | rfl | rfl | rfl <;> first | rfl | exact Sl.one (by assumption)
  ext := fun ⟨v0, v1, v2, h, h0, h1, h2⟩ hb hS => ⟨v0, v1, v2, h, h0.keep hb hS, h1.keep hb hS, h2.keep hb hS⟩
structure Gnfa_builder where
  Nfa : GNfa
  full : Bool
  deriving DecidableEq, Inhabited
end Go.Proofs.Ytbaciogbhjcdoaa
