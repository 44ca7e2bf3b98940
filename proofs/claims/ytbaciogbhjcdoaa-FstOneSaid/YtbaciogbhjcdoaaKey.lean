/- Records as keys of tables. No condition. -/
import Derived.Test.YtbaciogbhjcdoaaIter
set_option linter.unusedSimpArgs false
set_option linter.unusedVariables false
namespace Go.Proofs.Ytbaciogbhjcdoaa
section
variable {P : Program} {t : TypeId} {fs : Array Field} {cs : Array Value} {n : Nat} {e : Bool}
theorem run_check_rec (hu : P.underlying t = some (.struct fs)) (h : ∀ f ∈ fs.toList, ∃ v, (∀ w, (part f.type cs f.offset).run P w = .ok v w) ∧ ∀ w, (Instr.checkKey e n f.type v).run P w = .ok () w) (w : World) : (Instr.checkKey e (n + 1) t (.agg cs)).run P w = .ok () w := by
  simp only [Instr.checkKey, Sem.run_bind, run_underlying hu, Result.andThen_ok]
  rw [← Array.forIn_toList]
  generalize fs.toList = l at h
  induction l with
  | nil => simp
  | cons f l ih =>
    obtain ⟨v, h1, h2⟩ := h f (by simp)
    have h3 := ih fun g hg => h g (by simp [hg])
    simp only [List.forIn_cons, Sem.run_bind, Sem.run_ite]
    by_cases hn : f.name ≠ "_"
    · simpa [hn, h1, h2] using h3
    · simpa [hn] using h3
theorem chk1 {u : TypeId} {k : TypeDesc} {v : Value} (hu : P.underlying u = some k) (hk : Go.MapKept.IsKey k v) (w : World) : (Instr.checkKey e (n + 1) u v).run P w = .ok () w := Go.MapKept.run_checkKey hu hk e n
end
theorem bits_agg {n : Nat} {l : List Value} (h : ∀ v ∈ l, Instr.sameBits n v v = true) : Instr.sameBits (n + 1) (.agg l.toArray) (.agg l.toArray) = true := by
  have : ∀ l : List Value, (∀ v ∈ l, Instr.sameBits n v v = true) → ((l.zip l).all fun (x, y) => Instr.sameBits n x y) = true := by
    intro l
    induction l with
    | nil => intro _; rfl
    | cons a l ih => intro h; simp only [List.zip_cons_cons, List.all_cons, h a (by simp), ih fun v hv => h v (by simp [hv]), Bool.and_self]
  simp only [Instr.sameBits, beq_self_eq_true, Bool.true_and]
  exact this l h
theorem bits_str {n : Nat} (l : List UInt8) : Instr.sameBits n (str l) (str l) = true := by
  unfold str; simp only [Instr.sameBits]; rw [beq_toListBytes]; simp
theorem bits_int {n : Nat} (k : IntKind) (a : Int) : Instr.sameBits n (.int k a) (.int k a) = true := by simp [Instr.sameBits]
theorem bits_bool {n : Nat} (a : Bool) : Instr.sameBits n (.bool a) (.bool a) = true := by simp [Instr.sameBits]
def keyRec {P : Program} {K : Type} [DecidableEq K] {t : TypeId} {k : TypeDesc} (enc : K → List Value) (hu : P.underlying t = some k) (hn : ∀ a b, Instr.sameNow k (.agg (enc a).toArray) (.agg (enc b).toArray) = none)
    (hs : ∀ a b (w : World), (Op.equalIn 10000 t (.agg (enc a).toArray) (.agg (enc b).toArray)).run P w = .ok (decide (a = b)) w)
    (hc : ∀ (e : Bool) (x : K) (w : World), (Instr.checkKey e 10000 t (.agg (enc x).toArray)).run P w = .ok () w) (hb : ∀ x, Instr.sameBits 10000 (.agg (enc x).toArray) (.agg (enc x).toArray) = true) : KeyT P K t :=
  ⟨fun x => .agg (enc x).toArray, k, hu, .inr ⟨hn, hs⟩, hc, hb⟩
end Go.Proofs.Ytbaciogbhjcdoaa
