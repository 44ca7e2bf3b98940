/- Several texts in one. No condition. -/
import Derived.Test.YtaopgjfioabfpaaGreatMg7FunTells
import Derived.WalkKit
import Derived.ProofKit
import Derived.OpenShut
import Derived.ShutString
import Derived.ChangeOld
import Derived.Below
import Derived.Carry
import Derived.SizedLaws
set_option linter.unusedVariables false
set_option linter.unusedSimpArgs false
set_option maxRecDepth 20000
namespace Go.Proofs.YtaopgjfioabfpaaGreat
section
open Go.ChangeShapes Go.WideShapes Go.ChangeAt Go.RowKit
/-- what reads as a t is data of r, of which p holds -/
def Opn {α : Type} (P : Program) (t : TypeId) (r : Rep α) (p : α → Prop) : Prop :=
  ∀ {D : Type} (enc : TypeId × Value → D) (w : World) (fuel : Nat) (cs : List Value) (x : DataW D × List MemPlace),
    DataW.trod enc P w 0 (fun _ => true) true fuel t cs = some x → (x.1.weights P t).all (· ≤ reachBytes) = true → ∃ y, r.rel w.heap (inD w.heap) cs y ∧ p y
section
variable {P : Program} {t e : TypeId}
theorem opn_str (ht : P.underlying t = some .string) : Opn P t fStr.rep (fun s => s.length ≤ 140737488351232) := by
  intro D enc w fuel cs x h hw
  obtain ⟨s, rfl, rfl, hs⟩ := DataW.trod_string ht h
  simp only [DataW.weights, List.all_cons, List.all_nil, Bool.and_true, decide_eq_true_eq] at hw
  exact ⟨s.data.toList, by show [_] = [_]; simp [str], hw⟩
theorem opn_int (ht : P.underlying t = some (.int .i64)) : Opn P t fInt.rep (fun n => -9223372036854775808 ≤ n ∧ n ≤ 9223372036854775807) := by
  intro D enc w fuel cs x h hw
  obtain ⟨n, rfl, rfl, hs⟩ := DataW.trod_int ht h
  refine ⟨n, rfl, ?_⟩
  simp only [Lit.wf, Bool.and_eq_true, decide_eq_true_eq] at hs
  exact hs
theorem opn_bool (ht : P.underlying t = some .bool) : Opn P t fBool.rep (fun _ => True) := by
  intro D enc w fuel cs x h hw
  obtain ⟨n, rfl, rfl⟩ := DataW.trod_bool ht h
  exact ⟨n, rfl, trivial⟩
theorem weightsAll_mem {D : Type} {e : TypeId} : ∀ {l : List (DataW D)}, (DataW.weightsAll P e l).all (· ≤ reachBytes) = true → ∀ d ∈ l, (d.weights P e).all (· ≤ reachBytes) = true
  | [], _, d, hd => by cases hd
  | a :: r, h, d, hd => by
    simp only [DataW.weightsAll, List.all_append, Bool.and_eq_true] at h
    rcases List.mem_cons.1 hd with rfl | hd
    · exact h.1
    · exact weightsAll_mem h.2 d hd
theorem weightsEach_cons {D : Type} {t : TypeId} {ts : List TypeId} {d : DataW D} {ds : List (DataW D)} (h : (DataW.weightsEach P (t :: ts) (d :: ds)).all (· ≤ reachBytes) = true) :
    (d.weights P t).all (· ≤ reachBytes) = true ∧ (DataW.weightsEach P ts ds).all (· ≤ reachBytes) = true := by
  simpa only [DataW.weightsEach, List.all_append, Bool.and_eq_true] using h
theorem at_of_cells {w : World} {a : Addr} {n : Nat} {cs : List Value} {i : Nat} (hn : 0 < n) (h : w.cells? 0 (a.add (i * n)) n = some cs) (hsp : a.spot = none) : At w.heap a.block (a.off + i * n) cs ∧ a.block < w.heap.size := by
  obtain ⟨_, h2, h3⟩ := World.cells?_some h
  obtain ⟨b, o, sp⟩ := a
  simp only at hsp
  subst hsp
  have hat : At w.heap b (o + i * n) cs := fun j v hv => by
    have hj : j < n := by
      rcases Nat.lt_or_ge j cs.length with h4 | h4
      · omega
      · simp [List.getElem?_eq_none h4] at hv
    have := h3 j hj
    rw [add_mk, add_mk, cell?_eq, hv] at this
    exact this
  exact ⟨hat, hat.lt (by rintro rfl; simp at h2; omega)⟩
theorem spot_of_cells {w : World} {a : Addr} {n : Nat} {cs : List Value} (hn : 0 < n) (h : w.cells? 0 (a.add (0 * n)) n = some cs) : a.spot = none := by
  obtain ⟨_, h2, h3⟩ := World.cells?_some h
  have h4 := h3 0 hn
  have h5 : cs[0]? = some cs[0] := List.getElem?_eq_getElem (by omega)
  rw [h5] at h4
  have e : (a.add (0 * n)).add 0 = a := by simp [Addr.add]
  rw [e] at h4
  unfold World.cell? at h4
  cases hs : a.spot with
  | none => rfl
  | some k => rw [hs] at h4; split at h4 <;> simp at h4
theorem list_of {α β : Type} (R : α → β → Prop) : ∀ (l : List α), (∀ x ∈ l, ∃ y, R x y) → ∃ m : List β, m.length = l.length ∧ ∀ (i : Nat) (h : i < l.length) (h' : i < m.length), R l[i] m[i]
  | [], _ => ⟨[], rfl, fun i h => by simp at h⟩
  | a :: r, h => by
    obtain ⟨y, hy⟩ := h a (by simp)
    obtain ⟨m, h1, h2⟩ := list_of R r (fun x hx => h x (by simp [hx]))
    refine ⟨y :: m, by simp [h1], fun i hi hi' => ?_⟩
    cases i with
    | zero => exact hy
    | succ i => exact h2 i (by simpa using hi) (by simpa using hi')
theorem at_dat {H : Heap} {b o : Nat} {cs : List Value} (h : At H b o cs) (hn : cs ≠ []) : ¬ dfr H b := by
  intro hd
  cases cs with
  | nil => exact hn rfl
  | cons v cs =>
    have := h 0 v rfl
    simp only [cellH] at this
    rw [hd] at this
    cases this
theorem opn_slice {α : Type} {r : Rep α} {p : α → Prop} (ht : P.underlying t = some (.slice e)) (hc : P.cellsOf e = r.sz) (hz : 0 < r.sz) (he : Opn P e r p) :
    Opn P t r.sl (fun l => l.length * P.bytesOf e ≤ 140737488351232 ∧ ∀ x ∈ l, p x) := by
  intro D enc w fuel cs x h hw
  rcases DataW.trod_slice ht h with ⟨rfl, rfl⟩ | ⟨a, len, cap, elems, rest, n, _, rfl, rfl, _, h2, h3, h4, h5, _, _⟩
  · exact ⟨[], ⟨_, rfl, Sl.nil⟩, by simp, by simp⟩
  · simp only [DataW.weights, ht, List.all_cons, List.all_append, Bool.and_eq_true, decide_eq_true_eq] at hw
    obtain ⟨hw1, hw2, _⟩ := hw
    rw [hc] at h5
    have hel : ∀ (i : Nat) (hi : i < len), ∃ cs', w.cells? 0 (a.add (i * r.sz)) r.sz = some cs' ∧ DataW.trod enc P w 0 (fun _ => true) true n e cs' = some (elems[i]'(by omega)) := by
      intro i hi
      have := h5 i hi
      rw [List.getElem?_eq_getElem (by omega)] at this
      cases hcs : w.cells? 0 (a.add (i * r.sz)) r.sz with
      | none => rw [hcs] at this; cases this
      | some cs' => rw [hcs] at this; exact ⟨cs', rfl, this⟩
    have hspot : 0 < len → a.spot = none := fun hl => by
      obtain ⟨cs', h6, _⟩ := hel 0 hl
      exact spot_of_cells hz h6
    obtain ⟨m, hm1, hm2⟩ := list_of (fun (i : Nat) (y : α) => (∃ cs', At w.heap a.block (a.off + i * r.sz) cs' ∧ r.rel w.heap (inD w.heap) cs' y) ∧ (a.block < w.heap.size ∧ ¬ dfr w.heap a.block) ∧ p y) (List.range len) (by
      intro i hi
      have hi' : i < len := List.mem_range.1 hi
      obtain ⟨cs', h6, h7⟩ := hel i hi'
      obtain ⟨y, hy1, hy2⟩ := he enc w n cs' _ h7 (weightsAll_mem hw2 _ (List.mem_map.2 ⟨_, List.getElem_mem _, rfl⟩))
      have h8 := at_of_cells hz h6 (hspot (by omega))
      refine ⟨y, ⟨cs', h8.1, hy1⟩, ⟨h8.2, at_dat h8.1 ?_⟩, hy2⟩
      rintro rfl
      have := r.len hy1
      simp at this
      omega)
    simp only [List.length_range, List.getElem_range] at hm1 hm2
    have hmx : (cap : Int) ≤ 9223372036854775807 := by
      have : (maxLen : Int) = 9223372036854775807 := by decide
      omega
    refine ⟨m, ⟨_, rfl, ⟨by show _ = Value.slice (some a) m.length cap; rw [hm1], ⟨by show m.length ≤ cap; omega, hmx⟩, fun i hi => ?_⟩⟩, ?_, ?_⟩
    · obtain ⟨h9, h10, _⟩ := hm2 i (by omega) hi
      have hs := hspot (by omega)
      refine ⟨?_, h10, h9⟩
      obtain ⟨b, o, sp⟩ := a
      simp only at hs
      subst hs
      show _ = Value.slice (some ⟨b, o, none⟩) m.length cap
      rw [hm1]
    · have h11 : m.length ≤ elems.length + rest.length := by omega
      have h12 := Nat.mul_le_mul_right (P.bytesOf e) h11
      simp only [List.length_map] at hw1
      have : reachBytes = 140737488351232 := rfl
      omega
    · intro y hy
      obtain ⟨i, hi, rfl⟩ := List.getElem_of_mem hy
      exact (hm2 i (by omega) hi).2.2
theorem w64_of {n : Int} (h0 : 0 ≤ n) (h1 : n ≤ 18446744073709551615) : Value.int .u64 n = w64 (BitVec.ofNat 64 n.toNat) := by
  unfold w64
  congr 1
  rw [BitVec.toNat_ofNat]
  omega
theorem opn_set (ht : P.underlying t = some (.array 4 e)) (he : P.underlying e = some (.int .u64)) (hc : P.cellsOf e = 1) (hc' : P.cellsOf t = 4) : Opn P t fSet.rep (fun _ => True) := by
  intro D enc w fuel cs x h hw
  obtain ⟨xs, m, _, rfl, h2, h3, h4⟩ := DataW.trod_array ht h
  rw [hc] at h4
  rw [hc'] at h2
  match cs, h2 with
  | [c0, c1, c2, c3], _ =>
    have key : ∀ (i : Nat) (c : Value), i < 4 → (([c0, c1, c2, c3] : List Value).drop (i * 1)).take 1 = [c] → ∃ b : BitVec 64, c = w64 b := by
      intro i c hi hcc
      have h5 := h4 i hi
      rw [hcc, List.getElem?_eq_getElem (by omega)] at h5
      obtain ⟨n, h6, _, hs⟩ := DataW.trod_int he h5
      simp only [List.cons.injEq, and_true] at h6
      subst h6
      simp only [Lit.wf, Bool.and_eq_true, decide_eq_true_eq] at hs
      exact ⟨_, w64_of hs.1 hs.2⟩
    obtain ⟨a, rfl⟩ := key 0 c0 (by omega) rfl
    obtain ⟨b, rfl⟩ := key 1 c1 (by omega) rfl
    obtain ⟨c, rfl⟩ := key 2 c2 (by omega) rfl
    obtain ⟨d, rfl⟩ := key 3 c3 (by omega) rfl
    exact ⟨⟨a, b, c, d⟩, rfl, trivial⟩
theorem Opn.imp {α : Type} {r : Rep α} {p q : α → Prop} (h : Opn P t r p) (hq : ∀ x, p x → q x) : Opn P t r q := by
  intro D enc w fuel cs x h1 h2
  obtain ⟨y, h3, h4⟩ := h enc w fuel cs x h1 h2
  exact ⟨y, h3, hq _ h4⟩
end
section
variable {D : Type} {enc : TypeId × Value → D} {P : Program}
theorem trod_open {α : Type} {r : Rep α} {p : α → Prop} {W : World} {t : TypeId} {v : Value} {d : DataW D} {ps : List MemPlace} (ho : Opn P t r p) (hd : DataW.Trod enc P W 0 (fun _ => true) true t v d ps)
    (hw : (d.weights P t).all (· ≤ reachBytes) = true) : ∃ y, r.rel W.heap (inD W.heap) v.cells.toList y ∧ p y := by
  obtain ⟨fuel, hf⟩ := hd
  exact ho enc W fuel _ (d, ps) hf hw
theorem trodAll_below (hl : laidOutB P = true) {W W' : World} (hb : Below W.heap.size W W') : ∀ {ts : List TypeId} {vs : List Value} {ds : List (DataW D)} {ps : List MemPlace}, (∀ t ∈ ts, P.readableRec t = true ∧ t < P.types.size) →
    DataW.TrodAll enc P W 0 (fun _ => true) true ts vs ds ps → DataW.TrodAll enc P W' 0 (fun b => decide (b < W.heap.size)) true ts vs ds ps
  | [], vs, ds, ps, _, h => by
    obtain ⟨rfl, rfl, rfl⟩ := trodAll_nil h
    exact trodAll_mk0
  | t :: ts, vs, ds, ps, hts, h => by
    have hlt := DataW.TrodAll.lt h
    obtain ⟨v, vs', d, ds', p, q, rfl, rfl, rfl, h1, h2⟩ := trodAll_cons h
    obtain ⟨hr, hrow⟩ := hts t (by simp)
    exact trodAll_cons_mk (Below.trod hl hr hrow h1 hb (fun x hx => hlt x (by simp [hx]))) (trodAll_below hl hb (fun u hu => hts u (by simp [hu])) h2)
theorem below_of {W W' : World} (he : Env W W') (hx : Ext [] W.heap W'.heap) : Below W.heap.size W W' :=
  ⟨he.os, he.tape, he.output, hx.size, fun k hk => hx.old k hk (by simp)⟩
/-- a true answer, and nothing turned -/
theorem post_true {fn : Func} {s : ChangeSpec} {b : TypeId} (hl : laidOutB P = true) (hts : ∀ t ∈ fn.params.toList, P.readableRec t = true ∧ t < P.types.size) (hres : fn.resultTypes = #[b]) (hb : P.underlying b = some .bool)
    {W W' : World} {args : Array Value} {ds gs : List (DataW D)} {before : List MemPlace} (hvars : s.vars = []) (hfn : s.fn D (ds ++ gs) = { results := [.lit (.bool true)], args := ds })
    (hW : DataW.Whole enc P fn.params.toList s.vars false W args.toList ds gs before) (he : Env W W') (hx : Ext [] W.heap W'.heap) :
    s.post enc P fn false true false false W args (.bool true) W' := by
  have hbel := below_of he hx
  have hW' := hW
  obtain ⟨p, q, hA, hV, _, _, _⟩ := hW
  refine ⟨ds, gs, before, [], p, [], hW', ?_, ?_, ?_, hbel.frame _, fun h => by cases h⟩
  · rw [hfn, hres]
    exact trodAll_mk1 (shut_bool hb true)
  · rw [hfn]
    exact trodAll_below hl hbel hts hA
  · rw [hfn, hvars]
    exact rfl
theorem calls_of_hc {g : FuncId} {args : Array Value} {W : World} {R : Value → Heap → Prop} {l : List Value} (h : HC P g l W.heap R) (ha : args = l.toArray) : Calls P g args W fun e W' => ∃ v, e = .returned v ∧ Env W W' ∧ R v W'.heap := by
  subst ha
  exact h W rfl
end
end
end Go.Proofs.YtaopgjfioabfpaaGreat
