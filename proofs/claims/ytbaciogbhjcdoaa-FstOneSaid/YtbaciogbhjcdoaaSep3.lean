/- More of it: nested slices, guarded operations, small words. No condition. -/
import Derived.Test.YtbaciogbhjcdoaaSep2
import Derived.Test.YtbaciogbhjcdoaaHeld
set_option linter.unusedSimpArgs false
set_option linter.unusedVariables false
namespace Go.Proofs.Ytbaciogbhjcdoaa

theorem ite_t {c : Prop} [Decidable c] {a b : Prop} (h : if c then a else b) (hc : c) : a := by rwa [if_pos hc] at h
theorem ite_f {c : Bool} {a b : Prop} (h : if c = true then a else b) (hc : c = false) : b := by rw [hc] at h; simpa using h
theorem le63 {n b : Nat} (h : n * b ≤ 140737488355328) (hb : Nat.blt 0 b = true) : n ≤ 9223372036854775807 := by
  have h1 := blt_lt hb
  have h2 : n * 1 ≤ n * b := Nat.mul_le_mul_left _ h1
  omega
theorem u8_i64 (x : UInt8) : IntKind.i64.wrap (x.toNat : Int) = (x.toNat : Int) := IntWalk.i64_in _ (by have := x.toNat_lt; omega)
section
variable {α : Type} {r : Rep α} {H : Heap} {S : Nat → Prop} {v : Value} {l : List α} {lo hi : Int} {sz : Nat}
theorem slv_of (h : Sl r H S v l) (hb : 0 ≤ lo ∧ lo ≤ hi ∧ hi ≤ l.length) (hsz : r.sz = sz) : Sl r H S (slv v sz lo.toNat (hi.toNat - lo.toNat)) ((l.take hi.toNat).drop lo.toNat) := h.slv (by omega) (by omega) hsz
theorem slvl_of (h : Sl r H S v l) (hb : 0 ≤ lo ∧ lo ≤ l.length) (hsz : r.sz = sz) : Sl r H S (slv v sz lo.toNat (l.length - lo.toNat)) (l.drop lo.toNat) := h.slvl (by omega) hsz
theorem slvh_of (h : Sl r H S v l) (hb : 0 ≤ hi ∧ hi ≤ l.length) (hsz : r.sz = sz) : Sl r H S (slv v sz 0 hi.toNat) (l.take hi.toNat) := h.slvh (by omega) hsz
end
section
variable {P : Program} {N : Nat} {f : Frm} {H : Heap} {St : Heap → Prop} {l0 : List Oper} {rest : Tr} {d : Nat} {op : Op} {ty : TypeId} {p : String} {af : Array Edge} {j : Nat} {want : Bool} {Q : Frm → Heap → Prop}
theorem hd_gc {vg v : Value} {dj : Nat} {R : Heap → Prop} (hj : gslot l0 j = some dj) (hv : lk f dj = some vg) (h : gb vg want = true → OpH P (N, none) op ty f H (fun v' H' => v' = v ∧ R H')) (h0 : R H) (hS : ∀ H', R H' → St H') (hd : Nat.blt d N = true)
    (k : ∀ H', R H' → HD P N l0 St rest Q ((d, gv (gb vg want) v) :: f) H') : HD P N l0 St (.step true ⟨some d, op, ty, p, af, some (j, want)⟩ rest) Q f H := by
  intro w0 a w h1 h2 h3
  show if _ then _ else _
  rw [wanted_of h1 hj hv]
  cases hc : gb vg want
  · rw [if_neg (by simp)]
    have := k H h0
    rw [hc] at this
    exact this w0 _ w ((h1.put (N := (N, none)) (blt_lt hd) _).any) h2 h3
  · rw [if_pos rfl]
    refine (h hc).wp h1 h2 h3 fun v' w' h4 ⟨h5, h6⟩ => ?_
    subst h5
    have := k _ h6
    rw [hc] at this
    exact ⟨hS _ h6, this w0 _ _ ((h1.put (N := (N, none)) (blt_lt hd) _).any) rfl h4⟩
end

/-! ## slices of data that hold slices -/
def relAll {α : Type} (r : Rep α) (H : Heap) (Z : Nat → Prop) : List (List Value) → List α → Prop
  | [], [] => True
  | cs :: css, x :: l => r.rel H Z cs x ∧ relAll r H Z css l
  | _, _ => False
section
variable {α : Type} {r : Rep α} {H H' : Heap} {Z Z' : Nat → Prop} {css css' : List (List Value)} {l l' : List α}
theorem relAll_nil : relAll r H Z [] [] := trivial
theorem relAll_cons {cs : List Value} {x : α} (h : r.rel H Z cs x) (k : relAll r H Z css l) : relAll r H Z (cs :: css) (x :: l) := ⟨h, k⟩
theorem relAll.len : ∀ {css : List (List Value)} {l : List α}, relAll r H Z css l → css.length = l.length
  | [], [], _ => rfl
  | _ :: _, _ :: _, ⟨_, h⟩ => by simp [h.len]
  | [], _ :: _, h => h.elim
  | _ :: _, [], h => h.elim
theorem relAll.keep : ∀ {css : List (List Value)} {l : List α}, relAll r H Z css l → (∀ b, Z b → b < H.size → H'[b]? = H[b]?) → (∀ b, Z b → Z' b) → relAll r H' Z' css l
  | [], [], _, _, _ => trivial
  | _ :: _, _ :: _, ⟨h1, h2⟩, hb, hz => ⟨r.ext h1 hb hz, h2.keep hb hz⟩
  | [], _ :: _, h, _, _ => h.elim
  | _ :: _, [], h, _, _ => h.elim
theorem relAll.get : ∀ {css : List (List Value)} {l : List α}, relAll r H Z css l → ∀ (i : Nat) (h : i < l.length), ∃ cs, css[i]? = some cs ∧ r.rel H Z cs l[i]
  | [], [], _, i, h => by simp at h
  | cs :: _, _ :: _, ⟨h1, _⟩, 0, _ => ⟨cs, rfl, h1⟩
  | _ :: _, _ :: _, ⟨_, h2⟩, i + 1, h => h2.get i (by simpa using h)
  | [], _ :: _, h, _, _ => h.elim
  | _ :: _, [], h, _, _ => h.elim
theorem relAll.app : ∀ {css : List (List Value)} {l : List α}, relAll r H Z css l → relAll r H Z css' l' → relAll r H Z (css ++ css') (l ++ l')
  | [], [], _, h => h
  | _ :: _, _ :: _, ⟨h1, h2⟩, h => ⟨h1, h2.app h⟩
  | [], _ :: _, h, _ => h.elim
  | _ :: _, [], h, _ => h.elim
theorem relAll.flatlen : ∀ {css : List (List Value)} {l : List α}, relAll r H Z css l → css.flatten.length = l.length * r.sz
  | [], [], _ => by simp
  | _ :: _, _ :: _, ⟨h1, h2⟩ => by simp only [List.flatten_cons, List.length_append, r.len h1, h2.flatlen, List.length_cons, Nat.add_mul]; omega
  | [], _ :: _, h => h.elim
  | _ :: _, [], h => h.elim
theorem relAll.one : ∀ {css : List (List Value)} {l : List α}, relAll r H Z css l → ∀ u ∈ css.flatten, u.oneCell' = true
  | [], [], _, u, hu => by simp at hu
  | _ :: _, _ :: _, ⟨h1, h2⟩, u, hu => by
    simp only [List.flatten_cons, List.mem_append] at hu
    rcases hu with hu | hu
    · exact r.one h1 u hu
    · exact h2.one u hu
  | [], _ :: _, h, _, _ => h.elim
  | _ :: _, [], h, _, _ => h.elim
theorem relAll.cell {sz : Nat} (hsz : r.sz = sz) : ∀ {css : List (List Value)} {l : List α}, relAll r H Z css l → ∀ {i : Nat} {cs : List Value} {j : Nat}, css[i]? = some cs → j < sz → css.flatten[i * sz + j]? = cs[j]?
  | [], [], _, i, cs, j, h, _ => by simp at h
  | c :: _, _ :: _, ⟨h1, _⟩, 0, cs, j, h, hj => by
    simp only [List.getElem?_cons_zero, Option.some.injEq] at h
    subst h
    rw [List.flatten_cons, Nat.zero_mul, Nat.zero_add, List.getElem?_append_left (by rw [r.len h1, hsz]; exact hj)]
  | c :: _, _ :: _, ⟨h1, h2⟩, i + 1, cs, j, h, hj => by
    simp only [List.getElem?_cons_succ] at h
    have hl := r.len h1
    rw [List.flatten_cons, List.getElem?_append_right (by rw [hl, hsz, Nat.add_mul]; omega), hl, hsz, show (i + 1) * sz + j - sz = i * sz + j by rw [Nat.add_mul]; omega]
    exact h2.cell hsz h hj
  | [], _ :: _, h, _, _, _, _, _ => h.elim
  | _ :: _, [], h, _, _, _, _, _ => h.elim
end
/-- a slice of the call's own whose elements hold slices that nobody turns -/
def OwG {α : Type} (r : Rep α) (H : Heap) (Z : Nat → Prop) (e : TypeId) (v : Value) (l : List α) : Prop := ∃ css, OwR H 0 e r.sz v l.length css.flatten ∧ relAll r H Z css l
def ownR {α : Type} (r : Rep α) (e : TypeId) (v : Value) (l : List α) : As :=
  ⟨fun H Z D => OwG r H Z e v l ∧ ∀ x, D x ↔ x ∈ mb v, fun {H H' Z Z' D} ⟨⟨css, h1, h3⟩, h2⟩ hb hz => by
    refine ⟨⟨css, ?_, h3.keep (fun b hZ hl => hb b (.inr hZ) hl) hz⟩, h2⟩
    obtain ⟨k1, k2⟩ := h1
    refine ⟨k1, ?_⟩
    rcases k2 with k2 | ⟨k, cap, cur, rfl, h3, h4, h5⟩
    · exact .inl k2
    · exact .inr ⟨k, cap, cur, rfl, h3, (hb k (.inl ((h2 k).2 (by simp [mb]))) (Array.getElem?_eq_some_iff.1 h4).1).trans h4, h5⟩⟩
section
variable {α : Type} {r : Rep α} {H H' : Heap} {Z Z' : Nat → Prop} {e : TypeId} {v v' : Value} {l l' : List α} {L : List As} {i : Nat}
theorem OwG.sl (h : OwG r H Z e v l) (hpos : 0 < r.sz) : Sl r H (fun b => Z b ∨ b ∈ mb v) v l := by
  obtain ⟨css, h1, h2⟩ := h
  obtain ⟨k1, k2⟩ := h1
  rcases k2 with ⟨rfl, h3⟩ | ⟨k, cap, cur, rfl, h3, h4, h5, h6, h7, h8⟩
  · have : l = [] := List.eq_nil_of_length_eq_zero h3
    subst this; exact Sl.nil
  · refine ⟨rfl, ⟨h5, by show (cap : Int) ≤ _; simp only [maxLen] at h6; omega⟩, fun i hi => ?_⟩
    obtain ⟨cs, h9, h10⟩ := h2.get i hi
    refine ⟨rfl, .inr (by simp [mb, sb]), cs, ?_, r.ext h10 (fun _ _ _ => rfl) fun _ h => .inl h⟩
    intro j u hu
    have hj : j < r.sz := by have := (List.getElem?_eq_some_iff.1 hu).1; rwa [r.len h10] at this
    have hlt : i * r.sz + j < l.length * r.sz := by
      have : (i + 1) * r.sz ≤ l.length * r.sz := Nat.mul_le_mul_right _ hi
      rw [Nat.add_mul] at this; omega
    have h11 := h2.cell rfl h9 hj
    rw [← h8, List.getElem?_take, if_pos hlt, hu] at h11
    show cellH H k (0 + i * r.sz + j) = some u
    rw [Nat.zero_add]
    simp only [cellH, h4]; simpa using h11
theorem OwG.lt (h : OwG r H Z e v l) : ∀ b, b ∈ mb v → b < H.size := by
  obtain ⟨css, h1, _⟩ := h
  intro b hb
  rcases h1.2 with ⟨rfl, _⟩ | ⟨k, cap, cur, rfl, h3, h4, _⟩
  · simp [mb] at hb
  · simp [mb] at hb; subst hb; exact (Array.getElem?_eq_some_iff.1 h4).1
theorem OwG.nil : OwG r H Z e (.slice none 0 0) [] := ⟨[], ⟨by simp, .inl ⟨rfl, rfl⟩⟩, trivial⟩
theorem Own.og (h : Own H Z L) (i : Nat) (hi : L[i]? = some (ownR r e v l)) : OwG r H Z e v l := by obtain ⟨D, h1, _⟩ := h.get hi; exact h1.1
theorem Own.nilR (h : Own H Z L) (r : Rep α) (e : TypeId) : Own H Z (ownR r e (.slice none 0 0) [] :: L) :=
  h.add (.refl _) (D' := fun x => x ∈ mb (.slice none 0 0)) ⟨OwG.nil, fun _ => Iff.rfl⟩ fun b hb => by simp [mb] at hb
theorem Own.freezeR (h : Own H Z L) (hi : L[i]? = some (ownR r e v l)) (hpos : Nat.blt 0 r.sz = true := by rfl) : ∃ Z', (∀ b, Z b → Z' b) ∧ Own H Z' (L.set i (fz r v l)) :=
  h.frz hi fun D ⟨h1, h2⟩ => ⟨(h1.sl (blt_lt hpos)).weak fun b hb => hb.imp id fun k => (h2 b).2 k, fun _ h => h⟩
/-- what an append to it takes: data of which all is shut -/
def SrcR {α : Type} (r : Rep α) (H : Heap) (Z : Nat → Prop) (v : Value) (l : List α) : Prop := l = [] ∧ v = .slice (sa v) 0 (sc v) ∨ ∃ css, relAll r H Z css l ∧ At H (sb v) (so v) css.flatten ∧ v = .slice (some ⟨sb v, so v, none⟩) l.length (sc v)
theorem OwG.src (h : OwG r H Z e v l) (hpos : 0 < r.sz) : SrcR r H Z v l := by
  have hs := h.sl hpos
  obtain ⟨css, h1, h2⟩ := h
  by_cases hl : l = []
  · subst hl; exact .inl ⟨rfl, hs.shape⟩
  · refine .inr ⟨css, h2, ?_, (hs.mem 0 (List.length_pos_iff.2 hl)).1⟩
    rcases h1.2 with ⟨rfl, h3⟩ | ⟨k, cap, cur, rfl, h3, h4, h5, h6, h7, h8⟩
    · exact absurd (List.eq_nil_of_length_eq_zero h3) hl
    · intro j u hu
      rw [← h8, List.getElem?_take] at hu
      split at hu
      · show cellH H k (0 + j) = some u
        rw [Nat.zero_add]; simp only [cellH, h4]; simpa using hu
      · cases hu
theorem Sl.src (h : Sl r H Z v l) (hpos : 0 < r.sz) : SrcR r H Z v l := by
  by_cases hl : l = []
  · subst hl; exact .inl ⟨rfl, h.shape⟩
  · obtain ⟨css, h1, h2⟩ := list_of (fun (i : Nat) (cs : List Value) => At H (sb v) (so v + i * r.sz) cs ∧ ∃ x, l[i]? = some x ∧ r.rel H Z cs x) (List.range l.length) (fun i hi => by
      have hi' := List.mem_range.1 hi
      obtain ⟨_, _, cs, h3, h4⟩ := h.mem i hi'
      exact ⟨cs, h3, _, List.getElem?_eq_getElem hi', h4⟩)
    simp only [List.length_range, List.getElem_range] at h1 h2
    have hrel : ∀ (css : List (List Value)) (l : List α), css.length = l.length → (∀ (i : Nat) (h : i < css.length), ∃ x, l[i]? = some x ∧ r.rel H Z css[i] x) → relAll r H Z css l := by
      intro css
      induction css with
      | nil => intro l hl _; obtain rfl : l = [] := List.eq_nil_of_length_eq_zero (by simpa using hl.symm); exact trivial
      | cons c css ih =>
        intro l hl hh
        cases l with
        | nil => simp at hl
        | cons x l =>
          obtain ⟨y, h5, h6⟩ := hh 0 (by simp)
          simp only [List.getElem?_cons_zero, Option.some.injEq, List.getElem_cons_zero] at h5 h6
          subst h5
          exact ⟨h6, ih l (by simpa using hl) fun i hi => hh (i + 1) (by simpa using hi)⟩
    have hR := hrel css l h1 fun i hi => by
      obtain ⟨_, x, h5, h6⟩ := h2 i (by omega) hi
      exact ⟨x, h5, h6⟩
    refine .inr ⟨css, hR, ?_, (h.mem 0 (List.length_pos_iff.2 hl)).1⟩
    intro j u hu
    have hj : j < l.length * r.sz := by have := (List.getElem?_eq_some_iff.1 hu).1; rwa [hR.flatlen] at this
    have hq : j / r.sz < l.length := Nat.div_lt_of_lt_mul (by rwa [Nat.mul_comm])
    have hr : j % r.sz < r.sz := Nat.mod_lt _ hpos
    have hd : j / r.sz * r.sz + j % r.sz = j := by rw [Nat.mul_comm]; exact Nat.div_add_mod j r.sz
    obtain ⟨h7, _⟩ := h2 (j / r.sz) hq (by omega)
    have h8 := hR.cell rfl (List.getElem?_eq_getElem (show j / r.sz < css.length by omega)) hr
    rw [hd, hu] at h8
    have h9 := h7 (j % r.sz) u h8.symm
    have h10 : cellH H (sb v) (so v + j / r.sz * r.sz + j % r.sz) = some u := h9
    rwa [show so v + j / r.sz * r.sz + j % r.sz = so v + j by omega] at h10
theorem Own.rsrc (h : Own H Z L) (i : Nat) (hi : L[i]? = some (ownR r e v l)) (hpos : Nat.blt 0 r.sz = true := by rfl) : SrcR r H Z v l := (h.og i hi).src (blt_lt hpos)
theorem Own.fsrc (h : Own H Z L) (i : Nat) (hi : L[i]? = some (fz r v l)) (hpos : Nat.blt 0 r.sz = true := by rfl) : SrcR r H Z v l := (h.fsl i hi).src (blt_lt hpos)
theorem SrcR.nil : SrcR r H Z (.slice none 0 0) [] := .inl ⟨rfl, rfl⟩
theorem Own.rsl (h : Own H Z L) (i : Nat) (hi : L[i]? = some (ownR r e v l)) (hpos : Nat.blt 0 r.sz = true := by rfl) : Sl r H (fun b => Z b ∨ b ∈ mb v) v l := (h.og i hi).sl (blt_lt hpos)

variable {P : Program} {N : Sz} {f : Frm} {ty t t' : TypeId} {x y z : Operand}
theorem o_litR {parts : List (Nat × Operand)} {xs : List Operand} {vs : List Value} {css : List (List Value)} {n sz : Nat} {z : Value} (hO : Own H Z L) (ht : P.underlying t = some (.slice e)) (hs : ∀ w, (sizeOf e).run P w = .ok sz w) (hz : ∀ w, (zeroValue e).run P w = .ok z w)
    (hp : parts = xs.zipIdx.map fun p => (p.2, p.1)) (hv : evs f xs vs) (hn : vs.length = n) (hn2 : Nat.ble (n * sz) (2 ^ 24) = true) (hpos : Nat.blt 0 (n * sz) = true) (hc : vs.map Value.cells = css.map List.toArray) (hg : r.sz = sz) (hrel : relAll r H Z css l) :
    OpH P N (.buildSlice t n parts.toArray) ty f H (fun v H' => Own H' Z (ownR r e v l :: L)) := by
  have hcl : css.length = n := by
    have := congrArg List.length hc
    simpa [hn] using this.symm
  have hl : l.length = n := hrel.len ▸ hcl
  refine (h_buildSlice ht hs hz hp hv hn (Nat.le_of_ble_eq_true hn2) (by have := blt_lt hpos; omega) ?_).mono fun v H' ⟨h1, h2⟩ => ?_
  · intro v hv
    obtain ⟨i, hi, rfl⟩ := List.getElem_of_mem hv
    have h3 : (vs.map Value.cells)[i]? = (css.map List.toArray)[i]? := by rw [hc]
    rw [List.getElem?_map, List.getElem?_map, List.getElem?_eq_getElem hi, List.getElem?_eq_getElem (by omega)] at h3
    simp only [Option.map_some, Option.some.injEq] at h3
    obtain ⟨cs, h4, h5⟩ := hrel.get i (by omega)
    rw [List.getElem?_eq_getElem (by omega)] at h4
    cases h4
    rw [h3, List.size_toArray, r.len h5, hg]
  · subst h1
    have e1 : vs.flatMap (fun v => v.cells.toList) = css.flatten := by
      rw [List.flatMap_def]
      congr 1
      have := congrArg (List.map Array.toList) hc
      simpa [List.map_map, Function.comp_def] using this
    rw [e1] at h2
    have hn3 : n ≤ 9223372036854775807 := by
      have h4 := Nat.le_of_ble_eq_true hn2
      have h5 := blt_lt hpos
      have h6 : 1 ≤ sz := Nat.pos_of_ne_zero (by rintro rfl; omega)
      have h7 : n * 1 ≤ n * sz := Nat.mul_le_mul_left _ h6
      have h8 : (2 : Nat) ^ 24 = 16777216 := by decide
      omega
    refine hO.add h2.ext (D' := fun x => x = H.size) ⟨⟨css, ?_, hrel.keep (fun b hb hl => h2.ext.old b hl (by simp)) fun _ h => h⟩, fun b => ?_⟩ fun b hb => by subst hb; exact ⟨Nat.le_refl _, by rw [h2.size]; omega⟩
    · refine ⟨by rw [hrel.flatlen, hg], .inr ⟨H.size, n, _, by rw [hl], Nat.zero_le _, h2.blk, by omega, by simp only [maxLen]; omega, by rw [List.size_toArray, hrel.flatlen, hl], ?_⟩⟩
      show List.take (l.length * r.sz) css.flatten = css.flatten
      rw [List.take_of_length_le (by rw [hrel.flatlen]; exact Nat.le_refl _)]
    · simp [mb]
theorem o_appendR {l2 : List α} {w2 : Value} {q : TypeInfo} {zv : Value} {sz : Nat} {tys : Array TypeId} (hO : Own H Z L) (i : Nat) (hi : L[i]? = some (ownR r e v l)) (ha : tys = #[t, t]) (ht : P.underlying t = some (.slice e)) (hq : P.info? e = some q) (hz : q.zero = some zv) (hsz : q.size = sz) (hg : r.sz = sz) (hzs : zv.cells.size = sz) (hpos : Nat.blt 0 sz = true)
    (hx : ev f x = some v) (hy : ev f y = some w2) (hs : SrcR r H Z w2 l2) (hlen : (l.length + l2.length) * q.bytes ≤ 140737488355328) (h63 : l.length + l2.length ≤ 9223372036854775807) :
    OpH P N (.call ⟨.builtin .append, #[x, y], tys⟩) ty f H (fun v' H' => Own H' Z (L.set i (ownR r e v' (l ++ l2)))) := by
  subst ha hg
  intro a w hf hH
  subst hH
  obtain ⟨D, ⟨⟨css, h1, h2⟩, h3⟩, h4, h5⟩ := hO.upd hi
  have run : ∀ (r' : Result Value), (Builtin.append_ #[t, t] ty #[v, w2]).run P w = r' → hupon P (fun v' w' => Env w w' ∧ Own w'.heap Z (L.set i (ownR r e v' (l ++ l2)))) (r'.andThen fun a w' => .ok (Next.value a) w') →
      hupon P (fun v' w' => Env w w' ∧ Own w'.heap Z (L.set i (ownR r e v' (l ++ l2)))) ((execOp a.eval (opx (.call ⟨.builtin .append, #[x, y], #[t, t]⟩) ty)).run P w) := by
    intro r' hr hk
    simp only [opx, execOp, resolve, List.map_toArray, List.map_cons, List.map_nil, hf.ev hx, hf.ev hy, Sem.run_bind, Sem.run_pure, Result.andThen_ok, invoke, builtin, hr]
    exact hk
  have h1' : OwR w.heap 0 e q.size v l.length css.flatten := by rw [hsz]; exact h1
  have fin : ∀ (v' : Value) (w' : World) (css2 : List (List Value)), Env w w' → OwR w'.heap 0 e r.sz v' (l.length + l2.length) (css.flatten ++ css2.flatten) → relAll r w.heap Z css2 l2 → Ext (mb v) w.heap w'.heap → (∀ b, b ∈ mb v' → b ∈ mb v ∨ w.heap.size ≤ b) → Own w'.heap Z (L.set i (ownR r e v' (l ++ l2))) := by
    intro v' w' css2 _ k1 k2 k3 k4
    refine h5 (D' := fun x => x ∈ mb v') ⟨⟨css ++ css2, by rw [List.length_append, List.flatten_append]; exact k1, ((h2.app k2)).keep (fun b hb hl => k3.old b hl fun hm => (h4 b ((h3 b).2 hm)).2 hb) fun _ h => h⟩, fun _ => Iff.rfl⟩ (fun b kb => ?_) k3.size fun x hl hd => k3.old x hl fun hm => hd ((h3 x).2 hm)
    rcases k4 b kb with k | k
    · exact .inl ((h3 b).2 k)
    · refine .inr ⟨k, ?_⟩
      rcases k1.2 with ⟨rfl, _⟩ | ⟨g, cap, cur, rfl, _, hh, _⟩
      · simp [mb] at kb
      · simp [mb] at kb; subst kb; exact (Array.getElem?_eq_some_iff.1 hh).1
  rcases hs with ⟨rfl, hv2⟩ | ⟨css2, hR2, hat, hv2⟩
  · cases hsa : sa w2 with
    | none =>
      rw [hsa] at hv2
      have hr := run_append_none_any (P := P) (w := w) (ty := ty) ht hq h1' (sc w2)
      rw [hv2] at run
      refine run _ hr ⟨.refl _, fin v w [] (.refl _) (by simpa using h1) trivial (.refl _) fun b hb => .inl hb⟩
    | some a2 =>
      rw [hsa] at hv2
      obtain ⟨v', w', k1, k2, k3, k4, _, k6⟩ := run_append_cells (P := P) (c := sc w2) (news := []) (m := 0) (a := a2) ty ht hq hz hsz hzs h1 (by simp) (fun j u hu => by simp at hu) (by simp) (Nat.zero_le _) (by simpa using hlen) (by simpa using h63)
      rw [hv2] at run
      exact run _ k1 ⟨k2, fin v' w' [] k2 (by simpa using k3) trivial k4 k6⟩
  · obtain ⟨v', w', k1, k2, k3, k4, _, k6⟩ := run_append_cells (P := P) (c := sc w2) (news := css2.flatten) (m := l2.length) (a := ⟨sb w2, so w2, none⟩) ty ht hq hz hsz hzs h1 hR2.flatlen (fun j u hu => by rw [add_mk, cell?_eq]; exact hat j u hu) hR2.one (Nat.zero_le _) hlen h63
    rw [hv2] at run
    exact run _ k1 ⟨k2, fin v' w' css2 k2 k3 hR2 k4 k6⟩
/-- an element of a slice of slices -/
theorem sl_row {l : List (List α)} {i : Int} [Inhabited α] (h : Sl (Rep.sl r) H Z v l) (hi : 0 ≤ i ∧ i < l.length) : ∃ u, cellH H (sb v) (so v + i.toNat * 1) = some u ∧ Sl r H Z u (l.getD i.toNat default) := by
  have hi' : i.toNat < l.length := by omega
  obtain ⟨_, _, cs, h3, u, rfl, h5⟩ := h.mem i.toNat hi'
  rw [show l.getD i.toNat default = l[i.toNat] by simp [List.getD, hi']]
  exact ⟨u, h3 0 u rfl, h5⟩
/-- an element of a slice of records -/
theorem sl_rec {i : Int} [Inhabited α] (h : Sl r H Z v l) (hi : 0 ≤ i ∧ i < l.length) : ∃ cs, At H (sb v) (so v + i.toNat * r.sz) cs ∧ r.rel H Z cs (l.getD i.toNat default) := by
  have hi' : i.toNat < l.length := by omega
  obtain ⟨_, _, cs, h3, h4⟩ := h.mem i.toNat hi'
  rw [show l.getD i.toNat default = l[i.toNat] by simp [List.getD, hi']]
  exact ⟨cs, h3, h4⟩
end
/-! ## records made of parts; slices held against nil -/
section
variable {P : Program} {N : Sz} {f : Frm} {H : Heap} {ty t t' : TypeId} {x y : Operand}
theorem evs_zip {a : Act} {H : Heap} (hf : FS N f a H) : ∀ {xs : List Operand} {vs : List Value} {is : List Nat}, evs f xs vs → (is.zip xs).map (fun p => (p.1, a.eval p.2)) = is.zip vs
  | [], [], is, _ => by simp
  | [], _ :: _, _, h => h.elim
  | _ :: _, [], _, h => h.elim
  | x :: xs, v :: vs, [], _ => rfl
  | x :: xs, v :: vs, i :: is, ⟨h1, h2⟩ => by simp only [List.zip_cons_cons, List.map_cons, hf.ev h1, evs_zip hf h2]
theorem v_buildF {parts : List (Nat × Operand)} {xs : List Operand} {vs cs : List Value} {is : List Nat} (hp : parts = is.zip xs) (hv : evs f xs vs) (hr : ∀ w, (Instr.build t (is.zip vs).toArray).run P w = .ok (.agg cs.toArray) w) :
    OpV P N (.build t parts.toArray) ty f H (.agg cs.toArray) := by
  intro a w hf hH
  subst hp
  simp only [opx, execOp, List.map_toArray, evs_zip hf hv]
  exact quiet_pure (hr w)
def isNil : Value → Bool | .slice none _ _ => true | _ => false
theorem Sl.isNil {α : Type} {r : Rep α} {S : Nat → Prop} {v : Value} {l : List α} (h : Sl r H S v l) (hn : isNil v = true) : l = [] := by
  cases l with
  | nil => rfl
  | cons a l =>
    have := (h.mem 0 (by simp)).1
    rw [this] at hn; cases hn
end
end Go.Proofs.Ytbaciogbhjcdoaa
