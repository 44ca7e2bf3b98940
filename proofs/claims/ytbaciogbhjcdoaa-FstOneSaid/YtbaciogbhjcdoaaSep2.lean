/- Operations over assertions on a heap. No condition. -/
import Derived.Test.YtbaciogbhjcdoaaSep
set_option linter.unusedSimpArgs false
set_option linter.unusedVariables false
namespace Go.Proofs.Ytbaciogbhjcdoaa

/-- a slice that may be read as long as L stands -/
def Rd {α : Type} (r : Rep α) (L : List As) (v : Value) (l : List α) : Prop := ∀ H Z, Own H Z L → ∃ S, Sl r H S v l
/-- a slice that nobody turns any more -/
def Fz {α : Type} (r : Rep α) (L : List As) (v : Value) (l : List α) : Prop := ∀ H Z, Own H Z L → Sl r H Z v l
/-- a variable that is only read -/
def Bx (L : List As) (b : Nat) (cs : List Value) (T : TypeId) : Prop := ∀ H Z, Own H Z L → Blk H b cs T
/-- a table that is only read -/
def Tb {K V : Type} (L : List As) (ke : K → Value) (ve : V → Value) (b : Nat) (l : List (K × V)) : Prop := ∀ H Z, Own H Z L → Mp ke ve H b l

section
variable {α : Type} {g : Flat α} {r : Rep α} {L : List As} {v : Value} {l : List α} {i : Nat} {e : TypeId}
theorem Rd.sl {H : Heap} {Z : Nat → Prop} (h : Rd r L v l) (hO : Own H Z L) : Sl r H (Classical.choose (h H Z hO)) v l := Classical.choose_spec (h H Z hO)
theorem Rd.of_own (hi : L[i]? = some (own g e v l)) : Rd g.rep L v l := fun H Z h => ⟨_, h.osl i hi⟩
theorem Rd.of_fz (hi : L[i]? = some (fz r v l)) : Rd r L v l := fun H Z h => ⟨_, h.fsl i hi⟩
theorem Rd.tails (Ls : List As) (h : Rd r L v l) : Rd r (Ls ++ L) v l := fun H Z hO => h H Z (hO.tails Ls)
theorem Rd.nil : Rd r L (.slice none 0 0) [] := fun _ _ _ => ⟨fun _ => True, Sl.nil⟩
theorem Fz.of (hi : L[i]? = some (fz r v l)) : Fz r L v l := fun H Z h => h.fsl i hi
theorem Fz.tails (Ls : List As) (h : Fz r L v l) : Fz r (Ls ++ L) v l := fun H Z hO => h H Z (hO.tails Ls)
theorem Fz.nil : Fz r L (.slice none 0 0) [] := fun _ _ _ => Sl.nil
theorem Fz.rd (h : Fz r L v l) : Rd r L v l := fun H Z hO => ⟨Z, h H Z hO⟩
theorem Fz.item {H : Heap} {Z : Nat → Prop} (h : Fz r L v l) (hO : Own H Z L) : Own H Z (fz r v l :: L) := hO.dup ⟨h H Z hO, fun _ h => h⟩
theorem Fz.items {H : Heap} {Z : Nat → Prop} (Ls : List As) (h : Fz r L v l) (hO : Own H Z (Ls ++ L)) : Own H Z (fz r v l :: (Ls ++ L)) := hO.dup ⟨h H Z (hO.tails Ls), fun _ h => h⟩
theorem Bx.of {b : Nat} {cs : List Value} {T : TypeId} (hi : L[i]? = some (box b cs T)) : Bx L b cs T := fun H Z h => h.box i hi
theorem Bx.tails {b : Nat} {cs : List Value} {T : TypeId} (Ls : List As) (h : Bx L b cs T) : Bx (Ls ++ L) b cs T := fun H Z hO => h H Z (hO.tails Ls)
theorem Tb.of {K V : Type} {ke : K → Value} {ve : V → Value} {b : Nat} {l : List (K × V)} (hi : L[i]? = some (tbl ke ve b l)) : Tb L ke ve b l := fun H Z h => h.tbl i hi
theorem Tb.tails {K V : Type} {ke : K → Value} {ve : V → Value} {b : Nat} {l : List (K × V)} (Ls : List As) (h : Tb L ke ve b l) : Tb (Ls ++ L) ke ve b l := fun H Z hO => h H Z (hO.tails Ls)
theorem Own.cut {H : Heap} {Z : Nat → Prop} {L' : List As} (h : Own H Z L) (e : L = L') : Own H Z L' := e ▸ h
end

theorem Blk.sub {H : Heap} {b : Nat} {cs : List Value} {T : TypeId} (h : Blk H b cs T) {o n : Nat} {cs' : List Value} (e : (cs.drop o).take n = cs') : At H b o cs' := e ▸ h.at o n

section
variable {P : Program} {N : Sz} {f : Frm} {H : Heap} {Z : Nat → Prop} {L : List As} {ty t t' e : TypeId} {x y z : Operand} {b o i : Nat} {cs us : List Value} {T : TypeId}

theorem o_box {u : Value} (hO : Own H Z L) (hx : ev f x = some u) (hc : u.cells = cs.toArray) : OpH P N (.box t x) ty f H (fun v H' => ∃ b, v = ptr b 0 ∧ Own H' Z (box b cs t :: L)) :=
  (h_box hx hc).mono fun v H' ⟨h1, h2⟩ => ⟨_, h1, hO.new h2⟩
theorem o_alloc {u : Value} (hO : Own H Z L) (hz : ∀ w, (zeroValue t).run P w = .ok u w) (hc : u.cells = cs.toArray) : OpH P N (.alloc t) ty f H (fun v H' => ∃ b, v = ptr b 0 ∧ Own H' Z (box b cs t :: L)) :=
  (h_alloc hz hc).mono fun v H' ⟨h1, h2⟩ => ⟨_, h1, hO.new h2⟩
theorem o_store1 {u : Value} (hO : Own H Z L) (i : Nat) (hi : L[i]? = some (box b cs T)) (hs : ∀ w, (sizeOf t).run P w = .ok 1 w) (hx : ev f x = some (ptr b o)) (hy : ev f y = some u) (ho : Nat.blt o cs.length = true) (h1 : u.oneCell' = true) :
    OpH P N (.store t x y) ty f H (fun _ H' => Own H' Z (L.set i (box b (cs.set o u) T))) :=
  (h_store1 hs hx hy (hO.box i hi) (blt_lt ho) h1).mono fun v H' p => hO.put hi p
theorem o_storeA {n : Nat} (hO : Own H Z L) (i : Nat) (hi : L[i]? = some (box b cs T)) (hs : ∀ w, (sizeOf t).run P w = .ok n w) (hx : ev f x = some (ptr b o)) (hy : ev f y = some (.agg us.toArray)) (hn : us.length = n) (ho : Nat.ble (o + n) cs.length = true)
    (h1 : ∀ u ∈ us, u.oneCell' = true) : OpH P N (.store t x y) ty f H (fun _ H' => Own H' Z (L.set i (box b (repl cs o us) T))) :=
  (h_storeA hs hx hy (hO.box i hi) hn (Nat.le_of_ble_eq_true ho) h1).mono fun v H' p => hO.put hi p
theorem o_storeW {s : BSet} {u : BitVec 64} {k : Nat} (hO : Own H Z L) (i : Nat) (hi : L[i]? = some (box b (sw s) T)) (hs : ∀ w, (sizeOf t).run P w = .ok 1 w) (hx : ev f x = some (ptr b k)) (hy : ev f y = some (w64 u)) (hk : k < 4) :
    OpH P N (.store t x y) ty f H (fun _ H' => Own H' Z (L.set i (box b (sw (s.setw k u)) T))) :=
  (h_storeW hs hx hy (hO.box i hi) hk).mono fun v H' p => hO.put hi p
theorem o_lit {α : Type} {g : Flat α} {l : List α} {parts : List (Nat × Operand)} {xs : List Operand} {vs : List Value} {n sz : Nat} {z : Value} (hO : Own H Z L) (ht : P.underlying t = some (.slice e)) (hs : ∀ w, (sizeOf e).run P w = .ok sz w) (hz : ∀ w, (zeroValue e).run P w = .ok z w)
    (hp : parts = xs.zipIdx.map fun p => (p.2, p.1)) (hv : evs f xs vs) (hn : vs.length = n) (hn2 : Nat.ble (n * sz) (2 ^ 24) = true) (hpos : Nat.blt 0 (n * sz) = true) (hc : vs.map Value.cells = l.map fun x => (g.enc x).toArray) (hg : g.sz = sz) :
    OpH P N (.buildSlice t n parts.toArray) ty f H (fun v H' => Own H' Z (own g e v l :: L)) := by
  have hl : l.length = n := by
    have := congrArg List.length hc
    simpa [hn] using this.symm
  refine (h_buildSlice ht hs hz hp hv hn (Nat.le_of_ble_eq_true hn2) (by have := blt_lt hpos; omega) ?_).mono fun v H' ⟨h1, h2⟩ => ?_
  · intro v hv
    obtain ⟨i, hi, rfl⟩ := List.getElem_of_mem hv
    have h3 : (vs.map Value.cells)[i]? = (l.map fun x => (g.enc x).toArray)[i]? := by rw [hc]
    rw [List.getElem?_map, List.getElem?_map, List.getElem?_eq_getElem hi, List.getElem?_eq_getElem (by omega)] at h3
    simp only [Option.map_some, Option.some.injEq] at h3
    rw [h3, List.size_toArray, g.len, hg]
  · subst h1
    have e1 : vs.flatMap (fun v => v.cells.toList) = l.flatMap g.enc := by
      rw [List.flatMap_def, List.flatMap_def]
      congr 1
      have := congrArg (List.map Array.toList) hc
      simpa [List.map_map, Function.comp_def] using this
    rw [e1] at h2
    have hn3 : n ≤ 9223372036854775807 := by
      have h4 := Nat.le_of_ble_eq_true hn2
      have h5 := blt_lt hpos
      have h6 : 1 ≤ sz := Nat.pos_of_ne_zero (by rintro rfl; omega)
      have h7 : n * 1 ≤ n * sz := Nat.mul_le_mul_left _ h6
      have h8 : (2 : Nat) ^ 24 = 16777216 := by decide
      omega
    have := hO.newSl h2 (by omega)
    rwa [hl] at this
theorem o_append {α : Type} {g : Flat α} {l l2 : List α} {v w2 : Value} {S : Nat → Prop} {q : TypeInfo} {zv : Value} {sz : Nat} {tys : Array TypeId} (hO : Own H Z L) (i : Nat) (hi : L[i]? = some (own g e v l)) (ha : tys = #[t, t]) (ht : P.underlying t = some (.slice e)) (hq : P.info? e = some q) (hz : q.zero = some zv) (hsz : q.size = sz) (hg : g.sz = sz) (hzs : zv.cells.size = sz) (hpos : Nat.blt 0 sz = true)
    (hx : ev f x = some v) (hy : ev f y = some w2) (hs : Sl g.rep H S w2 l2) (hlen : (l.length + l2.length) * q.bytes ≤ 140737488355328) (h63 : l.length + l2.length ≤ 9223372036854775807) :
    OpH P N (.call ⟨.builtin .append, #[x, y], tys⟩) ty f H (fun v' H' => Own H' Z (L.set i (own g e v' (l ++ l2)))) :=
  (h_append (B := 0) ha ht hq hz hsz hg hzs (blt_lt hpos) hx hy (hO.ow i hi) hs (Nat.zero_le _) hlen h63).mono fun v' H' ⟨h1, h2, _, h4⟩ => hO.grow hi h1 h2 h4
theorem o_makeSlice {α : Type} {g : Flat α} {d : α} {n : Int} {q : TypeInfo} {zv : Value} (hO : Own H Z L) (ht : P.underlying t = some (.slice e)) (hq : P.info? e = some q) (hz : q.zero = some zv) (hsz : q.size = g.sz) (hzs : zv.cells = (g.enc d).toArray) (hpos : Nat.blt 0 g.sz = true)
    (hx : ev f x = some (.int .i64 n)) (hy : ev f y = some (.int .i64 n)) (h0 : 0 ≤ n) (hb : q.bytes * n.toNat ≤ 281474976710656) (h63 : n ≤ 9223372036854775807) :
    OpH P N (.makeSlice t x y) ty f H (fun v' H' => Own H' Z (own g e v' (List.replicate n.toNat d) :: L)) :=
  (h_makeSlice (B := H.size) ht hq hz hsz hzs (blt_lt hpos) hx hy (Nat.le_refl _) h0 hb h63).mono fun v' H' ⟨_, h2, h3, _⟩ => hO.made h2 h3
theorem o_set1 {α : Type} {g : Flat α} {l : List α} {v u : Value} [Inhabited α] {j : Int} {sz : Nat} {x' : α} (hO : Own H Z L) (i : Nat) (hi : L[i]? = some (own g e v l)) (hs : ∀ w, (sizeOf t).run P w = .ok 1 w) (hg : g.sz = sz) (h1' : sz = 1) (hx : ev f x = some (ptr (sb v) (so v + j.toNat * sz))) (hy : ev f y = some u)
    (hj : 0 ≤ j ∧ j < l.length) (hx' : [u] = g.enc x') (h1 : u.oneCell' = true) : OpH P N (.store t x y) ty f H (fun _ H' => Own H' Z (L.set i (own g e v (l.set j.toNat x')))) :=
  (h_storeOw1 hs hg h1' hx hy (hO.ow i hi) hj hx' h1).mono fun _ H' p => hO.pat hi p
theorem o_setA {α : Type} {g : Flat α} {l : List α} {v : Value} [Inhabited α] {j : Int} {n : Nat} {x' : α} (hO : Own H Z L) (i : Nat) (hi : L[i]? = some (own g e v l)) (hs : ∀ w, (sizeOf t).run P w = .ok n w) (hg : g.sz = n) (hx : ev f x = some (ptr (sb v) (so v + j.toNat * n))) (hy : ev f y = some (.agg us.toArray))
    (hj : 0 ≤ j ∧ j < l.length) (hx' : us = g.enc x') : OpH P N (.store t x y) ty f H (fun _ H' => Own H' Z (L.set i (own g e v (l.set j.toNat x')))) :=
  (h_storeOwA hs hg hx hy (hO.ow i hi) hj hx').mono fun _ H' p => hO.pat hi p
theorem o_setS {α : Type} {g : Flat α} {l : List α} {v u : Value} [Inhabited α] {j : Int} {k sz : Nat} {x' : α} (hO : Own H Z L) (i : Nat) (hi : L[i]? = some (own g e v l)) (hs : ∀ w, (sizeOf t).run P w = .ok 1 w) (hg : g.sz = sz) (hx : ev f x = some (ptr (sb v) (so v + j.toNat * sz + k))) (hy : ev f y = some u)
    (hj : 0 ≤ j ∧ j < l.length) (hk : Nat.ble (k + 1) sz = true) (hx' : repl (g.enc (l.getD j.toNat default)) k [u] = g.enc x') (h1 : u.oneCell' = true) : OpH P N (.store t x y) ty f H (fun _ H' => Own H' Z (L.set i (own g e v (l.set j.toNat x')))) :=
  (h_storeOw hs hg hx hy (hO.ow i hi) hj (Nat.le_of_ble_eq_true hk) hx' h1).mono fun _ H' p => hO.pat hi p
theorem o_makeMap {K V : Type} {ke : K → Value} {ve : V → Value} (hO : Own H Z L) : OpH P N (.makeMap t none) ty f H (fun v H' => ∃ b, v = .map (some b) ∧ Own H' Z (tbl ke ve b [] :: L)) :=
  (h_makeMap (ke := ke) (ve := ve)).mono fun v H' ⟨h1, h2, h3, h4⟩ => ⟨_, h1, hO.newM h2 h3 h4⟩
theorem o_mapUpdate {K V : Type} [DecidableEq K] {ke : K → Value} {ve : V → Value} {l : List (K × V)} {k : K} {v : V} {kt : TypeId} (hO : Own H Z L) (i : Nat) (hi : L[i]? = some (tbl ke ve b l)) (kt' : KeyT P K kt) (hke : ke = kt'.enc) (ht : P.underlying t = some (.map kt e)) (hx : ev f x = some (.map (some b))) (hy : ev f y = some (ke k)) (hz : ev f z = some (ve v)) :
    OpH P N (.mapUpdate t x y z) ty f H (fun _ H' => Own H' Z (L.set i (tbl ke ve b (aput l k v)))) :=
  (h_mapUpdate kt' hke ht hx hy hz (hO.tbl i hi)).mono fun _ H' p => hO.putM hi p
end

/-! ## guarded operations whose answer is a value -/
section
variable {P : Program} {r : Option Nat} {N : Sz} {Q : Post} {f : Frm} {H : Heap} {l0 rest : List Oper} {d : Nat} {op : Op} {ty : TypeId} {p : String} {af : Array Edge} {j : Nat} {want : Bool}
theorem hl_gc {vg v : Value} {dj : Nat} {R : Heap → Prop} (hj : gslot l0 j = some dj) (hv : lk f dj = some vg) (h : gb vg want = true → OpH P N op ty f H (fun v' H' => v' = v ∧ R H')) (h0 : R H) (hd : Nat.blt d N.1 = true)
    (k : ∀ H', R H' → HL P r N l0 rest Q ((d, gv (gb vg want) v) :: f) H') : HL P r N l0 (⟨some d, op, ty, p, af, some (j, want)⟩ :: rest) Q f H := by
  cases hc : gb vg want with
  | false =>
    refine hl_gf hj hv hc hd ?_
    have := k H h0
    rwa [hc] at this
  | true =>
    refine hl_gh hj hv hc (h hc) hd ?_
    rintro v' H' ⟨rfl, hR⟩
    have := k H' hR
    rwa [hc] at this
end

/-! ## the law's answer -/
abbrev i64 (x : Int) : Prop := -9223372036854775808 ≤ x ∧ x ≤ 9223372036854775807
end Go.Proofs.Ytbaciogbhjcdoaa
