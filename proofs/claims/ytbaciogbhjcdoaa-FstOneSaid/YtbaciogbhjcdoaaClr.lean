/- clear, parts of an array, walks over a table: over assertions on a heap. No condition. -/
import Derived.Test.YtbaciogbhjcdoaaTer
import Derived.Test.YtbaciogbhjcdoaaKey
set_option linter.unusedSimpArgs false
set_option linter.unusedVariables false
namespace Go.Proofs.Ytbaciogbhjcdoaa
section
variable {α : Type} {r : Rep α} {H : Heap} {S : Nat → Prop} {v : Value} {l : List α}
theorem slvl_len (h : Sl r H S v l) {lo : Int} {n0 sz : Nat} (hb : 0 ≤ lo ∧ lo ≤ l.length) (hn : l.length = n0) (hsz : r.sz = sz) : Sl r H S (slv v sz lo.toNat (n0 - lo.toNat)) (l.drop lo.toNat) := by
  rw [← hn]; exact slvl_of h hb hsz
end
/-- a record as one value -/
abbrev aggOf {α : Type} (g : Flat α) (x : α) : Value := .agg (g.enc x).toArray
theorem zero_flat {α : Type} (g : Flat α) {zv : Value} {d : α} (hzs : zv.cells = (g.enc d).toArray) : ∀ m, (Builtin.zeroCells zv.cells m).toList = (List.replicate m d).flatMap g.enc := fun m => by
  have hlen := g.len d
  simp only [Builtin.zeroCells, hzs, Array.toList_map, Array.toList_range, List.size_toArray, hlen]
  apply List.ext_getElem
  · simp [flat_len, hlen]
  · intro i h1 h2
    have hi : i < m * g.sz := by simpa [hlen] using h1
    have hk : 0 < g.sz := Nat.pos_of_ne_zero fun h => by rw [h] at hi; simp at hi
    have h3 : i / g.sz < m := by rw [Nat.div_lt_iff_lt_mul hk]; exact hi
    have h4 := Nat.mod_lt i hk
    have h5 := flat_get g (List.replicate m d) (i / g.sz) (i % g.sz) (by simpa using h3) h4
    rw [Nat.div_add_mod' i g.sz, List.getElem?_eq_getElem h2, List.getElem_replicate, List.getElem?_eq_getElem (by rw [g.len]; exact h4)] at h5
    simp only [Option.some.injEq] at h5
    rw [h5]
    simp [hlen, h4]
theorem repl_clear {α : Type} (g : Flat α) {l : List α} {rest : List Value} {lo m : Nat} {d : α} (hlm : lo + m = l.length) : repl (l.flatMap g.enc ++ rest) (lo * g.sz) ((List.replicate m d).flatMap g.enc) = (l.take lo ++ List.replicate m d).flatMap g.enc ++ rest := by
  have h1 : (l.take lo).flatMap g.enc = (l.flatMap g.enc).take (lo * g.sz) := by
    conv => rhs; rw [← List.take_append_drop lo l, List.flatMap_append]
    rw [List.take_left' (by rw [flat_len, List.length_take]; congr 1; omega)]
  unfold repl
  rw [List.flatMap_append, h1, flat_len, List.length_replicate, ← Nat.add_mul, hlm]
  rw [List.take_append_of_le_length (by rw [flat_len]; exact Nat.mul_le_mul_right _ (by omega))]
  rw [List.drop_append, List.drop_eq_nil_of_le (by rw [flat_len]; exact Nat.le_refl _), flat_len, Nat.sub_self, List.drop_zero, List.nil_append]
section
variable {P : Program} {N : Sz} {f : Frm} {H : Heap} {Z : Nat → Prop} {L : List As} {ty t e : TypeId} {x : Operand} {i : Nat}
theorem o_clear {α : Type} {g : Flat α} {l : List α} {v zv : Value} {d : α} {lo : Int} {n0 sz : Nat} {tys : Array TypeId} (hO : Own H Z L) (i : Nat) (hi : L[i]? = some (own g e v l)) (ha : tys = #[t]) (ht : P.underlying t = some (.slice e)) (hz : ∀ w, (zeroValue e).run P w = .ok zv w)
    (hzc : zv.cells = (g.enc d).toArray) (hg : g.sz = sz) (hx : ev f x = some (slv v sz lo.toNat (n0 - lo.toNat))) (hb : 0 ≤ lo ∧ lo ≤ l.length) (hn : l.length = n0) :
    OpH P N (.call ⟨.builtin .clear, #[x], tys⟩) ty f H (fun r' H' => r' = .tuple #[] ∧ Own H' Z (L.set i (own g e v (l.take lo.toNat ++ List.replicate (n0 - lo.toNat) d)))) := by
  intro a w hf hH
  subst ha hH hg hn
  have ho := hO.ow i hi
  obtain ⟨k, hk⟩ : ∃ k, lo.toNat = k := ⟨_, rfl⟩
  have hkl : k ≤ l.length := by omega
  rw [hk] at hx ⊢
  simp only [opx, execOp, hf.ev hx, List.map_toArray, List.map_cons, List.map_nil, Sem.run_bind, resolve, Sem.run_pure, Result.andThen_ok, invoke, builtin]
  by_cases h0 : l.length - k = 0
  · have hr : ∀ a c, (Builtin.clear_ #[t] ty #[.slice a 0 c]).run P w = .ok (.tuple #[]) w := fun a c => by
      cases a <;> simp [Builtin.clear_, run_underlying ht]
    rw [h0]
    simp only [slv, hr, Result.andThen_ok]
    refine ⟨.refl _, rfl, ?_⟩
    rw [List.take_of_length_le (by omega), List.replicate_zero, List.append_nil]
    rw [show L.set i (own g e v l) = L from by
      obtain ⟨h1, h2⟩ := List.getElem?_eq_some_iff.1 hi
      rw [← h2, List.set_getElem_self]]
    exact hO
  · obtain ⟨rest, hB, h2, cap, hv, _, hc1, hc2, hc3⟩ := OwR.blk ho (by omega)
    have hs : slv v g.sz k (l.length - k) = .slice (some ⟨sb v, k * g.sz, none⟩) (l.length - k) (cap - k) := by
      have hcap : sc v = cap := by rw [hv]; rfl
      have hsa : sa v = some ⟨sb v, 0, none⟩ := by conv => lhs; rw [hv]
                                                   rfl
      unfold slv
      rw [hcap, hsa, if_neg (by omega)]
      simp [add_mk]
    obtain ⟨m, hm⟩ : ∃ m, l.length - k = m + 1 := ⟨l.length - k - 1, by omega⟩
    obtain ⟨w', hr, henv, hh⟩ := run_storeCells_at (P := P) (o := k * g.sz) ((List.replicate (l.length - k) d).flatMap g.enc) _ 0 w hB (by
      rw [List.length_append, flat_len, flat_len, List.length_replicate, Nat.add_zero, ← Nat.add_mul, show k + (l.length - k) = l.length by omega]; omega) (fun u hu => by
      obtain ⟨q, hq, hu⟩ := List.mem_flatMap.1 hu
      exact g.one _ u hu)
    rw [Nat.add_zero, repl_clear g (show k + (l.length - k) = l.length by omega)] at hh
    rw [hs]
    have hcl : (Builtin.clear_ #[t] ty #[.slice (some ⟨sb v, k * g.sz, none⟩) (l.length - k) (cap - k)]).run P w = .ok (.tuple #[]) w' := by
      have hzz := zero_flat g hzc (l.length - k)
      rw [hm] at hr hzz ⊢
      simp [Builtin.clear_, run_underlying ht, hz, hzz, hr]
    simp only [hcl, Result.andThen_ok]
    have hp : Put w.heap w'.heap (sb v) ((l.take k ++ List.replicate (l.length - k) d).flatMap g.enc ++ rest) e := by
      rw [hh]; exact Put.of_set hB _
    have hln : (l.take k ++ List.replicate (l.length - k) d).length = l.length := by simp; omega
    refine ⟨henv, rfl, ?_⟩
    refine hO.grow hi (v' := v) ?_ (by have : mb v = [sb v] := by { rw [hv]; rfl }
                                       rw [this]; exact hp.ext) fun _ h => .inl h
    have := OwR.of_blk (H := w'.heap) (B := 0) (size := g.sz) (n := l.length) (cap := cap) hp.blk (by rw [flat_len, hln]) (Nat.zero_le _) hc1 hc2 (by rw [List.length_append, flat_len, hln, ← flat_len g l, ← List.length_append]; exact hc3)
    rw [← hv] at this
    show OwR _ _ _ _ _ _ _
    rw [hln]; exact this
theorem v_lss64 {y : Operand} {t' : TypeId} {a b : BitVec 64} (hx : ev f x = some (w64 a)) (hy : ev f y = some (w64 b)) : OpV P N (.binOp .lss t x y t') ty f H (.bool (decide (a < b))) := by
  have := v_lss (P := P) (N := N) (t := t) (t' := t') (ty := ty) (H := H) (show ev f x = some (.int .u64 (a.toNat : Int)) from hx) (show ev f y = some (.int .u64 (b.toNat : Int)) from hy)
  rwa [show decide ((a.toNat : Int) < b.toNat) = decide (a < b) from decide_eq_decide.2 (by rw [BitVec.lt_def]; omega)] at this
theorem v_neq64 {y : Operand} {t' : TypeId} {a b : BitVec 64} (hx : ev f x = some (w64 a)) (hy : ev f y = some (w64 b)) : OpV P N (.binOp .neq t x y t') ty f H (.bool (!decide (a = b))) := by
  have := v_neq (P := P) (N := N) (t := t) (t' := t') (ty := ty) (H := H) (show ev f x = some (.int .u64 (a.toNat : Int)) from hx) (show ev f y = some (.int .u64 (b.toNat : Int)) from hy)
  rwa [show decide ((a.toNat : Int) = b.toNat) = decide (a = b) from decide_eq_decide.2 (by rw [Int.natCast_inj, BitVec.toNat_inj])] at this
/-! ## tables -/
variable {b r km : Nat} {es : Array MapEntry} {clock : Nat} {K V : Type} {ke : K → Value} {ve : V → Value} {R : List (K × V)} {last : Option (K × V)}
theorem Own.teq (h : Own H Z L) (i : Nat) (hi : L[i]? = some (Go.Proofs.Ytbaciogbhjcdoaa.tblE b es clock)) : H[b]? = some (.map es clock) := TE.of hi H Z h
theorem Own.itlN (h : Own H Z L) (hi : L[i]? = some (itl ke ve r b es clock R last)) : Own H Z (L.set i (itl ke ve r b es clock R none)) := by
  obtain ⟨D, ⟨rem, lst, k1, k2, k3, k4⟩, _, h5⟩ := h.upd hi
  exact h5 (D' := D) ⟨rem, lst, k1, k2, k3, fun p h => by cases h⟩ (fun b hb => .inl hb) (Nat.le_refl _) fun _ _ _ => rfl
theorem eraseIdx_lt {α : Type} {l : List α} {j : Nat} (h : j < l.length) : (l.eraseIdx j).length < l.length := by rw [List.length_eraseIdx_of_lt h]; omega
/-! ## an array as a slice -/
theorem v_sliceArr {n sz b o : Nat} (ht : P.underlying t = some (.array (n + 1) e)) (hs : ∀ w, (sizeOf e).run P w = .ok sz w) (hx : ev f x = some (ptr b o)) : OpV P N (.slice t x none none none) ty f H (.slice (some ⟨b, o, none⟩) (n + 1) (n + 1)) := by
  intro a w hf hH
  simp only [opx, execOp, Option.map_none, hf.ev hx]
  exact quiet_pure (by simp [ptr, Instr.sliceAt, run_underlying ht, Instr.sureAddr, Instr.sliceBounds, hs, Addr.add])
theorem sl_words {cs : List Value} {T : TypeId} {s : BSet} (hb : Blk H b cs T) {o : Nat} (hc : (cs.drop o).take 4 = sw s) : Sl fWord.rep H (fun x => x = b) (.slice (some ⟨b, o, none⟩) 4 4) [s.a, s.b, s.c, s.d] := by
  refine ⟨rfl, ⟨Nat.le_refl _, by simp [sc]⟩, fun i hi => ?_⟩
  have hi' : i < 4 := hi
  refine ⟨rfl, rfl, [w64 ([s.a, s.b, s.c, s.d][i])], ?_, rfl⟩
  have h1 := hb.at o 4
  rw [hc] at h1
  intro j v hv
  have hj : j = 0 := by
    rcases j with _ | j
    · rfl
    · simp at hv
  subst hj
  have h2 := h1 i v
  simp only [List.getElem?_cons_zero, Option.some.injEq] at hv
  subst hv
  have h3 : (sw s)[i]? = some (w64 ([s.a, s.b, s.c, s.d][i])) := by
    rcases i with _ | _ | _ | _ | i
    · rfl
    · rfl
    · rfl
    · rfl
    · omega
  have h4 := h2 h3
  show cellH H b (o + i * 1 + 0) = _
  rw [Nat.mul_one, Nat.add_zero]; exact h4
theorem Rd.words {cs : List Value} {T : TypeId} {s : BSet} {o : Nat} (hi : L[i]? = some (box b cs T)) (hc : (cs.drop o).take 4 = sw s) : Rd fWord.rep L (.slice (some ⟨b, o, none⟩) 4 4) [s.a, s.b, s.c, s.d] := fun H Z h => ⟨_, sl_words (h.box i hi) hc⟩
end
end Go.Proofs.Ytbaciogbhjcdoaa
