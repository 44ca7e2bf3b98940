/- Several texts in one. No condition. -/
import Derived.Test.YthofnojmgkjmfaaMg12TwinTrim
import Derived.Laws.CopyRow
set_option linter.unusedSimpArgs false
set_option linter.unusedVariables false
namespace Go.Proofs.Ythofnojmgkjmfaa
theorem run_copy_rowN {P : Program} {q : TypeInfo} {sz : Nat} (w : World) (dT sT ty elem : TypeId) (g o dLen dCap : Nat) (a : Addr) (sLen sCap : Nat) (cur : Array Value) (t : TypeId) (cs : List Value)
    (hu : P.underlying dT = some (.slice elem)) (hq : P.info? elem = some q) (hsz : q.size = sz)
    (hg : w.heap[g]? = some (.cells cur t (0, 0))) (hn : cs.length = Nat.min sLen dLen * sz)
    (hsrc : ∀ j v, cs[j]? = some v → w.cell? (a.add j) = some v) (hfit : o + cs.length ≤ cur.size) (h1 : ∀ v ∈ cs, v.oneCell' = true) :
    (Builtin.copy_ #[dT, sT] ty #[.slice (some ⟨g, o, none⟩) dLen dCap, .slice (some a) sLen sCap]).run P w =
      .ok (goInt (Nat.min sLen dLen)) (w.setRow g (cur.toList.take o ++ cs ++ cur.toList.drop (o + cs.length)).toArray) := by
  have hl := run_loadCells_list (P := P) w a cs hsrc
  have hst := Go.run_storeCells_at P g o t cs 0 cur w hg (by simpa using hfit) h1
  simp [Builtin.copy_, run_underlying hu, Builtin.lenOf, Builtin.firstCells, sizeOf, typeInfo, hq, hsz, ← hn, hl, hst]
section
variable {α : Type} {r : Rep α} {P : Program} {N : Sz} {f : Frm} {H : Heap} {Z : Nat → Prop} {L : List As} {ty t t' e : TypeId} {x y : Operand} {v : Value} {l l2 : List α} {i : Nat}
theorem relAll.rep {zc : List Value} {d : α} (h : r.rel H Z zc d) : ∀ n, relAll r H Z (List.replicate n zc) (List.replicate n d)
  | 0 => trivial
  | n + 1 => ⟨h, relAll.rep h n⟩
theorem relAll.take' : ∀ {css : List (List Value)} {l : List α} (k : Nat), relAll r H Z css l → relAll r H Z (css.take k) (l.take k)
  | _, _, 0, _ => by simp [relAll]
  | [], [], _ + 1, _ => trivial
  | _ :: _, _ :: _, k + 1, ⟨h1, h2⟩ => ⟨h1, relAll.take' k h2⟩
  | [], _ :: _, _ + 1, h => h.elim
  | _ :: _, [], _ + 1, h => h.elim
theorem relAll.drop' : ∀ {css : List (List Value)} {l : List α} (k : Nat), relAll r H Z css l → relAll r H Z (css.drop k) (l.drop k)
  | _, _, 0, h => h
  | [], [], _ + 1, _ => trivial
  | _ :: _, _ :: _, k + 1, ⟨_, h2⟩ => relAll.drop' k h2
  | [], _ :: _, _ + 1, h => h.elim
  | _ :: _, [], _ + 1, h => h.elim
theorem relAll.take_flat : ∀ {css : List (List Value)} {l : List α} (k : Nat), relAll r H Z css l → css.flatten.take (k * r.sz) = (css.take k).flatten
  | _, _, 0, _ => by simp
  | [], [], _ + 1, _ => by simp
  | c :: css, _ :: _, k + 1, ⟨h1, h2⟩ => by
    rw [List.flatten_cons, List.take_succ_cons, List.flatten_cons, List.take_append, r.len h1, Nat.add_mul, Nat.one_mul, List.take_of_length_le (by rw [r.len h1]; omega), show k * r.sz + r.sz - r.sz = k * r.sz by omega, relAll.take_flat k h2]
  | [], _ :: _, _ + 1, h => h.elim
  | _ :: _, [], _ + 1, h => h.elim
theorem relAll.drop_flat : ∀ {css : List (List Value)} {l : List α} (k : Nat), relAll r H Z css l → css.flatten.drop (k * r.sz) = (css.drop k).flatten
  | _, _, 0, _ => by simp
  | [], [], _ + 1, _ => by simp
  | c :: css, _ :: _, k + 1, ⟨h1, h2⟩ => by
    rw [List.flatten_cons, List.drop_succ_cons, List.drop_append, r.len h1, Nat.add_mul, Nat.one_mul, List.drop_of_length_le (by rw [r.len h1]; omega), show k * r.sz + r.sz - r.sz = k * r.sz by omega, relAll.drop_flat k h2, List.nil_append]
  | [], _ :: _, _ + 1, h => h.elim
  | _ :: _, [], _ + 1, h => h.elim
theorem o_makeSliceR {d : α} {zc : List Value} {n : Int} {q : TypeInfo} {zv : Value} (hO : Own H Z L) (ht : P.underlying t = some (.slice e)) (hq : P.info? e = some q) (hz : q.zero = some zv) (hsz : q.size = r.sz) (hzs : zv.cells = zc.toArray) (hzl : zc.length = r.sz) (h1 : ∀ c ∈ zc, c.oneCell' = true) (hpos : Nat.blt 0 r.sz = true)
    (hrel : ∀ H Z, r.rel H Z zc d) (hx : ev f x = some (.int .i64 n)) (hy : ev f y = some (.int .i64 n)) (h0 : 0 ≤ n) (hb : q.bytes * n.toNat ≤ 281474976710656) (h63 : n ≤ 9223372036854775807) :
    OpH P N (.makeSlice t x y) ty f H (fun v' H' => ∃ g, v' = .slice (some ⟨g, 0, none⟩) n.toNat n.toNat ∧ Own H' Z (ownR r e v' (List.replicate n.toNat d) :: L)) := by
  let g0 : Flat Unit := ⟨fun _ => zc, r.sz, fun _ => hzl, fun _ => h1⟩
  refine (h_makeSlice (g := g0) (d := ()) (B := H.size) ht hq hz hsz hzs (blt_lt hpos) hx hy (Nat.le_refl _) h0 hb h63).mono ?_
  rintro v' H' ⟨k1, k2, k3, k4⟩
  refine ⟨H.size, k1, hO.add k3 (D' := fun b => b ∈ mb v') ⟨⟨List.replicate n.toNat zc, ?_, relAll.rep (hrel _ _) _⟩, fun _ => Iff.rfl⟩ fun b hb => k2.lt b hb⟩
  have : OwR H' H.size e r.sz v' (List.replicate n.toNat ()).length ((List.replicate n.toNat ()).flatMap g0.enc) := k2
  rw [List.length_replicate] at this ⊢
  rw [show (List.replicate n.toNat ()).flatMap g0.enc = (List.replicate n.toNat zc).flatten by rw [List.flatMap_replicate]] at this
  obtain ⟨j1, j2⟩ := this
  refine ⟨j1, ?_⟩
  rcases j2 with j2 | ⟨a, b, c, j3, _, j5⟩
  · exact .inl j2
  · exact .inr ⟨a, b, c, j3, Nat.zero_le _, j5⟩
theorem o_copyR {g n c lo m dCap : Nat} {w2 : Value} {q : TypeInfo} {sz : Nat} {tys : Array TypeId} (hO : Own H Z L) (hi : L[i]? = some (ownR r e (.slice (some ⟨g, 0, none⟩) n c) l)) (hln : l.length = n) (ha : tys = #[t, t']) (ht : P.underlying t = some (.slice e)) (hq : P.info? e = some q) (hsz : q.size = sz) (hg : r.sz = sz)
    (hx : ev f x = some (.slice (some ⟨g, lo * sz, none⟩) (n - lo) dCap)) (hy : ev f y = some w2) {css2 : List (List Value)} (hR2 : relAll r H Z css2 l2) (hat : At H (sb w2) (so w2) css2.flatten) (hw2 : w2 = .slice (some ⟨sb w2, so w2, none⟩) l2.length (sc w2)) (hlo : lo ≤ n) (hm : m = min l2.length (n - lo)) :
    OpH P N (.call ⟨.builtin .copy, #[x, y], tys⟩) ty f H (fun v' H' => v' = .int .i64 m ∧ Own H' Z (L.set i (ownR r e (.slice (some ⟨g, 0, none⟩) n c) (l.take lo ++ l2.take m ++ l.drop (lo + m))))) := by
  subst ha hg
  intro a w hf hH
  subst hH
  obtain ⟨D, ⟨⟨css, h1, h2⟩, h3⟩, h4, h5⟩ := hO.upd hi
  obtain ⟨k1, k2⟩ := h1
  rcases k2 with ⟨h6, _⟩ | ⟨g', cap, cur, h6, h7, h8, h9, h10, h11, h12⟩
  · cases h6
  obtain ⟨rfl, rfl⟩ : g = g' ∧ c = cap := by injection h6 with h6 _ h6'; injection h6 with h6; injection h6 with h6; exact ⟨h6, h6'⟩
  have hml : m ≤ l2.length := by omega
  have hl2 := hR2.len
  have htf := hR2.take_flat m
  have hcl : ((css2.take m).flatten).length = m * r.sz := by rw [(hR2.take' m).flatlen, List.length_take, Nat.min_eq_left hml]
  have hfit : lo * r.sz + m * r.sz ≤ cur.size := by
    rw [h11, ← Nat.add_mul]; exact Nat.mul_le_mul_right _ (by omega)
  have hrun := run_copy_rowN (P := P) (sz := r.sz) w t t' ty e g (lo * r.sz) (n - lo) dCap ⟨sb w2, so w2, none⟩ l2.length (sc w2) cur e (css2.take m).flatten ht hq hsz h8 (by rw [hcl, hm])
    (fun j u hj => by
      rw [add_mk, cell?_eq]
      refine hat j u ?_
      rw [← htf, List.getElem?_take] at hj
      split at hj
      · exact hj
      · cases hj) (by rw [hcl]; exact hfit) (hR2.take' m).one
  rw [hcl] at hrun
  have hmn : Nat.min l2.length (n - lo) = m := hm.symm
  rw [hmn] at hrun
  simp only [opx, execOp, resolve, List.map_toArray, List.map_cons, List.map_nil, hf.ev hx, hf.ev hy, Sem.run_bind, Sem.run_pure, Result.andThen_ok, invoke, builtin]
  rw [hw2, hrun]
  have hD : D g := (h3 g).2 (by simp [mb])
  refine ⟨⟨rfl, rfl, rfl, fun B o hB ho => ?_, Nat.le_refl _⟩, rfl, ?_⟩
  · by_cases hBg : B = g
    · subst hBg; rw [h8] at hB; cases hB; simp [kept] at ho
    · rw [setRow_other _ _ _ _ hBg]; exact hB
  refine h5 (D' := D) ⟨⟨css.take lo ++ css2.take m ++ css.drop (lo + m), ?_, ?_⟩, h3⟩ (fun b hb => .inl hb) (by simp) fun b hb hnd => setRow_other _ _ _ _ fun h => hnd (h ▸ hD)
  · have hlen : (l.take lo ++ l2.take m ++ l.drop (lo + m)).length = n := by
      simp only [List.length_append, List.length_take, List.length_drop, hln]; omega
    rw [hlen]
    have hc1 := h2.take_flat lo
    have hc2 := h2.drop_flat (lo + m)
    have hfl : (css.take lo ++ css2.take m ++ css.drop (lo + m)).flatten = (css.flatten.take (lo * r.sz)) ++ (css2.take m).flatten ++ css.flatten.drop ((lo + m) * r.sz) := by
      rw [List.flatten_append, List.flatten_append, hc1, hc2]
    have hcf : css.flatten.length = n * r.sz := by rw [h2.flatlen, hln]
    rw [hln] at h12
    have hle : lo * r.sz + m * r.sz ≤ n * r.sz := by rw [← Nat.add_mul]; exact Nat.mul_le_mul_right _ (by omega)
    have hcs : n * r.sz ≤ cur.toList.length := by rw [Array.length_toList, h11]; exact Nat.mul_le_mul_right _ (by omega)
    refine ⟨?_, .inr ⟨g, c, _, rfl, Nat.zero_le _, setRow_heap w g cur _ e _ h8, by omega, h10, ?_, ?_⟩⟩
    · rw [hfl]; simp only [List.length_append, List.length_take, List.length_drop, hcl, hcf, Nat.add_mul]; omega
    · simp only [List.size_toArray, List.length_append, List.length_take, List.length_drop, hcl, Array.length_toList]; rw [← h11]; omega
    · rw [hfl, ← h12, Nat.add_mul]
      simp only [List.take_append, List.length_append, List.length_take, hcl, List.take_take]
      have e1 : min (n * r.sz) (lo * r.sz) = lo * r.sz := by omega
      have e2 : min (lo * r.sz) cur.toList.length = lo * r.sz := by omega
      have e3 : min (lo * r.sz) (n * r.sz) = lo * r.sz := by omega
      rw [e1, e2, e3, List.take_of_length_le (l := (css2.take m).flatten) (by rw [hcl]; omega), List.drop_take]
  · refine ((h2.take' lo).app (hR2.take' m)).app (h2.drop' (lo + m)) |>.keep (fun b hb hl => setRow_other _ _ _ _ fun h => ?_) fun _ h => h
    subst h; exact (h4 _ hD).2 hb
end
section
variable {P : Program} {N : Sz} {f : Frm} {H : Heap} {t t' ty : TypeId} {x y : Operand} {a b : BitVec 64}
theorem v_toW {n : Int} (hs : (P.underlying t).isSome = true) (ht : P.underlying t' = some (.int .u64)) (hx : ev f x = some (.int .i64 n)) (h : 0 ≤ n ∧ n ≤ 9223372036854775807) : OpV P N (.convert t t' x) ty f H (w64 (BitVec.ofNat 64 n.toNat)) := by
  have hw : IntKind.u64.wrap n = n := by rw [wrap_u64']; omega
  have := v_conv_id (N := N) (ty := ty) (H := H) (f := f) hs ht hx hw
  have e : w64 (BitVec.ofNat 64 n.toNat) = .int .u64 n := by
    unfold w64; congr 1; rw [BitVec.toNat_ofNat]; omega
  rw [e]; exact this
theorem v_ofW (hs : (P.underlying t).isSome = true) (ht : P.underlying t' = some (.int .i64)) (hx : ev f x = some (w64 a)) (h : a.toNat ≤ 9223372036854775807) : OpV P N (.convert t t' x) ty f H (.int .i64 a.toNat) :=
  v_conv_id hs ht hx (IntWalk.i64_in _ (by omega))
theorem v_gtr64 (hx : ev f x = some (w64 a)) (hy : ev f y = some (w64 b)) : OpV P N (.binOp .gtr t x y t') ty f H (.bool (decide (b < a))) := by
  have := v_gtr (P := P) (N := N) (t := t) (t' := t') (ty := ty) (H := H) (show ev f x = some (.int .u64 (a.toNat : Int)) from hx) (show ev f y = some (.int .u64 (b.toNat : Int)) from hy)
  rwa [show decide ((b.toNat : Int) < a.toNat) = decide (b < a) from decide_eq_decide.2 (by rw [BitVec.lt_def]; omega)] at this
theorem slv_some {g n c sz lo m : Nat} (h : lo < c) : slv (.slice (some ⟨g, 0, none⟩) n c) sz lo m = .slice (some ⟨g, lo * sz, none⟩) m (c - lo) := by
  unfold slv
  rw [if_neg (show ¬ sc (Value.slice (some ⟨g, 0, none⟩) n c) = lo by show ¬ c = lo; omega)]
  show Value.slice (some ((⟨g, 0, none⟩ : Addr).add (lo * sz))) m (c - lo) = _
  rw [add_mk, Nat.zero_add]
end
end Go.Proofs.Ythofnojmgkjmfaa

set_option linter.unusedSimpArgs false
set_option linter.unusedVariables false
namespace Go.Proofs.Ythofnojmgkjmfaa
theorem a_n {f : Frm} : AllIn f [] := trivial
theorem a_c {f r : Frm} (t : Nat) {v : Value} (h : lk f t = some v) (k : AllIn f r) : AllIn f ((t, v) :: r) := ⟨h, k⟩
/-- what nobody turned at the start, nobody turns now -/
def inZ (Z0 : Nat → Prop) : As := ⟨fun _ Z D => (∀ b, Z0 b → Z b) ∧ ∀ x, ¬ D x, fun ⟨h1, h2⟩ _ _ hz => ⟨fun b hb => hz b (h1 b hb), h2⟩, fun ⟨_, h2⟩ x hx => absurd hx (h2 x)⟩
section
variable {H : Heap} {Z Z0 : Nat → Prop} {L : List As}
theorem Own.inZ (h : Own H Z L) : Own H Z (Go.Proofs.Ythofnojmgkjmfaa.inZ Z :: L) := h.dup ⟨fun _ h => h, fun _ h => h⟩
theorem Own.inz (h : Own H Z L) (i : Nat) (hi : L[i]? = some (Go.Proofs.Ythofnojmgkjmfaa.inZ Z0)) : ∀ b, Z0 b → Z b := by
  obtain ⟨D, h1, _⟩ := h.get hi
  exact h1.1
theorem Sl.item {α : Type} {r : Rep α} {v : Value} {l : List α} (h : Sl r H Z v l) (hO : Own H Z L) : Own H Z (fz r v l :: L) := hO.dup ⟨h, fun _ h => h⟩
theorem g_c {v0 : Value} {p : (Nat → Prop) → Prop} {q : Heap → (Nat → Prop) → Prop} (v : Value) (H' : Heap) (h : ∃ Z' : Nat → Prop, p Z' ∧ v = v0 ∧ q H' Z') : v = v0 ∧ ∃ Z' : Nat → Prop, q H' Z' :=
  let ⟨Z', _, h2, h3⟩ := h; ⟨h2, Z', h3⟩
end
end Go.Proofs.Ythofnojmgkjmfaa
