/- Slices that a call makes itself, more: make, stores. No condition. -/
import Derived.Test.YtbaciogbhjcdoaaOwn
set_option linter.unusedSimpArgs false
set_option linter.unusedVariables false
namespace Go.Proofs.Ytbaciogbhjcdoaa
section
variable {α : Type} {g : Flat α} {H H' : Heap} {B : Nat} {e : TypeId} {v : Value} {l : List α}
variable {P : Program} {N : Sz} {f : Frm} {ty t : TypeId} {x y z : Operand}

theorem made_eq (cs : List Value) (hpos : 0 < cs.length) : ∀ n, (List.range (n * cs.length)).map (fun i => cs[i % cs.length]!) = (List.replicate n cs).flatten
  | 0 => by simp
  | n + 1 => by
    have h1 : List.range ((n + 1) * cs.length) = List.range (n * cs.length) ++ (List.range cs.length).map (n * cs.length + ·) := by
      rw [Nat.add_mul, Nat.one_mul]
      exact List.range_add
    rw [h1, List.map_append, made_eq cs hpos n, List.replicate_succ', List.flatten_append]
    congr 1
    simp only [List.map_map, List.flatten_cons, List.flatten_nil, List.append_nil]
    apply List.ext_getElem
    · simp
    · intro j h2 h3
      simp only [List.length_map, List.length_range] at h2
      simp only [List.getElem_map, List.getElem_range, Function.comp]
      rw [Nat.mul_comm, Nat.mul_add_mod, Nat.mod_eq_of_lt h2]
      simp [h2]

theorem flatMap_replicate (g : Flat α) (d : α) : ∀ n, (List.replicate n d).flatMap g.enc = (List.replicate n (g.enc d)).flatten
  | 0 => rfl
  | n + 1 => by simp only [List.replicate_succ, List.flatMap_cons, List.flatten_cons, flatMap_replicate g d n]

theorem h_makeSlice {d : α} {n : Int} {i : TypeInfo} {zv : Value} (ht : P.underlying t = some (.slice e)) (hi : P.info? e = some i) (hz : i.zero = some zv) (hsz : i.size = g.sz) (hzs : zv.cells = (g.enc d).toArray) (hpos : 0 < g.sz)
    (hx : ev f x = some (.int .i64 n)) (hy : ev f y = some (.int .i64 n)) (hB : B ≤ H.size) (h0 : 0 ≤ n) (hb : i.bytes * n.toNat ≤ 281474976710656) (h63 : n ≤ 9223372036854775807) :
    OpH P N (.makeSlice t x y) ty f H (fun v' H' => v' = .slice (some ⟨H.size, 0, none⟩) n.toNat n.toNat ∧ Ow g H' B e v' (List.replicate n.toNat d) ∧ Ext [] H H' ∧ H'.size = H.size + 1) := by
  intro a w hf hH
  subst hH
  obtain ⟨k, rfl⟩ := Int.eq_ofNat_of_zero_le h0
  have h63' : k ≤ maxLen := by simp only [maxLen]; omega
  have hb' : (i.bytes : Int) * (k : Int) ≤ 281474976710656 := by
    have h : ((i.bytes * k : Nat) : Int) ≤ 281474976710656 := by simp only [Int.toNat_natCast] at hb; omega
    rwa [Int.natCast_mul] at h
  have hr := run_make (P := P) w t e i zv ht hi hz .i64 .i64 k k h0 (Int.le_refl _) hb' h63
  simp only [opx, execOp, hf.ev hx, hf.ev hy, Sem.run_bind, hr, Result.andThen_ok, Sem.run_pure]
  refine ⟨⟨rfl, rfl, rfl, fun D o hD _ => (heap_alloc_old w _ D (Array.getElem?_eq_some_iff.1 hD).1).trans hD, Nat.le_refl _⟩, rfl, ?_, ⟨by simp, fun b hb _ => heap_alloc_old w _ b hb⟩, by simp⟩
  simp only [Int.toNat_natCast]
  have hlen : (g.enc d).length = g.sz := g.len d
  have hm : (madeCells zv.cells (k * i.size)).toList = (List.replicate k d).flatMap g.enc := by
    rw [flatMap_replicate, ← made_eq (g.enc d) (by omega) k, hsz, hlen]
    simp only [madeCells, hzs, Array.toList_map, Array.toList_range]
    apply List.map_congr_left
    intro j _
    simp [hlen]
  refine ⟨flat_len g _, .inr ⟨w.heap.size, k, _, by simp, hB, heap_alloc_new w _, by simp, h63', ?_, ?_⟩⟩
  · rw [← Array.length_toList, hm, flat_len]; simp
  · rw [hm, List.take_of_length_le (by rw [flat_len]; exact Nat.le_refl _)]

theorem repl_length {cs us : List Value} {o : Nat} (h : o + us.length ≤ cs.length) : (repl cs o us).length = cs.length := by
  simp only [repl, List.length_append, List.length_take, List.length_drop]; omega

theorem repl_get {cs us : List Value} {o : Nat} (h : o + us.length ≤ cs.length) (j : Nat) : (repl cs o us)[j]? = if o ≤ j ∧ j < o + us.length then us[j - o]? else cs[j]? := by
  unfold repl
  rw [List.append_assoc, List.getElem?_append, List.length_take, Nat.min_eq_left (by omega)]
  by_cases h1 : j < o
  · rw [if_pos h1, if_neg (by omega), List.getElem?_take, if_pos h1]
  · rw [if_neg h1, List.getElem?_append]
    by_cases h2 : j - o < us.length
    · rw [if_pos h2, if_pos (by omega)]
    · rw [if_neg h2, if_neg (by omega), List.getElem?_drop]
      congr 1; omega

/-- an element replaced, in the cells -/
theorem repl_flat {l : List α} {i j : Nat} {us rest : List Value} {x' : α} (hi : i < l.length) (hj : j + us.length ≤ g.sz) (hx : repl (g.enc l[i]) j us = g.enc x') :
    repl (l.flatMap g.enc ++ rest) (i * g.sz + j) us = (l.set i x').flatMap g.enc ++ rest := by
  have h1 : (i + 1) * g.sz ≤ l.length * g.sz := Nat.mul_le_mul_right _ hi
  rw [Nat.add_mul, Nat.one_mul] at h1
  apply List.ext_getElem?
  intro k
  rw [repl_get (by rw [List.length_append, flat_len]; omega)]
  by_cases hk : k < l.length * g.sz
  · rw [List.getElem?_append_left (by rw [flat_len]; exact hk), List.getElem?_append_left (by rw [flat_len, List.length_set]; exact hk)]
    have hpos : 0 < g.sz := by
      rcases Nat.eq_zero_or_pos g.sz with h0 | h0
      · rw [h0] at hk; omega
      · exact h0
    have hq : k / g.sz < l.length := Nat.div_lt_of_lt_mul (by rwa [Nat.mul_comm])
    have hr : k % g.sz < g.sz := Nat.mod_lt _ hpos
    have hd : k / g.sz * g.sz + k % g.sz = k := by rw [Nat.mul_comm]; exact Nat.div_add_mod k g.sz
    have e1 := flat_get g l (k / g.sz) (k % g.sz) hq hr
    have e2 := flat_get g (l.set i x') (k / g.sz) (k % g.sz) (by simpa using hq) hr
    rw [hd] at e1 e2
    rw [e1, e2]
    by_cases hqi : k / g.sz = i
    · subst hqi
      simp only [List.getElem_set_self]
      rw [← hx, repl_get (by rw [g.len]; exact hj)]
      by_cases h2 : j ≤ k % g.sz ∧ k % g.sz < j + us.length
      · rw [if_pos h2, if_pos (by omega)]
        congr 1; omega
      · rw [if_neg h2, if_neg (by omega)]
    · rw [List.getElem_set_ne (by omega), if_neg]
      rintro ⟨h2, h3⟩
      apply hqi
      have : i * g.sz ≤ k := by omega
      have : k < (i + 1) * g.sz := by rw [Nat.add_mul]; omega
      exact Nat.div_eq_of_lt_le (by omega) (by omega)
  · rw [List.getElem?_append_right (by rw [flat_len]; omega), List.getElem?_append_right (by rw [flat_len, List.length_set]; omega), if_neg (by omega), flat_len, flat_len, List.length_set]

theorem OwR.blk {size n : Nat} {xs : List Value} (h : OwR H B e size v n xs) (hn : 0 < n) : ∃ rest, Blk H (sb v) (xs ++ rest) e ∧ so v = 0 ∧ ∃ cap, v = .slice (some ⟨sb v, 0, none⟩) n cap ∧ B ≤ sb v ∧ n ≤ cap ∧ cap ≤ maxLen ∧ (xs ++ rest).length = cap * size := by
  rcases h.2 with ⟨_, h3⟩ | ⟨k, cap, cur, rfl, h3, h4, h5, h6, h7, h8⟩
  · omega
  · have e1 : xs ++ cur.toList.drop (n * size) = cur.toList := by rw [← h8]; exact List.take_append_drop _ _
    refine ⟨cur.toList.drop (n * size), ?_, rfl, cap, rfl, h3, h5, h6, ?_⟩
    · rw [e1]; exact h4
    · rw [e1, Array.length_toList]; exact h7

theorem OwR.of_blk {size n cap b : Nat} {xs rest : List Value} (hb : Blk H b (xs ++ rest) e) (hx : xs.length = n * size) (hB : B ≤ b) (h1 : n ≤ cap) (h2 : cap ≤ maxLen) (h3 : (xs ++ rest).length = cap * size) : OwR H B e size (.slice (some ⟨b, 0, none⟩) n cap) n xs :=
  ⟨hx, .inr ⟨b, cap, _, rfl, hB, hb, h1, h2, by simpa using h3, by
    show (xs ++ rest).take (n * size) = xs
    rw [← hx]; exact List.take_left⟩⟩

/-- What a store into a slice of the call's own leaves. -/
structure Pat (g : Flat α) (H H' : Heap) (B : Nat) (e : TypeId) (v : Value) (l : List α) : Prop where
  ow : Ow g H' B e v l
  ext : Ext (mb v) H H'
  size : H'.size = H.size

theorem pat_of_put {i j : Nat} {us rest : List Value} {x' : α} {cap : Nat} (hi : i < l.length) (hj : j + us.length ≤ g.sz) (hx : repl (g.enc l[i]) j us = g.enc x') (hv : v = .slice (some ⟨sb v, 0, none⟩) l.length cap) (hB : B ≤ sb v) (h1 : l.length ≤ cap) (h2 : cap ≤ maxLen)
    (h3 : (l.flatMap g.enc ++ rest).length = cap * g.sz) (hp : Put H H' (sb v) (repl (l.flatMap g.enc ++ rest) (i * g.sz + j) us) e) : Pat g H H' B e v (l.set i x') := by
  refine ⟨?_, ?_, hp.size⟩
  · have hb := hp.blk
    rw [repl_flat hi hj hx] at hb
    have := OwR.of_blk (H := H') (B := B) (size := g.sz) (n := l.length) (cap := cap) hb (by rw [flat_len, List.length_set]) hB h1 h2 (by rw [List.length_append, flat_len, List.length_set, ← flat_len g l, ← List.length_append]; exact h3)
    rw [← hv] at this
    show OwR _ _ _ _ _ _ _
    rw [List.length_set]; exact this
  · have : mb v = [sb v] := by rw [hv]; rfl
    rw [this]; exact hp.ext

/-- a store of one cell into an element -/
theorem h_storeOw {u : Value} [Inhabited α] {i : Int} {j sz : Nat} {x' : α} (hs : ∀ w, (sizeOf t).run P w = .ok 1 w) (hg : g.sz = sz) (hx : ev f x = some (ptr (sb v) (so v + i.toNat * sz + j))) (hy : ev f y = some u) (ho : Ow g H B e v l) (hi : 0 ≤ i ∧ i < l.length) (hj : j + 1 ≤ sz)
    (hx' : repl (g.enc (l.getD i.toNat default)) j [u] = g.enc x') (h1 : u.oneCell' = true) : OpH P N (.store t x y) ty f H (fun _ H' => Pat g H H' B e v (l.set i.toNat x')) := by
  subst hg
  have hi' : i.toNat < l.length := by omega
  obtain ⟨rest, hb, h2, cap, hv, hB, hc1, hc2, hc3⟩ := OwR.blk ho (by omega)
  rw [h2, Nat.zero_add] at hx
  have hlt : (i.toNat + 1) * g.sz ≤ l.length * g.sz := Nat.mul_le_mul_right _ hi'
  rw [Nat.add_mul, Nat.one_mul] at hlt
  have ho' : i.toNat * g.sz + j < (l.flatMap g.enc ++ rest).length := by rw [List.length_append, flat_len]; omega
  refine (h_store1 hs hx hy hb ho' h1).mono fun _ H' hp => ?_
  have e1 : (l.flatMap g.enc ++ rest).set (i.toNat * g.sz + j) u = repl (l.flatMap g.enc ++ rest) (i.toNat * g.sz + j) [u] := by
    apply List.ext_getElem?
    intro k
    rw [repl_get (show i.toNat * g.sz + j + 1 ≤ _ from ho'), List.getElem?_set]
    by_cases hk : i.toNat * g.sz + j = k
    · subst hk; rw [if_pos rfl, if_pos ho', if_pos (by simp)]; simp
    · rw [if_neg hk, if_neg (by simp; omega)]
  rw [e1] at hp
  rw [show l.getD i.toNat default = l[i.toNat] by simp [List.getD, hi']] at hx'
  exact pat_of_put hi' (by simpa using hj) hx' hv hB hc1 hc2 hc3 hp

theorem h_storeOw1 {u : Value} [Inhabited α] {i : Int} {sz : Nat} {x' : α} (hs : ∀ w, (sizeOf t).run P w = .ok 1 w) (hg : g.sz = sz) (h1' : sz = 1) (hx : ev f x = some (ptr (sb v) (so v + i.toNat * sz))) (hy : ev f y = some u) (ho : Ow g H B e v l) (hi : 0 ≤ i ∧ i < l.length)
    (hx' : [u] = g.enc x') (h1 : u.oneCell' = true) : OpH P N (.store t x y) ty f H (fun _ H' => Pat g H H' B e v (l.set i.toNat x')) := by
  subst h1'
  refine h_storeOw (j := 0) hs hg hx hy ho hi (Nat.le_refl _) ?_ h1
  rw [repl_all (by rw [g.len, hg]; rfl)]; exact hx'

theorem h_storeOwA {us : List Value} [Inhabited α] {i : Int} {n : Nat} {x' : α} (hs : ∀ w, (sizeOf t).run P w = .ok n w) (hg : g.sz = n) (hx : ev f x = some (ptr (sb v) (so v + i.toNat * n))) (hy : ev f y = some (.agg us.toArray)) (ho : Ow g H B e v l) (hi : 0 ≤ i ∧ i < l.length)
    (hx' : us = g.enc x') : OpH P N (.store t x y) ty f H (fun _ H' => Pat g H H' B e v (l.set i.toNat x')) := by
  subst hg hx'
  have hi' : i.toNat < l.length := by omega
  obtain ⟨rest, hb, h2, cap, hv, hB, hc1, hc2, hc3⟩ := OwR.blk ho (by omega)
  rw [h2, Nat.zero_add] at hx
  have hlt : (i.toNat + 1) * g.sz ≤ l.length * g.sz := Nat.mul_le_mul_right _ hi'
  rw [Nat.add_mul, Nat.one_mul] at hlt
  refine (h_storeA hs hx hy hb (g.len _) (by rw [List.length_append, flat_len]; omega) (g.one _)).mono fun _ H' hp => ?_
  exact pat_of_put (j := 0) hi' (by rw [g.len]; omega) (repl_all (by rw [g.len, g.len])) hv hB hc1 hc2 hc3 hp

/-- a cell of an element -/
theorem v_loadSub [Inhabited α] {S : Nat → Prop} {i : Int} {j sz : Nat} {u : Value} (ha : ∀ w, (isAgg t).run P w = .ok false w) (hx : ev f x = some (ptr (sb v) (so v + i.toNat * sz + j))) (hs : Sl g.rep H S v l) (hsz : g.sz = sz)
    (h : 0 ≤ i ∧ i < l.length) (hu : (g.enc (l.getD i.toNat default))[j]? = some u) : OpV P N (.load t x) ty f H u := by
  subst hsz
  have hi : i.toNat < l.length := by omega
  obtain ⟨_, _, cs, h3, h4⟩ := hs.mem i.toNat hi
  refine v_load1 ha hx (h3 j u ?_)
  have : cs = g.enc l[i.toNat] := h4
  rw [this, ← show l.getD i.toNat default = l[i.toNat] by simp [List.getD, hi]]; exact hu
end
/-- a lower bound may be lowered -/
theorem Ow.base {α : Type} {g : Flat α} {H : Heap} {B B' : Nat} {e : TypeId} {v : Value} {l : List α} (h : Ow g H B e v l) (hB : B' ≤ B) : Ow g H B' e v l := by
  obtain ⟨h1, h2⟩ := h
  refine ⟨h1, ?_⟩
  rcases h2 with h2 | ⟨k, cap, cur, h3, h4, h5⟩
  · exact .inl h2
  · exact .inr ⟨k, cap, cur, h3, Nat.le_trans hB h4, h5⟩
theorem Ow.congr {α : Type} {g : Flat α} {H : Heap} {B : Nat} {e : TypeId} {v : Value} {l l' : List α} (h : Ow g H B e v l) (hl : l = l') : Ow g H B e v l' := hl ▸ h
theorem Ow.len {α : Type} {g : Flat α} {H : Heap} {B : Nat} {e : TypeId} {v : Value} {l : List α} (h : Ow g H B e v l) : l.length ≤ 9223372036854775807 := by
  rcases h.2 with ⟨_, h0⟩ | ⟨_, cap, _, _, _, _, h1, h2, _⟩
  · omega
  · simp only [maxLen] at h2; omega
/-- natural numbers as ints -/
def fNat : Flat Nat := ⟨fun n => [.int .i64 n], 1, fun _ => rfl, fun _ c h => by simp at h; subst h; rfl⟩
theorem fNat_flat : ∀ l : List Nat, l.flatMap fNat.enc = (l.map fun (n : Nat) => (n : Int)).flatMap fInt.enc
  | [] => rfl
  | n :: l => by simp only [List.flatMap_cons, List.map_cons, fNat_flat l]; rfl
theorem Ow.toInt {H : Heap} {B : Nat} {e : TypeId} {v : Value} {l : List Nat} (h : Ow fNat H B e v l) : Ow fInt H B e v (l.map fun (n : Nat) => (n : Int)) := by
  unfold Ow at h ⊢
  rw [List.length_map, ← fNat_flat]; exact h
end Go.Proofs.Ytbaciogbhjcdoaa
