/- Several texts in one. No condition. -/
import Derived.Test.YtaopgjfioabfpaaGreatMg5FunTells
import Derived.Laws.AppendOwn
import Derived.Laws.OwnMore
set_option linter.unusedVariables false
set_option linter.unusedSimpArgs false
set_option maxRecDepth 20000
namespace Go.Proofs.YtaopgjfioabfpaaGreat
section
/-- as the library's 'ownsRow', of a heap -/
def OwR (H : Heap) (base : Nat) (e : TypeId) (size : Nat) (v : Value) (n : Nat) (xs : List Value) : Prop :=
  xs.length = n * size ∧
  ((v = .slice none 0 0 ∧ n = 0) ∨
   ∃ g cap cur, v = .slice (some ⟨g, 0, none⟩) n cap ∧ base ≤ g ∧ H[g]? = some (.cells cur e (0, 0)) ∧ n ≤ cap ∧ cap ≤ maxLen ∧ cur.size = cap * size ∧ cur.toList.take (n * size) = xs)
/-- the blocks that a store through v may turn -/
def mb : Value → List Nat | .slice (some a) _ _ => [a.block] | _ => []
theorem OwR.ext {H H' : Heap} {M : List Nat} {base : Nat} {e : TypeId} {size : Nat} {v : Value} {n : Nat} {xs : List Value} (h : OwR H base e size v n xs) (hx : Ext M H H') (hm : ∀ b, b ∈ mb v → b ∉ M) : OwR H' base e size v n xs := by
  obtain ⟨h1, h2⟩ := h
  refine ⟨h1, ?_⟩
  rcases h2 with h2 | ⟨g, cap, cur, rfl, h3, h4, h5⟩
  · exact .inl h2
  · exact .inr ⟨g, cap, cur, rfl, h3, (hx.old g (Array.getElem?_eq_some_iff.1 h4).1 (hm g (by simp [mb]))).trans h4, h5⟩
/-- A slice of plain data that the call made: it may be written, and grow. -/
def Ow {α : Type} (g : Flat α) (H : Heap) (B : Nat) (e : TypeId) (v : Value) (l : List α) : Prop := OwR H B e g.sz v l.length (l.flatMap g.enc)
section
variable {α : Type} {g : Flat α} {H H' : Heap} {B : Nat} {e : TypeId} {v : Value} {l : List α}
theorem flat_len (g : Flat α) : ∀ (l : List α), (l.flatMap g.enc).length = l.length * g.sz
  | [] => by simp
  | x :: l => by simp only [List.flatMap_cons, List.length_append, g.len, flat_len g l, List.length_cons, Nat.add_mul]; omega
theorem flat_get (g : Flat α) : ∀ (l : List α) (i j : Nat) (hi : i < l.length), j < g.sz → (l.flatMap g.enc)[i * g.sz + j]? = (g.enc l[i])[j]?
  | [], i, j, hi, _ => by simp at hi
  | x :: l, 0, j, _, hj => by
    simp only [List.flatMap_cons, Nat.zero_mul, Nat.zero_add, List.getElem_cons_zero]
    rw [List.getElem?_append_left (by rw [g.len]; exact hj)]
  | x :: l, i + 1, j, hi, hj => by
    simp only [List.flatMap_cons, List.getElem_cons_succ]
    rw [List.getElem?_append_right (by rw [g.len, Nat.add_mul]; omega), g.len, show (i + 1) * g.sz + j - g.sz = i * g.sz + j by rw [Nat.add_mul]; omega]
    exact flat_get g l i j _ hj
theorem Ow.ext {M : List Nat} (h : Ow g H B e v l) (hx : Ext M H H') (hm : ∀ b, b ∈ mb v → b ∉ M) : Ow g H' B e v l := OwR.ext h hx hm
theorem Ow.ext0 (h : Ow g H B e v l) (hx : Ext [] H H') : Ow g H' B e v l := h.ext hx (by simp)
theorem Ow.lt (h : Ow g H B e v l) : ∀ b, b ∈ mb v → B ≤ b ∧ b < H.size := by
  intro b hb
  rcases h.2 with ⟨rfl, _⟩ | ⟨k, cap, cur, rfl, h3, h4, _⟩
  · simp [mb] at hb
  · simp [mb] at hb; subst hb; exact ⟨h3, (Array.getElem?_eq_some_iff.1 h4).1⟩
theorem Ow.one (h : Ow g H B e v l) : v.oneCell' = true := by rcases h.2 with ⟨rfl, _⟩ | ⟨k, cap, cur, rfl, _⟩ <;> rfl
/-- read as any slice -/
theorem Ow.sl (h : Ow g H B e v l) {S : Nat → Prop} (hS : ∀ b, b ∈ mb v → S b) : Sl g.rep H S v l := by
  obtain ⟨h1, h2⟩ := h
  rcases h2 with ⟨rfl, h3⟩ | ⟨k, cap, cur, rfl, h3, h4, h5, h6, h7, h8⟩
  · have : l = [] := List.eq_nil_of_length_eq_zero h3
    subst this; exact Sl.nil
  · refine ⟨rfl, ⟨h5, by show (cap : Int) ≤ _; simp only [maxLen] at h6; omega⟩, fun i hi => ⟨rfl, hS _ (by simp [mb, sb]), g.enc l[i], ?_, rfl⟩⟩
    intro j u hu
    have hj : j < g.sz := by have := (List.getElem?_eq_some_iff.1 hu).1; rwa [g.len] at this
    have hlt : i * g.sz + j < l.length * g.sz := by
      have : (i + 1) * g.sz ≤ l.length * g.sz := Nat.mul_le_mul_right _ hi
      rw [Nat.add_mul] at this; omega
    have h9 := flat_get g l i j hi hj
    rw [← h8, List.getElem?_take, if_pos hlt, hu] at h9
    show cellH H k (0 + i * g.sz + j) = some u
    rw [Nat.zero_add]
    simp only [cellH, h4]; simpa using h9
theorem Ow.sl0 (h : Ow g H B e v l) : Sl g.rep H (fun b => b ∈ mb v) v l := h.sl fun _ h => h
theorem Ow.nil : Ow g H B e (.slice none 0 0) [] := ⟨by simp, .inl ⟨rfl, rfl⟩⟩
/-- a new block that is a slice -/
theorem Ow.new {cs : List Value} (h : New H H' cs e) (hc : cs = l.flatMap g.enc) (hB : B ≤ H.size) (hl : l.length ≤ 9223372036854775807) : Ow g H' B e (.slice (some ⟨H.size, 0, none⟩) l.length l.length) l := by
  subst hc
  refine ⟨flat_len g l, .inr ⟨H.size, l.length, _, rfl, hB, h.blk, Nat.le_refl _, by simp only [maxLen]; omega, by rw [List.size_toArray, flat_len], ?_⟩⟩
  rw [List.take_of_length_le (by rw [flat_len]; exact Nat.le_refl _)]
variable {P : Program} {N : Sz} {f : Frm} {ty t : TypeId} {x y z : Operand}
theorem foldl_set (us : List Value) (o : Nat) : ∀ (k : Nat) (cs : List Value), o + k + us.length ≤ cs.length →
    (us.zipIdx k).foldl (fun (cs : Array Value) (p : Value × Nat) => cs.setIfInBounds (o + p.2) p.1) cs.toArray = (repl cs (o + k) us).toArray := by
  induction us with
  | nil => intro k cs _; simp [repl]
  | cons u us ih =>
    intro k cs h
    simp only [List.length_cons] at h
    simp only [List.zipIdx_cons, List.foldl_cons, List.setIfInBounds_toArray]
    rw [ih (k + 1) (cs.set (o + k) u) (by simp; omega)]
    congr 1
    unfold repl
    have e1 : (cs.set (o + k) u).take (o + (k + 1)) = cs.take (o + k) ++ [u] := by
      rw [show o + (k + 1) = (o + k) + 1 by omega, List.take_succ_eq_append_getElem (by simp; omega)]
      simp [List.take_set_of_le (Nat.le_refl _)]
    have e2 : (cs.set (o + k) u).drop (o + (k + 1) + us.length) = cs.drop (o + k + (u :: us).length) := by
      rw [List.drop_set_of_lt (by omega), List.length_cons]
      congr 1; omega
    rw [e1, e2]; simp
theorem fill_all {sz : Nat} : ∀ (vs : List Value) (k : Nat) (cs : List Value), (∀ v ∈ vs, v.cells.size = sz) → cs.length = (k + vs.length) * sz →
    Instr.fill (fun i => some (i * sz, sz)) cs.toArray ((vs.zipIdx k).map fun p => (p.2, p.1)) = some (cs.take (k * sz) ++ vs.flatMap fun v => v.cells.toList).toArray
  | [], k, cs, _, h => by
    simp only [List.zipIdx_nil, List.map_nil, Instr.fill, List.flatMap_nil, List.append_nil]
    rw [List.take_of_length_le (by rw [h]; simp)]
  | v :: vs, k, cs, hv, h => by
    have h1 : v.cells.size = sz := hv v (by simp)
    simp only [List.length_cons] at h
    have h2 : (k + 1) * sz ≤ cs.length := by rw [h]; exact Nat.mul_le_mul_right _ (by omega)
    rw [Nat.add_mul, Nat.one_mul] at h2
    simp only [List.zipIdx_cons, List.map_cons, Instr.fill, h1, ne_eq, not_true_eq_false, decide_false, Bool.false_or, List.size_toArray]
    rw [if_neg (by simp; omega)]
    have e1 : v.cells.zipIdx.foldl (fun (cs : Array Value) (x : Value × Nat) => match x with | (c, j) => cs.setIfInBounds (k * sz + j) c) cs.toArray = (repl cs (k * sz) v.cells.toList).toArray := by
      rw [← Array.foldl_toList, Array.toList_zipIdx]
      exact foldl_set v.cells.toList (k * sz) 0 cs (by simp [h1]; omega)
    rw [e1]
    have hr : (repl cs (k * sz) v.cells.toList).length = cs.length := by simp [repl, h1]; omega
    rw [fill_all vs (k + 1) _ (fun u hu => hv u (by simp [hu])) (by rw [hr, h]; congr 1; omega)]
    congr 2
    have e2 : (repl cs (k * sz) v.cells.toList).take ((k + 1) * sz) = cs.take (k * sz) ++ v.cells.toList := by
      unfold repl
      rw [List.take_append_of_le_length (by simp [h1, Nat.add_mul]; omega), List.take_of_length_le (by simp [h1, Nat.add_mul]; omega)]
    rw [e2]; simp
theorem evs_map : ∀ {xs : List Operand} {vs : List Value} {a : Act} (_ : FS N f a H) (_ : evs f xs vs) (k : Nat), (xs.zipIdx k).map (fun p => (p.2, a.eval p.1)) = (vs.zipIdx k).map fun p => (p.2, p.1)
  | [], [], _, _, _, _ => rfl
  | [], _ :: _, _, _, h, _ => h.elim
  | _ :: _, [], _, _, h, _ => h.elim
  | x :: xs, v :: vs, a, hf, ⟨h1, h2⟩, k => by simp only [List.zipIdx_cons, List.map_cons, hf.ev h1, evs_map hf h2 (k + 1)]
/-- a literal: all its elements, in order -/
theorem h_buildSlice {parts : List (Nat × Operand)} {xs : List Operand} {vs : List Value} {n sz : Nat} {z : Value} (ht : P.underlying t = some (.slice e)) (hs : ∀ w, (sizeOf e).run P w = .ok sz w) (hz : ∀ w, (zeroValue e).run P w = .ok z w)
    (hp : parts = xs.zipIdx.map fun p => (p.2, p.1)) (hv : evs f xs vs) (hn : vs.length = n) (hn2 : n * sz ≤ 2 ^ 24) (hpos : n * sz ≠ 0) (hc : ∀ v ∈ vs, v.cells.size = sz) :
    OpH P N (.buildSlice t n parts.toArray) ty f H (fun v H' => v = .slice (some ⟨H.size, 0, none⟩) n n ∧ New H H' (vs.flatMap fun v => v.cells.toList) e) := by
  intro a w hf hH
  subst hH hp
  have e1 : ((xs.zipIdx.map fun p => (p.2, p.1)).toArray.map fun (p : Nat × Operand) => (p.1, a.eval p.2)).toList = (vs.zipIdx 0).map fun p => (p.2, p.1) := by
    rw [← evs_map hf hv 0]; simp
  have e2 : ¬ n * sz > 2 ^ 24 := by omega
  have hfill := fill_all (sz := sz) vs 0 ((Array.range (n * sz)).map (z.cells[· % z.cells.size]!)).toList hc (by simp [hn])
  simp only [Nat.zero_mul, List.take_zero, List.nil_append, Array.toArray_toList] at hfill
  simp only [opx, execOp, Instr.buildSlice, Sem.run_bind, run_underlying ht, hs, Result.andThen_ok, e2, if_false, hpos, hz, Sem.run_pure, e1, hfill, run_newRow]
  exact ⟨⟨rfl, rfl, rfl, (New.push _ _ _).ext.keep, Nat.le_refl _⟩, rfl, New.push _ _ _⟩
theorem run_append_none_any {w : World} {B : Nat} {i : TypeInfo} {n : Nat} {xs : List Value} {ty : TypeId} (ht : P.underlying t = some (.slice e)) (hi : P.info? e = some i) (ho : OwR w.heap B e i.size v n xs) (c : Nat) :
    (Builtin.append_ #[t, t] ty #[v, .slice none 0 c]).run P w = .ok v w := by
  rcases ho.2 with ⟨rfl, rfl⟩ | ⟨g, cap, cur, rfl, _, _, hnc, _⟩
  · simp [Builtin.append_, run_underlying ht, sizeOf, typeInfo, hi, Builtin.lenOf, Builtin.firstCells]
  · simp [Builtin.append_, run_underlying ht, sizeOf, typeInfo, hi, Builtin.lenOf, Builtin.firstCells, hnc, storeCells]
/-- append, of cells -/
theorem run_append_cells {w : World} {B : Nat} {i : TypeInfo} {zv : Value} {sz : Nat} {n m c : Nat} {xs news : List Value} {a : Addr} (ty : TypeId) (ht : P.underlying t = some (.slice e)) (hi : P.info? e = some i) (hz : i.zero = some zv) (hsz : i.size = sz) (hzs : zv.cells.size = sz)
    (ho : OwR w.heap B e sz v n xs) (hl : news.length = m * sz) (hn : ∀ j u, news[j]? = some u → w.cell? (a.add j) = some u) (h1 : ∀ u ∈ news, u.oneCell' = true) (hB : B ≤ w.heap.size) (hlen : (n + m) * i.bytes ≤ 140737488355328) (h63 : n + m ≤ 9223372036854775807) :
    ∃ v' w', (Builtin.append_ #[t, t] ty #[v, .slice (some a) m c]).run P w = .ok v' w' ∧ Env w w' ∧ OwR w'.heap B e sz v' (n + m) (xs ++ news) ∧ Ext (mb v) w.heap w'.heap ∧ (v' = .slice none 0 0 ↔ v = .slice none 0 0 ∧ m = 0) ∧
      ∀ b, b ∈ mb v' → b ∈ mb v ∨ w.heap.size ≤ b := by
  subst hsz
  have hsmall : n + m ≤ maxLen := by simp only [maxLen]; omega
  have hlen' : (xs ++ news).length = (n + m) * i.size := by rw [List.length_append, ho.1, hl, Nat.add_mul]
  have grown : ∀ (old : Nat), old < n + m → ∀ (M : List Nat),
      OwR (w.drew.alloc (.cells (xs.toArray ++ news.toArray ++ Builtin.zeroCells zv.cells (grownCap w (n + m) old e - (n + m))) e)).heap B e i.size
        (.slice (some ⟨w.heap.size, 0, none⟩) (n + m) (grownCap w (n + m) old e)) (n + m) (xs ++ news) ∧
      Ext M w.heap (w.drew.alloc (.cells (xs.toArray ++ news.toArray ++ Builtin.zeroCells zv.cells (grownCap w (n + m) old e - (n + m))) e)).heap := by
    intro old ho' M
    have hge := grownCap_ge w (n + m) old e
    have hcm : grownCap w (n + m) old e ≤ maxLen := grownCap_le_maxLen w (n + m) old e hsmall
    refine ⟨⟨hlen', .inr ⟨w.heap.size, _, _, rfl, hB, heap_alloc_new w.drew _, hge, hcm, ?_, ?_⟩⟩, ⟨by simp, fun k hk _ => heap_alloc_old w.drew _ k hk⟩⟩
    · simp only [Array.size_append, List.size_toArray, size_zeroCells, hzs, ho.1, hl, ← Nat.add_mul]
      congr 1
      omega
    · simp only [Array.toList_append, List.append_assoc]
      rw [← List.append_assoc, ← hlen']
      exact List.take_left
  rcases ho.2 with ⟨rfl, rfl⟩ | ⟨g, cap, cur, rfl, hbg, hg, hnc, hcm, hcs, htake⟩
  · have hx : xs = [] := List.eq_nil_of_length_eq_zero (by simpa using ho.1)
    subst hx
    by_cases hm : m = 0
    · subst hm
      have hn : news = [] := List.eq_nil_of_length_eq_zero (by simpa using hl)
      subst hn
      refine ⟨.slice none 0 0, w, ?_, .refl _, ho, .refl _, by simp, fun b hb => .inl hb⟩
      simp [Builtin.append_, run_underlying ht, sizeOf, typeInfo, hi, Builtin.lenOf, Builtin.firstCells, loadCells, loadCellsFrom]
    · have hr := run_append_nil (P := P) w t ty e i zv ht hi hz a m c news hl hn (by omega) (by omega) (by have hb := hlen; simp only [Nat.zero_add] at hb; omega)
      have hgr := grown 0 (by omega) (mb (.slice none 0 0))
      simp only [Nat.zero_add, List.nil_append, Array.empty_append] at hgr ⊢
      exact ⟨_, _, hr, ⟨rfl, rfl, rfl, (Ext.keep hgr.2), Nat.le_succ _⟩, hgr.1, hgr.2, by simp [hm], fun b hb => .inr (by simp [mb] at hb; omega)⟩
  · by_cases hroom : n + m ≤ cap
    · have hfit : n * i.size + news.length ≤ cur.size := by rw [hl, hcs, ← Nat.add_mul]; exact Nat.mul_le_mul_right _ hroom
      have hr := run_append_room (P := P) w t ty e i ht hi g n cap cur hg a m c news hl hn h1 hroom hfit
      have hk : ∀ cur', Keep w.heap (w.setRow g cur').heap := fun cur' D o hD ho => (setRow_other w g D cur' (fun e => by subst e; rw [hg] at hD; cases hD; exact ho.elim)).trans hD
      refine ⟨_, _, hr, ⟨rfl, rfl, rfl, hk _, Nat.le_refl _⟩, ⟨hlen', .inr ⟨g, cap, _, rfl, hbg, setRow_heap w g cur _ e _ hg, hroom, hcm, ?_, ?_⟩⟩, ⟨by simp, fun k _ hk => setRow_other w g k _ (fun e => hk (by simp [mb, e]))⟩, by simp, fun b hb => .inl hb⟩
      · simp only [List.size_toArray, List.length_append, List.length_take, List.length_drop, Array.length_toList]
        omega
      · rw [htake, ← hlen']
        exact List.take_left
    · have holds : ∀ j u, xs[j]? = some u → w.cell? ((⟨g, 0, none⟩ : Addr).add j) = some u :=
        World.ownsRow.cells (w := w) (base := B) (e := e) (size := i.size) (v := .slice (some ⟨g, 0, none⟩) n cap) (n := n) ho (g := g) rfl
      have hr := run_append_grow (P := P) w t ty e i zv ht hi hz ⟨g, 0, none⟩ n cap xs ho.1 holds a m c news hl hn (by omega) (by omega) (growslice_fits (by omega) hlen)
      have hgr := grown cap (by omega) (mb (.slice (some ⟨g, 0, none⟩) n cap))
      exact ⟨_, _, hr, ⟨rfl, rfl, rfl, (Ext.keep (grown cap (by omega) []).2), Nat.le_succ _⟩, hgr.1, hgr.2, by simp, fun b hb => .inr (by simp [mb] at hb; omega)⟩
theorem flatMap_one {g : Flat α} {l : List α} : ∀ u ∈ l.flatMap g.enc, u.oneCell' = true := by
  intro u hu
  obtain ⟨x, _, h⟩ := List.mem_flatMap.1 hu
  exact g.one x u h
/-- the cells of a slice of plain data -/
theorem Sl.cells {S : Nat → Prop} (h : Sl g.rep H S v l) (hpos : 0 < g.sz) : l = [] ∨ At H (sb v) (so v) (l.flatMap g.enc) := by
  by_cases hl : l = []
  · exact .inl hl
  · refine .inr fun j u hu => ?_
    have hj : j < l.length * g.sz := by have := (List.getElem?_eq_some_iff.1 hu).1; rwa [flat_len] at this
    have hq : j / g.sz < l.length := Nat.div_lt_of_lt_mul (by rwa [Nat.mul_comm])
    have hr : j % g.sz < g.sz := Nat.mod_lt _ hpos
    have hd : j / g.sz * g.sz + j % g.sz = j := by rw [Nat.mul_comm]; exact Nat.div_add_mod j g.sz
    obtain ⟨_, _, cs, h3, h4⟩ := h.mem (j / g.sz) hq
    have h5 : cs = g.enc l[j / g.sz] := h4
    subst h5
    have h6 := flat_get g l (j / g.sz) (j % g.sz) hq hr
    rw [hd, hu] at h6
    have h7 := h3 (j % g.sz) u h6.symm
    have e1 : so v + j / g.sz * g.sz + j % g.sz = so v + j := by omega
    have h8 : cellH H (sb v) (so v + j / g.sz * g.sz + j % g.sz) = some u := h7
    rwa [e1] at h8
theorem h_append {w2 : Value} {l2 : List α} {S : Nat → Prop} {i : TypeInfo} {zv : Value} {sz : Nat} {tys : Array TypeId} (ha : tys = #[t, t]) (ht : P.underlying t = some (.slice e)) (hi : P.info? e = some i) (hz : i.zero = some zv) (hsz : i.size = sz) (hg : g.sz = sz) (hzs : zv.cells.size = sz) (hpos : 0 < sz)
    (hx : ev f x = some v) (hy : ev f y = some w2) (ho : Ow g H B e v l) (hs : Sl g.rep H S w2 l2) (hB : B ≤ H.size) (hlen : (l.length + l2.length) * i.bytes ≤ 140737488355328) (h63 : l.length + l2.length ≤ 9223372036854775807) :
    OpH P N (.call ⟨.builtin .append, #[x, y], tys⟩) ty f H (fun v' H' => Ow g H' B e v' (l ++ l2) ∧ Ext (mb v) H H' ∧ (v' = .slice none 0 0 ↔ v = .slice none 0 0 ∧ l2 = []) ∧ ∀ b, b ∈ mb v' → b ∈ mb v ∨ H.size ≤ b) := by
  subst ha hg
  intro a w hf hH
  subst hH
  have run : ∀ (r : Result Value), (Builtin.append_ #[t, t] ty #[v, w2]).run P w = r → hupon P (fun v' w' => Env w w' ∧ (Ow g w'.heap B e v' (l ++ l2) ∧ Ext (mb v) w.heap w'.heap ∧ (v' = .slice none 0 0 ↔ v = .slice none 0 0 ∧ l2 = []) ∧ ∀ b, b ∈ mb v' → b ∈ mb v ∨ w.heap.size ≤ b)) (r.andThen fun a w' => .ok (Next.value a) w') →
      hupon P (fun v' w' => Env w w' ∧ (Ow g w'.heap B e v' (l ++ l2) ∧ Ext (mb v) w.heap w'.heap ∧ (v' = .slice none 0 0 ↔ v = .slice none 0 0 ∧ l2 = []) ∧ ∀ b, b ∈ mb v' → b ∈ mb v ∨ w.heap.size ≤ b))
        ((execOp a.eval (opx (.call ⟨.builtin .append, #[x, y], #[t, t]⟩) ty)).run P w) := by
    intro r hr hk
    simp only [opx, execOp, resolve, List.map_toArray, List.map_cons, List.map_nil, hf.ev hx, hf.ev hy, Sem.run_bind, Sem.run_pure, Result.andThen_ok, invoke, builtin, hr]
    exact hk
  have hv2 := hs.shape
  have hsp : l2 ≠ [] → sa w2 = some ⟨sb w2, so w2, none⟩ := fun h0 => by
    have h9 := (hs.mem 0 (List.length_pos_iff.2 h0)).1
    rw [h9]; rfl
  cases hsa : sa w2 with
  | none =>
    have hl2 : l2 = [] := by
      by_cases h0 : l2 = []
      · exact h0
      · rw [hsp h0] at hsa; cases hsa
    subst hl2
    have ho' : OwR w.heap B e i.size v l.length (l.flatMap g.enc) := by rw [hsz]; exact ho
    have hr := run_append_none_any (P := P) (w := w) (ty := ty) ht hi ho' (sc w2)
    rw [hv2, hsa] at run
    refine run _ hr ⟨.refl _, ?_, .refl _, by simp, fun b hb => .inl hb⟩
    rw [List.append_nil]; exact ho
  | some a2 =>
    have hat : ∀ j u, (l2.flatMap g.enc)[j]? = some u → w.cell? (a2.add j) = some u := by
      intro j u hu
      rcases hs.cells hpos with h0 | h0
      · subst h0; simp at hu
      · have h0' : l2 ≠ [] := by rintro rfl; simp at hu
        rw [hsp h0'] at hsa
        cases hsa
        rw [add_mk, cell?_eq]; exact h0 j u hu
    obtain ⟨v', w', h1, h2, h3, h4, h5, h6⟩ := run_append_cells (P := P) (c := sc w2) ty ht hi hz hsz hzs ho (flat_len g l2) hat flatMap_one hB hlen h63
    rw [hv2, hsa] at run
    refine run _ h1 ⟨h2, ?_, h4, by rw [h5, List.length_eq_zero_iff], h6⟩
    show OwR _ _ _ _ _ _ _
    rw [List.length_append, List.flatMap_append]; exact h3
end
end
section
section
variable {α : Type} {g : Flat α} {H H' : Heap} {B : Nat} {e : TypeId} {v : Value} {l : List α}
variable {P : Program} {N : Sz} {f : Frm} {ty t : TypeId} {x y z : Operand}
theorem made_eq (cs : List Value) (hpos : 0 < cs.length) : ∀ n, (List.range (n * cs.length)).map (fun i => cs[i % cs.length]!) = (List.replicate n cs).flatten
  | 0 => by simp
  | n + 1 => by
    have h1 : List.range ((n + 1) * cs.length) = List.range (n * cs.length) ++ (List.range cs.length).map (n * cs.length + ·) := by
      rw [Nat.add_mul, Nat.one_mul]
      exact List.range_add
    rw [h1, List.map_append, made_eq cs hpos n, List.replicate_succ', List.flatten_append]
    congr 1
    simp only [List.map_map, List.flatten_cons, List.flatten_nil, List.append_nil]
    apply List.ext_getElem
    · simp
    · intro j h2 h3
      simp only [List.length_map, List.length_range] at h2
      simp only [List.getElem_map, List.getElem_range, Function.comp]
      rw [Nat.mul_comm, Nat.mul_add_mod, Nat.mod_eq_of_lt h2]
      simp [h2]
theorem flatMap_replicate (g : Flat α) (d : α) : ∀ n, (List.replicate n d).flatMap g.enc = (List.replicate n (g.enc d)).flatten
  | 0 => rfl
  | n + 1 => by simp only [List.replicate_succ, List.flatMap_cons, List.flatten_cons, flatMap_replicate g d n]
theorem h_makeSlice {d : α} {n : Int} {i : TypeInfo} {zv : Value} (ht : P.underlying t = some (.slice e)) (hi : P.info? e = some i) (hz : i.zero = some zv) (hsz : i.size = g.sz) (hzs : zv.cells = (g.enc d).toArray) (hpos : 0 < g.sz)
    (hx : ev f x = some (.int .i64 n)) (hy : ev f y = some (.int .i64 n)) (hB : B ≤ H.size) (h0 : 0 ≤ n) (hb : i.bytes * n.toNat ≤ 281474976710656) (h63 : n ≤ 9223372036854775807) :
    OpH P N (.makeSlice t x y) ty f H (fun v' H' => v' = .slice (some ⟨H.size, 0, none⟩) n.toNat n.toNat ∧ Ow g H' B e v' (List.replicate n.toNat d) ∧ Ext [] H H' ∧ H'.size = H.size + 1) := by
  intro a w hf hH
  subst hH
  obtain ⟨k, rfl⟩ := Int.eq_ofNat_of_zero_le h0
  have h63' : k ≤ maxLen := by simp only [maxLen]; omega
  have hb' : (i.bytes : Int) * (k : Int) ≤ 281474976710656 := by
    have h : ((i.bytes * k : Nat) : Int) ≤ 281474976710656 := by simp only [Int.toNat_natCast] at hb; omega
    rwa [Int.natCast_mul] at h
  have hr := run_make (P := P) w t e i zv ht hi hz .i64 .i64 k k h0 (Int.le_refl _) hb' h63
  simp only [opx, execOp, hf.ev hx, hf.ev hy, Sem.run_bind, hr, Result.andThen_ok, Sem.run_pure]
  refine ⟨⟨rfl, rfl, rfl, fun D o hD _ => (heap_alloc_old w _ D (Array.getElem?_eq_some_iff.1 hD).1).trans hD, Nat.le_refl _⟩, rfl, ?_, ⟨by simp, fun b hb _ => heap_alloc_old w _ b hb⟩, by simp⟩
  simp only [Int.toNat_natCast]
  have hlen : (g.enc d).length = g.sz := g.len d
  have hm : (madeCells zv.cells (k * i.size)).toList = (List.replicate k d).flatMap g.enc := by
    rw [flatMap_replicate, ← made_eq (g.enc d) (by omega) k, hsz, hlen]
    simp only [madeCells, hzs, Array.toList_map, Array.toList_range]
    apply List.map_congr_left
    intro j _
    simp [hlen]
  refine ⟨flat_len g _, .inr ⟨w.heap.size, k, _, by simp, hB, heap_alloc_new w _, by simp, h63', ?_, ?_⟩⟩
  · rw [← Array.length_toList, hm, flat_len]; simp
  · rw [hm, List.take_of_length_le (by rw [flat_len]; exact Nat.le_refl _)]
theorem repl_get {cs us : List Value} {o : Nat} (h : o + us.length ≤ cs.length) (j : Nat) : (repl cs o us)[j]? = if o ≤ j ∧ j < o + us.length then us[j - o]? else cs[j]? := by
  unfold repl
  rw [List.append_assoc, List.getElem?_append, List.length_take, Nat.min_eq_left (by omega)]
  by_cases h1 : j < o
  · rw [if_pos h1, if_neg (by omega), List.getElem?_take, if_pos h1]
  · rw [if_neg h1, List.getElem?_append]
    by_cases h2 : j - o < us.length
    · rw [if_pos h2, if_pos (by omega)]
    · rw [if_neg h2, if_neg (by omega), List.getElem?_drop]
      congr 1; omega
/-- an element replaced, in the cells -/
theorem repl_flat {l : List α} {i j : Nat} {us rest : List Value} {x' : α} (hi : i < l.length) (hj : j + us.length ≤ g.sz) (hx : repl (g.enc l[i]) j us = g.enc x') :
    repl (l.flatMap g.enc ++ rest) (i * g.sz + j) us = (l.set i x').flatMap g.enc ++ rest := by
  have h1 : (i + 1) * g.sz ≤ l.length * g.sz := Nat.mul_le_mul_right _ hi
  rw [Nat.add_mul, Nat.one_mul] at h1
  apply List.ext_getElem?
  intro k
  rw [repl_get (by rw [List.length_append, flat_len]; omega)]
  by_cases hk : k < l.length * g.sz
  · rw [List.getElem?_append_left (by rw [flat_len]; exact hk), List.getElem?_append_left (by rw [flat_len, List.length_set]; exact hk)]
    have hpos : 0 < g.sz := by
      rcases Nat.eq_zero_or_pos g.sz with h0 | h0
      · rw [h0] at hk; omega
      · exact h0
    have hq : k / g.sz < l.length := Nat.div_lt_of_lt_mul (by rwa [Nat.mul_comm])
    have hr : k % g.sz < g.sz := Nat.mod_lt _ hpos
    have hd : k / g.sz * g.sz + k % g.sz = k := by rw [Nat.mul_comm]; exact Nat.div_add_mod k g.sz
    have e1 := flat_get g l (k / g.sz) (k % g.sz) hq hr
    have e2 := flat_get g (l.set i x') (k / g.sz) (k % g.sz) (by simpa using hq) hr
    rw [hd] at e1 e2
    rw [e1, e2]
    by_cases hqi : k / g.sz = i
    · subst hqi
      simp only [List.getElem_set_self]
      rw [← hx, repl_get (by rw [g.len]; exact hj)]
      by_cases h2 : j ≤ k % g.sz ∧ k % g.sz < j + us.length
      · rw [if_pos h2, if_pos (by omega)]
        congr 1; omega
      · rw [if_neg h2, if_neg (by omega)]
    · rw [List.getElem_set_ne (by omega), if_neg]
      rintro ⟨h2, h3⟩
      apply hqi
      have : i * g.sz ≤ k := by omega
      have : k < (i + 1) * g.sz := by rw [Nat.add_mul]; omega
      exact Nat.div_eq_of_lt_le (by omega) (by omega)
  · rw [List.getElem?_append_right (by rw [flat_len]; omega), List.getElem?_append_right (by rw [flat_len, List.length_set]; omega), if_neg (by omega), flat_len, flat_len, List.length_set]
theorem OwR.blk {size n : Nat} {xs : List Value} (h : OwR H B e size v n xs) (hn : 0 < n) : ∃ rest, Blk H (sb v) (xs ++ rest) e ∧ so v = 0 ∧ ∃ cap, v = .slice (some ⟨sb v, 0, none⟩) n cap ∧ B ≤ sb v ∧ n ≤ cap ∧ cap ≤ maxLen ∧ (xs ++ rest).length = cap * size := by
  rcases h.2 with ⟨_, h3⟩ | ⟨k, cap, cur, rfl, h3, h4, h5, h6, h7, h8⟩
  · omega
  · have e1 : xs ++ cur.toList.drop (n * size) = cur.toList := by rw [← h8]; exact List.take_append_drop _ _
    refine ⟨cur.toList.drop (n * size), ?_, rfl, cap, rfl, h3, h5, h6, ?_⟩
    · rw [e1]; exact h4
    · rw [e1, Array.length_toList]; exact h7
theorem OwR.of_blk {size n cap b : Nat} {xs rest : List Value} (hb : Blk H b (xs ++ rest) e) (hx : xs.length = n * size) (hB : B ≤ b) (h1 : n ≤ cap) (h2 : cap ≤ maxLen) (h3 : (xs ++ rest).length = cap * size) : OwR H B e size (.slice (some ⟨b, 0, none⟩) n cap) n xs :=
  ⟨hx, .inr ⟨b, cap, _, rfl, hB, hb, h1, h2, by simpa using h3, by
    show (xs ++ rest).take (n * size) = xs
    rw [← hx]; exact List.take_left⟩⟩
/-- What a store into a slice of the call's own leaves. -/
structure Pat (g : Flat α) (H H' : Heap) (B : Nat) (e : TypeId) (v : Value) (l : List α) : Prop where
  ow : Ow g H' B e v l
  ext : Ext (mb v) H H'
  size : H'.size = H.size
theorem pat_of_put {i j : Nat} {us rest : List Value} {x' : α} {cap : Nat} (hi : i < l.length) (hj : j + us.length ≤ g.sz) (hx : repl (g.enc l[i]) j us = g.enc x') (hv : v = .slice (some ⟨sb v, 0, none⟩) l.length cap) (hB : B ≤ sb v) (h1 : l.length ≤ cap) (h2 : cap ≤ maxLen)
    (h3 : (l.flatMap g.enc ++ rest).length = cap * g.sz) (hp : Put H H' (sb v) (repl (l.flatMap g.enc ++ rest) (i * g.sz + j) us) e) : Pat g H H' B e v (l.set i x') := by
  refine ⟨?_, ?_, hp.size⟩
  · have hb := hp.blk
    rw [repl_flat hi hj hx] at hb
    have := OwR.of_blk (H := H') (B := B) (size := g.sz) (n := l.length) (cap := cap) hb (by rw [flat_len, List.length_set]) hB h1 h2 (by rw [List.length_append, flat_len, List.length_set, ← flat_len g l, ← List.length_append]; exact h3)
    rw [← hv] at this
    show OwR _ _ _ _ _ _ _
    rw [List.length_set]; exact this
  · have : mb v = [sb v] := by rw [hv]; rfl
    rw [this]; exact hp.ext
/-- a store of one cell into an element -/
theorem h_storeOw {u : Value} [Inhabited α] {i : Int} {j sz : Nat} {x' : α} (hs : ∀ w, (sizeOf t).run P w = .ok 1 w) (hg : g.sz = sz) (hx : ev f x = some (ptr (sb v) (so v + i.toNat * sz + j))) (hy : ev f y = some u) (ho : Ow g H B e v l) (hi : 0 ≤ i ∧ i < l.length) (hj : j + 1 ≤ sz)
    (hx' : repl (g.enc (l.getD i.toNat default)) j [u] = g.enc x') (h1 : u.oneCell' = true) : OpH P N (.store t x y) ty f H (fun _ H' => Pat g H H' B e v (l.set i.toNat x')) := by
  subst hg
  have hi' : i.toNat < l.length := by omega
  obtain ⟨rest, hb, h2, cap, hv, hB, hc1, hc2, hc3⟩ := OwR.blk ho (by omega)
  rw [h2, Nat.zero_add] at hx
  have hlt : (i.toNat + 1) * g.sz ≤ l.length * g.sz := Nat.mul_le_mul_right _ hi'
  rw [Nat.add_mul, Nat.one_mul] at hlt
  have ho' : i.toNat * g.sz + j < (l.flatMap g.enc ++ rest).length := by rw [List.length_append, flat_len]; omega
  refine (h_store1 hs hx hy hb ho' h1).mono fun _ H' hp => ?_
  have e1 : (l.flatMap g.enc ++ rest).set (i.toNat * g.sz + j) u = repl (l.flatMap g.enc ++ rest) (i.toNat * g.sz + j) [u] := by
    apply List.ext_getElem?
    intro k
    rw [repl_get (show i.toNat * g.sz + j + 1 ≤ _ from ho'), List.getElem?_set]
    by_cases hk : i.toNat * g.sz + j = k
    · subst hk; rw [if_pos rfl, if_pos ho', if_pos (by simp)]; simp
    · rw [if_neg hk, if_neg (by simp; omega)]
  rw [e1] at hp
  rw [show l.getD i.toNat default = l[i.toNat] by simp [List.getD, hi']] at hx'
  exact pat_of_put hi' (by simpa using hj) hx' hv hB hc1 hc2 hc3 hp
theorem h_storeOw1 {u : Value} [Inhabited α] {i : Int} {sz : Nat} {x' : α} (hs : ∀ w, (sizeOf t).run P w = .ok 1 w) (hg : g.sz = sz) (h1' : sz = 1) (hx : ev f x = some (ptr (sb v) (so v + i.toNat * sz))) (hy : ev f y = some u) (ho : Ow g H B e v l) (hi : 0 ≤ i ∧ i < l.length)
    (hx' : [u] = g.enc x') (h1 : u.oneCell' = true) : OpH P N (.store t x y) ty f H (fun _ H' => Pat g H H' B e v (l.set i.toNat x')) := by
  subst h1'
  refine h_storeOw (j := 0) hs hg hx hy ho hi (Nat.le_refl _) ?_ h1
  rw [repl_all (by rw [g.len, hg]; rfl)]; exact hx'
theorem h_storeOwA {us : List Value} [Inhabited α] {i : Int} {n : Nat} {x' : α} (hs : ∀ w, (sizeOf t).run P w = .ok n w) (hg : g.sz = n) (hx : ev f x = some (ptr (sb v) (so v + i.toNat * n))) (hy : ev f y = some (.agg us.toArray)) (ho : Ow g H B e v l) (hi : 0 ≤ i ∧ i < l.length)
    (hx' : us = g.enc x') : OpH P N (.store t x y) ty f H (fun _ H' => Pat g H H' B e v (l.set i.toNat x')) := by
  subst hg hx'
  have hi' : i.toNat < l.length := by omega
  obtain ⟨rest, hb, h2, cap, hv, hB, hc1, hc2, hc3⟩ := OwR.blk ho (by omega)
  rw [h2, Nat.zero_add] at hx
  have hlt : (i.toNat + 1) * g.sz ≤ l.length * g.sz := Nat.mul_le_mul_right _ hi'
  rw [Nat.add_mul, Nat.one_mul] at hlt
  refine (h_storeA hs hx hy hb (g.len _) (by rw [List.length_append, flat_len]; omega) (g.one _)).mono fun _ H' hp => ?_
  exact pat_of_put (j := 0) hi' (by rw [g.len]; omega) (repl_all (by rw [g.len, g.len])) hv hB hc1 hc2 hc3 hp
/-- a cell of an element -/
theorem v_loadSub [Inhabited α] {S : Nat → Prop} {i : Int} {j sz : Nat} {u : Value} (ha : ∀ w, (isAgg t).run P w = .ok false w) (hx : ev f x = some (ptr (sb v) (so v + i.toNat * sz + j))) (hs : Sl g.rep H S v l) (hsz : g.sz = sz)
    (h : 0 ≤ i ∧ i < l.length) (hu : (g.enc (l.getD i.toNat default))[j]? = some u) : OpV P N (.load t x) ty f H u := by
  subst hsz
  have hi : i.toNat < l.length := by omega
  obtain ⟨_, _, cs, h3, h4⟩ := hs.mem i.toNat hi
  refine v_load1 ha hx (h3 j u ?_)
  have : cs = g.enc l[i.toNat] := h4
  rw [this, ← show l.getD i.toNat default = l[i.toNat] by simp [List.getD, hi]]; exact hu
end
/-- a lower bound may be lowered -/
theorem Ow.base {α : Type} {g : Flat α} {H : Heap} {B B' : Nat} {e : TypeId} {v : Value} {l : List α} (h : Ow g H B e v l) (hB : B' ≤ B) : Ow g H B' e v l := by
  obtain ⟨h1, h2⟩ := h
  refine ⟨h1, ?_⟩
  rcases h2 with h2 | ⟨k, cap, cur, h3, h4, h5⟩
  · exact .inl h2
  · exact .inr ⟨k, cap, cur, h3, Nat.le_trans hB h4, h5⟩
theorem Ow.congr {α : Type} {g : Flat α} {H : Heap} {B : Nat} {e : TypeId} {v : Value} {l l' : List α} (h : Ow g H B e v l) (hl : l = l') : Ow g H B e v l' := hl ▸ h
theorem Ow.len {α : Type} {g : Flat α} {H : Heap} {B : Nat} {e : TypeId} {v : Value} {l : List α} (h : Ow g H B e v l) : l.length ≤ 9223372036854775807 := by
  rcases h.2 with ⟨_, h0⟩ | ⟨_, cap, _, _, _, _, h1, h2, _⟩
  · omega
  · simp only [maxLen] at h2; omega
end
end Go.Proofs.YtaopgjfioabfpaaGreat
