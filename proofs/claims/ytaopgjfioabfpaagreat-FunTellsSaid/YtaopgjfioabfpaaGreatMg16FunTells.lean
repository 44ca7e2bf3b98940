/- Several texts in one. No condition. -/
import Derived.Test.YtaopgjfioabfpaaGreatMg15FunTells
import Derived.Shelf.SlSortCmp.NoneTotal
import Derived.Lib.Bytealg
import Derived.Test.YtaopgjfioabfpaaGreatProg
set_option linter.unusedVariables false
set_option linter.unusedSimpArgs false
set_option maxRecDepth 20000
namespace Go.Proofs.YtaopgjfioabfpaaGreat
section
open Go.Sort Go.Shelf
theorem TotC.swo {α : Type} {cf : α → α → Int} (h : TotC cf) : SWO (ltOf cf) where
  irrefl x := by simpa [ltOf] using h.irrefl x
  trans x y z h1 h2 := by
    simp only [ltOf, decide_eq_true_eq] at *
    exact h.trans x y z h1 h2
  ntrans x y z h1 h2 := by
    simp only [ltOf, decide_eq_false_iff_not] at *
    exact h.ntrans x y z h1 h2
theorem TotC.tot {α : Type} {cf : α → α → Int} (h : TotC cf) : ∀ x y, (ltOf cf) x y = false → (ltOf cf) y x = false → x = y := fun x y h1 h2 => by
  simp only [ltOf, decide_eq_false_iff_not] at *
  exact h.eq x y h1 h2
section
variable {α : Type} [Inhabited α]
theorem putCells_take (enc : α → Value) (d : Array α) (cur : Array Value) (h : d.size ≤ cur.size) : (putCells enc 0 d cur).toList.take d.size = d.toList.map enc := by
  apply List.ext_getElem
  · simp [putCells]; omega
  · intro i h1 h2
    have hi : i < d.size := by simpa using h2
    simp only [putCells, List.getElem_take, Array.getElem_toList, Array.getElem_mapIdx, List.getElem_map, Nat.zero_add, Nat.zero_le, true_and, Nat.sub_zero]
    rw [if_pos hi, getElem!_pos d i hi]
theorem put_blk (enc : α → Value) {w : World} {b m : Nat} {cur : Array Value} {e : TypeId} {fr : Nat × Nat} (d : Array α) (os : Array Obj) (h : w.heap[b]? = some (.cells cur e fr)) :
    (grow (putRow enc (Go.Sort.ahead w m) b 0 d) os).heap[b]? = some (.cells (putCells enc 0 d cur) e fr) := by
  have hl := (Array.getElem?_eq_some_iff.1 h).1
  show ((w.heap.modify b (onCells (putCells enc 0 d))) ++ os)[b]? = _
  rw [Array.getElem?_append_left (by simpa using hl), Array.getElem?_modify, if_pos rfl, h]
  rfl
theorem put_old (enc : α → Value) {w : World} {b m x : Nat} (d : Array α) (os : Array Obj) (h : x ≠ b) (hl : x < w.heap.size) :
    (grow (putRow enc (Go.Sort.ahead w m) b 0 d) os).heap[x]? = w.heap[x]? := by
  show ((w.heap.modify b (onCells (putCells enc 0 d))) ++ os)[x]? = _
  rw [Array.getElem?_append_left (by simpa using hl), Array.getElem?_modify, if_neg (fun e => h e.symm)]
theorem put_size (enc : α → Value) {w : World} {b m : Nat} (d : Array α) (os : Array Obj) : w.heap.size ≤ (grow (putRow enc (Go.Sort.ahead w m) b 0 d) os).heap.size := by
  show _ ≤ ((w.heap.modify b (onCells (putCells enc 0 d))) ++ os).size
  simp
theorem flatK_eq (g : Flat α) (l : List α) : flatK g.enc g.sz l.toArray = (l.flatMap g.enc).toArray := by
  apply Array.ext_getElem?
  intro i
  by_cases hi : i < l.length * g.sz
  · have hk : 0 < g.sz := Nat.pos_of_ne_zero fun h => by rw [h] at hi; simp at hi
    have h1 : i / g.sz < l.length := by
      rw [Nat.div_lt_iff_lt_mul hk]; exact hi
    have h2 := Nat.mod_lt i hk
    have h3 : i / g.sz * g.sz + i % g.sz = i := Nat.div_add_mod' i g.sz
    have h4 := flat_get g l (i / g.sz) (i % g.sz) h1 h2
    rw [h3] at h4
    have h5 : (l.flatMap g.enc).toArray[i]? = (l.flatMap g.enc)[i]? := by simp
    rw [h5, h4]
    simp only [flatK, Array.getElem?_map, List.size_toArray]
    rw [Array.getElem?_range, if_pos hi]
    simp only [Option.map_some]
    rw [show l.toArray[i / g.sz]! = l[i / g.sz] by simp [h1]]
    rw [List.getElem?_eq_getElem (by rw [g.len]; exact h2), getElem!_pos _ _ (by rw [g.len]; exact h2)]
  · rw [Array.getElem?_eq_none (by simp; omega), Array.getElem?_eq_none (by simp only [List.size_toArray, flat_len]; omega)]
/-- the row's cells hold the slice's data -/
theorem ow_holds {g : Flat α} {w : World} {e : TypeId} {b n cap : Nat} {l : List α} (h : Ow g w.heap 0 e (.slice (some ⟨b, 0, none⟩) n cap) l) : HoldsK g.enc g.sz w b 0 l.toArray ∧ b < w.heap.size ∧ n = l.length ∧ ∃ cur, w.heap[b]? = some (.cells cur e (0, 0)) ∧ l.length ≤ cap ∧ cap ≤ maxLen ∧ cur.size = cap * g.sz ∧ cur.toList.take (l.length * g.sz) = l.flatMap g.enc := by
  obtain ⟨h1, h2⟩ := h
  rcases h2 with ⟨h2, _⟩ | ⟨k, cap', cur, h2, h3, h4, h5, h6, h7, h8⟩
  · cases h2
  · cases h2
    refine ⟨?_, (Array.getElem?_eq_some_iff.1 h4).1, rfl, cur, h4, h5, h6, h7, h8⟩
    unfold HoldsK Holds
    rw [flatK_eq]
    intro j hj
    have hj' : j < l.length * g.sz := by rw [List.size_toArray, flat_len] at hj; exact hj
    constructor
    · rw [cell?_eq]
      simp only [cellH, h4, Nat.zero_add]
      have : cur[j]? = (cur.toList.take (l.length * g.sz))[j]? := by rw [List.getElem?_take_of_lt hj']; simp
      rw [this, h8, getElem!_pos (l.flatMap g.enc).toArray j hj]
      rw [List.getElem?_eq_getElem (by rw [List.size_toArray] at hj; exact hj)]
      simp
    · simp [World.frozen?, h4]
theorem own_sorted {g : Flat α} {w w' : World} {Z : Nat → Prop} {L : List As} {e : TypeId} {b n cap m : Nat} {l l' : List α} {os : Array Obj} (hO : Own w.heap Z (own g e (.slice (some ⟨b, 0, none⟩) n cap) l :: L)) (hl : l'.length = l.length)
    (hw : w' = grow (putRow id (Go.Sort.ahead w m) b 0 (flatK g.enc g.sz l'.toArray)) os) : Env w w' ∧ Own w'.heap Z (own g e (.slice (some ⟨b, 0, none⟩) n cap) l' :: L) := by
  obtain ⟨-, hb, rfl, cur, h4, h5, h6, h7, h8⟩ := ow_holds (hO.ow 0 rfl)
  have h9 := put_blk (m := m) id (flatK g.enc g.sz l'.toArray) os h4
  have hold := fun x => put_old (m := m) (x := x) (b := b) id (w := w) (flatK g.enc g.sz l'.toArray) os
  have hsz := put_size (m := m) (b := b) id (w := w) (flatK g.enc g.sz l'.toArray) os
  rw [← hw] at h9 hold hsz
  refine ⟨⟨by rw [hw]; rfl, by rw [hw]; rfl, by rw [hw]; rfl, fun D o hd ho => ?_, by rw [hw]; exact Nat.le_add_right _ _⟩, ?_⟩
  · have hne : D ≠ b := by rintro rfl; rw [h4] at hd; cases hd; exact ho.elim
    exact (hold D hne (Array.getElem?_eq_some_iff.1 hd).1).trans hd
  · refine hO.grow (i := 0) rfl ?_ ⟨hsz, fun x hx hm => hold x (fun e => hm (by simp [mb, e])) hx⟩ fun _ h => .inl h
    refine ⟨flat_len g _, .inr ⟨b, cap, _, by rw [hl], Nat.zero_le _, h9, by omega, h6, by simp [putCells, h7], ?_⟩⟩
    have hle : (flatK g.enc g.sz l'.toArray).size ≤ cur.size := by
      simp only [size_flatK, List.size_toArray, hl, h7]; exact Nat.mul_le_mul_right _ h5
    have := putCells_take id (flatK g.enc g.sz l'.toArray) cur hle
    rw [flatK_eq] at this ⊢
    simp only [List.size_toArray, flat_len, List.map_id] at this
    exact this
end
/-- a comparison that keeps all: as the library's sort asks it -/
theorem lays_of {P : Program} {gid : Nat} {cb args : List Value} {n : Int}
    (hp : ∀ (Ls : List As) {H : Heap} {Z : Nat → Prop}, Own H Z Ls → HC P gid ([] ++ args ++ cb) H (fun v H' => ∃ Z' : Nat → Prop, (∀ b, Z b → Z' b) ∧ v = .int .i64 n ∧ Own H' Z' Ls)) (W : World) :
    Calls P gid (args.toArray ++ cb.toArray) W fun e w' => e = .returned (.int .i64 n) ∧ ∃ q os, w' = grow (W.drewN q) os := by
  have h := hp [was W.heap] (Own.start W.heap) W rfl
  rw [show (([] : List Value) ++ args ++ cb).toArray = args.toArray ++ cb.toArray by simp] at h
  refine h.mono ?_
  rintro e w' ⟨v, rfl, henv, Z', _, rfl, hO⟩
  have hx : Ext [] W.heap w'.heap := hO.same (i := 0) rfl henv.keep
  refine ⟨rfl, w'.drawn - W.drawn, w'.heap.extract W.heap.size w'.heap.size, ?_⟩
  have e1 : w'.heap = W.heap ++ w'.heap.extract W.heap.size w'.heap.size := by
    apply Array.ext_getElem?
    intro i
    rw [Array.getElem?_append]
    split
    · rename_i hi; exact hx.old i hi (by simp)
    · rename_i hi
      have := hx.size
      rw [Array.getElem?_extract]
      split
      · rename_i h2; congr 1; omega
      · rename_i h2; rw [Array.getElem?_eq_none (by omega)]
  obtain ⟨a1, a2, a3, _, a5⟩ := henv
  cases w' with
  | mk hp tp dr o ou =>
    simp only [grow, World.drewN] at *
    subst a1 a2 a3
    congr 1
    omega
section
variable {P : Program} {ρ : Ren} {α : Type} [Inhabited α] {g : Flat α} {e : TypeId} {v : Value} {l : List α} {cf : α → α → Int} {gid : Nat} {cb : List Value} {H : Heap} {Z : Nat → Prop} {L : List As}
omit [Inhabited α] in
theorem srt_len (cf : α → α → Int) (l : List α) : (srtL cf l).length = l.length := List.length_mergeSort _
omit [Inhabited α] in
theorem hc_sortN (lay : SlLaysF0.n6 P ρ) (fv : Value) (hO : Own H Z (own g e (.slice none 0 0) l :: L)) :
    HC P (ρ.f 6) [.slice none 0 0, fv] H (fun r H' => ∃ Z' : Nat → Prop, (∀ b, Z b → Z' b) ∧ r = .tuple #[] ∧ Own H' Z' (own g e (.slice none 0 0) (srtL cf l) :: L)) := by
  intro w hw
  subst hw
  have hl : l = [] := by
    obtain ⟨-, h2⟩ := hO.ow 0 rfl
    rcases h2 with ⟨-, h2⟩ | ⟨k, cap', cur, h2, _⟩
    · exact List.eq_nil_of_length_eq_zero h2
    · cases h2
  refine (AnyF.slices_SortFunc_none lay none 0 fv w).mono ?_
  rintro e w' ⟨rfl, rfl⟩
  refine ⟨_, rfl, .refl _, Z, fun _ h => h, rfl, ?_⟩
  subst hl
  rw [show srtL cf ([] : List α) = [] by simp [srtL]]
  exact hO
theorem hc_sortK (lay : SlLaysF0.n6 P ρ) (aE : ∀ w, (isAgg (ρ.t 24)).run P w = .ok true w) (zE : ∀ w, (Go.sizeOf (ρ.t 24)).run P w = .ok g.sz w) (hC : TotC cf ∧ l.length < 4611686018427387904)
    (hO : Own H Z (own g e v l :: L)) (eg : ∀ args w, (callFunc gid args).run P w = .ok (.enter gid args) w)
    (hp : ∀ (Ls : List As) (x y : α) {H : Heap} {Z : Nat → Prop}, Own H Z Ls → HC P gid ([] ++ [.agg (g.enc x).toArray, .agg (g.enc y).toArray] ++ cb) H (fun v H' => ∃ Z' : Nat → Prop, (∀ b, Z b → Z' b) ∧ v = .int .i64 (cf x y) ∧ Own H' Z' Ls)) :
    HC P (ρ.f 6) [v, .func (.func gid) #[] cb.toArray] H (fun r H' => ∃ Z' : Nat → Prop, (∀ b, Z b → Z' b) ∧ r = .tuple #[] ∧ Own H' Z' (own g e v (srtL cf l) :: L)) := by
  have h0 := hO.ow 0 rfl
  rcases h0.2 with ⟨rfl, _⟩ | ⟨b, cap, cur, rfl, _⟩
  · exact hc_sortN lay _ hO
  · intro w hw
    subst hw
    obtain ⟨hH, hb, -, -⟩ := ow_holds h0
    have hh := AnyQ.slices_SortFunc_total lay g.sz aE zE g.enc g.len g.one cf hC.1.swo gid cb.toArray b 0 cap l.toArray w eg (fun m os dk _ x y => lays_of (fun Ls {H Z} hO => hp Ls x y hO) _) hH hb (by simpa using hC.2) hC.1.tot
    rw [List.size_toArray] at hh
    refine Calls.mono hh ?_
    rintro e1 w' ⟨rfl, n, os, hw⟩
    obtain ⟨k1, k2⟩ := own_sorted (l' := srtL cf l) hO (srt_len cf l) hw
    exact ⟨_, rfl, k1, Z, fun _ h => h, rfl, k2⟩
end
theorem compareBytes_eq : ∀ (a b : List UInt8), Lib.compareBytes a b = cmpS a b
  | [], [] => rfl
  | [], _ :: _ => rfl
  | _ :: _, [] => rfl
  | a :: l, b :: m => by
    simp only [Lib.compareBytes, cmpS, cmpL, orZ, cmpB]
    have ih : Lib.compareBytes l m = cmpL cmpB l m := compareBytes_eq l m
    by_cases h1 : a < b
    · simp [h1]
    · by_cases h2 : b < a <;> simp [h1, h2, ih]
end
section
end
section
/-! ## a builder holds edges, or is full -/
end
section
end
section
/-- rows of the same states -/
def SameS (l m : List Int) : Prop := ∀ s, l.contains s = m.contains s
theorem SameS.step {n : GNfa} {l m : List Int} (h : SameS l m) (b : UInt8) : nStep n l b = nStep n m b := by
  unfold nStep; congr 1; congr 1; funext x; rw [h x.From]
theorem SameS.drop {l m : List Int} (h : SameS l m) (s : Int) (hs : l.contains s = true) : SameS l (m ++ [s]) := fun q => by
  have h1 := h q; have h2 := h s
  simp only [List.contains_eq_mem, List.mem_append, List.mem_singleton] at h1 h2 hs ⊢
  rw [decide_eq_decide] at h1 h2 ⊢
  rw [decide_eq_true_eq] at hs
  constructor
  · intro h; exact .inl (h1.mp h)
  · rintro (h | rfl)
    · exact h1.mpr h
    · exact hs
end
section
open Go.Proofs
theorem Tryz.mixed : Tryz.prog.follows .mixedOrders = true := by kernel_rfl
theorem Of_spec {v0 : Value} {l : List UInt8} {S : Nat → Prop} {H : Heap} (hs : Sl fByte.rep H S v0 l) (hS : ∀ b, S b → b < H.size) : HC Tryz.prog 17 [v0] H (fun v H' => v = sv (.ofL l) ∧ Ext [] H H') := by
  have hx0 : Ext [] H H := Ext.refl _
  have hcap := hs.cap
  refine hc_of_hw (N := 23) (rs := [(.cell 2 37)]) Tryz.func17 rfl rfl rfl rfl ?_
  refine hw_seq ?_
  refine hw_region ?_
  refine hl_h (h_allocS Tryz.zeroValue37) rfl ?_
  rintro _ H1 ⟨rfl, n2⟩
  have n2s := n2.size
  replace hx0 := Ext.trans hx0 n2.ext
  replace hs := Sl.ext0 hs n2.ext
  have n2b := n2.blk
  refine hl_nil ?_
  refine thenQ_n ?_
  refine hw_sub _ (ai_cons (t := 0) rfl (ai_cons (t := 2) rfl ai_nil)) ?_
  refine hw_seq ?_
  refine hw_region ?_
  refine hl_h (h_allocS Tryz.zeroValue37) rfl ?_
  rintro _ H3 ⟨rfl, n4⟩
  have n4s := n4.size
  replace hx0 := Ext.trans hx0 n4.ext
  replace hs := Sl.ext0 hs n4.ext
  replace n2b := Ext.blk n4.ext n2b (by simp)
  have n4b := n4.blk
  refine hl_nil ?_
  refine thenQ_n ?_
  refine hw_sub _ (ai_cons (t := 0) rfl (ai_cons (t := 2) rfl (ai_cons (t := 3) rfl ai_nil))) ?_
  refine hw_seq ?_
  refine hw_seq ?_
  refine hw_region ?_
  refine hl_v (v_move rfl) rfl ?_
  refine hl_v (v_lenL rfl Tryz.underlying33 rfl (by first | assumption | exact Ow.sl0 (by assumption))) rfl ?_
  refine hl_v (v_move rfl) rfl ?_
  refine hl_nil ?_
  refine thenQ_n ?_
  refine hw_sub _ (ai_cons (t := 2) rfl (ai_cons (t := 3) rfl (ai_cons (t := 6) rfl (ai_cons (t := 7) rfl (ai_cons (t := 8) rfl ai_nil))))) ?_
  refine hw_block ?_
  refine hw_loop (α := Nat) [(2, _), (3, _), (6, _), (7, _)] (fun k => [(8, .int .i64 (k : Int))]) (fun k G3 => Ext [] H G3 ∧ Sl fByte.rep G3 S v0 l ∧ Blk G3 H.size (sw .zero) 37 ∧ Blk G3 H1.size (sw (.ofL (l.take k))) 37 ∧ H3.size ≤ G3.size ∧ k ≤ l.length) (fun k => l.length - k) 0 (ai_cons (t := 8) rfl (ai_cons (t := 2) rfl (ai_cons (t := 3) rfl (ai_cons (t := 6) rfl (ai_cons (t := 7) rfl ai_nil))))) ?_ ?_
  · exact ⟨hx0, hs, n2b, n4b, Nat.le_refl _, Nat.zero_le _⟩
  · intro k G3 hI
    obtain ⟨hx0, hs, n2b, n4b, hz, hk⟩ := hI
    have hx0z := hx0.size
    refine hw_seq ?_
    refine hw_region ?_
    refine hl_v (v_lss rfl rfl) rfl ?_
    refine hl_nil ?_
    refine thenQ_n ?_
    refine hw_sub _ (ai_cons (t := 2) rfl (ai_cons (t := 3) rfl (ai_cons (t := 6) rfl (ai_cons (t := 7) rfl (ai_cons (t := 8) rfl (ai_cons (t := 9) rfl ai_nil)))))) ?_
    refine hw_seq ?_
    refine hw_cond rfl (fun hc5 => ?_) (fun hc5 => ?_)
    · try simp only [decide_eq_true_eq, decide_eq_false_iff_not, Bool.and_eq_true, Bool.and_eq_false_iff, Bool.or_eq_true, Bool.or_eq_false_iff, Bool.not_eq_true', Bool.not_eq_false', Bool.not_eq_true, Bool.not_eq_false, beq_iff_eq, Int.not_lt, Int.not_le] at hc5
      refine hw_skip ?_
      refine thenQ_n ?_
      refine hw_seq ?_
      refine hw_block ?_
      refine hw_seq ?_
      refine hw_region ?_
      refine hl_v (v_ixL Tryz.underlying33 Tryz.sizeOf5 rfl rfl (by first | assumption | exact Ow.sl0 (by assumption)) (by first | omega | assumption | (simp only [Int.toNat_natCast]; omega) | (simp; done) | (simp at *; omega))) rfl ?_
      refine hl_v (v_loadSc Tryz.isAgg5 rfl (by first | assumption | exact Ow.sl0 (by assumption)) rfl (by first | omega | assumption | (simp only [Int.toNat_natCast]; omega) | (simp; done) | (simp at *; omega)) rfl) rfl ?_
      refine hl_v (v_assign rfl) rfl ?_
      refine hl_nil ?_
      refine thenQ_n ?_
      refine hw_sub _ (ai_cons (t := 2) rfl (ai_cons (t := 3) rfl (ai_cons (t := 5) rfl (ai_cons (t := 6) rfl (ai_cons (t := 7) rfl (ai_cons (t := 8) rfl ai_nil)))))) ?_
      have hbyte := (l.getD k default).toNat_lt
      refine hw_region ?_
      refine hl_v (v_move rfl) rfl ?_
      refine hl_v (v_quo8 rfl rfl (by first | omega | assumption | (simp only [Int.toNat_natCast]; omega) | (simp; done) | (simp at *; omega))) rfl ?_
      refine hl_v (v_ixS Tryz.underlying37 Tryz.sizeOf35 rfl rfl (by first | omega | assumption | (simp only [Int.toNat_natCast]; omega) | (simp; done) | (simp at *; omega))) rfl ?_
      refine hl_v (v_loadW Tryz.isAgg35 rfl (by first | exact n4b | assumption) (by first | omega | assumption | (simp only [Int.toNat_natCast]; omega) | (simp; done) | (simp at *; omega))) rfl ?_
      refine hl_v (v_move rfl) rfl ?_
      refine hl_v (v_rem8 rfl rfl (by first | omega | assumption | (simp only [Int.toNat_natCast]; omega) | (simp; done) | (simp at *; omega))) rfl ?_
      refine hl_v (v_shl64 (show _ = some (w64 1#64) from rfl) rfl (by first | omega | assumption | (simp only [Int.toNat_natCast]; omega) | (simp; done) | (simp at *; omega))) rfl ?_
      refine hl_v (v_or64 rfl rfl) rfl ?_
      refine hl_v (v_ixS Tryz.underlying37 Tryz.sizeOf35 rfl rfl (by first | omega | assumption | (simp only [Int.toNat_natCast]; omega) | (simp; done) | (simp at *; omega))) rfl ?_
      refine hl_s (h_storeW Tryz.sizeOf35 rfl rfl n4b (by first | omega | assumption | (simp only [Int.toNat_natCast]; omega) | (simp; done) | (simp at *; omega))) ?_
      rintro _ H6 p7
      have p7s := p7.size
      replace hx0 := Ext.fresh hx0 p7.ext (by intro b hb; simp at hb; omega)
      replace hs := Sl.ext hs p7.ext (by intro b hb; (try have hSb := hS b hb); (try simp only [mb, List.mem_singleton] at hb); simp; omega)
      replace n2b := Ext.blk p7.ext n2b (by (try simp only [mb, List.mem_singleton] at hb); simp; omega)
      replace n4b := p7.blk
      refine hl_nil ?_
      refine blockQ_n ?_
      refine thenQ_n ?_
      refine hw_region ?_
      refine hl_v (v_add rfl rfl (by first | omega | assumption | (simp only [Int.toNat_natCast]; omega) | (simp; done) | (simp at *; omega))) rfl ?_
      refine hl_v (v_move rfl) rfl ?_
      refine hl_nil ?_
      refine thenQ_n ?_
      refine ⟨k + 1, (ai_cons (t := 8) rfl (ai_cons (t := 2) rfl (ai_cons (t := 3) rfl (ai_cons (t := 6) rfl (ai_cons (t := 7) rfl ai_nil))))), ?_, ?_⟩
      · skip
        exact ⟨hx0, hs, n2b, (by rw [take_snoc (by omega), BSet.ofL_snoc]; exact n4b), (by omega), by omega⟩
      · omega
    · try simp only [decide_eq_true_eq, decide_eq_false_iff_not, Bool.and_eq_true, Bool.and_eq_false_iff, Bool.or_eq_true, Bool.or_eq_false_iff, Bool.not_eq_true', Bool.not_eq_false', Bool.not_eq_true, Bool.not_eq_false, beq_iff_eq, Int.not_lt, Int.not_le] at hc5
      refine hw_exit ?_
      refine thenQ_e ?_
      refine thenQ_e ?_
      refine blockQ_hit ?_
      refine thenQ_n ?_
      refine hw_seq ?_
      refine hw_region ?_
      refine hl_v (v_loadS Tryz.isAgg37 Tryz.sizeOf37 rfl (by first | exact n4b | assumption)) rfl ?_
      refine hl_s (h_storeS Tryz.sizeOf37 rfl rfl n2b) ?_
      rintro _ H8 p9
      have p9s := p9.size
      replace hx0 := Ext.fresh hx0 p9.ext (by intro b hb; simp at hb; omega)
      replace hs := Sl.ext hs p9.ext (by intro b hb; (try have hSb := hS b hb); (try simp only [mb, List.mem_singleton] at hb); simp; omega)
      replace n4b := Ext.blk p9.ext n4b (by (try simp only [mb, List.mem_singleton] at hb); simp; omega)
      replace n2b := p9.blk
      refine hl_nil ?_
      refine thenQ_n ?_
      refine hw_sub _ (ai_cons (t := 2) rfl ai_nil) ?_
      refine hw_ret ?_
      refine ret_i _ (ra_c rfl (fun w hw => run_loadVar_at Tryz.isAgg37 Tryz.sizeOf37 (Blk.at0 (by assumption)) rfl w hw) ra_nil) ?_
      refine ⟨?_, hx0⟩
      rw [List.take_of_length_le (by omega)]; rfl
theorem Both1_spec (a b : BitVec 64) (H : Heap) : HC Tryz.prog 72 [w64 a, w64 b] H (fun v H' => v = w64 (a &&& b) ∧ H' = H) := by
  refine hc_of_hw (N := 8) (rs := [(.tmp 4)]) Tryz.func72 rfl rfl rfl rfl ?_
  refine hw_seq ?_
  refine hw_region ?_
  refine hl_v (v_assign rfl) rfl ?_
  refine hl_nil ?_
  refine thenQ_n ?_
  refine hw_sub _ (ai_cons (t := 0) rfl (ai_cons (t := 1) rfl ai_nil)) ?_
  refine hw_seq ?_
  refine hw_region ?_
  refine hl_v (v_move rfl) rfl ?_
  refine hl_v (v_move rfl) rfl ?_
  refine hl_v (v_and64 rfl rfl) rfl ?_
  refine hl_v (v_assign rfl) rfl ?_
  refine hl_nil ?_
  refine thenQ_n ?_
  refine hw_sub _ (ai_cons (t := 4) rfl ai_nil) ?_
  refine hw_ret ?_
  refine ret_i _ (ra_t rfl ra_nil) ?_
  exact ⟨rfl, rfl⟩
theorem each_spec {s t : BSet} {g : Nat} {J : BitVec 64 → BitVec 64 → BitVec 64} {H : Heap} (hg : ∀ args w, (callFunc g args).run Tryz.prog w = .ok (.enter g args) w) (hj : ∀ (a b : BitVec 64) (H : Heap), HC Tryz.prog g [w64 a, w64 b] H (fun v H' => v = w64 (J a b) ∧ H' = H)) : HC Tryz.prog 71 [sv s, sv t, .func (.func g) #[] #[]] H (fun v H' => v = sv (.map2 J s t) ∧ Ext [] H H') := by
  have hx0 : Ext [] H H := Ext.refl _
  refine hc_of_hw (N := 24) (rs := [(.cell 6 37)]) Tryz.func71 rfl rfl rfl rfl ?_
  refine hw_seq ?_
  refine hw_region ?_
  refine hl_h (h_boxS rfl) rfl ?_
  rintro _ H1 ⟨rfl, n2⟩
  have n2s := n2.size
  replace hx0 := Ext.trans hx0 n2.ext
  have n2b := n2.blk
  refine hl_h (h_boxS rfl) rfl ?_
  rintro _ H3 ⟨rfl, n4⟩
  have n4s := n4.size
  replace hx0 := Ext.trans hx0 n4.ext
  replace n2b := Ext.blk n4.ext n2b (by simp)
  have n4b := n4.blk
  refine hl_h (h_allocS Tryz.zeroValue37) rfl ?_
  rintro _ H5 ⟨rfl, n6⟩
  have n6s := n6.size
  replace hx0 := Ext.trans hx0 n6.ext
  replace n2b := Ext.blk n6.ext n2b (by simp)
  replace n4b := Ext.blk n6.ext n4b (by simp)
  have n6b := n6.blk
  refine hl_nil ?_
  refine thenQ_n ?_
  refine hw_sub _ (ai_cons (t := 2) rfl (ai_cons (t := 3) rfl (ai_cons (t := 4) rfl (ai_cons (t := 6) rfl ai_nil)))) ?_
  refine hw_seq ?_
  refine hw_seq ?_
  refine hw_region ?_
  refine hl_v (v_loadS Tryz.isAgg37 Tryz.sizeOf37 rfl (by first | exact n2b | assumption)) rfl ?_
  refine hl_v (v_move rfl) rfl ?_
  refine hl_nil ?_
  refine thenQ_n ?_
  refine hw_sub _ (ai_cons (t := 2) rfl (ai_cons (t := 3) rfl (ai_cons (t := 4) rfl (ai_cons (t := 6) rfl (ai_cons (t := 9) rfl (ai_cons (t := 10) rfl ai_nil)))))) ?_
  refine hw_block ?_
  refine hw_loop (α := Nat) [(2, _), (3, _), (4, _), (6, _), (9, _)] (fun k => [(10, .int .i64 (k : Int))]) (fun k G2 => Ext [] H G2 ∧ Blk G2 H.size (sw (.map2k J s t k)) 37 ∧ Blk G2 H1.size (sw t) 37 ∧ Blk G2 H3.size (sw .zero) 37 ∧ H5.size ≤ G2.size ∧ k ≤ 4) (fun k => 4 - k) 0 (ai_cons (t := 10) rfl (ai_cons (t := 2) rfl (ai_cons (t := 3) rfl (ai_cons (t := 4) rfl (ai_cons (t := 6) rfl (ai_cons (t := 9) rfl ai_nil)))))) ?_ ?_
  · exact ⟨hx0, n2b, n4b, n6b, Nat.le_refl _, Nat.zero_le _⟩
  · intro k G2 hI
    obtain ⟨hx0, n2b, n4b, n6b, hz, hk⟩ := hI
    have hx0z := hx0.size
    refine hw_seq ?_
    refine hw_region ?_
    refine hl_v (v_lss rfl rfl) rfl ?_
    refine hl_nil ?_
    refine thenQ_n ?_
    refine hw_sub _ (ai_cons (t := 2) rfl (ai_cons (t := 3) rfl (ai_cons (t := 4) rfl (ai_cons (t := 6) rfl (ai_cons (t := 9) rfl (ai_cons (t := 10) rfl (ai_cons (t := 11) rfl ai_nil))))))) ?_
    refine hw_seq ?_
    refine hw_cond rfl (fun hc7 => ?_) (fun hc7 => ?_)
    · try simp only [decide_eq_true_eq, decide_eq_false_iff_not, Bool.and_eq_true, Bool.and_eq_false_iff, Bool.or_eq_true, Bool.or_eq_false_iff, Bool.not_eq_true', Bool.not_eq_false', Bool.not_eq_true, Bool.not_eq_false, beq_iff_eq, Int.not_lt, Int.not_le] at hc7
      refine hw_skip ?_
      refine thenQ_n ?_
      refine hw_seq ?_
      refine hw_block ?_
      refine hw_seq ?_
      refine hw_region ?_
      refine hl_v (v_move rfl) rfl ?_
      refine hl_v (v_ixVS Tryz.underlying37 Tryz.sizeOf35 Tryz.isAgg35 rfl rfl (by first | omega | assumption | (simp only [Int.toNat_natCast]; omega) | (simp; done) | (simp at *; omega))) rfl ?_
      refine hl_v (v_assign rfl) rfl ?_
      refine hl_v (v_assign rfl) rfl ?_
      refine hl_nil ?_
      refine thenQ_n ?_
      refine hw_sub _ (ai_cons (t := 2) rfl (ai_cons (t := 3) rfl (ai_cons (t := 4) rfl (ai_cons (t := 6) rfl (ai_cons (t := 7) rfl (ai_cons (t := 8) rfl (ai_cons (t := 9) rfl (ai_cons (t := 10) rfl ai_nil)))))))) ?_
      refine hw_region ?_
      refine hl_v (v_move rfl) rfl ?_
      refine hl_v (v_move rfl) rfl ?_
      refine hl_v (v_move rfl) rfl ?_
      refine hl_v (v_move rfl) rfl ?_
      refine hl_v (v_ixS Tryz.underlying37 Tryz.sizeOf35 rfl rfl (by first | omega | assumption | (simp only [Int.toNat_natCast]; omega) | (simp; done) | (simp at *; omega))) rfl ?_
      refine hl_v (v_loadW Tryz.isAgg35 rfl (by first | exact n4b | assumption) (by first | omega | assumption | (simp only [Int.toNat_natCast]; omega) | (simp; done) | (simp at *; omega))) rfl ?_
      refine hl_v (v_callv (fs := []) (cs := []) hg rfl (evs_cons rfl (evs_cons rfl evs_nil)) (hj _ _ _)) rfl ?_
      refine hl_v (v_ixS Tryz.underlying37 Tryz.sizeOf35 rfl rfl (by first | omega | assumption | (simp only [Int.toNat_natCast]; omega) | (simp; done) | (simp at *; omega))) rfl ?_
      refine hl_s (h_storeW Tryz.sizeOf35 rfl rfl n2b (by first | omega | assumption | (simp only [Int.toNat_natCast]; omega) | (simp; done) | (simp at *; omega))) ?_
      rintro _ H8 p9
      have p9s := p9.size
      replace hx0 := Ext.fresh hx0 p9.ext (by intro b hb; simp at hb; omega)
      replace n4b := Ext.blk p9.ext n4b (by (try simp only [mb, List.mem_singleton] at hb); simp; omega)
      replace n6b := Ext.blk p9.ext n6b (by (try simp only [mb, List.mem_singleton] at hb); simp; omega)
      replace n2b := p9.blk
      refine hl_nil ?_
      refine blockQ_n ?_
      refine thenQ_n ?_
      refine hw_region ?_
      refine hl_v (v_add rfl rfl (by first | omega | assumption | (simp only [Int.toNat_natCast]; omega) | (simp; done) | (simp at *; omega))) rfl ?_
      refine hl_v (v_move rfl) rfl ?_
      refine hl_nil ?_
      refine thenQ_n ?_
      refine ⟨k + 1, (ai_cons (t := 10) rfl (ai_cons (t := 2) rfl (ai_cons (t := 3) rfl (ai_cons (t := 4) rfl (ai_cons (t := 6) rfl (ai_cons (t := 9) rfl ai_nil)))))), ?_, ?_⟩
      · skip
        exact ⟨hx0, (by rw [← BSet.map2k_succ J s t (by omega)]; exact n2b), n4b, n6b, (by omega), by omega⟩
      · omega
    · try simp only [decide_eq_true_eq, decide_eq_false_iff_not, Bool.and_eq_true, Bool.and_eq_false_iff, Bool.or_eq_true, Bool.or_eq_false_iff, Bool.not_eq_true', Bool.not_eq_false', Bool.not_eq_true, Bool.not_eq_false, beq_iff_eq, Int.not_lt, Int.not_le] at hc7
      refine hw_exit ?_
      refine thenQ_e ?_
      refine thenQ_e ?_
      refine blockQ_hit ?_
      refine thenQ_n ?_
      refine hw_seq ?_
      refine hw_region ?_
      refine hl_v (v_loadS Tryz.isAgg37 Tryz.sizeOf37 rfl (by first | exact n2b | assumption)) rfl ?_
      refine hl_s (h_storeS Tryz.sizeOf37 rfl rfl n6b) ?_
      rintro _ H10 p11
      have p11s := p11.size
      replace hx0 := Ext.fresh hx0 p11.ext (by intro b hb; simp at hb; omega)
      replace n2b := Ext.blk p11.ext n2b (by (try simp only [mb, List.mem_singleton] at hb); simp; omega)
      replace n4b := Ext.blk p11.ext n4b (by (try simp only [mb, List.mem_singleton] at hb); simp; omega)
      replace n6b := p11.blk
      refine hl_nil ?_
      refine thenQ_n ?_
      refine hw_sub _ (ai_cons (t := 6) rfl ai_nil) ?_
      refine hw_ret ?_
      refine ret_i _ (ra_c rfl (fun w hw => run_loadVar_at Tryz.isAgg37 Tryz.sizeOf37 (Blk.at0 (by assumption)) rfl w hw) ra_nil) ?_
      obtain rfl : k = 4 := by omega
      exact ⟨rfl, hx0⟩
theorem Both_spec {s t : BSet} {H : Heap} : HC Tryz.prog 49 [sv s, sv t] H (fun v H' => v = sv (.band s t) ∧ Ext [] H H') := by
  have hx0 : Ext [] H H := Ext.refl _
  refine hc_of_hw (N := 8) (rs := [(.cell 4 37)]) Tryz.func49 rfl rfl rfl rfl ?_
  refine hw_seq ?_
  refine hw_region ?_
  refine hl_h (h_boxS rfl) rfl ?_
  rintro _ H1 ⟨rfl, n2⟩
  have n2s := n2.size
  replace hx0 := Ext.trans hx0 n2.ext
  have n2b := n2.blk
  refine hl_h (h_boxS rfl) rfl ?_
  rintro _ H3 ⟨rfl, n4⟩
  have n4s := n4.size
  replace hx0 := Ext.trans hx0 n4.ext
  replace n2b := Ext.blk n4.ext n2b (by simp)
  have n4b := n4.blk
  refine hl_h (h_allocS Tryz.zeroValue37) rfl ?_
  rintro _ H5 ⟨rfl, n6⟩
  have n6s := n6.size
  replace hx0 := Ext.trans hx0 n6.ext
  replace n2b := Ext.blk n6.ext n2b (by simp)
  replace n4b := Ext.blk n6.ext n4b (by simp)
  have n6b := n6.blk
  refine hl_nil ?_
  refine thenQ_n ?_
  refine hw_sub _ (ai_cons (t := 2) rfl (ai_cons (t := 3) rfl (ai_cons (t := 4) rfl ai_nil))) ?_
  refine hw_seq ?_
  refine hw_region ?_
  refine hl_v (v_loadS Tryz.isAgg37 Tryz.sizeOf37 rfl (by first | exact n2b | assumption)) rfl ?_
  refine hl_v (v_loadS Tryz.isAgg37 Tryz.sizeOf37 rfl (by first | exact n4b | assumption)) rfl ?_
  refine hl_h (h_call Tryz.call71 (evs_cons rfl (evs_cons rfl (evs_cons rfl evs_nil))) (each_spec Tryz.call72 Both1_spec)) rfl ?_
  rintro _ H7 ⟨rfl, n8⟩
  have n8s := n8.size
  replace hx0 := Ext.trans hx0 n8
  replace n2b := Ext.blk n8 n2b (by simp)
  replace n4b := Ext.blk n8 n4b (by simp)
  replace n6b := Ext.blk n8 n6b (by simp)
  refine hl_s (h_storeS Tryz.sizeOf37 rfl rfl n6b) ?_
  rintro _ H9 p10
  have p10s := p10.size
  replace hx0 := Ext.fresh hx0 p10.ext (by intro b hb; simp at hb; omega)
  replace n2b := Ext.blk p10.ext n2b (by (try simp only [mb, List.mem_singleton] at hb); simp; omega)
  replace n4b := Ext.blk p10.ext n4b (by (try simp only [mb, List.mem_singleton] at hb); simp; omega)
  replace n6b := p10.blk
  refine hl_nil ?_
  refine thenQ_n ?_
  refine hw_sub _ (ai_cons (t := 4) rfl ai_nil) ?_
  refine hw_ret ?_
  refine ret_i _ (ra_c rfl (fun w hw => run_loadVar_at Tryz.isAgg37 Tryz.sizeOf37 (Blk.at0 (by assumption)) rfl w hw) ra_nil) ?_
  exact ⟨rfl, hx0⟩
theorem Has_spec {s : BSet} {c : UInt8} {H : Heap} : HC Tryz.prog 53 [sv s, .int .u8 c.toNat] H (fun v H' => v = .bool (s.has c.toNat) ∧ Ext [] H H') := by
  have hx0 : Ext [] H H := Ext.refl _
  have hc := c.toNat_lt
  refine hc_of_hw (N := 14) (rs := [(.tmp 4)]) Tryz.func53 rfl rfl rfl rfl ?_
  refine hw_seq ?_
  refine hw_region ?_
  refine hl_h (h_boxS rfl) rfl ?_
  rintro _ H1 ⟨rfl, n2⟩
  have n2s := n2.size
  replace hx0 := Ext.trans hx0 n2.ext
  have n2b := n2.blk
  refine hl_v (v_assign rfl) rfl ?_
  refine hl_nil ?_
  refine thenQ_n ?_
  refine hw_sub _ (ai_cons (t := 1) rfl (ai_cons (t := 2) rfl ai_nil)) ?_
  refine hw_seq ?_
  refine hw_region ?_
  refine hl_v (v_move rfl) rfl ?_
  refine hl_v (v_quo8 rfl rfl (by first | omega | assumption | (simp only [Int.toNat_natCast]; omega) | (simp; done) | (simp at *; omega))) rfl ?_
  refine hl_v (v_ixS Tryz.underlying37 Tryz.sizeOf35 rfl rfl (by first | omega | assumption | (simp only [Int.toNat_natCast]; omega) | (simp; done) | (simp at *; omega))) rfl ?_
  refine hl_v (v_loadW Tryz.isAgg35 rfl (by first | exact n2b | assumption) (by first | omega | assumption | (simp only [Int.toNat_natCast]; omega) | (simp; done) | (simp at *; omega))) rfl ?_
  refine hl_v (v_move rfl) rfl ?_
  refine hl_v (v_rem8 rfl rfl (by first | omega | assumption | (simp only [Int.toNat_natCast]; omega) | (simp; done) | (simp at *; omega))) rfl ?_
  refine hl_v (v_shr64 rfl rfl (by first | omega | assumption | (simp only [Int.toNat_natCast]; omega) | (simp; done) | (simp at *; omega))) rfl ?_
  refine hl_v (v_and64 rfl (show _ = some (w64 1#64) from rfl)) rfl ?_
  refine hl_v (v_eql64 rfl (show _ = some (w64 1#64) from rfl)) rfl ?_
  refine hl_v (v_assign rfl) rfl ?_
  refine hl_nil ?_
  refine thenQ_n ?_
  refine hw_sub _ (ai_cons (t := 4) rfl ai_nil) ?_
  refine hw_ret ?_
  refine ret_i _ (ra_t rfl ra_nil) ?_
  exact ⟨congrArg Value.bool (BSet.has_shr s hc), hx0⟩
theorem power_spec {n : Int} {H : Heap} (h0 : 0 ≤ n ∧ n ≤ 1000) : HC Tryz.prog 32 [.int .i64 n] H (fun v H' => v = w64 (1#64 <<< n.toNat) ∧ H' = H) := by
  refine hc_of_hw (N := 13) (rs := [(.tmp 2)]) Tryz.func32 rfl rfl rfl rfl ?_
  refine hw_seq ?_
  refine hw_region ?_
  refine hl_v (v_assign rfl) rfl ?_
  refine hl_nil ?_
  refine thenQ_n ?_
  refine hw_sub _ (ai_cons (t := 0) rfl ai_nil) ?_
  refine hw_seq ?_
  refine hw_region ?_
  refine hl_v (v_assign rfl) rfl ?_
  refine hl_nil ?_
  refine thenQ_n ?_
  refine hw_sub _ (ai_cons (t := 0) rfl (ai_cons (t := 3) rfl ai_nil)) ?_
  refine hw_seq ?_
  refine hw_seq ?_
  refine hw_region ?_
  refine hl_v (v_assign rfl) rfl ?_
  refine hl_nil ?_
  refine thenQ_n ?_
  refine hw_sub _ (ai_cons (t := 0) rfl (ai_cons (t := 3) rfl (ai_cons (t := 4) rfl ai_nil))) ?_
  refine hw_block ?_
  refine hw_loop (α := Nat) [(0, _)] (fun k => [(3, w64 (1#64 <<< k)), (4, .int .i64 (k : Int))]) (fun k G3 => G3 = H ∧ (k : Int) ≤ n) (fun k => n.toNat - k) 0 (ai_cons (t := 3) rfl (ai_cons (t := 4) rfl (ai_cons (t := 0) rfl ai_nil))) ?_ ?_
  · exact ⟨rfl, h0.1⟩
  · intro k G3 hI
    obtain ⟨rfl, hk⟩ := hI
    refine hw_seq ?_
    refine hw_seq ?_
    refine hw_region ?_
    refine hl_v (v_move rfl) rfl ?_
    refine hl_v (v_move rfl) rfl ?_
    refine hl_v (v_lss rfl rfl) rfl ?_
    refine hl_nil ?_
    refine thenQ_n ?_
    refine hw_sub _ (ai_cons (t := 0) rfl (ai_cons (t := 3) rfl (ai_cons (t := 4) rfl (ai_cons (t := 7) rfl ai_nil)))) ?_
    refine hw_cond rfl (fun hc1 => ?_) (fun hc1 => ?_)
    · try simp only [decide_eq_true_eq, decide_eq_false_iff_not, Bool.and_eq_true, Bool.and_eq_false_iff, Bool.or_eq_true, Bool.or_eq_false_iff, Bool.not_eq_true', Bool.not_eq_false', Bool.not_eq_true, Bool.not_eq_false, beq_iff_eq, Int.not_lt, Int.not_le] at hc1
      refine hw_skip ?_
      refine thenQ_n ?_
      refine hw_seq ?_
      refine hw_block ?_
      refine hw_region ?_
      refine hl_v (v_move rfl) rfl ?_
      refine hl_v (v_mul64 (show _ = some (w64 2#64) from rfl) rfl) rfl ?_
      refine hl_v (v_assign rfl) rfl ?_
      refine hl_nil ?_
      refine blockQ_n ?_
      refine thenQ_n ?_
      refine hw_region ?_
      refine hl_v (v_move rfl) rfl ?_
      refine hl_v (v_add rfl rfl (by first | omega | assumption | (simp only [Int.toNat_natCast]; omega) | (simp; done) | (simp at *; omega))) rfl ?_
      refine hl_v (v_assign rfl) rfl ?_
      refine hl_nil ?_
      refine thenQ_n ?_
      refine ⟨k + 1, (ai_cons (t := 3) (by first | (show some _ = some _; rw [BSet.pow_shl]) | rfl) (ai_cons (t := 4) (by first | (show some _ = some _; rw [BSet.pow_shl]) | rfl) (ai_cons (t := 0) rfl ai_nil))), ?_, ?_⟩
      · exact ⟨rfl, by omega⟩
      · omega
    · try simp only [decide_eq_true_eq, decide_eq_false_iff_not, Bool.and_eq_true, Bool.and_eq_false_iff, Bool.or_eq_true, Bool.or_eq_false_iff, Bool.not_eq_true', Bool.not_eq_false', Bool.not_eq_true, Bool.not_eq_false, beq_iff_eq, Int.not_lt, Int.not_le] at hc1
      refine hw_exit ?_
      refine thenQ_e ?_
      refine thenQ_e ?_
      refine blockQ_hit ?_
      refine thenQ_n ?_
      refine hw_seq ?_
      refine hw_region ?_
      refine hl_v (v_move rfl) rfl ?_
      refine hl_v (v_assign rfl) rfl ?_
      refine hl_nil ?_
      refine thenQ_n ?_
      refine hw_sub _ (ai_cons (t := 2) rfl ai_nil) ?_
      refine hw_ret ?_
      refine ret_i _ (ra_t rfl ra_nil) ?_
      refine ⟨?_, rfl⟩
      rw [show n.toNat = k by omega]; rfl
theorem rHas_spec {s : BSet} {b : Nat} {H : Heap} (hb : b < 256) : HC Tryz.prog 18 [sv s, .int .i64 b] H (fun v H' => v = .bool (s.has b) ∧ Ext [] H H') := by
  have hx0 : Ext [] H H := Ext.refl _
  have hne : 1#64 <<< ((b : Int) % 64).toNat ≠ 0#64 := BSet.shl_ne _ (by omega)
  refine hc_of_hw (N := 15) (rs := [(.tmp 4)]) Tryz.func18 rfl rfl rfl rfl ?_
  refine hw_seq ?_
  refine hw_region ?_
  refine hl_h (h_boxS rfl) rfl ?_
  rintro _ H1 ⟨rfl, n2⟩
  have n2s := n2.size
  replace hx0 := Ext.trans hx0 n2.ext
  have n2b := n2.blk
  refine hl_v (v_assign rfl) rfl ?_
  refine hl_nil ?_
  refine thenQ_n ?_
  refine hw_sub _ (ai_cons (t := 1) rfl (ai_cons (t := 2) rfl ai_nil)) ?_
  refine hw_seq ?_
  refine hw_quiet Tryz.mixed (by kernel_rfl) ?_
  refine hq_v (v_move rfl) rfl ?_
  refine hq_v (v_quo rfl rfl (by first | omega | assumption | (simp only [Int.toNat_natCast]; omega) | (simp; done) | (simp at *; omega))) rfl ?_
  refine hq_v (v_ixS Tryz.underlying37 Tryz.sizeOf35 rfl rfl (by first | omega | assumption | (simp only [Int.toNat_natCast]; omega) | (simp; done) | (simp at *; omega))) rfl ?_
  refine hq_v (v_loadW Tryz.isAgg35 rfl (by first | exact n2b | assumption) (by first | omega | assumption | (simp only [Int.toNat_natCast]; omega) | (simp; done) | (simp at *; omega))) rfl ?_
  refine hq_v (v_move rfl) rfl ?_
  refine hq_v (v_rem rfl rfl (by first | omega | assumption | (simp only [Int.toNat_natCast]; omega) | (simp; done) | (simp at *; omega))) rfl ?_
  refine hq_v (v_call Tryz.call32 (evs_cons rfl evs_nil) (power_spec (by first | omega | assumption | (simp only [Int.toNat_natCast]; omega) | (simp; done) | (simp at *; omega)))) rfl ?_
  refine hq_v (v_uquo64 rfl rfl (by first | omega | assumption | (simp only [Int.toNat_natCast]; omega) | (simp; done) | (simp at *; omega))) rfl ?_
  refine hq_v (v_urem64 rfl (show _ = some (w64 2#64) from rfl) (by decide)) rfl ?_
  refine hq_v (v_eql64 rfl (show _ = some (w64 1#64) from rfl)) rfl ?_
  refine hq_v (v_assign rfl) rfl ?_
  refine hq_nil ?_
  refine thenQ_n ?_
  refine hw_sub _ (ai_cons (t := 4) rfl ai_nil) ?_
  refine hw_ret ?_
  refine ret_i _ (ra_t rfl ra_nil) ?_
  exact ⟨congrArg Value.bool (BSet.has_quo s hb), hx0⟩
theorem Make_spec {v0 : Value} {l : List Bool} {S : Nat → Prop} {H : Heap} (hs : Sl fBool.rep H S v0 l) (hS : ∀ b, S b → b < H.size) (hl : l.length = 256) : HC Tryz.prog 36 [v0] H (fun v H' => v = sv (.ofFn (fun m => l.getD m false) 256) ∧ Ext [] H H') := by
  have hx0 : Ext [] H H := Ext.refl _
  refine hc_of_hw (N := 25) (rs := [(.cell 2 37)]) Tryz.func36 rfl rfl rfl rfl ?_
  refine hw_seq ?_
  refine hw_region ?_
  refine hl_h (h_allocS Tryz.zeroValue37) rfl ?_
  rintro _ H1 ⟨rfl, n2⟩
  have n2s := n2.size
  replace hx0 := Ext.trans hx0 n2.ext
  replace hs := Sl.ext0 hs n2.ext
  have n2b := n2.blk
  refine hl_nil ?_
  refine thenQ_n ?_
  refine hw_sub _ (ai_cons (t := 0) rfl (ai_cons (t := 2) rfl ai_nil)) ?_
  refine hw_seq ?_
  refine hw_region ?_
  refine hl_h (h_allocS Tryz.zeroValue37) rfl ?_
  rintro _ H3 ⟨rfl, n4⟩
  have n4s := n4.size
  replace hx0 := Ext.trans hx0 n4.ext
  replace hs := Sl.ext0 hs n4.ext
  replace n2b := Ext.blk n4.ext n2b (by simp)
  have n4b := n4.blk
  refine hl_nil ?_
  refine thenQ_n ?_
  refine hw_sub _ (ai_cons (t := 0) rfl (ai_cons (t := 2) rfl (ai_cons (t := 3) rfl ai_nil))) ?_
  refine hw_seq ?_
  refine hw_seq ?_
  refine hw_region ?_
  refine hl_v (v_assign rfl) rfl ?_
  refine hl_nil ?_
  refine thenQ_n ?_
  refine hw_sub _ (ai_cons (t := 0) rfl (ai_cons (t := 2) rfl (ai_cons (t := 3) rfl (ai_cons (t := 4) rfl ai_nil)))) ?_
  refine hw_block ?_
  refine hw_loop (α := Nat) [(0, _), (2, _), (3, _)] (fun k => [(4, .int .i64 (k : Int))]) (fun k G3 => Ext [] H G3 ∧ Sl fBool.rep G3 S v0 l ∧ Blk G3 H.size (sw .zero) 37 ∧ Blk G3 H1.size (sw (.ofFn (fun m => l.getD m false) k)) 37 ∧ H3.size ≤ G3.size ∧ k ≤ 256) (fun k => 256 - k) 0 (ai_cons (t := 4) rfl (ai_cons (t := 0) rfl (ai_cons (t := 2) rfl (ai_cons (t := 3) rfl ai_nil)))) ?_ ?_
  · exact ⟨hx0, hs, n2b, n4b, Nat.le_refl _, Nat.zero_le _⟩
  · intro k G3 hI
    obtain ⟨hx0, hs, n2b, n4b, hz, hk⟩ := hI
    have hx0z := hx0.size
    refine hw_seq ?_
    refine hw_seq ?_
    refine hw_region ?_
    refine hl_v (v_move rfl) rfl ?_
    refine hl_v (v_lss rfl rfl) rfl ?_
    refine hl_nil ?_
    refine thenQ_n ?_
    refine hw_sub _ (ai_cons (t := 0) rfl (ai_cons (t := 2) rfl (ai_cons (t := 3) rfl (ai_cons (t := 4) rfl (ai_cons (t := 6) rfl ai_nil))))) ?_
    refine hw_cond rfl (fun hc5 => ?_) (fun hc5 => ?_)
    · try simp only [decide_eq_true_eq, decide_eq_false_iff_not, Bool.and_eq_true, Bool.and_eq_false_iff, Bool.or_eq_true, Bool.or_eq_false_iff, Bool.not_eq_true', Bool.not_eq_false', Bool.not_eq_true, Bool.not_eq_false, beq_iff_eq, Int.not_lt, Int.not_le] at hc5
      refine hw_skip ?_
      refine thenQ_n ?_
      refine hw_seq ?_
      refine hw_block ?_
      refine hw_seq ?_
      refine hw_region ?_
      refine hl_v (v_move rfl) rfl ?_
      refine hl_v (v_move rfl) rfl ?_
      refine hl_v (v_ixL Tryz.underlying48 Tryz.sizeOf4 rfl rfl (by first | assumption | exact Ow.sl0 (by assumption)) (by first | omega | assumption | (simp only [Int.toNat_natCast]; omega) | (simp; done) | (simp at *; omega))) rfl ?_
      refine hl_v (v_loadSc Tryz.isAgg4 rfl (by first | assumption | exact Ow.sl0 (by assumption)) rfl (by first | omega | assumption | (simp only [Int.toNat_natCast]; omega) | (simp; done) | (simp at *; omega)) rfl) rfl ?_
      refine hl_nil ?_
      refine thenQ_n ?_
      refine hw_sub _ (ai_cons (t := 0) rfl (ai_cons (t := 2) rfl (ai_cons (t := 3) rfl (ai_cons (t := 4) rfl (ai_cons (t := 12) rfl ai_nil))))) ?_
      refine hw_cond rfl (fun hc6 => ?_) (fun hc6 => ?_)
      · try simp only [decide_eq_true_eq, decide_eq_false_iff_not, Bool.and_eq_true, Bool.and_eq_false_iff, Bool.or_eq_true, Bool.or_eq_false_iff, Bool.not_eq_true', Bool.not_eq_false', Bool.not_eq_true, Bool.not_eq_false, beq_iff_eq, Int.not_lt, Int.not_le] at hc6
        have hb : (BSet.ofFn (fun m => l.getD m false) k).has k = false := by rw [BSet.has_ofFn _ _ hk (by omega)]; simp
        refine hw_held2 11 (fun H' => Ext [] G3 H') (.step 0 false (.step 1 false (.step 2 false (.step 3 false (.step 4 false (.step 5 false (.step 6 false (.step 7 false (.step 8 true (.step 9 false (.step 10 false .done))))))))))) (.step 11 true .done) Tryz.mixed (by kernel_rfl) ?_ ?_
        · exact Ext.refl _
        have xr7 : Ext [] G3 G3 := Ext.refl _
        have hsR := hs
        have n2bR := n2b
        have n4bR := n4b
        refine hd_v rfl (fun H' hS => (v_move rfl)) rfl ?_
        refine hd_v rfl (fun H' hS => (v_quo rfl rfl (by first | omega | assumption | (simp only [Int.toNat_natCast]; omega) | (simp; done) | (simp at *; omega)))) rfl ?_
        refine hd_v rfl (fun H' hS => (v_move rfl)) rfl ?_
        refine hd_v rfl (fun H' hS => (v_quo rfl rfl (by first | omega | assumption | (simp only [Int.toNat_natCast]; omega) | (simp; done) | (simp at *; omega)))) rfl ?_
        refine hd_v rfl (fun H' hS => (v_ixS Tryz.underlying37 Tryz.sizeOf35 rfl rfl (by first | omega | assumption | (simp only [Int.toNat_natCast]; omega) | (simp; done) | (simp at *; omega)))) rfl ?_
        refine hd_v rfl (fun H' hS => (v_loadW Tryz.isAgg35 rfl (by first | exact Ext.blk hS n4bR (by simp) | exact n4b | exact Ext.blk hS (by first | assumption | exact Ext.blk hS (by assumption) (by simp) | exact Sl.ext0 (by assumption) hS | exact Sl.ext0 (Ow.sl0 (by assumption)) hS) (by simp)) (by first | omega | assumption | (simp only [Int.toNat_natCast]; omega) | (simp; done) | (simp at *; omega)))) rfl ?_
        refine hd_v rfl (fun H' hS => (v_move rfl)) rfl ?_
        refine hd_v rfl (fun H' hS => (v_rem rfl rfl (by first | omega | assumption | (simp only [Int.toNat_natCast]; omega) | (simp; done) | (simp at *; omega)))) rfl ?_
        refine hd_h (OpV.toH (v_call Tryz.call32 (evs_cons rfl evs_nil) (power_spec (by first | omega | assumption | (simp only [Int.toNat_natCast]; omega) | (simp; done) | (simp at *; omega))))) (fun _ _ hR => hR.2 ▸ xr7) rfl ?_
        rintro _ _ ⟨rfl, rfl⟩
        refine hd_v rfl (fun H' hS => (v_add64 rfl rfl)) rfl ?_
        refine hd_v rfl (fun H' hS => (v_ixS Tryz.underlying37 Tryz.sizeOf35 rfl rfl (by first | omega | assumption | (simp only [Int.toNat_natCast]; omega) | (simp; done) | (simp at *; omega)))) rfl ?_
        refine hd_nil ?_
        refine hd_s (h_storeW Tryz.sizeOf35 rfl rfl n4b (by first | omega | assumption | (simp only [Int.toNat_natCast]; omega) | (simp; done) | (simp at *; omega))) (fun _ _ _ => trivial) ?_
        rintro _ H8 p9
        have p9s := p9.size
        replace hx0 := Ext.fresh hx0 p9.ext (by intro b hb; simp at hb; omega)
        replace hs := Sl.ext hs p9.ext (by intro b hb; (try have hSb := hS b hb); (try simp only [mb, List.mem_singleton] at hb); simp; omega)
        replace n2b := Ext.blk p9.ext n2b (by (try simp only [mb, List.mem_singleton] at hb); simp; omega)
        replace n4b := p9.blk
        refine hd_nil ?_
        refine blockQ_n ?_
        refine thenQ_n ?_
        refine hw_region ?_
        refine hl_v (v_move rfl) rfl ?_
        refine hl_v (v_add rfl rfl (by first | omega | assumption | (simp only [Int.toNat_natCast]; omega) | (simp; done) | (simp at *; omega))) rfl ?_
        refine hl_v (v_assign rfl) rfl ?_
        refine hl_nil ?_
        refine thenQ_n ?_
        refine ⟨k + 1, (ai_cons (t := 4) rfl (ai_cons (t := 0) rfl (ai_cons (t := 2) rfl (ai_cons (t := 3) rfl ai_nil)))), ?_, ?_⟩
        · skip
          exact ⟨hx0, hs, n2b, (by first | (rw [BSet.ofFn_succ, if_pos (by assumption), ← BSet.add_bit _ hb]; exact n4b) | (rw [BSet.ofFn_succ, if_neg (by rw [Bool.not_eq_true]; assumption)]; exact n4b)), (by omega), by omega⟩
        · omega
      · try simp only [decide_eq_true_eq, decide_eq_false_iff_not, Bool.and_eq_true, Bool.and_eq_false_iff, Bool.or_eq_true, Bool.or_eq_false_iff, Bool.not_eq_true', Bool.not_eq_false', Bool.not_eq_true, Bool.not_eq_false, beq_iff_eq, Int.not_lt, Int.not_le] at hc6
        refine hw_skip ?_
        refine blockQ_n ?_
        refine thenQ_n ?_
        refine hw_region ?_
        refine hl_v (v_move rfl) rfl ?_
        refine hl_v (v_add rfl rfl (by first | omega | assumption | (simp only [Int.toNat_natCast]; omega) | (simp; done) | (simp at *; omega))) rfl ?_
        refine hl_v (v_assign rfl) rfl ?_
        refine hl_nil ?_
        refine thenQ_n ?_
        refine ⟨k + 1, (ai_cons (t := 4) rfl (ai_cons (t := 0) rfl (ai_cons (t := 2) rfl (ai_cons (t := 3) rfl ai_nil)))), ?_, ?_⟩
        · skip
          exact ⟨hx0, hs, n2b, (by first | (rw [BSet.ofFn_succ, if_pos (by assumption), ← BSet.add_bit _ hb]; exact n4b) | (rw [BSet.ofFn_succ, if_neg (by rw [Bool.not_eq_true]; assumption)]; exact n4b)), (by omega), by omega⟩
        · omega
    · try simp only [decide_eq_true_eq, decide_eq_false_iff_not, Bool.and_eq_true, Bool.and_eq_false_iff, Bool.or_eq_true, Bool.or_eq_false_iff, Bool.not_eq_true', Bool.not_eq_false', Bool.not_eq_true, Bool.not_eq_false, beq_iff_eq, Int.not_lt, Int.not_le] at hc5
      refine hw_exit ?_
      refine thenQ_e ?_
      refine thenQ_e ?_
      refine blockQ_hit ?_
      refine thenQ_n ?_
      refine hw_seq ?_
      refine hw_region ?_
      refine hl_v (v_loadS Tryz.isAgg37 Tryz.sizeOf37 rfl (by first | exact n4b | assumption)) rfl ?_
      refine hl_s (h_storeS Tryz.sizeOf37 rfl rfl n2b) ?_
      rintro _ H10 p11
      have p11s := p11.size
      replace hx0 := Ext.fresh hx0 p11.ext (by intro b hb; simp at hb; omega)
      replace hs := Sl.ext hs p11.ext (by intro b hb; (try have hSb := hS b hb); (try simp only [mb, List.mem_singleton] at hb); simp; omega)
      replace n4b := Ext.blk p11.ext n4b (by (try simp only [mb, List.mem_singleton] at hb); simp; omega)
      replace n2b := p11.blk
      refine hl_nil ?_
      refine thenQ_n ?_
      refine hw_sub _ (ai_cons (t := 2) rfl ai_nil) ?_
      refine hw_ret ?_
      refine ret_i _ (ra_c rfl (fun w hw => run_loadVar_at Tryz.isAgg37 Tryz.sizeOf37 (Blk.at0 (by assumption)) rfl w hw) ra_nil) ?_
      obtain rfl : k = 256 := by omega
      exact ⟨rfl, hx0⟩
theorem members1_it {s : BSet} {b : Nat} {T : TypeId} : ItC Tryz.prog 81 [ptr b 0] (fun k => [.int .u8 (UInt8.ofNat (s.mem.getD k 0)).toNat]) s.mem.length (fun G => Blk G b (sw s) T) := by
  intro l J Jx H hD hE hY h0
  refine hc_of_hw (N := 19) (rs := []) Tryz.func81 rfl rfl rfl rfl ?_
  refine hw_seq ?_
  refine hw_region ?_
  refine hl_v (v_move rfl) rfl ?_
  refine hl_nil ?_
  refine thenQ_n ?_
  refine hw_sub _ (ai_cons (t := 0) rfl (ai_cons (t := 1) rfl (ai_cons (t := 4) rfl ai_nil))) ?_
  refine hw_block ?_
  refine hw_loop (α := Nat) [(0, _), (1, _)] (fun k => [(4, .int .i64 (k : Int))]) (fun k G1 => J (s.memK k).length G1 ∧ k ≤ 256) (fun k => 256 - k) 0 (ai_cons (t := 4) rfl (ai_cons (t := 0) rfl (ai_cons (t := 1) rfl ai_nil))) ?_ ?_
  · exact ⟨h0, Nat.zero_le _⟩
  · intro k G1 hI
    obtain ⟨hJ, hk⟩ := hI
    refine hw_seq ?_
    refine hw_region ?_
    refine hl_v (v_lss rfl rfl) rfl ?_
    refine hl_nil ?_
    refine thenQ_n ?_
    refine hw_sub _ (ai_cons (t := 0) rfl (ai_cons (t := 1) rfl (ai_cons (t := 4) rfl (ai_cons (t := 5) rfl ai_nil)))) ?_
    refine hw_seq ?_
    refine hw_cond rfl (fun hc1 => ?_) (fun hc1 => ?_)
    · try simp only [decide_eq_true_eq, decide_eq_false_iff_not, Bool.and_eq_true, Bool.and_eq_false_iff, Bool.or_eq_true, Bool.or_eq_false_iff, Bool.not_eq_true', Bool.not_eq_false', Bool.not_eq_true, Bool.not_eq_false, beq_iff_eq, Int.not_lt, Int.not_le] at hc1
      refine hw_skip ?_
      refine thenQ_n ?_
      refine hw_seq ?_
      refine hw_block ?_
      refine hw_seq ?_
      refine hw_region ?_
      refine hl_v (v_move rfl) rfl ?_
      refine hl_v (v_assign rfl) rfl ?_
      refine hl_nil ?_
      refine thenQ_n ?_
      refine hw_sub _ (ai_cons (t := 0) rfl (ai_cons (t := 1) rfl (ai_cons (t := 3) rfl (ai_cons (t := 4) rfl ai_nil)))) ?_
      refine hw_seq ?_
      have hn := hD _ _ hJ
      refine hw_region ?_
      refine hl_v (v_loadS Tryz.isAgg37 Tryz.sizeOf37 rfl (by assumption)) rfl ?_
      refine hl_v (v_move rfl) rfl ?_
      refine hl_v (v_toB (by rw [Tryz.underlying3]; rfl) Tryz.underlying5 rfl (by first | omega | assumption | (simp only [Int.toNat_natCast]; omega) | (simp; done) | (simp at *; omega))) rfl ?_
      refine hl_h (h_call Tryz.call53 (evs_cons rfl (evs_cons rfl evs_nil)) Has_spec) rfl ?_
      rintro _ H2 ⟨rfl, hx⟩
      replace hJ := hE _ _ _ hJ hx
      have hbv : (UInt8.ofNat ((k : Int).toNat)).toNat = k := by rw [UInt8.toNat_ofNat']; simp only [Int.toNat_natCast]; omega
      rw [hbv]
      refine hl_v (v_move rfl) rfl ?_
      refine hl_g rfl rfl (fun hg => (v_move rfl)) rfl ?_
      refine hl_g rfl rfl (fun hg => (v_move rfl)) rfl ?_
      refine hl_g rfl rfl (fun hg => (v_toB (by rw [Tryz.underlying3]; rfl) Tryz.underlying5 (gv_ok rfl hg) (by simp only [gb_t, gb_f, gb_g, decide_eq_true_eq, decide_eq_false_iff_not, Bool.and_eq_true, Bool.and_eq_false_iff, Bool.or_eq_true, Bool.or_eq_false_iff, Bool.not_eq_true', Bool.not_eq_false', Bool.not_eq_true, Bool.not_eq_false, beq_iff_eq, Int.not_lt, Int.not_le] at hg; (first | omega | assumption | (simp only [Int.toNat_natCast]; omega) | (simp; done) | (simp at *; omega))))) rfl ?_
      refine hl_gyb (Rb := fun b G' => (b = true ∧ J ((s.memK k).length + 1) G') ∨ (b = false ∧ Jx G')) rfl rfl (fun hg => y_call (vs := [.int .u8 (UInt8.ofNat (s.mem.getD (s.memK k).length 0)).toNat]) (gv_ok rfl hg) (evs_cons (by rw [(s.mem_get (by omega) (gb_true hg)).2]; exact gv_ok rfl hg) evs_nil) (hY _ (s.mem_get (by omega) (gb_true hg)).1 _ hJ)) (fun v G' hr => by rcases hr with ⟨rfl, h⟩ | ⟨rfl, h⟩; exact ⟨true, rfl, .inl ⟨rfl, h⟩⟩; exact ⟨false, rfl, .inr ⟨rfl, h⟩⟩) rfl ?_
      rintro b5 H5 hcase
      refine hl_g rfl rfl (fun hg => (v_not (gv_ok rfl hg))) rfl ?_
      refine hl_v (v_and rfl rfl) rfl ?_
      refine hl_nil ?_
      refine thenQ_n ?_
      refine hw_sub _ (ai_cons (t := 0) rfl (ai_cons (t := 1) rfl (ai_cons (t := 4) rfl (ai_cons (t := 17) rfl ai_nil)))) ?_
      refine hw_cond rfl (fun hc2 => ?_) (fun hc2 => ?_)
      · try simp only [decide_eq_true_eq, decide_eq_false_iff_not, Bool.and_eq_true, Bool.and_eq_false_iff, Bool.or_eq_true, Bool.or_eq_false_iff, Bool.not_eq_true', Bool.not_eq_false', Bool.not_eq_true, Bool.not_eq_false, beq_iff_eq, Int.not_lt, Int.not_le] at hc2
        refine hw_ret ?_
        refine blockQ_r ?_
        refine thenQ_r ?_
        refine thenQ_r ?_
        refine blockQ_r ?_
        refine ret_i _ ra_nil ?_
        obtain ⟨h1, h2⟩ := hc2
        rw [h1, h2] at hcase
        rcases hcase with ⟨_, ⟨h, _⟩ | ⟨_, h⟩⟩ | ⟨h, _⟩
        · cases h
        · exact .inr h
        · cases h
      · try simp only [decide_eq_true_eq, decide_eq_false_iff_not, Bool.and_eq_true, Bool.and_eq_false_iff, Bool.or_eq_true, Bool.or_eq_false_iff, Bool.not_eq_true', Bool.not_eq_false', Bool.not_eq_true, Bool.not_eq_false, beq_iff_eq, Int.not_lt, Int.not_le] at hc2
        refine hw_skip ?_
        refine blockQ_n ?_
        refine thenQ_n ?_
        refine hw_region ?_
        refine hl_v (v_add rfl rfl (by first | omega | assumption | (simp only [Int.toNat_natCast]; omega) | (simp; done) | (simp at *; omega))) rfl ?_
        refine hl_v (v_move rfl) rfl ?_
        refine hl_nil ?_
        refine thenQ_n ?_
        refine ⟨k + 1, (ai_cons (t := 4) rfl (ai_cons (t := 0) rfl (ai_cons (t := 1) rfl ai_nil))), ?_, ?_⟩
        · skip
          refine ⟨?_, by omega⟩
          rw [BSet.memK_succ]
          cases hh : s.has k
          · rw [if_neg (by simp)]
            rw [hh] at hcase
            rcases hcase with ⟨h, _⟩ | ⟨_, rfl⟩
            · cases h
            · exact hJ
          · rw [if_pos rfl, List.length_append]
            rw [hh] at hcase hc2
            rcases hcase with ⟨_, ⟨_, h⟩ | ⟨h, _⟩⟩ | ⟨h, _⟩
            · exact h
            · rw [h] at hc2; simp at hc2
            · cases h
        · omega
    · try simp only [decide_eq_true_eq, decide_eq_false_iff_not, Bool.and_eq_true, Bool.and_eq_false_iff, Bool.or_eq_true, Bool.or_eq_false_iff, Bool.not_eq_true', Bool.not_eq_false', Bool.not_eq_true, Bool.not_eq_false, beq_iff_eq, Int.not_lt, Int.not_le] at hc1
      refine hw_exit ?_
      refine thenQ_e ?_
      refine thenQ_e ?_
      refine blockQ_hit ?_
      refine ret_n _ ra_nil ?_
      obtain rfl : k = 256 := by omega
      exact .inl hJ
theorem members_spec {s : BSet} {H : Heap} : HC Tryz.prog 70 [sv s] H (fun v H' => ∃ b, v = .func (.func 81) #[] #[ptr b 0] ∧ Blk H' b (sw s) 37 ∧ H.size ≤ b ∧ Ext [] H H') := by
  have hx0 : Ext [] H H := Ext.refl _
  refine hc_of_hw (N := 4) (rs := [(.tmp 2)]) Tryz.func70 rfl rfl rfl rfl ?_
  refine hw_seq ?_
  refine hw_region ?_
  refine hl_h (h_boxS rfl) rfl ?_
  rintro _ H1 ⟨rfl, n2⟩
  have n2s := n2.size
  replace hx0 := Ext.trans hx0 n2.ext
  have n2b := n2.blk
  refine hl_v (v_assign rfl) rfl ?_
  refine hl_nil ?_
  refine thenQ_n ?_
  refine hw_sub _ (ai_cons (t := 1) rfl ai_nil) ?_
  refine hw_seq ?_
  refine hw_region ?_
  refine hl_v (v_makeFunc (us := []) (vs := [_]) rfl rfl) rfl ?_
  refine hl_v (v_assign rfl) rfl ?_
  refine hl_nil ?_
  refine thenQ_n ?_
  refine hw_sub _ (ai_cons (t := 2) rfl ai_nil) ?_
  refine hw_ret ?_
  refine ret_i _ (ra_t rfl ra_nil) ?_
  exact ⟨_, rfl, n2b, Nat.le_refl _, hx0⟩
theorem First_spec {s : BSet} {H : Heap} : HC Tryz.prog 48 [sv s] H (fun v H' => v = .tuple #[.int .u8 (s.bytes.getD 0 0).toNat, .bool (decide (s.mem.length ≠ 0))] ∧ Ext [] H H') := by
  have hx0 : Ext [] H H := Ext.refl _
  refine hc_of_hw_m (M := 9) (rs := [(.cell 2 5), (.cell 3 4)]) Tryz.func48 rfl rfl rfl rfl ?_
  refine hw_seq ?_
  refine hw_region ?_
  refine hl_h (h_boxS rfl) rfl ?_
  rintro _ H1 ⟨rfl, n2⟩
  have n2s := n2.size
  replace hx0 := Ext.trans hx0 n2.ext
  have n2b := n2.blk
  refine hl_h (h_alloc Tryz.zeroValue5 rfl) rfl ?_
  rintro _ H4 ⟨rfl, n5⟩
  have n5s := n5.size
  replace hx0 := Ext.trans hx0 n5.ext
  replace n2b := Ext.blk n5.ext n2b (by simp)
  have n5b := n5.blk
  refine hl_h (h_alloc Tryz.zeroValue4 rfl) rfl ?_
  rintro _ H7 ⟨rfl, n8⟩
  have n8s := n8.size
  replace hx0 := Ext.trans hx0 n8.ext
  replace n2b := Ext.blk n8.ext n2b (by simp)
  replace n5b := Ext.blk n8.ext n5b (by simp)
  have n8b := n8.blk
  refine hl_nil ?_
  refine thenQ_n ?_
  refine hw_sub _ (ai_cons (t := 1) rfl (ai_cons (t := 2) rfl (ai_cons (t := 3) rfl ai_nil))) ?_
  refine hw_seq ?_
  refine hw_seq ?_
  refine hw_region ?_
  refine hl_v (v_loadS Tryz.isAgg37 Tryz.sizeOf37 rfl (by first | exact n2b | assumption)) rfl ?_
  refine hl_h (h_call Tryz.call70 (evs_cons rfl evs_nil) (members_spec)) rfl ?_
  rintro _ H9 ⟨n10q, rfl, n10b, n10l, n10⟩
  have n10s := n10.size
  replace hx0 := Ext.trans hx0 n10
  replace n2b := Ext.blk n10 n2b (by simp)
  replace n5b := Ext.blk n10 n5b (by simp)
  replace n8b := Ext.blk n10 n8b (by simp)
  refine hl_nil ?_
  refine thenQ_n ?_
  refine hw_sub _ (ai_cons (t := 2) rfl (ai_cons (t := 3) rfl (ai_cons (t := 6) rfl ai_nil))) ?_
  refine hw_block ?_
  refine hw_range (B := H.size) (M := 9) (caps := [ptr _ 0]) (ps := [7]) rfl Tryz.call81 (members1_it (s := s) (T := 37)) rfl (fun _ => rfl) (by omega) (fun k R2 => Ext [] H R2 ∧ Blk R2 n10q (sw s) 37 ∧ Blk R2 H1.size [.int .u8 0] 5 ∧ Blk R2 H4.size [.bool false] 4 ∧ H7.size ≤ R2.size ∧ k = 0) (fun c R2 => c = .ret ∧ Ext [] H R2 ∧ Blk R2 H1.size [.int .u8 (UInt8.ofNat (s.mem.getD 0 0)).toNat] 5 ∧ Blk R2 H4.size [.bool true] 4 ∧ 0 < s.mem.length) ?_ ?_ ?_ ?_ ?_ ?_ ?_ ?_
  · rintro k G ⟨hx0, n10b, n5b, n8b, hz, hk0⟩
    exact n10b
  · rintro k G G' ⟨hx0, n10b, n5b, n8b, hz, hk0⟩ hx
    exact ⟨(Ext.trans hx0 hx), (Ext.blk hx n10b (by simp)), (Ext.blk hx n5b (by simp)), (Ext.blk hx n8b (by simp)), (Nat.le_trans hz hx.size), hk0⟩
  · rintro k G G' ⟨hx0, n10b, n5b, n8b, hz, hk0⟩ c
    have hch := c.size
    exact ⟨(Ext.fresh hx0 c.ext (by intro b hb; simp at hb; omega)), (n10b.chg c), (n5b.chg c), (n8b.chg c), (by rw [c.size]; exact hz), hk0⟩
  · skip
    rintro c G G' ⟨h1, h2, h3, h4, h5⟩ cc
    have hch := cc.size
    exact ⟨h1, Ext.fresh h2 cc.ext (by intro b hb; simp at hb; omega), h3.chg cc, h4.chg cc, h5⟩
  · exact ⟨hx0, n10b, n5b, n8b, (by omega), rfl⟩
  · rintro k hk R2 ⟨hx0, n10b, n5b, n8b, hz, hk0⟩ hsz
    refine hw_sub _ (ai_cons (t := 2) rfl (ai_cons (t := 3) rfl (ai_cons (t := 7) rfl ai_nil))) ?_
    refine hw_region ?_
    refine hl_v (v_assign rfl) rfl ?_
    refine hl_nil ?_
    refine ⟨rfl, rfl, ?_⟩
    rintro R2b ⟨hx0, n10b, n5b, n8b, hz, hk0⟩ hsz2
    subst hk0
    refine hw_block ?_
    refine hw_seq ?_
    refine hw_region ?_
    refine hl_v (v_move rfl) rfl ?_
    refine hl_s (h_store1 Tryz.sizeOf5 rfl rfl n5b (by simp) rfl) ?_
    rintro _ H11 p12
    have p12s := p12.size
    replace hx0 := Ext.fresh hx0 p12.ext (by intro b hb; simp at hb; omega)
    replace n10b := Ext.blk p12.ext n10b (by (try simp only [mb, List.mem_singleton] at hb); simp; omega)
    replace n8b := Ext.blk p12.ext n8b (by (try simp only [mb, List.mem_singleton] at hb); simp; omega)
    replace n5b := p12.blk
    refine hl_s (h_store1 Tryz.sizeOf4 rfl rfl n8b (by simp) rfl) ?_
    rintro _ H13 p14
    have p14s := p14.size
    replace hx0 := Ext.fresh hx0 p14.ext (by intro b hb; simp at hb; omega)
    replace n10b := Ext.blk p14.ext n10b (by (try simp only [mb, List.mem_singleton] at hb); simp; omega)
    replace n5b := Ext.blk p14.ext n5b (by (try simp only [mb, List.mem_singleton] at hb); simp; omega)
    replace n8b := p14.blk
    refine hl_nil ?_
    refine thenQ_n ?_
    refine hw_sub _ (ai_cons (t := 2) rfl (ai_cons (t := 3) rfl ai_nil)) ?_
    refine hw_ret ?_
    refine blockQ_r ?_
    exact ⟨rfl, hx0, n5b, n8b, by omega⟩
  · rintro R2 ⟨hx0, n10b, n5b, n8b, hz, hk0⟩ hsz
    refine blockQ_n ?_
    refine thenQ_n ?_
    refine hw_seq ?_
    refine hw_region ?_
    refine hl_s (h_store1 Tryz.sizeOf5 rfl (show _ = some (Value.int .u8 (((0 : UInt8).toNat : Nat) : Int)) from rfl) n5b (by simp) rfl) ?_
    rintro _ H15 p16
    have p16s := p16.size
    replace hx0 := Ext.fresh hx0 p16.ext (by intro b hb; simp at hb; omega)
    replace n10b := Ext.blk p16.ext n10b (by (try simp only [mb, List.mem_singleton] at hb); simp; omega)
    replace n8b := Ext.blk p16.ext n8b (by (try simp only [mb, List.mem_singleton] at hb); simp; omega)
    replace n5b := p16.blk
    refine hl_s (h_store1 Tryz.sizeOf4 rfl rfl n8b (by simp) rfl) ?_
    rintro _ H17 p18
    have p18s := p18.size
    replace hx0 := Ext.fresh hx0 p18.ext (by intro b hb; simp at hb; omega)
    replace n10b := Ext.blk p18.ext n10b (by (try simp only [mb, List.mem_singleton] at hb); simp; omega)
    replace n5b := Ext.blk p18.ext n5b (by (try simp only [mb, List.mem_singleton] at hb); simp; omega)
    replace n8b := p18.blk
    refine hl_nil ?_
    refine thenQ_n ?_
    refine hw_sub _ (ai_cons (t := 2) rfl (ai_cons (t := 3) rfl ai_nil)) ?_
    refine hw_ret ?_
    refine retm_i ?_
    intro Gz hsh
    replace hx0 := Ext.shut hx0 hsh (Nat.le_refl _)
    replace n10b := n10b.shut hsh
    replace n5b := n5b.shut hsh
    replace n8b := n8b.shut hsh
    refine ⟨_, (ra_c rfl (fun w hw => run_loadVar1_at Tryz.isAgg5 (Blk.cell (by assumption) rfl) w hw) (ra_c rfl (fun w hw => run_loadVar1_at Tryz.isAgg4 (Blk.cell (by assumption) rfl) w hw) ra_nil)), ?_⟩
    refine ⟨?_, hx0⟩
    have he : s.bytes = [] := List.eq_nil_of_length_eq_zero (by rw [s.bytes_len]; exact hk0)
    rw [he, hk0]; rfl
  · rintro c R2 ⟨rfl, hx0, n5b, n8b, hpos⟩ hsz
    refine hw_ret ?_
    refine blockQ_r ?_
    refine thenQ_r ?_
    refine retm_i ?_
    intro Gz hsh
    replace hx0 := Ext.shut hx0 hsh (Nat.le_refl _)
    replace n5b := n5b.shut hsh
    replace n8b := n8b.shut hsh
    refine ⟨_, (ra_c rfl (fun w hw => run_loadVar1_at Tryz.isAgg5 (Blk.cell (by assumption) rfl) w hw) (ra_c rfl (fun w hw => run_loadVar1_at Tryz.isAgg4 (Blk.cell (by assumption) rfl) w hw) ra_nil)), ?_⟩
    refine ⟨?_, hx0⟩
    have hb := s.bytes_getD hpos
    rw [show s.bytes.getD 0 0 = s.bytes.getD 0 default from rfl, hb, decide_eq_true (by omega)]; rfl
theorem Bytes_spec {s : BSet} {H : Heap} : HC Tryz.prog 9 [sv s] H (fun v H' => Ow fByte H' H.size 5 v s.bytes ∧ Ext [] H H') := by
  have hx0 : Ext [] H H := Ext.refl _
  refine hc_of_hw (N := 18) (rs := [(.tmp 2)]) Tryz.func9 rfl rfl rfl rfl ?_
  refine hw_seq ?_
  refine hw_region ?_
  refine hl_h (h_boxS rfl) rfl ?_
  rintro _ H1 ⟨rfl, n2⟩
  have n2s := n2.size
  replace hx0 := Ext.trans hx0 n2.ext
  have n2b := n2.blk
  refine hl_v (v_assign rfl) rfl ?_
  refine hl_nil ?_
  refine thenQ_n ?_
  refine hw_sub _ (ai_cons (t := 1) rfl ai_nil) ?_
  refine hw_seq ?_
  refine hw_region ?_
  refine hl_v (v_assign rfl) rfl ?_
  refine hl_nil ?_
  refine thenQ_n ?_
  refine hw_sub _ (ai_cons (t := 1) rfl (ai_cons (t := 3) rfl ai_nil)) ?_
  refine hw_seq ?_
  refine hw_seq ?_
  refine hw_region ?_
  refine hl_v (v_assign rfl) rfl ?_
  refine hl_nil ?_
  refine thenQ_n ?_
  refine hw_sub _ (ai_cons (t := 1) rfl (ai_cons (t := 3) rfl (ai_cons (t := 4) rfl ai_nil))) ?_
  refine hw_block ?_
  refine hw_loop (α := Nat × Value) [(1, _)] (fun x => [(3, x.2), (4, .int .i64 (x.1 : Int))]) (fun x G3 => Ext [] H G3 ∧ Blk G3 H.size (sw s) 37 ∧ Ow fByte G3 H1.size 5 x.2 ((s.memK x.1).map UInt8.ofNat) ∧ H1.size ≤ G3.size ∧ x.1 ≤ 256) (fun x => 256 - x.1) (0, .slice none 0 0) (ai_cons (t := 3) rfl (ai_cons (t := 4) rfl (ai_cons (t := 1) rfl ai_nil))) ?_ ?_
  · exact ⟨hx0, n2b, Ow.nil, Nat.le_refl _, Nat.zero_le _⟩
  · intro x G3 hI
    obtain ⟨hx0, n2b, ow, hz, hk⟩ := hI
    have hx0z := hx0.size
    have hml := s.memK_le x.1
    have hmm : ((s.memK x.1).map UInt8.ofNat).length = (s.memK x.1).length := List.length_map _
    refine hw_seq ?_
    refine hw_seq ?_
    refine hw_region ?_
    refine hl_v (v_move rfl) rfl ?_
    refine hl_v (v_lss rfl rfl) rfl ?_
    refine hl_nil ?_
    refine thenQ_n ?_
    refine hw_sub _ (ai_cons (t := 1) rfl (ai_cons (t := 3) rfl (ai_cons (t := 4) rfl (ai_cons (t := 6) rfl ai_nil)))) ?_
    refine hw_cond rfl (fun hc3 => ?_) (fun hc3 => ?_)
    · try simp only [decide_eq_true_eq, decide_eq_false_iff_not, Bool.and_eq_true, Bool.and_eq_false_iff, Bool.or_eq_true, Bool.or_eq_false_iff, Bool.not_eq_true', Bool.not_eq_false', Bool.not_eq_true, Bool.not_eq_false, beq_iff_eq, Int.not_lt, Int.not_le] at hc3
      refine hw_skip ?_
      refine thenQ_n ?_
      refine hw_seq ?_
      refine hw_block ?_
      refine hw_seq ?_
      refine hw_region ?_
      refine hl_v (v_loadS Tryz.isAgg37 Tryz.sizeOf37 rfl (by first | exact n2b | assumption)) rfl ?_
      refine hl_v (v_move rfl) rfl ?_
      refine hl_h (h_call Tryz.call18 (evs_cons rfl (evs_cons rfl evs_nil)) (rHas_spec (by first | omega | assumption | (simp only [Int.toNat_natCast]; omega) | (simp; done) | (simp at *; omega)))) rfl ?_
      rintro _ H4 ⟨rfl, n5⟩
      have n5s := n5.size
      replace hx0 := Ext.trans hx0 n5
      replace n2b := Ext.blk n5 n2b (by simp)
      replace ow := Ow.ext0 ow n5
      refine hl_nil ?_
      refine thenQ_n ?_
      refine hw_sub _ (ai_cons (t := 1) rfl (ai_cons (t := 3) rfl (ai_cons (t := 4) rfl (ai_cons (t := 11) rfl ai_nil)))) ?_
      refine hw_cond rfl (fun hc6 => ?_) (fun hc6 => ?_)
      · try simp only [decide_eq_true_eq, decide_eq_false_iff_not, Bool.and_eq_true, Bool.and_eq_false_iff, Bool.or_eq_true, Bool.or_eq_false_iff, Bool.not_eq_true', Bool.not_eq_false', Bool.not_eq_true, Bool.not_eq_false, beq_iff_eq, Int.not_lt, Int.not_le] at hc6
        refine hw_region ?_
        refine hl_v (v_move rfl) rfl ?_
        refine hl_v (v_move rfl) rfl ?_
        refine hl_v (v_toB (by rw [Tryz.underlying3]; rfl) Tryz.underlying5 rfl (by first | omega | assumption | (simp only [Int.toNat_natCast]; omega) | (simp; done) | (simp at *; omega))) rfl ?_
        refine hl_h (h_buildSlice (xs := [.tmp 14]) Tryz.underlying33 Tryz.sizeOf5 Tryz.zeroValue5 rfl (evs_cons rfl evs_nil) rfl (by decide) (by decide) (by intro v hv; simp only [List.mem_cons, List.not_mem_nil, or_false] at hv; rcases hv with rfl <;> rfl)) rfl ?_
        rintro _ H7 ⟨rfl, n8⟩
        have n8s := n8.size
        replace hx0 := Ext.trans hx0 n8.ext
        replace n2b := Ext.blk n8.ext n2b (by simp)
        replace ow := Ow.ext0 ow n8.ext
        have n8o := Ow.new (g := fByte) (l := [_]) (B := H4.size) n8 rfl (by omega) (by simp)
        refine hl_h (h_append (g := fByte) (B := _) rfl Tryz.underlying33 Tryz.type5 rfl rfl rfl rfl (by decide) rfl rfl ow (by first | assumption | exact Ow.sl0 (by assumption)) (by first | (rw [show Tryz.t5.bytes = 1 from rfl]; simp only [List.length_append, List.length_cons, List.length_nil]; omega) | (rw [show Tryz.t5.bytes = 1 from rfl]; omega) | omega | (simp only [List.length_append, List.length_cons, List.length_nil]; omega) | assumption | (simp; done)) (by first | (rw [show Tryz.t5.bytes = 1 from rfl]; simp only [List.length_append, List.length_cons, List.length_nil]; omega) | (rw [show Tryz.t5.bytes = 1 from rfl]; omega) | omega | (simp only [List.length_append, List.length_cons, List.length_nil]; omega) | assumption | (simp; done)) (by first | (rw [show Tryz.t5.bytes = 1 from rfl]; simp only [List.length_append, List.length_cons, List.length_nil]; omega) | (rw [show Tryz.t5.bytes = 1 from rfl]; omega) | omega | (simp only [List.length_append, List.length_cons, List.length_nil]; omega) | assumption | (simp; done))) rfl ?_
        rintro v11 H9 ⟨a10o, a10x, a10n, a10b⟩
        have a10s := a10x.size
        replace hx0 := Ext.fresh hx0 a10x (by intro b hb; exact Or.inl (Nat.le_trans (by omega) (Ow.lt ow b hb).1))
        replace n2b := Ext.blk a10x n2b (by intro hm; have hlt := Ow.lt ow _ hm; (try simp only [mb, List.mem_singleton] at hb); (try simp only [mb, List.mem_singleton] at hm); omega)
        refine hl_v (v_assign rfl) rfl ?_
        refine hl_nil ?_
        refine blockQ_n ?_
        refine thenQ_n ?_
        refine hw_region ?_
        refine hl_v (v_move rfl) rfl ?_
        refine hl_v (v_add rfl rfl (by first | omega | assumption | (simp only [Int.toNat_natCast]; omega) | (simp; done) | (simp at *; omega))) rfl ?_
        refine hl_v (v_assign rfl) rfl ?_
        refine hl_nil ?_
        refine thenQ_n ?_
        refine ⟨(x.1 + 1, _), (ai_cons (t := 3) rfl (ai_cons (t := 4) rfl (ai_cons (t := 1) rfl ai_nil))), ?_, ?_⟩
        · skip
          exact ⟨hx0, n2b, (by rw [BSet.memK_succ]; first | (rw [if_pos (by assumption), List.map_append]; exact a10o) | (rw [if_neg (by rw [Bool.not_eq_true]; assumption)]; exact ow)), (by omega), by omega⟩
        · omega
      · try simp only [decide_eq_true_eq, decide_eq_false_iff_not, Bool.and_eq_true, Bool.and_eq_false_iff, Bool.or_eq_true, Bool.or_eq_false_iff, Bool.not_eq_true', Bool.not_eq_false', Bool.not_eq_true, Bool.not_eq_false, beq_iff_eq, Int.not_lt, Int.not_le] at hc6
        refine hw_skip ?_
        refine blockQ_n ?_
        refine thenQ_n ?_
        refine hw_region ?_
        refine hl_v (v_move rfl) rfl ?_
        refine hl_v (v_add rfl rfl (by first | omega | assumption | (simp only [Int.toNat_natCast]; omega) | (simp; done) | (simp at *; omega))) rfl ?_
        refine hl_v (v_assign rfl) rfl ?_
        refine hl_nil ?_
        refine thenQ_n ?_
        refine ⟨(x.1 + 1, _), (ai_cons (t := 3) rfl (ai_cons (t := 4) rfl (ai_cons (t := 1) rfl ai_nil))), ?_, ?_⟩
        · skip
          exact ⟨hx0, n2b, (by rw [BSet.memK_succ]; first | (rw [if_pos (by assumption), List.map_append]; exact a10o) | (rw [if_neg (by rw [Bool.not_eq_true]; assumption)]; exact ow)), (by omega), by omega⟩
        · omega
    · try simp only [decide_eq_true_eq, decide_eq_false_iff_not, Bool.and_eq_true, Bool.and_eq_false_iff, Bool.or_eq_true, Bool.or_eq_false_iff, Bool.not_eq_true', Bool.not_eq_false', Bool.not_eq_true, Bool.not_eq_false, beq_iff_eq, Int.not_lt, Int.not_le] at hc3
      refine hw_exit ?_
      refine thenQ_e ?_
      refine thenQ_e ?_
      refine blockQ_hit ?_
      refine thenQ_n ?_
      refine hw_seq ?_
      refine hw_region ?_
      refine hl_v (v_move rfl) rfl ?_
      refine hl_v (v_assign rfl) rfl ?_
      refine hl_nil ?_
      refine thenQ_n ?_
      refine hw_sub _ (ai_cons (t := 2) rfl ai_nil) ?_
      refine hw_ret ?_
      refine ret_i _ (ra_t rfl ra_nil) ?_
      have hk6 : x.1 = 256 := by omega
      rw [hk6] at ow
      exact ⟨ow.base (by omega), hx0⟩
theorem By_spec {s t : BSet} {how : Int} {H : Heap} : HC Tryz.prog 22 [sv s, sv t, .int .i64 how] H (fun v H' => v = sv (.ofFn (fun m => byP how (s.has m) (t.has m)) 256) ∧ Ext [] H H') := by
  have hx0 : Ext [] H H := Ext.refl _
  refine hc_of_hw (N := 64) (rs := [(.cell 6 37)]) Tryz.func22 rfl rfl rfl rfl ?_
  refine hw_seq ?_
  refine hw_region ?_
  refine hl_h (h_boxS rfl) rfl ?_
  rintro _ H1 ⟨rfl, n2⟩
  have n2s := n2.size
  replace hx0 := Ext.trans hx0 n2.ext
  have n2b := n2.blk
  refine hl_h (h_boxS rfl) rfl ?_
  rintro _ H3 ⟨rfl, n4⟩
  have n4s := n4.size
  replace hx0 := Ext.trans hx0 n4.ext
  replace n2b := Ext.blk n4.ext n2b (by simp)
  have n4b := n4.blk
  refine hl_h (h_allocS Tryz.zeroValue37) rfl ?_
  rintro _ H5 ⟨rfl, n6⟩
  have n6s := n6.size
  replace hx0 := Ext.trans hx0 n6.ext
  replace n2b := Ext.blk n6.ext n2b (by simp)
  replace n4b := Ext.blk n6.ext n4b (by simp)
  have n6b := n6.blk
  refine hl_nil ?_
  refine thenQ_n ?_
  refine hw_sub _ (ai_cons (t := 2) rfl (ai_cons (t := 3) rfl (ai_cons (t := 4) rfl (ai_cons (t := 6) rfl ai_nil)))) ?_
  refine hw_seq ?_
  refine hw_region ?_
  refine hl_h (h_makeSlice (g := fBool) (d := default) (B := H5.size) Tryz.underlying48 Tryz.type4 rfl rfl rfl (by decide) rfl rfl (by first | omega | assumption | (simp only [Int.toNat_natCast]; omega) | (simp; done) | (simp at *; omega)) (by first | omega | assumption | (simp only [Int.toNat_natCast]; omega) | (simp; done) | (simp at *; omega)) (by rw [show Tryz.t4.bytes = 1 from rfl]; (first | omega | assumption | (simp only [Int.toNat_natCast]; omega) | (simp; done) | (simp at *; omega))) (by first | omega | assumption | (simp only [Int.toNat_natCast]; omega) | (simp; done) | (simp at *; omega))) rfl ?_
  rintro _ H7 ⟨rfl, n8o, n8x, n8s⟩
  replace hx0 := Ext.trans hx0 n8x
  replace n2b := Ext.blk n8x n2b (by simp)
  replace n4b := Ext.blk n8x n4b (by simp)
  replace n6b := Ext.blk n8x n6b (by simp)
  refine hl_v (v_assign rfl) rfl ?_
  refine hl_nil ?_
  refine thenQ_n ?_
  refine hw_sub _ (ai_cons (t := 2) rfl (ai_cons (t := 3) rfl (ai_cons (t := 4) rfl (ai_cons (t := 6) rfl (ai_cons (t := 7) rfl ai_nil))))) ?_
  refine hw_seq ?_
  refine hw_seq ?_
  refine hw_region ?_
  refine hl_v (v_assign rfl) rfl ?_
  refine hl_nil ?_
  refine thenQ_n ?_
  refine hw_sub _ (ai_cons (t := 2) rfl (ai_cons (t := 3) rfl (ai_cons (t := 4) rfl (ai_cons (t := 6) rfl (ai_cons (t := 7) rfl (ai_cons (t := 8) rfl ai_nil)))))) ?_
  refine hw_block ?_
  refine hw_loop (α := Nat) [(2, _), (3, _), (4, _), (6, _), (7, _)] (fun k => [(8, .int .i64 (k : Int))]) (fun k G3 => Ext [] H G3 ∧ Blk G3 H.size (sw s) 37 ∧ Blk G3 H1.size (sw t) 37 ∧ Blk G3 H3.size (sw .zero) 37 ∧ Ow fBool G3 H5.size 4 (.slice (some ⟨H5.size, 0, none⟩) (256 : Int).toNat (256 : Int).toNat) (upto (fun m => byP how (s.has m) (t.has m)) k) ∧ H7.size ≤ G3.size ∧ k ≤ 256) (fun k => 256 - k) 0 (ai_cons (t := 8) rfl (ai_cons (t := 2) rfl (ai_cons (t := 3) rfl (ai_cons (t := 4) rfl (ai_cons (t := 6) rfl (ai_cons (t := 7) rfl ai_nil)))))) ?_ ?_
  · exact ⟨hx0, n2b, n4b, n6b, (n8o.congr (upto_none fun m hm => absurd hm (Nat.not_lt_zero _))), Nat.le_refl _, Nat.zero_le _⟩
  · intro k G3 hI
    obtain ⟨hx0, n2b, n4b, n6b, n8o, hz, hk⟩ := hI
    have hx0z := hx0.size
    have htl := upto_len (fun m => byP how (s.has m) (t.has m)) k
    refine hw_seq ?_
    refine hw_seq ?_
    refine hw_region ?_
    refine hl_v (v_move rfl) rfl ?_
    refine hl_v (v_lss rfl rfl) rfl ?_
    refine hl_nil ?_
    refine thenQ_n ?_
    refine hw_sub _ (ai_cons (t := 2) rfl (ai_cons (t := 3) rfl (ai_cons (t := 4) rfl (ai_cons (t := 6) rfl (ai_cons (t := 7) rfl (ai_cons (t := 8) rfl (ai_cons (t := 13) rfl ai_nil))))))) ?_
    refine hw_cond rfl (fun hc9 => ?_) (fun hc9 => ?_)
    · try simp only [decide_eq_true_eq, decide_eq_false_iff_not, Bool.and_eq_true, Bool.and_eq_false_iff, Bool.or_eq_true, Bool.or_eq_false_iff, Bool.not_eq_true', Bool.not_eq_false', Bool.not_eq_true, Bool.not_eq_false, beq_iff_eq, Int.not_lt, Int.not_le] at hc9
      refine hw_skip ?_
      refine thenQ_n ?_
      refine hw_seq ?_
      refine hw_block ?_
      refine hw_seq ?_
      refine hw_region ?_
      refine hl_v (v_loadS Tryz.isAgg37 Tryz.sizeOf37 rfl (by first | exact n2b | assumption)) rfl ?_
      refine hl_v (v_move rfl) rfl ?_
      refine hl_h (h_call Tryz.call18 (evs_cons rfl (evs_cons rfl evs_nil)) (rHas_spec (by first | omega | assumption | (simp only [Int.toNat_natCast]; omega) | (simp; done) | (simp at *; omega)))) rfl ?_
      rintro _ H10 ⟨rfl, n11⟩
      have n11s := n11.size
      replace hx0 := Ext.trans hx0 n11
      replace n2b := Ext.blk n11 n2b (by simp)
      replace n4b := Ext.blk n11 n4b (by simp)
      replace n6b := Ext.blk n11 n6b (by simp)
      replace n8o := Ow.ext0 n8o n11
      refine hl_v (v_assign rfl) rfl ?_
      refine hl_nil ?_
      refine thenQ_n ?_
      refine hw_sub _ (ai_cons (t := 2) rfl (ai_cons (t := 3) rfl (ai_cons (t := 4) rfl (ai_cons (t := 6) rfl (ai_cons (t := 7) rfl (ai_cons (t := 8) rfl (ai_cons (t := 9) rfl ai_nil))))))) ?_
      refine hw_seq ?_
      refine hw_region ?_
      refine hl_v (v_loadS Tryz.isAgg37 Tryz.sizeOf37 rfl (by first | exact n4b | assumption)) rfl ?_
      refine hl_v (v_move rfl) rfl ?_
      refine hl_h (h_call Tryz.call18 (evs_cons rfl (evs_cons rfl evs_nil)) (rHas_spec (by first | omega | assumption | (simp only [Int.toNat_natCast]; omega) | (simp; done) | (simp at *; omega)))) rfl ?_
      rintro _ H12 ⟨rfl, n13⟩
      have n13s := n13.size
      replace hx0 := Ext.trans hx0 n13
      replace n2b := Ext.blk n13 n2b (by simp)
      replace n4b := Ext.blk n13 n4b (by simp)
      replace n6b := Ext.blk n13 n6b (by simp)
      replace n8o := Ow.ext0 n8o n13
      refine hl_v (v_assign rfl) rfl ?_
      refine hl_nil ?_
      refine thenQ_n ?_
      refine hw_sub _ (ai_cons (t := 2) rfl (ai_cons (t := 3) rfl (ai_cons (t := 4) rfl (ai_cons (t := 6) rfl (ai_cons (t := 7) rfl (ai_cons (t := 8) rfl (ai_cons (t := 9) rfl (ai_cons (t := 10) rfl ai_nil)))))))) ?_
      refine hw_region ?_
      refine hl_v (v_move rfl) rfl ?_
      refine hl_v (v_move rfl) rfl ?_
      refine hl_v (v_move rfl) rfl ?_
      refine hl_v (v_eql rfl rfl) rfl ?_
      refine hl_v (v_move rfl) rfl ?_
      refine hl_g rfl rfl (fun hg => (v_move rfl)) rfl ?_
      refine hl_v (v_and rfl rfl) rfl ?_
      refine hl_v (v_move rfl) rfl ?_
      refine hl_g rfl rfl (fun hg => (v_move rfl)) rfl ?_
      refine hl_v (v_and rfl rfl) rfl ?_
      refine hl_v (v_move rfl) rfl ?_
      refine hl_g rfl rfl (fun hg => (v_move rfl)) rfl ?_
      refine hl_g rfl rfl (fun hg => (v_eql (gv_ok rfl hg) rfl)) rfl ?_
      refine hl_g rfl rfl (fun hg => (v_move (gv_ok rfl hg))) rfl ?_
      refine hl_g rfl rfl (fun hg => (v_move rfl)) rfl ?_
      refine hl_g rfl rfl (fun hg => (v_move (gv_ok rfl hg))) rfl ?_
      refine hl_g rfl rfl (fun hg => (v_move rfl)) rfl ?_
      refine hl_g rfl rfl (fun hg => (v_or (gv_ok rfl hg) (gvgb_ok rfl hg))) rfl ?_
      refine hl_g rfl rfl (fun hg => (v_and (gv_ok rfl hg) (gvgb_ok rfl hg))) rfl ?_
      refine hl_v (v_or rfl rfl) rfl ?_
      refine hl_v (v_move rfl) rfl ?_
      refine hl_g rfl rfl (fun hg => (v_move rfl)) rfl ?_
      refine hl_g rfl rfl (fun hg => (v_eql (gv_ok rfl hg) rfl)) rfl ?_
      refine hl_g rfl rfl (fun hg => (v_move (gv_ok rfl hg))) rfl ?_
      refine hl_g rfl rfl (fun hg => (v_move rfl)) rfl ?_
      refine hl_g rfl rfl (fun hg => (v_and (gv_ok rfl hg) (gvgb_ok rfl hg))) rfl ?_
      refine hl_g rfl rfl (fun hg => (v_move (gv_ok rfl hg))) rfl ?_
      refine hl_g rfl rfl (fun hg => (v_move rfl)) rfl ?_
      refine hl_g rfl rfl (fun hg => (v_not (gv_ok rfl hg))) rfl ?_
      refine hl_g rfl rfl (fun hg => (v_and (gv_ok rfl hg) (gvgb_ok rfl hg))) rfl ?_
      refine hl_v (v_or rfl rfl) rfl ?_
      refine hl_v (v_move rfl) rfl ?_
      refine hl_g rfl rfl (fun hg => (v_move rfl)) rfl ?_
      refine hl_g rfl rfl (fun hg => (v_eql (gv_ok rfl hg) rfl)) rfl ?_
      refine hl_g rfl rfl (fun hg => (v_move (gv_ok rfl hg))) rfl ?_
      refine hl_g rfl rfl (fun hg => (v_move rfl)) rfl ?_
      refine hl_g rfl rfl (fun hg => (v_not (gv_ok rfl hg))) rfl ?_
      refine hl_g rfl rfl (fun hg => (v_and (gv_ok rfl hg) (gvgb_ok rfl hg))) rfl ?_
      refine hl_v (v_or rfl rfl) rfl ?_
      refine hl_v (v_ixL Tryz.underlying48 Tryz.sizeOf4 rfl rfl (by first | assumption | exact Ow.sl0 (by assumption)) (by first | omega | assumption | (simp only [Int.toNat_natCast]; omega) | (simp; done) | (simp at *; omega))) rfl ?_
      refine hl_s (h_storeOw1 Tryz.sizeOf4 rfl rfl rfl rfl n8o (by first | omega | assumption | (simp only [Int.toNat_natCast]; omega) | (simp; done) | (simp at *; omega)) rfl rfl) ?_
      rintro _ H14 p15
      have p15s := p15.size
      replace hx0 := Ext.fresh hx0 p15.ext (by intro b hb; exact Or.inl (Nat.le_trans (by omega) (Ow.lt n8o b hb).1))
      replace n2b := Ext.blk p15.ext n2b (by intro hm; have hlt := Ow.lt n8o _ hm; (try simp only [mb, List.mem_singleton] at hb); (try simp only [mb, List.mem_singleton] at hm); omega)
      replace n4b := Ext.blk p15.ext n4b (by intro hm; have hlt := Ow.lt n8o _ hm; (try simp only [mb, List.mem_singleton] at hb); (try simp only [mb, List.mem_singleton] at hm); omega)
      replace n6b := Ext.blk p15.ext n6b (by intro hm; have hlt := Ow.lt n8o _ hm; (try simp only [mb, List.mem_singleton] at hb); (try simp only [mb, List.mem_singleton] at hm); omega)
      replace n8o := p15.ow
      refine hl_nil ?_
      refine blockQ_n ?_
      refine thenQ_n ?_
      refine hw_region ?_
      refine hl_v (v_move rfl) rfl ?_
      refine hl_v (v_add rfl rfl (by first | omega | assumption | (simp only [Int.toNat_natCast]; omega) | (simp; done) | (simp at *; omega))) rfl ?_
      refine hl_v (v_assign rfl) rfl ?_
      refine hl_nil ?_
      refine thenQ_n ?_
      refine ⟨k + 1, (ai_cons (t := 8) rfl (ai_cons (t := 2) rfl (ai_cons (t := 3) rfl (ai_cons (t := 4) rfl (ai_cons (t := 6) rfl (ai_cons (t := 7) rfl ai_nil)))))), ?_, ?_⟩
      · skip
        exact ⟨hx0, n2b, n4b, n6b, (n8o.congr (upto_set (fun m => byP how (s.has m) (t.has m)) rfl)), (by omega), by omega⟩
      · omega
    · try simp only [decide_eq_true_eq, decide_eq_false_iff_not, Bool.and_eq_true, Bool.and_eq_false_iff, Bool.or_eq_true, Bool.or_eq_false_iff, Bool.not_eq_true', Bool.not_eq_false', Bool.not_eq_true, Bool.not_eq_false, beq_iff_eq, Int.not_lt, Int.not_le] at hc9
      refine hw_exit ?_
      refine thenQ_e ?_
      refine thenQ_e ?_
      refine blockQ_hit ?_
      refine thenQ_n ?_
      refine hw_seq ?_
      refine hw_region ?_
      refine hl_v (v_move rfl) rfl ?_
      refine hl_h (h_call Tryz.call36 (evs_cons rfl evs_nil) (Make_spec (by first | assumption | exact Ow.sl0 (by assumption)) (by first | assumption | exact fun _ h => h | exact fun b hb => (Ow.lt (by assumption) b hb).2 | (intro b hb; have hSb := hS b hb; omega)) (by first | assumption | simp [tab_len]))) rfl ?_
      rintro _ H16 ⟨rfl, n17⟩
      have n17s := n17.size
      replace hx0 := Ext.trans hx0 n17
      replace n2b := Ext.blk n17 n2b (by simp)
      replace n4b := Ext.blk n17 n4b (by simp)
      replace n6b := Ext.blk n17 n6b (by simp)
      replace n8o := Ow.ext0 n8o n17
      refine hl_s (h_storeS Tryz.sizeOf37 rfl rfl n6b) ?_
      rintro _ H18 p19
      have p19s := p19.size
      replace hx0 := Ext.fresh hx0 p19.ext (by intro b hb; simp at hb; omega)
      replace n2b := Ext.blk p19.ext n2b (by (try simp only [mb, List.mem_singleton] at hb); simp; omega)
      replace n4b := Ext.blk p19.ext n4b (by (try simp only [mb, List.mem_singleton] at hb); simp; omega)
      replace n8o := Ow.ext n8o p19.ext (by intro b hb; have hlb := Ow.lt n8o b hb; (try simp only [mb, List.mem_singleton] at hb); simp; omega)
      replace n6b := p19.blk
      refine hl_nil ?_
      refine thenQ_n ?_
      refine hw_sub _ (ai_cons (t := 6) rfl ai_nil) ?_
      refine hw_ret ?_
      refine ret_i _ (ra_c rfl (fun w hw => run_loadVar_at Tryz.isAgg37 Tryz.sizeOf37 (Blk.at0 (by assumption)) rfl w hw) ra_nil) ?_
      obtain rfl : k = 256 := by omega
      refine ⟨congrArg sv ?_, hx0⟩
      rw [BSet.ofFn_upto]
      apply BSet.ofFn_congr _ (Nat.le_refl _)
      intro m hm
      simp [hm]
end
section
open Go.Proofs
open Tryz
theorem setHas_spec {a0 : BSet} {a1 : UInt8} {L : List As} {H : Heap} {Z : Nat → Prop} (hO : Own H Z L) : HC Tryz.prog 53 [sv a0, .int .u8 a1.toNat] H (fun v H' => ∃ (Z' : Nat → Prop), (∀ b, Z b → Z' b) ∧ v = .bool (a0.has a1.toNat) ∧ Own H' Z' L) :=
  Has_spec.mono fun v H' ⟨h1, h2⟩ => ⟨Z, fun _ h => h, h1, hO.ext h2⟩
theorem setOf_spec {a0 : List UInt8} {v : Value} {L : List As} {H : Heap} {Z : Nat → Prop} (hO : Own H Z L) (hr : Rd fByte.rep L v a0) : HC Tryz.prog 17 [v] H (fun v H' => ∃ (Z' : Nat → Prop), (∀ b, Z b → Z' b) ∧ v = sv (BSet.ofL a0) ∧ Own H' Z' L) :=
  (Of_spec ((hr.sl hO).inb (by decide)) fun _ h => h).mono fun v H' ⟨h1, h2⟩ => ⟨Z, fun _ h => h, h1, hO.ext h2⟩
end
section
open Go.Proofs
end
section
open Go.Proofs
open Tryz
theorem eqv_39_15 (a b : GArc) (w : World) : (Op.equalIn 10000 39 (.agg (fGArc.enc a).toArray) (.agg (fGArc.enc b).toArray)).run Tryz.prog w = .ok (decide (a = b)) w := by
  have hF := (show ∀ fs, Tryz.prog.underlying 39 = some (.struct fs) → Tryz.prog.fieldsOf 39 = fs from fun fs h => by unfold Program.fieldsOf; rw [h]) _ underlying39
  have e : decide (a = b) = (decide (a.From = b.From) && (decide (a.To = b.To) && (decide (a.Set = b.Set) && (decide (a.Out = b.Out) && (decide (a.Copy = b.Copy) && true))))) := by
    obtain ⟨a0, a1, a2, a3, a4⟩ := a; obtain ⟨b0, b1, b2, b3, b4⟩ := b
    rw [Bool.eq_iff_iff]; simp [GArc.mk.injEq]
  rw [e, show (10000 : Nat) = 9999 + 1 from rfl, run_equalIn_struct w 9999 39 _ _ (by rw [hF]; exact underlying39) (by kernel_rfl), hF]
  exact (eqF_cons (by decide) (part1 isAgg3 rfl) (part1 isAgg3 rfl) (eqI underlying3) (eqF_cons (by decide) (part1 isAgg3 rfl) (part1 isAgg3 rfl) (eqI underlying3) (eqF_cons (by decide) (partA isAgg37 sizeOf37 rfl) (partA isAgg37 sizeOf37 rfl) (eqSet (d := 9997) underlying37 underlying35 sizeOf35) (eqF_cons (by decide) (part1 isAgg9 rfl) (part1 isAgg9 rfl) (eqS underlying9) (eqF_cons (by decide) (part1 isAgg4 rfl) (part1 isAgg4 rfl) (eqB underlying4) eqF_nil))))) w
theorem eqv_50_15 (a b : GTip) (w : World) : (Op.equalIn 10000 50 (.agg (fGTip.enc a).toArray) (.agg (fGTip.enc b).toArray)).run Tryz.prog w = .ok (decide (a = b)) w := by
  have hF := (show ∀ fs, Tryz.prog.underlying 50 = some (.struct fs) → Tryz.prog.fieldsOf 50 = fs from fun fs h => by unfold Program.fieldsOf; rw [h]) _ underlying50
  have e : decide (a = b) = (decide (a.State = b.State) && (decide (a.Out = b.Out) && true)) := by
    obtain ⟨a0, a1⟩ := a; obtain ⟨b0, b1⟩ := b
    rw [Bool.eq_iff_iff]; simp [GTip.mk.injEq]
  rw [e, show (10000 : Nat) = 9999 + 1 from rfl, run_equalIn_struct w 9999 50 _ _ (by rw [hF]; exact underlying50) (by kernel_rfl), hF]
  exact (eqF_cons (by decide) (part1 isAgg3 rfl) (part1 isAgg3 rfl) (eqI underlying3) (eqF_cons (by decide) (part1 isAgg9 rfl) (part1 isAgg9 rfl) (eqS underlying9) eqF_nil)) w
theorem isNaNI_ok {x : Int}  {Q : Bool → Prop} {H : Heap} {Z : Nat → Prop} {L : List As} (h : wp_isNaNI x Q) (hO : Own H Z (L))  : HC Tryz.prog 77 [.int .i64 x] H (fun v H' => ∃ (r0 : Bool) , Q r0 ∧ v = .bool r0 ∧ H' = H) := by
 unfold wp_isNaNI at h
 refine hc_of_hw (N := 6) (rs := [(.tmp 2)]) Tryz.func77 rfl rfl rfl rfl (hw_seq (hw_region (hl_v (v_assign rfl) rfl (hl_nil (thenQ_n (hw_seq (hw_region (hl_v (v_move rfl) rfl (hl_v (v_move rfl) rfl (hl_v (v_neq rfl rfl) rfl (hl_v (v_assign rfl) rfl (hl_nil (thenQ_n (hw_ret (ret_i _ (ra_t rfl ra_nil) ?_)))))))))))))))
 exact ⟨(!decide (x = x)), h, rfl, rfl⟩
theorem isNaNI_spec {a0 : Int}  {L : List As} {H : Heap} {Z : Nat → Prop} (hO : Own H Z (L))  : HC Tryz.prog 77 [.int .i64 a0] H (fun v H' => v = .bool (false) ∧ H' = H) := by
  refine (isNaNI_ok (x := a0) (@isNaNI_wp a0) hO).mono ?_
  rintro v H' ⟨r0, hq, hv, hH⟩
  obtain rfl := hq
  exact ⟨hv, hH⟩
theorem cmpInt_ok {x : Int} {y : Int}  {Q : Int → Prop} {H : Heap} {Z : Nat → Prop} {L : List As} (h : wp_cmpInt x y Q) (hO : Own H Z (L))  : HC Tryz.prog 63 [.int .i64 x, .int .i64 y] H (fun v H' => ∃ (r0 : Int) , Q r0 ∧ v = .int .i64 r0 ∧ H' = H) := by
 unfold wp_cmpInt at h
 refine hc_of_hw (N := 20) (rs := [(.tmp 4)]) Tryz.func63 rfl rfl rfl rfl (hw_seq (hw_region (hl_v (v_assign rfl) rfl (hl_nil (thenQ_n (hw_seq (hw_region (hl_v (v_move rfl) rfl (hl_v (v_call call77 (evs_cons rfl evs_nil) (isNaNI_spec (a0 := x) hO)) rfl (hl_v (v_assign rfl) rfl (hl_nil (thenQ_n (hw_seq (hw_region (hl_v (v_move rfl) rfl (hl_v (v_call call77 (evs_cons rfl evs_nil) (isNaNI_spec (a0 := y) hO)) rfl (hl_v (v_assign rfl) rfl (hl_nil (thenQ_n (hw_seq (hw_seq (hw_region (hl_v (v_move rfl) rfl (hl_nil (thenQ_n (hw_cond_f rfl (hw_skip (thenQ_n (hw_seq (hw_seq (hw_region (hl_v (v_move rfl) rfl (hl_nil (thenQ_n (hw_cond_f rfl (hw_skip (thenQ_n (hw_seq (hw_seq (hw_region (hl_v (v_move rfl) rfl (hl_v (v_move rfl) rfl (hl_v (v_lss rfl rfl) rfl (hl_nil (thenQ_n (hw_cond rfl (fun hc_1 => ?_) (fun hc_1 => ?_)))))))))))))))))))))))))))))))))))))))))))))))
 ·replace h := ite_t h hc_1
  refine hw_seq (hw_region (hl_v (v_assign rfl) rfl (hl_nil (thenQ_n (hw_ret (thenQ_r (ret_i _ (ra_t rfl ra_nil) ?_)))))))
  exact ⟨(-1), h, rfl, rfl⟩
 ·replace h := ite_f h hc_1
  refine hw_skip (thenQ_n (hw_seq (hw_seq (hw_region (hl_v (v_move rfl) rfl (hl_v (v_move rfl) rfl (hl_v (v_gtr rfl rfl) rfl (hl_nil (thenQ_n (hw_sub _ (a_c 19 rfl a_n) (hw_cond rfl (fun hc_2 => ?_) (fun hc_2 => ?_))))))))))))
  ·replace h := ite_t h hc_2
   refine hw_seq (hw_region (hl_v (v_assign rfl) rfl (hl_nil (thenQ_n (hw_ret (thenQ_r (ret_i _ (ra_t rfl ra_nil) ?_)))))))
   exact ⟨1, h, rfl, rfl⟩
  ·replace h := ite_f h hc_2
   refine hw_skip (thenQ_n (hw_seq (hw_region (hl_v (v_assign rfl) rfl (hl_nil (thenQ_n (hw_ret (ret_i _ (ra_t rfl ra_nil) ?_))))))))
   exact ⟨0, h, rfl, rfl⟩
theorem cmpInt_spec {a0 : Int} {a1 : Int}  {L : List As} {H : Heap} {Z : Nat → Prop} (hO : Own H Z (L))  : HC Tryz.prog 63 [.int .i64 a0, .int .i64 a1] H (fun v H' => v = .int .i64 ((cmpI a0 a1)) ∧ H' = H) := by
  refine (cmpInt_ok (x := a0) (y := a1) (@cmpInt_wp a0 a1) hO).mono ?_
  rintro v H' ⟨r0, hq, hv, hH⟩
  obtain rfl := hq
  exact ⟨hv, hH⟩
theorem isNaNW_ok {x : BitVec 64}  {Q : Bool → Prop} {H : Heap} {Z : Nat → Prop} {L : List As} (h : wp_isNaNW x Q) (hO : Own H Z (L))  : HC Tryz.prog 101 [w64 x] H (fun v H' => ∃ (r0 : Bool) , Q r0 ∧ v = .bool r0 ∧ H' = H) := by
 unfold wp_isNaNW at h
 refine hc_of_hw (N := 6) (rs := [(.tmp 2)]) Tryz.func101 rfl rfl rfl rfl (hw_seq (hw_region (hl_v (v_assign rfl) rfl (hl_nil (thenQ_n (hw_seq (hw_region (hl_v (v_move rfl) rfl (hl_v (v_move rfl) rfl (hl_v (v_neq64 rfl rfl) rfl (hl_v (v_assign rfl) rfl (hl_nil (thenQ_n (hw_ret (ret_i _ (ra_t rfl ra_nil) ?_)))))))))))))))
 exact ⟨(!decide (x = x)), h, rfl, rfl⟩
theorem isNaNW_spec {a0 : BitVec 64}  {L : List As} {H : Heap} {Z : Nat → Prop} (hO : Own H Z (L))  : HC Tryz.prog 101 [w64 a0] H (fun v H' => v = .bool (false) ∧ H' = H) := by
  refine (isNaNW_ok (x := a0) (@isNaNW_wp a0) hO).mono ?_
  rintro v H' ⟨r0, hq, hv, hH⟩
  obtain rfl := hq
  exact ⟨hv, hH⟩
theorem cmpWord_ok {x : BitVec 64} {y : BitVec 64}  {Q : Int → Prop} {H : Heap} {Z : Nat → Prop} {L : List As} (h : wp_cmpWord x y Q) (hO : Own H Z (L))  : HC Tryz.prog 80 [w64 x, w64 y] H (fun v H' => ∃ (r0 : Int) , Q r0 ∧ v = .int .i64 r0 ∧ H' = H) := by
 unfold wp_cmpWord at h
 refine hc_of_hw (N := 20) (rs := [(.tmp 4)]) Tryz.func80 rfl rfl rfl rfl (hw_seq (hw_region (hl_v (v_assign rfl) rfl (hl_nil (thenQ_n (hw_seq (hw_region (hl_v (v_move rfl) rfl (hl_v (v_call call101 (evs_cons rfl evs_nil) (isNaNW_spec (a0 := x) hO)) rfl (hl_v (v_assign rfl) rfl (hl_nil (thenQ_n (hw_seq (hw_region (hl_v (v_move rfl) rfl (hl_v (v_call call101 (evs_cons rfl evs_nil) (isNaNW_spec (a0 := y) hO)) rfl (hl_v (v_assign rfl) rfl (hl_nil (thenQ_n (hw_seq (hw_seq (hw_region (hl_v (v_move rfl) rfl (hl_nil (thenQ_n (hw_cond_f rfl (hw_skip (thenQ_n (hw_seq (hw_seq (hw_region (hl_v (v_move rfl) rfl (hl_nil (thenQ_n (hw_cond_f rfl (hw_skip (thenQ_n (hw_seq (hw_seq (hw_region (hl_v (v_move rfl) rfl (hl_v (v_move rfl) rfl (hl_v (v_lss64 rfl rfl) rfl (hl_nil (thenQ_n (hw_cond rfl (fun hc_1 => ?_) (fun hc_1 => ?_)))))))))))))))))))))))))))))))))))))))))))))))
 ·replace h := ite_t h hc_1
  refine hw_seq (hw_region (hl_v (v_assign rfl) rfl (hl_nil (thenQ_n (hw_ret (thenQ_r (ret_i _ (ra_t rfl ra_nil) ?_)))))))
  exact ⟨(-1), h, rfl, rfl⟩
 ·replace h := ite_f h hc_1
  refine hw_skip (thenQ_n (hw_seq (hw_seq (hw_region (hl_v (v_move rfl) rfl (hl_v (v_move rfl) rfl (hl_v (v_gtr64 rfl rfl) rfl (hl_nil (thenQ_n (hw_sub _ (a_c 19 rfl a_n) (hw_cond rfl (fun hc_2 => ?_) (fun hc_2 => ?_))))))))))))
  ·replace h := ite_t h hc_2
   refine hw_seq (hw_region (hl_v (v_assign rfl) rfl (hl_nil (thenQ_n (hw_ret (thenQ_r (ret_i _ (ra_t rfl ra_nil) ?_)))))))
   exact ⟨1, h, rfl, rfl⟩
  ·replace h := ite_f h hc_2
   refine hw_skip (thenQ_n (hw_seq (hw_region (hl_v (v_assign rfl) rfl (hl_nil (thenQ_n (hw_ret (ret_i _ (ra_t rfl ra_nil) ?_))))))))
   exact ⟨0, h, rfl, rfl⟩
theorem cmpWord_spec {a0 : BitVec 64} {a1 : BitVec 64}  {L : List As} {H : Heap} {Z : Nat → Prop} (hO : Own H Z (L))  : HC Tryz.prog 80 [w64 a0, w64 a1] H (fun v H' => v = .int .i64 ((cmpW a0 a1)) ∧ H' = H) := by
  refine (cmpWord_ok (x := a0) (y := a1) (@cmpWord_wp a0 a1) hO).mono ?_
  rintro v H' ⟨r0, hq, hv, hH⟩
  obtain rfl := hq
  exact ⟨hv, hH⟩
theorem cmpWords_ok {s1 : List (BitVec 64)} {s2 : List (BitVec 64)} {v_1 : Value} {v_3 : Value} {Q : Int → Prop} {H : Heap} {Z : Nat → Prop} {L : List As} (h : wp_cmpWords s1 s2 Q) (hO : Own H Z (L)) (hr_2 : Rd fWord.rep L v_1 s1) (hr_4 : Rd fWord.rep L v_3 s2) : HC Tryz.prog 69 [v_1, v_3] H (fun v H' => ∃ (r0 : Int) , Q r0 ∧ v = .int .i64 r0 ∧ H' = H) := by
 unfold wp_cmpWords at h
 refine hc_of_hw (N := 36) (rs := [(.tmp 4)]) Tryz.func69 rfl rfl rfl rfl (hw_seq (hw_region (hl_v (v_assign rfl) rfl (hl_nil (thenQ_n (hw_seq (hw_seq (hw_region (hl_v (v_move rfl) rfl ?_)))))))))
 have hln_5 := Sl.cap (Rd.sl hr_2 hO)
 refine hl_v (v_lenL rfl underlying126 rfl (Rd.sl hr_2 hO)) rfl (hl_v (v_move rfl) rfl (hl_nil (thenQ_n (hw_block ?_))))
 obtain ⟨I_6, h, hI_8⟩ := h
 refine hw_lp (fun n' g' H' => ∃ (k : Nat) (Z' : Nat → Prop), n' = s1.length - k ∧ g' = [(0, v_1), (1, v_3), (9, v_1), (10, .int .i64 (s1.length : Int)), (11, .int .i64 (k : Int))] ∧ I_6 k ∧ k ≤ s1.length ∧ Own H' Z' (L) ∧ H = H') _ _ (a_c 0 rfl (a_c 1 rfl (a_c 9 rfl (a_c 10 rfl (a_c 11 rfl a_n))))) ⟨0, _, rfl, rfl, h, by omega, hO, rfl⟩ ?_
 rintro _ _ H_9 ⟨k, Z_10, rfl, rfl, h, hb_11, hO, rfl⟩
 replace h := hI_8 k h hb_11
 refine hw_seq (hw_region (hl_v (v_lss rfl rfl) rfl (hl_nil (thenQ_n (hw_seq (hw_cond rfl (fun hc_12 => ?_) (fun hc_12 => ?_)))))))
 ·replace h := ite_t h hc_12
  refine hw_skip (thenQ_n (hw_seq (hw_block (hw_seq (hw_region (hl_v (v_move rfl) rfl (hl_v (v_ixL underlying126 sizeOf35 rfl rfl (Rd.sl hr_2 hO) (by exact ⟨Int.natCast_nonneg _, of_decide_eq_true hc_12⟩)) rfl (hl_v (v_loadSc isAgg35 rfl (Rd.sl hr_2 hO) rfl (by exact ⟨Int.natCast_nonneg _, of_decide_eq_true hc_12⟩) rfl) rfl (hl_v (v_assign rfl) rfl (hl_v (v_assign rfl) rfl (hl_nil (thenQ_n (hw_seq (hw_seq (hw_region (hl_v (v_move rfl) rfl (hl_v (v_move rfl) rfl ?_)))))))))))))))))
  have hln_13 := Sl.cap (Rd.sl hr_4 hO)
  refine hl_v (v_lenL rfl underlying126 rfl (Rd.sl hr_4 hO)) rfl (hl_v (v_geq rfl rfl) rfl (hl_nil (thenQ_n (hw_sub _ (a_c 0 rfl (a_c 1 rfl (a_c 5 rfl (a_c 6 rfl (a_c 9 rfl (a_c 10 rfl (a_c 11 rfl (a_c 19 rfl a_n)))))))) (hw_cond rfl (fun hc_14 => ?_) (fun hc_14 => ?_))))))
  ·replace h := ite_t h hc_14
   refine hw_seq (hw_region (hl_v (v_assign rfl) rfl (hl_nil (thenQ_n (hw_ret (thenQ_r (blockQ_r (thenQ_r (thenQ_r (blockQ_r (thenQ_r (ret_i _ (ra_t rfl ra_nil) ?_))))))))))))
   exact ⟨1, h, rfl, rfl⟩
  ·replace h := ite_f h hc_14
   refine hw_skip (thenQ_n (hw_seq (hw_region (hl_v (v_move rfl) rfl (hl_v (v_move rfl) rfl ?_)))))
   obtain ⟨hs_15, h⟩ := h
   refine hl_v (v_ixL underlying126 sizeOf35 rfl rfl (Rd.sl hr_4 hO) hs_15) rfl (hl_v (v_loadSc isAgg35 rfl (Rd.sl hr_4 hO) rfl hs_15 rfl) rfl (hl_v (v_assign rfl) rfl (hl_nil (thenQ_n (hw_seq (hw_region (hl_v (v_move rfl) rfl (hl_v (v_move rfl) rfl (hl_v (v_call call80 (evs_cons rfl (evs_cons rfl evs_nil)) (cmpWord_spec (a0 := (s1.getD k default)) (a1 := (s2.getD k default)) hO)) rfl (hl_v (v_assign rfl) rfl (hl_nil (thenQ_n (hw_sub _ (a_c 0 rfl (a_c 1 rfl (a_c 8 rfl (a_c 9 rfl (a_c 10 rfl (a_c 11 rfl a_n)))))) (hw_seq (hw_region (hl_v (v_move rfl) rfl (hl_v (v_neq rfl rfl) rfl (hl_nil (thenQ_n (hw_cond rfl (fun hc_16 => ?_) (fun hc_16 => ?_)))))))))))))))))))))
   ·replace h := ite_t h hc_16
    refine hw_seq (hw_region (hl_v (v_move rfl) rfl (hl_v (v_assign rfl) rfl (hl_nil (thenQ_n (hw_ret (blockQ_r (thenQ_r (thenQ_r (blockQ_r (thenQ_r (ret_i _ (ra_t rfl ra_nil) ?_))))))))))))
    exact ⟨(cmpW (s1.getD k default) (s2.getD k default)), h, rfl, rfl⟩
   ·replace h := ite_f h hc_16
    refine hw_skip (blockQ_n (thenQ_n (hw_region (hl_v (v_add rfl rfl (by have hq := of_decide_eq_true hc_12; have hm := hln_5; constructor <;> omega)) rfl (hl_v (v_move rfl) rfl (hl_nil (thenQ_n ?_)))))))
    exact ⟨_, _, (a_c 0 rfl (a_c 1 rfl (a_c 9 rfl (a_c 10 rfl (a_c 11 rfl a_n))))), ⟨k + 1, _, rfl, rfl, h, (by have hq := of_decide_eq_true hc_12; omega), hO, rfl⟩, (by have hq := of_decide_eq_true hc_12; omega)⟩
 ·replace h := ite_f h hc_12
  refine hw_exit (thenQ_e (thenQ_e (blockQ_hit (thenQ_n (hw_seq (hw_seq (hw_region (hl_v (v_move rfl) rfl (hl_v (v_lenL rfl underlying126 rfl (Rd.sl hr_2 hO)) rfl (hl_v (v_move rfl) rfl ?_))))))))))
  have hln_17 := Sl.cap (Rd.sl hr_4 hO)
  refine hl_v (v_lenL rfl underlying126 rfl (Rd.sl hr_4 hO)) rfl (hl_v (v_lss rfl rfl) rfl (hl_nil (thenQ_n (hw_cond rfl (fun hc_18 => ?_) (fun hc_18 => ?_)))))
  ·replace h := ite_t h hc_18
   refine hw_seq (hw_region (hl_v (v_assign rfl) rfl (hl_nil (thenQ_n (hw_ret (thenQ_r (ret_i _ (ra_t rfl ra_nil) ?_)))))))
   exact ⟨(-1), h, rfl, rfl⟩
  ·replace h := ite_f h hc_18
   refine hw_skip (thenQ_n (hw_seq (hw_region (hl_v (v_assign rfl) rfl (hl_nil (thenQ_n (hw_ret (ret_i _ (ra_t rfl ra_nil) ?_))))))))
   exact ⟨0, h, rfl, rfl⟩
theorem cmpWords_spec {a0 : List (BitVec 64)} {a1 : List (BitVec 64)} {v_1 : Value} {v_3 : Value} {L : List As} {H : Heap} {Z : Nat → Prop} (hO : Own H Z (L)) (hr_2 : Rd fWord.rep L v_1 a0) (hr_4 : Rd fWord.rep L v_3 a1) : HC Tryz.prog 69 [v_1, v_3] H (fun v H' => v = .int .i64 ((cmpL cmpW a0 a1)) ∧ H' = H) := by
  refine (cmpWords_ok (s1 := a0) (s2 := a1) (@cmpWords_wp a0 a1) hO hr_2 hr_4).mono ?_
  rintro v H' ⟨r0, hq, hv, hH⟩
  obtain rfl := hq
  exact ⟨hv, hH⟩
theorem cmpOr_ok {vals : List Int} {v_1 : Value} {Q : Int → Prop} {H : Heap} {Z : Nat → Prop} {L : List As} (h : wp_cmpOr vals Q) (hO : Own H Z (L)) (hr_2 : Rd fInt.rep L v_1 vals) : HC Tryz.prog 62 [v_1] H (fun v H' => ∃ (r0 : Int) , Q r0 ∧ v = .int .i64 r0 ∧ H' = H) := by
 unfold wp_cmpOr at h
 refine hc_of_hw (N := 18) (rs := [(.tmp 2)]) Tryz.func62 rfl rfl rfl rfl (hw_seq (hw_region (hl_v (v_assign rfl) rfl (hl_nil (thenQ_n (hw_seq (hw_region (hl_v (v_assign rfl) rfl (hl_nil (thenQ_n (hw_seq (hw_seq (hw_region (hl_v (v_move rfl) rfl ?_))))))))))))))
 have hln_3 := Sl.cap (Rd.sl hr_2 hO)
 refine hl_v (v_lenL rfl underlying67 rfl (Rd.sl hr_2 hO)) rfl (hl_v (v_move rfl) rfl (hl_nil (thenQ_n (hw_block ?_))))
 obtain ⟨I_4, h, hI_6⟩ := h
 refine hw_lp (fun n' g' H' => ∃ (k : Nat) (Z' : Nat → Prop), n' = vals.length - k ∧ g' = [(3, .int .i64 0), (6, v_1), (7, .int .i64 (vals.length : Int)), (8, .int .i64 (k : Int))] ∧ I_4 k ∧ k ≤ vals.length ∧ Own H' Z' (L) ∧ H = H') _ _ (a_c 3 rfl (a_c 6 rfl (a_c 7 rfl (a_c 8 rfl a_n)))) ⟨0, _, rfl, rfl, h, by omega, hO, rfl⟩ ?_
 rintro _ _ H_7 ⟨k, Z_8, rfl, rfl, h, hb_9, hO, rfl⟩
 replace h := hI_6 k h hb_9
 refine hw_seq (hw_region (hl_v (v_lss rfl rfl) rfl (hl_nil (thenQ_n (hw_seq (hw_cond rfl (fun hc_10 => ?_) (fun hc_10 => ?_)))))))
 ·replace h := ite_t h hc_10
  refine hw_skip (thenQ_n (hw_seq (hw_block (hw_seq (hw_region (hl_v (v_ixL underlying67 sizeOf3 rfl rfl (Rd.sl hr_2 hO) (by exact ⟨Int.natCast_nonneg _, of_decide_eq_true hc_10⟩)) rfl (hl_v (v_loadSc isAgg3 rfl (Rd.sl hr_2 hO) rfl (by exact ⟨Int.natCast_nonneg _, of_decide_eq_true hc_10⟩) rfl) rfl (hl_v (v_assign rfl) rfl (hl_nil (thenQ_n (hw_seq (hw_region (hl_v (v_move rfl) rfl (hl_v (v_move rfl) rfl (hl_v (v_neq rfl rfl) rfl (hl_nil (thenQ_n (hw_cond rfl (fun hc_11 => ?_) (fun hc_11 => ?_)))))))))))))))))))
  ·replace h := ite_t h hc_11
   refine hw_seq (hw_region (hl_v (v_move rfl) rfl (hl_v (v_assign rfl) rfl (hl_nil (thenQ_n (hw_ret (blockQ_r (thenQ_r (thenQ_r (blockQ_r (thenQ_r (ret_i _ (ra_t rfl ra_nil) ?_))))))))))))
   exact ⟨(vals.getD k default), h, rfl, rfl⟩
  ·replace h := ite_f h hc_11
   refine hw_skip (blockQ_n (thenQ_n (hw_region (hl_v (v_add rfl rfl (by have hq := of_decide_eq_true hc_10; have hm := hln_3; constructor <;> omega)) rfl (hl_v (v_move rfl) rfl (hl_nil (thenQ_n ?_)))))))
   exact ⟨_, _, (a_c 3 rfl (a_c 6 rfl (a_c 7 rfl (a_c 8 rfl a_n)))), ⟨k + 1, _, rfl, rfl, h, (by have hq := of_decide_eq_true hc_10; omega), hO, rfl⟩, (by have hq := of_decide_eq_true hc_10; omega)⟩
 ·replace h := ite_f h hc_10
  refine hw_exit (thenQ_e (thenQ_e (blockQ_hit (thenQ_n (hw_seq (hw_region (hl_v (v_move rfl) rfl (hl_v (v_assign rfl) rfl (hl_nil (thenQ_n (hw_ret (ret_i _ (ra_t rfl ra_nil) ?_))))))))))))
  exact ⟨0, h, rfl, rfl⟩
theorem cmpOr_spec {a0 : List Int} {v_1 : Value} {L : List As} {H : Heap} {Z : Nat → Prop} (hO : Own H Z (L)) (hr_2 : Rd fInt.rep L v_1 a0) : HC Tryz.prog 62 [v_1] H (fun v H' => v = .int .i64 ((orL a0)) ∧ H' = H) := by
  refine (cmpOr_ok (vals := a0) (@cmpOr_wp a0) hO hr_2).mono ?_
  rintro v H' ⟨r0, hq, hv, hH⟩
  obtain rfl := hq
  exact ⟨hv, hH⟩
theorem cmpStr0_spec {a0 a1 : List UInt8} {L : List As} {H : Heap} {Z : Nat → Prop} (hO : Own H Z L) : HC Tryz.prog 78 [str a0, str a1] H (fun v H' => ∃ (Z' : Nat → Prop), (∀ b, Z b → Z' b) ∧ v = .int .i64 (cmpS a0 a1) ∧ Own H' Z' L) := by
  intro w hw
  subst hw
  refine (Go.Proofs.Any.bytealg_CompareString cmpStrL ⟨a0.toArray⟩ ⟨a1.toArray⟩ w).mono ?_
  rintro e w' ⟨rfl, rfl⟩
  exact ⟨_, rfl, .refl _, Z, fun _ h => h, by rw [compareBytes_eq], hO⟩
theorem cmpStr_ok {a : List UInt8} {b : List UInt8}  {Q : Int → Prop} {H : Heap} {Z : Nat → Prop} {L : List As} (h : wp_cmpStr a b Q) (hO : Own H Z (L))  : HC Tryz.prog 64 [str a, str b] H (fun v H' => ∃ (Z' : Nat → Prop) (r0 : Int) , (∀ b, Z b → Z' b) ∧ Q r0 ∧ v = .int .i64 r0 ∧ Own H' Z' (L)) := by
 replace hO := hO.inZ
 unfold wp_cmpStr at h
 refine hc_of_hw (N := 8) (rs := [(.tmp 4)]) Tryz.func64 rfl rfl rfl rfl (hw_seq (hw_region (hl_v (v_assign rfl) rfl (hl_nil (thenQ_n (hw_seq (hw_region (hl_v (v_move rfl) rfl (hl_v (v_move rfl) rfl (hl_h (h_call call78 (evs_cons rfl (evs_cons rfl evs_nil)) (cmpStr0_spec (a0 := a) (a1 := b) hO)) rfl ?_))))))))))
 rintro _ H_1 ⟨Z_2, _, rfl, hO⟩
 refine hl_v (v_assign rfl) rfl (hl_nil (thenQ_n (hw_ret (ret_i _ (ra_t rfl ra_nil) ?_))))
 exact ⟨_, (cmpS a b), (hO.inz 0 rfl), h, rfl, (Own.sel (Ls := [_]) (L := L) [] rfl hO)⟩
theorem cmpStr_spec {a0 : List UInt8} {a1 : List UInt8}  {L : List As} {H : Heap} {Z : Nat → Prop} (hO : Own H Z (L))  : HC Tryz.prog 64 [str a0, str a1] H (fun v H' => ∃ (Z' : Nat → Prop) , (∀ a1, Z a1 → Z' a1) ∧ v = .int .i64 ((cmpS a0 a1)) ∧ Own H' Z' (L)) := by
  refine (cmpStr_ok (a := a0) (b := a1) (@cmpStr_wp a0 a1) hO).mono ?_
  rintro v H' ⟨Z', r0, hz, hq, hv, hO'⟩
  obtain rfl := hq
  exact ⟨Z', hz, hv, hO'⟩
theorem cmpTips_ok {a : GTip} {b : GTip}  {Q : Int → Prop} {H : Heap} {Z : Nat → Prop} {L : List As} (h : wp_cmpTips a b Q) (hO : Own H Z (L))  : HC Tryz.prog 44 [.agg (fGTip.enc a).toArray, .agg (fGTip.enc b).toArray] H (fun v H' => ∃ (Z' : Nat → Prop) (r0 : Int) , (∀ b, Z b → Z' b) ∧ Q r0 ∧ v = .int .i64 r0 ∧ Own H' Z' (L)) := by
 replace hO := hO.inZ
 unfold wp_cmpTips at h
 refine hc_of_hw (N := 17) (rs := [(.tmp 4)]) Tryz.func44 rfl rfl rfl rfl (hw_seq (hw_region (hl_h (o_box (cs := (fGTip.enc a)) hO rfl rfl) rfl ?_)))
 rintro _ H_1 ⟨b_2, rfl, hO⟩
 refine hl_h (o_box (cs := (fGTip.enc b)) hO rfl rfl) rfl ?_
 rintro _ H_3 ⟨b_4, rfl, hO⟩
 refine hl_v (v_assign rfl) rfl (hl_nil (thenQ_n (hw_seq (hw_held2 12 (fun H' => ∃ Z' : Nat → Prop, Own H' Z' (box b_4 (fGTip.enc b) 50 :: box b_2 (fGTip.enc a) 50 :: inZ Z :: L)) (.step 0 false (.step 1 false (.step 2 false (.step 3 false (.step 5 false (.step 6 false (.step 7 false (.step 8 false (.step 4 true (.step 9 true (.step 10 true (.step 11 true .done)))))))))))) (.step 12 true .done) Tryz.mixed (by kernel_rfl) ⟨_, hO⟩ (hd_v rfl (fun _ _ => (v_fieldA underlying50 rfl sizeOf3 rfl)) rfl (hd_v rfl (fun H' hS => by obtain ⟨Z', hO⟩ := hS; exact (v_load1 isAgg3 rfl (Blk.cell (hO.box 1 rfl) rfl))) rfl (hd_v rfl (fun _ _ => (v_fieldA underlying50 rfl sizeOf3 rfl)) rfl (hd_v rfl (fun H' hS => by obtain ⟨Z', hO⟩ := hS; exact (v_load1 isAgg3 rfl (Blk.cell (hO.box 0 rfl) rfl))) rfl (hd_v rfl (fun _ _ => (v_fieldA underlying50 rfl sizeOf9 rfl)) rfl (hd_v rfl (fun H' hS => by obtain ⟨Z', hO⟩ := hS; exact (v_load1 isAgg9 rfl (Blk.cell (hO.box 1 rfl) rfl))) rfl (hd_v rfl (fun _ _ => (v_fieldA underlying50 rfl sizeOf9 rfl)) rfl (hd_v rfl (fun H' hS => by obtain ⟨Z', hO⟩ := hS; exact (v_load1 isAgg9 rfl (Blk.cell (hO.box 0 rfl) rfl))) rfl (hd_h (OpV.toH (v_call call63 (evs_cons rfl (evs_cons rfl evs_nil)) (cmpInt_spec (a0 := a.State) (a1 := b.State) hO))) (fun _ _ hR => hR.2 ▸ ⟨_, hO⟩) rfl ?_)))))))))))))
 rintro vv HH ⟨hvv, hHH⟩
 obtain rfl := hvv.symm
 obtain rfl := hHH.symm
 refine hd_h (h_call call64 (evs_cons rfl (evs_cons rfl evs_nil)) (cmpStr_spec (a0 := a.Out) (a1 := b.Out) hO)) (by rintro _ H_5 ⟨Z_6, _, rfl, hO⟩; exact ⟨_, hO⟩) rfl ?_
 rintro _ H_5 ⟨Z_6, _, rfl, hO⟩
 refine hd_h (o_lit (g := fInt) (l := [(cmpI a.State b.State), (cmpS a.Out b.Out)]) (xs := [.tmp 9, .tmp 14]) hO underlying67 sizeOf3 zeroValue3 rfl (evs_cons rfl (evs_cons rfl evs_nil)) rfl rfl rfl rfl rfl) (by rintro v_9 H_8 hO; exact ⟨_, (Own.sel (Ls := [_, _, _, _]) (L := L) [1, 2, 3] rfl hO)⟩) rfl ?_
 rintro v_9 H_8 hO
 refine hd_h (OpV.toH (v_call call62 (evs_cons rfl evs_nil) (cmpOr_spec (a0 := [(cmpI a.State b.State), (cmpS a.Out b.Out)]) hO (Rd.of_own (i := 0) rfl)))) (fun _ _ hR => hR.2 ▸ ⟨_, (Own.sel (Ls := [_, _, _, _]) (L := L) [1, 2, 3] rfl hO)⟩) rfl ?_
 rintro vv HH ⟨hvv, hHH⟩
 obtain rfl := hvv.symm
 obtain rfl := hHH.symm
 refine hd_nil (hd_h (OpV.toH (v_assign rfl)) (fun _ _ hR => trivial) rfl ?_)
 rintro vv HH ⟨hvv, hHH⟩
 obtain rfl := hvv.symm
 obtain rfl := hHH.symm
 refine hd_nil (thenQ_n (hw_ret (ret_i _ (ra_t rfl ra_nil) ?_)))
 exact ⟨_, (orL [(cmpI a.State b.State), (cmpS a.Out b.Out)]), (hO.inz 3 rfl), h, rfl, (Own.sel (Ls := [_, _, _, _]) (L := L) [] rfl hO)⟩
theorem cmpTips_spec {a0 : GTip} {a1 : GTip}  {L : List As} {H : Heap} {Z : Nat → Prop} (hO : Own H Z (L))  : HC Tryz.prog 44 [.agg (fGTip.enc a0).toArray, .agg (fGTip.enc a1).toArray] H (fun v H' => ∃ (Z' : Nat → Prop) , (∀ a1, Z a1 → Z' a1) ∧ v = .int .i64 ((cmpTip a0 a1)) ∧ Own H' Z' (L)) := by
  refine (cmpTips_ok (a := a0) (b := a1) (@cmpTips_wp a0 a1) hO).mono ?_
  rintro v H' ⟨Z', r0, hz, hq, hv, hO'⟩
  obtain rfl := hq
  exact ⟨Z', hz, hv, hO'⟩
theorem copies_ok {x : GArc}  {Q : Int → Prop} {H : Heap} {Z : Nat → Prop} {L : List As} (h : wp_copies x Q) (hO : Own H Z (L))  : HC Tryz.prog 68 [.agg (fGArc.enc x).toArray] H (fun v H' => ∃ (Z' : Nat → Prop) (r0 : Int) , (∀ b, Z b → Z' b) ∧ Q r0 ∧ v = .int .i64 r0 ∧ Own H' Z' (L)) := by
 replace hO := hO.inZ
 unfold wp_copies at h
 refine hc_of_hw (N := 5) (rs := [(.tmp 2)]) Tryz.func68 rfl rfl rfl rfl (hw_seq (hw_region (hl_h (o_box (cs := (fGArc.enc x)) hO rfl rfl) rfl ?_)))
 rintro _ H_1 ⟨b_2, rfl, hO⟩
 refine hl_v (v_assign rfl) rfl (hl_nil (thenQ_n (hw_seq (hw_seq (hw_region (hl_v (v_fieldA underlying39 rfl sizeOf4 rfl) rfl (hl_v (v_load1 isAgg4 rfl (Blk.cell (hO.box 0 rfl) rfl)) rfl (hl_nil (thenQ_n (hw_cond rfl (fun hc_3 => ?_) (fun hc_3 => ?_)))))))))))
 ·replace h := ite_t h hc_3
  refine hw_seq (hw_region (hl_v (v_assign rfl) rfl (hl_nil (thenQ_n (hw_ret (thenQ_r (ret_i _ (ra_t rfl ra_nil) ?_)))))))
  exact ⟨_, 1, (hO.inz 1 rfl), h, rfl, (Own.sel (Ls := [_, _]) (L := L) [] rfl hO)⟩
 ·replace h := ite_f h hc_3
  refine hw_skip (thenQ_n (hw_seq (hw_region (hl_v (v_assign rfl) rfl (hl_nil (thenQ_n (hw_ret (ret_i _ (ra_t rfl ra_nil) ?_))))))))
  exact ⟨_, 0, (hO.inz 1 rfl), h, rfl, (Own.sel (Ls := [_, _]) (L := L) [] rfl hO)⟩
theorem copies_spec {a0 : GArc}  {L : List As} {H : Heap} {Z : Nat → Prop} (hO : Own H Z (L))  : HC Tryz.prog 68 [.agg (fGArc.enc a0).toArray] H (fun v H' => ∃ (Z' : Nat → Prop) , (∀ b, Z b → Z' b) ∧ v = .int .i64 ((b2i a0.Copy)) ∧ Own H' Z' (L)) := by
  refine (copies_ok (x := a0) (@copies_wp a0) hO).mono ?_
  rintro v H' ⟨Z', r0, hz, hq, hv, hO'⟩
  obtain rfl := hq
  exact ⟨Z', hz, hv, hO'⟩
theorem cmpArcs_ok {a : GArc} {b : GArc}  {Q : Int → Prop} {H : Heap} {Z : Nat → Prop} {L : List As} (h : wp_cmpArcs a b Q) (hO : Own H Z (L))  : HC Tryz.prog 46 [.agg (fGArc.enc a).toArray, .agg (fGArc.enc b).toArray] H (fun v H' => ∃ (Z' : Nat → Prop) (r0 : Int) , (∀ b, Z b → Z' b) ∧ Q r0 ∧ v = .int .i64 r0 ∧ Own H' Z' (L)) := by
 replace hO := hO.inZ
 unfold wp_cmpArcs at h
 refine hc_of_hw (N := 35) (rs := [(.tmp 4)]) Tryz.func46 rfl rfl rfl rfl (hw_seq (hw_region (hl_h (o_box (cs := (fGArc.enc a)) hO rfl rfl) rfl ?_)))
 rintro _ H_1 ⟨b_2, rfl, hO⟩
 refine hl_h (o_box (cs := (fGArc.enc b)) hO rfl rfl) rfl ?_
 rintro _ H_3 ⟨b_4, rfl, hO⟩
 refine hl_v (v_assign rfl) rfl (hl_nil (thenQ_n (hw_seq (hw_region (hl_v (v_assign rfl) rfl (hl_nil (thenQ_n (hw_seq (hw_held2 29 (fun H' => ∃ Z' : Nat → Prop, Own H' Z' (box b_4 (fGArc.enc b) 39 :: box b_2 (fGArc.enc a) 39 :: inZ Z :: L)) (.step 0 false (.step 1 false (.step 2 false (.step 3 false (.step 5 false (.step 6 false (.step 7 false (.step 8 false (.step 10 false (.step 11 false (.step 12 false (.step 13 false (.step 15 false (.step 16 false (.step 17 false (.step 18 false (.step 20 false (.step 21 false (.step 23 false (.step 24 false (.step 4 true (.step 9 true (.step 14 true (.step 19 true (.step 22 true (.step 25 true (.step 26 true (.step 27 true (.step 28 true .done))))))))))))))))))))))))))))) (.step 29 true .done) Tryz.mixed (by kernel_rfl) ⟨_, hO⟩ (hd_v rfl (fun _ _ => (v_fieldA underlying39 rfl sizeOf3 rfl)) rfl (hd_v rfl (fun H' hS => by obtain ⟨Z', hO⟩ := hS; exact (v_load1 isAgg3 rfl (Blk.cell (hO.box 1 rfl) rfl))) rfl (hd_v rfl (fun _ _ => (v_fieldA underlying39 rfl sizeOf3 rfl)) rfl (hd_v rfl (fun H' hS => by obtain ⟨Z', hO⟩ := hS; exact (v_load1 isAgg3 rfl (Blk.cell (hO.box 0 rfl) rfl))) rfl (hd_v rfl (fun _ _ => (v_fieldA underlying39 rfl sizeOf3 rfl)) rfl (hd_v rfl (fun H' hS => by obtain ⟨Z', hO⟩ := hS; exact (v_load1 isAgg3 rfl (Blk.cell (hO.box 1 rfl) rfl))) rfl (hd_v rfl (fun _ _ => (v_fieldA underlying39 rfl sizeOf3 rfl)) rfl (hd_v rfl (fun H' hS => by obtain ⟨Z', hO⟩ := hS; exact (v_load1 isAgg3 rfl (Blk.cell (hO.box 0 rfl) rfl))) rfl (hd_v rfl (fun _ _ => (v_fieldA underlying39 rfl sizeOf37 rfl)) rfl ?_))))))))))))))))))
 refine hd_v rfl (fun _ _ => (v_sliceArr underlying37 sizeOf35 rfl)) rfl (hd_v rfl (fun _ _ => (v_fieldA underlying39 rfl sizeOf37 rfl)) rfl (hd_v rfl (fun _ _ => (v_sliceArr underlying37 sizeOf35 rfl)) rfl (hd_v rfl (fun _ _ => (v_fieldA underlying39 rfl sizeOf9 rfl)) rfl (hd_v rfl (fun H' hS => by obtain ⟨Z', hO⟩ := hS; exact (v_load1 isAgg9 rfl (Blk.cell (hO.box 1 rfl) rfl))) rfl (hd_v rfl (fun _ _ => (v_fieldA underlying39 rfl sizeOf9 rfl)) rfl (hd_v rfl (fun H' hS => by obtain ⟨Z', hO⟩ := hS; exact (v_load1 isAgg9 rfl (Blk.cell (hO.box 0 rfl) rfl))) rfl (hd_v rfl (fun _ _ => (v_move rfl)) rfl (hd_v rfl (fun H' hS => by obtain ⟨Z', hO⟩ := hS; exact (v_loadA isAgg39 sizeOf39 rfl (Blk.at0 (hO.box 1 rfl)) rfl)) rfl (hd_v rfl (fun _ _ => (v_move rfl)) rfl (hd_v rfl (fun H' hS => by obtain ⟨Z', hO⟩ := hS; exact (v_loadA isAgg39 sizeOf39 rfl (Blk.at0 (hO.box 0 rfl)) rfl)) rfl (hd_h (OpV.toH (v_call call63 (evs_cons rfl (evs_cons rfl evs_nil)) (cmpInt_spec (a0 := a.From) (a1 := b.From) hO))) (fun _ _ hR => hR.2 ▸ ⟨_, hO⟩) rfl ?_)))))))))))
 rintro vv HH ⟨hvv, hHH⟩
 obtain rfl := hvv.symm
 obtain rfl := hHH.symm
 refine hd_h (OpV.toH (v_call call63 (evs_cons rfl (evs_cons rfl evs_nil)) (cmpInt_spec (a0 := a.To) (a1 := b.To) hO))) (fun _ _ hR => hR.2 ▸ ⟨_, hO⟩) rfl ?_
 rintro vv HH ⟨hvv, hHH⟩
 obtain rfl := hvv.symm
 obtain rfl := hHH.symm
 refine hd_h (OpV.toH (v_call call69 (evs_cons rfl (evs_cons rfl evs_nil)) (cmpWords_spec (a0 := [a.Set.a, a.Set.b, a.Set.c, a.Set.d]) (a1 := [b.Set.a, b.Set.b, b.Set.c, b.Set.d]) hO (Rd.words (i := 1) rfl rfl) (Rd.words (i := 0) rfl rfl)))) (fun _ _ hR => hR.2 ▸ ⟨_, hO⟩) rfl ?_
 rintro vv HH ⟨hvv, hHH⟩
 obtain rfl := hvv.symm
 obtain rfl := hHH.symm
 refine hd_h (h_call call64 (evs_cons rfl (evs_cons rfl evs_nil)) (cmpStr_spec (a0 := a.Out) (a1 := b.Out) hO)) (by rintro _ H_5 ⟨Z_6, _, rfl, hO⟩; exact ⟨_, hO⟩) rfl ?_
 rintro _ H_5 ⟨Z_6, _, rfl, hO⟩
 refine hd_h (h_callv (fs := []) (cs := []) call68 rfl (evs_cons rfl evs_nil) (copies_spec (a0 := a) hO)) (by rintro _ H_8 ⟨Z_9, _, rfl, hO⟩; exact ⟨_, hO⟩) rfl ?_
 rintro _ H_8 ⟨Z_9, _, rfl, hO⟩
 refine hd_h (h_callv (fs := []) (cs := []) call68 rfl (evs_cons rfl evs_nil) (copies_spec (a0 := b) hO)) (by rintro _ H_11 ⟨Z_12, _, rfl, hO⟩; exact ⟨_, hO⟩) rfl ?_
 rintro _ H_11 ⟨Z_12, _, rfl, hO⟩
 refine hd_h (OpV.toH (v_call call63 (evs_cons rfl (evs_cons rfl evs_nil)) (cmpInt_spec (a0 := (b2i a.Copy)) (a1 := (b2i b.Copy)) hO))) (fun _ _ hR => hR.2 ▸ ⟨_, hO⟩) rfl ?_
 rintro vv HH ⟨hvv, hHH⟩
 obtain rfl := hvv.symm
 obtain rfl := hHH.symm
 refine hd_h (o_lit (g := fInt) (l := [(cmpI a.From b.From), (cmpI a.To b.To), (cmpL cmpW [a.Set.a, a.Set.b, a.Set.c, a.Set.d] [b.Set.a, b.Set.b, b.Set.c, b.Set.d]), (cmpS a.Out b.Out), (cmpI (b2i a.Copy) (b2i b.Copy))]) (xs := [.tmp 10, .tmp 15, .tmp 20, .tmp 25, .tmp 32]) hO underlying67 sizeOf3 zeroValue3 rfl (evs_cons rfl (evs_cons rfl (evs_cons rfl (evs_cons rfl (evs_cons rfl evs_nil))))) rfl rfl rfl rfl rfl) (by rintro v_15 H_14 hO; exact ⟨_, (Own.sel (Ls := [_, _, _, _]) (L := L) [1, 2, 3] rfl hO)⟩) rfl ?_
 rintro v_15 H_14 hO
 refine hd_h (OpV.toH (v_call call62 (evs_cons rfl evs_nil) (cmpOr_spec (a0 := [(cmpI a.From b.From), (cmpI a.To b.To), (cmpL cmpW [a.Set.a, a.Set.b, a.Set.c, a.Set.d] [b.Set.a, b.Set.b, b.Set.c, b.Set.d]), (cmpS a.Out b.Out), (cmpI (b2i a.Copy) (b2i b.Copy))]) hO (Rd.of_own (i := 0) rfl)))) (fun _ _ hR => hR.2 ▸ ⟨_, (Own.sel (Ls := [_, _, _, _]) (L := L) [1, 2, 3] rfl hO)⟩) rfl ?_
 rintro vv HH ⟨hvv, hHH⟩
 obtain rfl := hvv.symm
 obtain rfl := hHH.symm
 refine hd_nil (hd_h (OpV.toH (v_assign rfl)) (fun _ _ hR => trivial) rfl ?_)
 rintro vv HH ⟨hvv, hHH⟩
 obtain rfl := hvv.symm
 obtain rfl := hHH.symm
 refine hd_nil (thenQ_n (hw_ret (ret_i _ (ra_t rfl ra_nil) ?_)))
 exact ⟨_, (orL [(cmpI a.From b.From), (cmpI a.To b.To), (cmpL cmpW [a.Set.a, a.Set.b, a.Set.c, a.Set.d] [b.Set.a, b.Set.b, b.Set.c, b.Set.d]), (cmpS a.Out b.Out), (cmpI (b2i a.Copy) (b2i b.Copy))]), (hO.inz 3 rfl), h, rfl, (Own.sel (Ls := [_, _, _, _]) (L := L) [] rfl hO)⟩
theorem cmpArcs_spec {a0 : GArc} {a1 : GArc}  {L : List As} {H : Heap} {Z : Nat → Prop} (hO : Own H Z (L))  : HC Tryz.prog 46 [.agg (fGArc.enc a0).toArray, .agg (fGArc.enc a1).toArray] H (fun v H' => ∃ (Z' : Nat → Prop) , (∀ a1, Z a1 → Z' a1) ∧ v = .int .i64 ((cmpArc a0 a1)) ∧ Own H' Z' (L)) := by
  refine (cmpArcs_ok (a := a0) (b := a1) (@cmpArcs_wp a0 a1) hO).mono ?_
  rintro v H' ⟨Z', r0, hz, hq, hv, hO'⟩
  obtain rfl := hq
  exact ⟨Z', hz, hv, hO'⟩
theorem cloneTip_ok {s : List GTip} {v_1 : Value} {Q : (List GTip) → Prop} {H : Heap} {Z : Nat → Prop} {L : List As} (h : wp_cloneTip s Q) (hO : Own H Z (L)) (hr_2 : Rd fGTip.rep L v_1 s) : HC Tryz.prog 59 [v_1] H (fun v H' => ∃ (Z' : Nat → Prop) (r0 : List GTip) (v_3 : Value), (∀ b, Z b → Z' b) ∧ Q r0 ∧ v = v_3 ∧ Own H' Z' (own fGTip 50 v_3 r0 :: L)) := by
 replace hO := hO.inZ
 unfold wp_cloneTip at h
 refine hc_of_hw (N := 8) (rs := [(.tmp 2)]) Tryz.func59 rfl rfl rfl rfl (hw_seq (hw_region (hl_v (v_assign rfl) rfl (hl_nil (thenQ_n (hw_seq (hw_seq (hw_region (hl_v (v_move rfl) rfl ?_)))))))))
 replace h := h (isNil v_1) (fun hn => Sl.isNil (Rd.sl hr_2 (Own.tails [_] hO)) hn)
 refine hl_v (v_eqlNil underlying22 rfl (Rd.sl hr_2 (Own.tails [_] hO))) rfl (hl_nil (thenQ_n (hw_cond rfl (fun hc_4 => ?_) (fun hc_4 => ?_))))
 ·replace h := ite_t h hc_4
  refine hw_seq (hw_region (hl_v (v_assign rfl) rfl (hl_nil (thenQ_n (hw_ret (thenQ_r ?_))))))
  replace hO := hO.nil fGTip 50
  refine ret_i _ (ra_t rfl ra_nil) ?_
  exact ⟨_, [], .slice none 0 0, (hO.inz 1 rfl), h, rfl, (Own.sel (Ls := [_, _]) (L := L) [0] rfl hO)⟩
 ·replace h := ite_f h hc_4
  refine hw_skip (thenQ_n (hw_seq (hw_region (hl_h (o_lit0 (g := fGTip) hO underlying22 sizeOf50) rfl ?_))))
  rintro v_6 H_5 hO
  refine hl_v (v_move rfl) rfl ?_
  obtain ⟨hs_9, h⟩ := h
  refine hl_h (o_append (l2 := s) hO 0 rfl rfl underlying22 type50 rfl rfl rfl rfl rfl rfl rfl (Rd.sl hr_2 (Own.tails [_, _] hO)) hs_9 (le63 hs_9 rfl)) rfl ?_
  rintro v_8 H_7 hO
  refine hl_v (v_assign rfl) rfl (hl_nil (thenQ_n (hw_ret (ret_i _ (ra_t rfl ra_nil) ?_))))
  exact ⟨_, ([] ++ s), v_8, (hO.inz 1 rfl), h, rfl, (Own.sel (Ls := [_, _]) (L := L) [0] rfl hO)⟩
theorem cloneTip_spec {a0 : List GTip} {v_1 : Value} {L : List As} (hp : a0.length ≤ 1000000000000) {H : Heap} {Z : Nat → Prop} (hO : Own H Z (L)) (hr_2 : Rd fGTip.rep L v_1 a0) : HC Tryz.prog 59 [v_1] H (fun v H' => ∃ (Z' : Nat → Prop) (v_3 : Value), (∀ b, Z b → Z' b) ∧ v = v_3 ∧ Own H' Z' (own fGTip 50 v_3 (a0) :: L)) := by
  refine (cloneTip_ok (s := a0) (@cloneTip_wp a0 hp) hO hr_2).mono ?_
  rintro v H' ⟨Z', r0, v_3, hz, hq, hv, hO'⟩
  obtain rfl := hq
  exact ⟨Z', v_3, hz, hv, hO'⟩
theorem sortTip_spec {a0 : List GTip} {f : GTip → GTip → Int} {g_0 : FuncId} {cs_0 : List Value} {v_1 : Value} {L : List As} (hp : TotC f ∧ a0.length < 4611686018427387904) {H : Heap} {Z : Nat → Prop} (hO : Own H Z (own fGTip 50 v_1 a0 :: L))
  (hg_0 : ∀ args w, (callFunc g_0 args).run Tryz.prog w = .ok (.enter g_0 args) w)
  (hp_0 : ∀ (Ls : List As) (q0 q1 : GTip) {H : Heap} {Z : Nat → Prop}, Own H Z Ls → HC Tryz.prog g_0 ([] ++ [.agg (fGTip.enc q0).toArray, .agg (fGTip.enc q1).toArray] ++ cs_0) H (fun v H' => ∃ Z' : Nat → Prop, (∀ b, Z b → Z' b) ∧ v = .int .i64 (f q0 q1) ∧ Own H' Z' Ls)) :
  HC Tryz.prog 60 [v_1, .func (.func g_0) #[] cs_0.toArray] H (fun r H' => ∃ Z' : Nat → Prop, (∀ b, Z b → Z' b) ∧ r = .tuple #[] ∧ Own H' Z' (own fGTip 50 v_1 (srtL f a0) :: L)) :=
  hc_sortK (P := Tryz.prog) (ρ := sortTipL_ren) (g := fGTip) sortTipL isAgg50 sizeOf50 hp hO hg_0 hp_0
theorem compactTip_ok {s : List GTip} {v_1 : Value} {Q : (List GTip) → Prop} {H : Heap} {Z : Nat → Prop} {L : List As} (h : wp_compactTip s Q) (hO : Own H Z (own fGTip 50 v_1 s :: L))  : HC Tryz.prog 61 [v_1] H (fun v H' => ∃ (Z' : Nat → Prop) (r0 : List GTip) (v_2 : Value), (∀ b, Z b → Z' b) ∧ Q r0 ∧ v = v_2 ∧ Own H' Z' (own fGTip 50 v_2 r0 :: L)) := by
 replace hO := hO.inZ
 unfold wp_compactTip at h
 refine hc_of_hw (N := 61) (rs := [(.tmp 2)]) Tryz.func61 rfl rfl rfl rfl (hw_seq (hw_region (hl_v (v_assign rfl) rfl (hl_nil (thenQ_n (hw_seq (hw_seq (hw_region (hl_v (v_move rfl) rfl ?_)))))))))
 have hln_3 := Sl.cap (hO.osl 1 rfl)
 refine hl_v (v_lenL rfl underlying22 rfl (hO.osl 1 rfl)) rfl (hl_v (v_lss rfl rfl) rfl (hl_nil (thenQ_n (hw_cond rfl (fun hc_4 => ?_) (fun hc_4 => ?_)))))
 ·replace h := ite_t h hc_4
  refine hw_seq (hw_region (hl_v (v_move rfl) rfl (hl_v (v_assign rfl) rfl (hl_nil (thenQ_n (hw_ret (thenQ_r (ret_i _ (ra_t rfl ra_nil) ?_))))))))
  exact ⟨_, s, v_1, (hO.inz 0 rfl), h, rfl, (Own.sel (Ls := [_, _]) (L := L) [1] rfl hO)⟩
 ·replace h := ite_f h hc_4
  refine hw_skip (thenQ_n (hw_seq (hw_seq (hw_region (hl_v (v_assign rfl) rfl (hl_nil (thenQ_n (hw_block ?_))))))))
  obtain ⟨I_5, h, hI_7⟩ := h
  refine hw_lp (fun n' g' H' => ∃ (k : Nat) (Z' : Nat → Prop), n' = s.length - k ∧ g' = [(0, v_1), (3, .int .i64 (k : Int))] ∧ I_5 k ∧ Own H' Z' (inZ Z :: own fGTip 50 v_1 s :: L)) _ _ (a_c 0 rfl (a_c 3 rfl a_n)) ⟨1, _, rfl, rfl, h, hO⟩ ?_
  rintro _ _ H_8 ⟨k, Z_9, rfl, rfl, h, hO⟩
  replace h := hI_7 k h
  refine hw_seq (hw_seq (hw_region (hl_v (v_move rfl) rfl (hl_v (v_move rfl) rfl (hl_v (v_lenL rfl underlying22 rfl (hO.osl 1 rfl)) rfl (hl_v (v_lss rfl rfl) rfl (hl_nil (thenQ_n (hw_cond rfl (fun hc_11 => ?_) (fun hc_11 => ?_))))))))))
  ·replace h := ite_t h hc_11
   refine hw_skip (thenQ_n (hw_seq (hw_block (hw_seq (hw_quiet Tryz.mixed (by kernel_rfl) (hq_v (v_move rfl) rfl (hq_v (v_move rfl) rfl (hq_v (v_ixL underlying22 sizeOf50 rfl rfl (hO.osl 1 rfl) (by exact ⟨Int.natCast_nonneg _, of_decide_eq_true hc_11⟩)) rfl (hq_v (v_loadFl isAgg50 sizeOf50 rfl (hO.osl 1 rfl) rfl (by exact ⟨Int.natCast_nonneg _, of_decide_eq_true hc_11⟩)) rfl (hq_v (v_move rfl) rfl (hq_v (v_move rfl) rfl ?_)))))))))))
   obtain ⟨hs_12, h⟩ := h
   refine hq_v (v_sub rfl rfl hs_12) rfl ?_
   obtain ⟨hs_13, h⟩ := h
   refine hq_v (v_ixL underlying22 sizeOf50 rfl rfl (hO.osl 1 rfl) hs_13) rfl (hq_v (v_loadFl isAgg50 sizeOf50 rfl (hO.osl 1 rfl) rfl hs_13) rfl (hq_v (v_eqlRec (by kernel_rfl) rfl rfl (eqv_50_15 _ _)) rfl (hq_nil (thenQ_n (hw_sub _ (a_c 0 rfl (a_c 3 rfl (a_c 25 rfl a_n))) (hw_cond rfl (fun hc_14 => ?_) (fun hc_14 => ?_)))))))
   ·replace h := ite_t h hc_14
    refine hw_seq (hw_region (hl_v (v_move rfl) rfl (hl_v (v_move rfl) rfl ?_)))
    obtain ⟨hs_15, h⟩ := h
    refine hl_v (v_sliceLl underlying22 sizeOf50 rfl rfl (hO.osl 1 rfl) hs_15) rfl (hl_v (v_assign rfl) rfl (hl_nil (thenQ_n (hw_seq (hw_seq (hw_region (hl_v (v_assign rfl) rfl (hl_nil (thenQ_n (hw_block ?_))))))))))
    obtain ⟨I_16, μ_17, h, hI_18⟩ := h
    refine hw_lp (fun n' g' H' => ∃ (s2 : List GTip) (k2 : Int) (k22 : Int) (Z' : Nat → Prop), n' = μ_17 s2 k2 k22 ∧ g' = [(0, v_1), (3, .int .i64 k2), (4, (slv v_1 2 k (s.length - k))), (5, .int .i64 k22)] ∧ I_16 s2 k2 k22 ∧ Own H' Z' (inZ Z :: own fGTip 50 v_1 s2 :: L)) _ _ (a_c 0 rfl (a_c 3 rfl (a_c 4 rfl (a_c 5 rfl a_n)))) ⟨s, (k : Int), 1, _, rfl, rfl, h, hO⟩ ?_
    rintro _ _ H_19 ⟨s2, k2, k22, Z_20, rfl, rfl, h, hO⟩
    replace h := hI_18 s2 k2 k22 h
    refine hw_seq (hw_seq (hw_region (hl_v (v_move rfl) rfl (hl_v (v_move rfl) rfl ?_))))
    obtain ⟨hs_22, h⟩ := h
    obtain ⟨hs_23, h⟩ := h
    have hln_24 := Sl.cap (slvl_len (hO.osl 1 rfl) hs_22 hs_23 rfl)
    refine hl_v (v_lenL rfl underlying22 rfl (slvl_len (hO.osl 1 rfl) hs_22 hs_23 rfl)) rfl (hl_v (v_lss rfl rfl) rfl (hl_nil (thenQ_n (hw_cond rfl (fun hc_25 => ?_) (fun hc_25 => ?_)))))
    ·replace h := ite_t h hc_25
     refine hw_skip (thenQ_n (hw_seq (hw_block (hw_seq (hw_quiet Tryz.mixed (by kernel_rfl) (hq_v (v_move rfl) rfl (hq_v (v_move rfl) rfl ?_)))))))
     obtain ⟨hs_26, h⟩ := h
     refine hq_v (v_ixL underlying22 sizeOf50 rfl rfl (slvl_len (hO.osl 1 rfl) hs_22 hs_23 rfl) hs_26) rfl (hq_v (v_loadFl isAgg50 sizeOf50 rfl (slvl_len (hO.osl 1 rfl) hs_22 hs_23 rfl) rfl hs_26) rfl (hq_v (v_move rfl) rfl (hq_v (v_move rfl) rfl ?_)))
     obtain ⟨hs_27, h⟩ := h
     refine hq_v (v_sub rfl rfl hs_27) rfl ?_
     obtain ⟨hs_28, h⟩ := h
     refine hq_v (v_ixL underlying22 sizeOf50 rfl rfl (slvl_len (hO.osl 1 rfl) hs_22 hs_23 rfl) hs_28) rfl (hq_v (v_loadFl isAgg50 sizeOf50 rfl (slvl_len (hO.osl 1 rfl) hs_22 hs_23 rfl) rfl hs_28) rfl (hq_v (v_neqRec (by kernel_rfl) rfl rfl (eqv_50_15 _ _)) rfl (hq_nil (thenQ_n (hw_sub _ (a_c 0 rfl (a_c 3 rfl (a_c 4 rfl (a_c 5 rfl (a_c 44 rfl a_n))))) (hw_cond rfl (fun hc_29 => ?_) (fun hc_29 => ?_)))))))
     ·replace h := ite_t h hc_29
      refine hw_seq (hw_region (hl_v (v_move rfl) rfl (hl_v (v_move rfl) rfl (hl_v (v_move rfl) rfl (hl_v (v_move rfl) rfl (hl_v (v_ixL underlying22 sizeOf50 rfl rfl (slvl_len (hO.osl 1 rfl) hs_22 hs_23 rfl) hs_26) rfl (hl_v (v_loadFl isAgg50 sizeOf50 rfl (slvl_len (hO.osl 1 rfl) hs_22 hs_23 rfl) rfl hs_26) rfl ?_)))))))
      obtain ⟨hs_30, h⟩ := h
      refine hl_v (v_ixL underlying22 sizeOf50 rfl rfl (hO.osl 1 rfl) hs_30) rfl (hl_s (o_setA (x' := ((s2.drop k).getD k22.toNat default)) hO 1 rfl sizeOf50 rfl rfl rfl hs_30 rfl) ?_)
      rintro _ H_31 hO
      refine hl_nil (thenQ_n (hw_region (hl_v (v_move rfl) rfl ?_)))
      obtain ⟨hs_32, h⟩ := h
      refine hl_v (v_add rfl rfl hs_32) rfl (hl_v (v_assign rfl) rfl (hl_nil (blockQ_n (thenQ_n (hw_region (hl_v (v_move rfl) rfl ?_))))))
      obtain ⟨hs_33, h⟩ := h
      refine hl_v (v_add rfl rfl hs_33) rfl (hl_v (v_assign rfl) rfl (hl_nil (thenQ_n ?_)))
      exact ⟨_, _, (a_c 0 rfl (a_c 3 rfl (a_c 4 rfl (a_c 5 rfl a_n)))), ⟨(s2.set k2.toNat ((s2.drop k).getD k22.toNat default)), (k2 + 1), (k22 + 1), _, rfl, rfl, h.1, hO⟩, h.2⟩
     ·replace h := ite_f h hc_29
      refine hw_skip (blockQ_n (thenQ_n (hw_region (hl_v (v_move rfl) rfl ?_))))
      obtain ⟨hs_34, h⟩ := h
      refine hl_v (v_add rfl rfl hs_34) rfl (hl_v (v_assign rfl) rfl (hl_nil (thenQ_n ?_)))
      exact ⟨_, _, (a_c 0 rfl (a_c 3 rfl (a_c 4 rfl (a_c 5 rfl a_n)))), ⟨s2, k2, (k22 + 1), _, rfl, rfl, h.1, hO⟩, h.2⟩
    ·replace h := ite_f h hc_25
     refine hw_exit (thenQ_e (thenQ_e (blockQ_hit (thenQ_n (hw_seq (hw_region (hl_v (v_move rfl) rfl (hl_v (v_move rfl) rfl ?_))))))))
     obtain ⟨hs_35, h⟩ := h
     refine hl_v (v_sliceLl underlying22 sizeOf50 rfl rfl (hO.osl 1 rfl) hs_35) rfl (hl_s (o_clear (g := fGTip) (d := (⟨(0 : Int), ([] : List UInt8)⟩ : GTip)) hO 1 rfl rfl underlying22 zeroValue50 rfl rfl rfl hs_35 rfl) ?_)
     rintro _ H_36 ⟨rfl, hO⟩
     refine hl_nil (thenQ_n (hw_seq (hw_region (hl_v (v_move rfl) rfl (hl_v (v_move rfl) rfl ?_)))))
     obtain ⟨hs_37, h⟩ := h
     refine hl_v (v_sliceLh underlying22 sizeOf50 rfl rfl (hO.osl 1 rfl) hs_37) rfl ?_
     replace hO : Own H_36 Z_20 (inZ Z :: own fGTip 50 (slv v_1 2 0 k2.toNat) ((s2.take k2.toNat ++ List.replicate (s2.length - k2.toNat) (⟨(0 : Int), ([] : List UInt8)⟩ : GTip)).take k2.toNat) :: L) := hO.trunc (i := 1) rfl (by have hq := hs_37; omega)
     refine hl_v (v_assign rfl) rfl (hl_nil (thenQ_n (hw_sub _ (a_c 2 rfl a_n) (hw_ret (blockQ_r (thenQ_r (thenQ_r (blockQ_r (thenQ_r (ret_i _ (ra_t rfl ra_nil) ?_))))))))))
     exact ⟨_, ((s2.take k2.toNat ++ List.replicate (s2.length - k2.toNat) (⟨(0 : Int), ([] : List UInt8)⟩ : GTip)).take k2.toNat), (slv v_1 2 0 k2.toNat), (hO.inz 0 rfl), h, rfl, (Own.sel (Ls := [_, _]) (L := L) [1] rfl hO)⟩
   ·replace h := ite_f h hc_14
    refine hw_skip (blockQ_n (thenQ_n (hw_region (hl_v (v_move rfl) rfl (hl_v (v_add rfl rfl (by have hq := of_decide_eq_true hc_11; have hm := hln_3; constructor <;> omega)) rfl (hl_v (v_assign rfl) rfl (hl_nil (thenQ_n ?_))))))))
    exact ⟨_, _, (a_c 0 rfl (a_c 3 rfl a_n)), ⟨k + 1, _, rfl, rfl, h, hO⟩, (by have hq := of_decide_eq_true hc_11; omega)⟩
  ·replace h := ite_f h hc_11
   refine hw_exit (thenQ_e (thenQ_e (blockQ_hit (thenQ_n (hw_seq (hw_region (hl_v (v_move rfl) rfl (hl_v (v_assign rfl) rfl (hl_nil (thenQ_n (hw_ret (ret_i _ (ra_t rfl ra_nil) ?_))))))))))))
   exact ⟨_, s, v_1, (hO.inz 0 rfl), h, rfl, (Own.sel (Ls := [_, _]) (L := L) [1] rfl hO)⟩
theorem compactTip_spec {a0 : List GTip} {v_1 : Value} {L : List As} (hp : a0.length ≤ 1000000000000) {H : Heap} {Z : Nat → Prop} (hO : Own H Z (own fGTip 50 v_1 a0 :: L))  : HC Tryz.prog 61 [v_1] H (fun v H' => ∃ (Z' : Nat → Prop) (v_2 : Value), (∀ b, Z b → Z' b) ∧ v = v_2 ∧ Own H' Z' (own fGTip 50 v_2 ((cpL a0)) :: L)) := by
  refine (compactTip_ok (s := a0) (@compactTip_wp a0 hp) hO).mono ?_
  rintro v H' ⟨Z', r0, v_2, hz, hq, hv, hO'⟩
  obtain rfl := hq
  exact ⟨Z', v_2, hz, hv, hO'⟩
theorem orderedTip_ok {l : List GTip} {less : (GTip → GTip → Int)} {g_3 : FuncId} {cs_4 : List Value} {v_1 : Value} {Q : (List GTip) → Prop} {H : Heap} {Z : Nat → Prop} {L : List As} (h : wp_orderedTip l less Q) (hO : Own H Z (L)) (hr_2 : Rd fGTip.rep L v_1 l) (hg_5 : ∀ args w, (callFunc g_3 args).run Tryz.prog w = .ok (.enter g_3 args) w) (hp_6 : ∀ (Ls : List As) (q0 : GTip) (q1 : GTip)  {H : Heap} {Z : Nat → Prop}, Own H Z Ls → HC Tryz.prog g_3 ([] ++ [.agg (fGTip.enc q0).toArray, .agg (fGTip.enc q1).toArray] ++ cs_4) H (fun v H' => ∃ Z' : Nat → Prop, (∀ b, Z b → Z' b) ∧ v = .int .i64 (less q0 q1) ∧ Own H' Z' Ls)) : HC Tryz.prog 43 [v_1, .func (.func g_3) #[] cs_4.toArray] H (fun v H' => ∃ (Z' : Nat → Prop) (r0 : List GTip) (v_7 : Value), (∀ b, Z b → Z' b) ∧ Q r0 ∧ v = v_7 ∧ Own H' Z' (own fGTip 50 v_7 r0 :: L)) := by
 replace hO := hO.inZ
 unfold wp_orderedTip at h
 refine hc_of_hw (N := 13) (rs := [(.tmp 4)]) Tryz.func43 rfl rfl rfl rfl (hw_seq (hw_region (hl_v (v_assign rfl) rfl (hl_nil (thenQ_n (hw_seq (hw_region (hl_v (v_move rfl) rfl ?_))))))))
 obtain ⟨hs_8, h⟩ := h
 refine hl_h (h_call call59 (evs_cons rfl evs_nil) (cloneTip_spec (a0 := l) hs_8 hO (Rd.tails [_] hr_2))) rfl ?_
 rintro v_9 H_10 ⟨Z_11, _, _, rfl, hO⟩
 refine hl_v (v_assign rfl) rfl (hl_nil (thenQ_n (hw_seq (hw_region (hl_v (v_move rfl) rfl (hl_v (v_move rfl) rfl ?_))))))
 obtain ⟨hs_13, h⟩ := h
 refine hl_h (h_call call60 (evs_cons rfl (evs_cons rfl evs_nil)) (sortTip_spec (a0 := l) (L := inZ Z :: L) hs_13 (Own.sel (Ls := [_, _]) (L := L) [0, 1] rfl hO) hg_5 hp_6)) rfl ?_
 rintro _ H_14 ⟨Z_15, _, rfl, hO⟩
 refine hl_nil (thenQ_n (hw_seq (hw_region (hl_v (v_move rfl) rfl ?_))))
 obtain ⟨hs_17, h⟩ := h
 refine hl_h (h_call call61 (evs_cons rfl evs_nil) (compactTip_spec (a0 := (srtL less l)) (L := inZ Z :: L) hs_17 (Own.sel (Ls := [_, _]) (L := L) [0, 1] rfl hO))) rfl ?_
 rintro v_18 H_19 ⟨Z_20, _, _, rfl, hO⟩
 refine hl_v (v_assign rfl) rfl (hl_nil (thenQ_n (hw_ret (ret_i _ (ra_t rfl ra_nil) ?_))))
 exact ⟨_, (cpL (srtL less l)), v_18, (hO.inz 1 rfl), h, rfl, (Own.sel (Ls := [_, _]) (L := L) [0] rfl hO)⟩
theorem orderedTip_spec {a0 : List GTip} {a1 : (GTip → GTip → Int)} {g_3 : FuncId} {cs_4 : List Value} {v_1 : Value} {L : List As} (hp : a0.length ≤ 1000000000000 ∧ TotC a1) {H : Heap} {Z : Nat → Prop} (hO : Own H Z (L)) (hr_2 : Rd fGTip.rep L v_1 a0) (hg_5 : ∀ args w, (callFunc g_3 args).run Tryz.prog w = .ok (.enter g_3 args) w) (hp_6 : ∀ (Ls : List As) (q0 : GTip) (q1 : GTip)  {H : Heap} {Z : Nat → Prop}, Own H Z Ls → HC Tryz.prog g_3 ([] ++ [.agg (fGTip.enc q0).toArray, .agg (fGTip.enc q1).toArray] ++ cs_4) H (fun v H' => ∃ Z' : Nat → Prop, (∀ b, Z b → Z' b) ∧ v = .int .i64 (a1 q0 q1) ∧ Own H' Z' Ls)) : HC Tryz.prog 43 [v_1, .func (.func g_3) #[] cs_4.toArray] H (fun v H' => ∃ (Z' : Nat → Prop) (v_7 : Value), (∀ b, Z b → Z' b) ∧ v = v_7 ∧ Own H' Z' (own fGTip 50 v_7 ((ordL a1 a0)) :: L)) := by
  refine (orderedTip_ok (l := a0) (less := a1) (@orderedTip_wp a0 a1 hp) hO hr_2 hg_5 hp_6).mono ?_
  rintro v H' ⟨Z', r0, v_7, hz, hq, hv, hO'⟩
  obtain rfl := hq
  exact ⟨Z', v_7, hz, hv, hO'⟩
theorem cloneArc_ok {s : List GArc} {v_1 : Value} {Q : (List GArc) → Prop} {H : Heap} {Z : Nat → Prop} {L : List As} (h : wp_cloneArc s Q) (hO : Own H Z (L)) (hr_2 : Rd fGArc.rep L v_1 s) : HC Tryz.prog 65 [v_1] H (fun v H' => ∃ (Z' : Nat → Prop) (r0 : List GArc) (v_3 : Value), (∀ b, Z b → Z' b) ∧ Q r0 ∧ v = v_3 ∧ Own H' Z' (own fGArc 39 v_3 r0 :: L)) := by
 replace hO := hO.inZ
 unfold wp_cloneArc at h
 refine hc_of_hw (N := 8) (rs := [(.tmp 2)]) Tryz.func65 rfl rfl rfl rfl (hw_seq (hw_region (hl_v (v_assign rfl) rfl (hl_nil (thenQ_n (hw_seq (hw_seq (hw_region (hl_v (v_move rfl) rfl ?_)))))))))
 replace h := h (isNil v_1) (fun hn => Sl.isNil (Rd.sl hr_2 (Own.tails [_] hO)) hn)
 refine hl_v (v_eqlNil underlying23 rfl (Rd.sl hr_2 (Own.tails [_] hO))) rfl (hl_nil (thenQ_n (hw_cond rfl (fun hc_4 => ?_) (fun hc_4 => ?_))))
 ·replace h := ite_t h hc_4
  refine hw_seq (hw_region (hl_v (v_assign rfl) rfl (hl_nil (thenQ_n (hw_ret (thenQ_r ?_))))))
  replace hO := hO.nil fGArc 39
  refine ret_i _ (ra_t rfl ra_nil) ?_
  exact ⟨_, [], .slice none 0 0, (hO.inz 1 rfl), h, rfl, (Own.sel (Ls := [_, _]) (L := L) [0] rfl hO)⟩
 ·replace h := ite_f h hc_4
  refine hw_skip (thenQ_n (hw_seq (hw_region (hl_h (o_lit0 (g := fGArc) hO underlying23 sizeOf39) rfl ?_))))
  rintro v_6 H_5 hO
  refine hl_v (v_move rfl) rfl ?_
  obtain ⟨hs_9, h⟩ := h
  refine hl_h (o_append (l2 := s) hO 0 rfl rfl underlying23 type39 rfl rfl rfl rfl rfl rfl rfl (Rd.sl hr_2 (Own.tails [_, _] hO)) hs_9 (le63 hs_9 rfl)) rfl ?_
  rintro v_8 H_7 hO
  refine hl_v (v_assign rfl) rfl (hl_nil (thenQ_n (hw_ret (ret_i _ (ra_t rfl ra_nil) ?_))))
  exact ⟨_, ([] ++ s), v_8, (hO.inz 1 rfl), h, rfl, (Own.sel (Ls := [_, _]) (L := L) [0] rfl hO)⟩
theorem cloneArc_spec {a0 : List GArc} {v_1 : Value} {L : List As} (hp : a0.length ≤ 1000000000000) {H : Heap} {Z : Nat → Prop} (hO : Own H Z (L)) (hr_2 : Rd fGArc.rep L v_1 a0) : HC Tryz.prog 65 [v_1] H (fun v H' => ∃ (Z' : Nat → Prop) (v_3 : Value), (∀ b, Z b → Z' b) ∧ v = v_3 ∧ Own H' Z' (own fGArc 39 v_3 (a0) :: L)) := by
  refine (cloneArc_ok (s := a0) (@cloneArc_wp a0 hp) hO hr_2).mono ?_
  rintro v H' ⟨Z', r0, v_3, hz, hq, hv, hO'⟩
  obtain rfl := hq
  exact ⟨Z', v_3, hz, hv, hO'⟩
theorem sortArc_spec {a0 : List GArc} {f : GArc → GArc → Int} {g_0 : FuncId} {cs_0 : List Value} {v_1 : Value} {L : List As} (hp : TotC f ∧ a0.length < 4611686018427387904) {H : Heap} {Z : Nat → Prop} (hO : Own H Z (own fGArc 39 v_1 a0 :: L))
  (hg_0 : ∀ args w, (callFunc g_0 args).run Tryz.prog w = .ok (.enter g_0 args) w)
  (hp_0 : ∀ (Ls : List As) (q0 q1 : GArc) {H : Heap} {Z : Nat → Prop}, Own H Z Ls → HC Tryz.prog g_0 ([] ++ [.agg (fGArc.enc q0).toArray, .agg (fGArc.enc q1).toArray] ++ cs_0) H (fun v H' => ∃ Z' : Nat → Prop, (∀ b, Z b → Z' b) ∧ v = .int .i64 (f q0 q1) ∧ Own H' Z' Ls)) :
  HC Tryz.prog 66 [v_1, .func (.func g_0) #[] cs_0.toArray] H (fun r H' => ∃ Z' : Nat → Prop, (∀ b, Z b → Z' b) ∧ r = .tuple #[] ∧ Own H' Z' (own fGArc 39 v_1 (srtL f a0) :: L)) :=
  hc_sortK (P := Tryz.prog) (ρ := sortArcL_ren) (g := fGArc) sortArcL isAgg39 sizeOf39 hp hO hg_0 hp_0
theorem compactArc_ok {s : List GArc} {v_1 : Value} {Q : (List GArc) → Prop} {H : Heap} {Z : Nat → Prop} {L : List As} (h : wp_compactArc s Q) (hO : Own H Z (own fGArc 39 v_1 s :: L))  : HC Tryz.prog 67 [v_1] H (fun v H' => ∃ (Z' : Nat → Prop) (r0 : List GArc) (v_2 : Value), (∀ b, Z b → Z' b) ∧ Q r0 ∧ v = v_2 ∧ Own H' Z' (own fGArc 39 v_2 r0 :: L)) := by
 replace hO := hO.inZ
 unfold wp_compactArc at h
 refine hc_of_hw (N := 61) (rs := [(.tmp 2)]) Tryz.func67 rfl rfl rfl rfl (hw_seq (hw_region (hl_v (v_assign rfl) rfl (hl_nil (thenQ_n (hw_seq (hw_seq (hw_region (hl_v (v_move rfl) rfl ?_)))))))))
 have hln_3 := Sl.cap (hO.osl 1 rfl)
 refine hl_v (v_lenL rfl underlying23 rfl (hO.osl 1 rfl)) rfl (hl_v (v_lss rfl rfl) rfl (hl_nil (thenQ_n (hw_cond rfl (fun hc_4 => ?_) (fun hc_4 => ?_)))))
 ·replace h := ite_t h hc_4
  refine hw_seq (hw_region (hl_v (v_move rfl) rfl (hl_v (v_assign rfl) rfl (hl_nil (thenQ_n (hw_ret (thenQ_r (ret_i _ (ra_t rfl ra_nil) ?_))))))))
  exact ⟨_, s, v_1, (hO.inz 0 rfl), h, rfl, (Own.sel (Ls := [_, _]) (L := L) [1] rfl hO)⟩
 ·replace h := ite_f h hc_4
  refine hw_skip (thenQ_n (hw_seq (hw_seq (hw_region (hl_v (v_assign rfl) rfl (hl_nil (thenQ_n (hw_block ?_))))))))
  obtain ⟨I_5, h, hI_7⟩ := h
  refine hw_lp (fun n' g' H' => ∃ (k : Nat) (Z' : Nat → Prop), n' = s.length - k ∧ g' = [(0, v_1), (3, .int .i64 (k : Int))] ∧ I_5 k ∧ Own H' Z' (inZ Z :: own fGArc 39 v_1 s :: L)) _ _ (a_c 0 rfl (a_c 3 rfl a_n)) ⟨1, _, rfl, rfl, h, hO⟩ ?_
  rintro _ _ H_8 ⟨k, Z_9, rfl, rfl, h, hO⟩
  replace h := hI_7 k h
  refine hw_seq (hw_seq (hw_region (hl_v (v_move rfl) rfl (hl_v (v_move rfl) rfl (hl_v (v_lenL rfl underlying23 rfl (hO.osl 1 rfl)) rfl (hl_v (v_lss rfl rfl) rfl (hl_nil (thenQ_n (hw_cond rfl (fun hc_11 => ?_) (fun hc_11 => ?_))))))))))
  ·replace h := ite_t h hc_11
   refine hw_skip (thenQ_n (hw_seq (hw_block (hw_seq (hw_quiet Tryz.mixed (by kernel_rfl) (hq_v (v_move rfl) rfl (hq_v (v_move rfl) rfl (hq_v (v_ixL underlying23 sizeOf39 rfl rfl (hO.osl 1 rfl) (by exact ⟨Int.natCast_nonneg _, of_decide_eq_true hc_11⟩)) rfl (hq_v (v_loadFl isAgg39 sizeOf39 rfl (hO.osl 1 rfl) rfl (by exact ⟨Int.natCast_nonneg _, of_decide_eq_true hc_11⟩)) rfl (hq_v (v_move rfl) rfl (hq_v (v_move rfl) rfl ?_)))))))))))
   obtain ⟨hs_12, h⟩ := h
   refine hq_v (v_sub rfl rfl hs_12) rfl ?_
   obtain ⟨hs_13, h⟩ := h
   refine hq_v (v_ixL underlying23 sizeOf39 rfl rfl (hO.osl 1 rfl) hs_13) rfl (hq_v (v_loadFl isAgg39 sizeOf39 rfl (hO.osl 1 rfl) rfl hs_13) rfl (hq_v (v_eqlRec (by kernel_rfl) rfl rfl (eqv_39_15 _ _)) rfl (hq_nil (thenQ_n (hw_sub _ (a_c 0 rfl (a_c 3 rfl (a_c 25 rfl a_n))) (hw_cond rfl (fun hc_14 => ?_) (fun hc_14 => ?_)))))))
   ·replace h := ite_t h hc_14
    refine hw_seq (hw_region (hl_v (v_move rfl) rfl (hl_v (v_move rfl) rfl ?_)))
    obtain ⟨hs_15, h⟩ := h
    refine hl_v (v_sliceLl underlying23 sizeOf39 rfl rfl (hO.osl 1 rfl) hs_15) rfl (hl_v (v_assign rfl) rfl (hl_nil (thenQ_n (hw_seq (hw_seq (hw_region (hl_v (v_assign rfl) rfl (hl_nil (thenQ_n (hw_block ?_))))))))))
    obtain ⟨I_16, μ_17, h, hI_18⟩ := h
    refine hw_lp (fun n' g' H' => ∃ (s2 : List GArc) (k2 : Int) (k22 : Int) (Z' : Nat → Prop), n' = μ_17 s2 k2 k22 ∧ g' = [(0, v_1), (3, .int .i64 k2), (4, (slv v_1 8 k (s.length - k))), (5, .int .i64 k22)] ∧ I_16 s2 k2 k22 ∧ Own H' Z' (inZ Z :: own fGArc 39 v_1 s2 :: L)) _ _ (a_c 0 rfl (a_c 3 rfl (a_c 4 rfl (a_c 5 rfl a_n)))) ⟨s, (k : Int), 1, _, rfl, rfl, h, hO⟩ ?_
    rintro _ _ H_19 ⟨s2, k2, k22, Z_20, rfl, rfl, h, hO⟩
    replace h := hI_18 s2 k2 k22 h
    refine hw_seq (hw_seq (hw_region (hl_v (v_move rfl) rfl (hl_v (v_move rfl) rfl ?_))))
    obtain ⟨hs_22, h⟩ := h
    obtain ⟨hs_23, h⟩ := h
    have hln_24 := Sl.cap (slvl_len (hO.osl 1 rfl) hs_22 hs_23 rfl)
    refine hl_v (v_lenL rfl underlying23 rfl (slvl_len (hO.osl 1 rfl) hs_22 hs_23 rfl)) rfl (hl_v (v_lss rfl rfl) rfl (hl_nil (thenQ_n (hw_cond rfl (fun hc_25 => ?_) (fun hc_25 => ?_)))))
    ·replace h := ite_t h hc_25
     refine hw_skip (thenQ_n (hw_seq (hw_block (hw_seq (hw_quiet Tryz.mixed (by kernel_rfl) (hq_v (v_move rfl) rfl (hq_v (v_move rfl) rfl ?_)))))))
     obtain ⟨hs_26, h⟩ := h
     refine hq_v (v_ixL underlying23 sizeOf39 rfl rfl (slvl_len (hO.osl 1 rfl) hs_22 hs_23 rfl) hs_26) rfl (hq_v (v_loadFl isAgg39 sizeOf39 rfl (slvl_len (hO.osl 1 rfl) hs_22 hs_23 rfl) rfl hs_26) rfl (hq_v (v_move rfl) rfl (hq_v (v_move rfl) rfl ?_)))
     obtain ⟨hs_27, h⟩ := h
     refine hq_v (v_sub rfl rfl hs_27) rfl ?_
     obtain ⟨hs_28, h⟩ := h
     refine hq_v (v_ixL underlying23 sizeOf39 rfl rfl (slvl_len (hO.osl 1 rfl) hs_22 hs_23 rfl) hs_28) rfl (hq_v (v_loadFl isAgg39 sizeOf39 rfl (slvl_len (hO.osl 1 rfl) hs_22 hs_23 rfl) rfl hs_28) rfl (hq_v (v_neqRec (by kernel_rfl) rfl rfl (eqv_39_15 _ _)) rfl (hq_nil (thenQ_n (hw_sub _ (a_c 0 rfl (a_c 3 rfl (a_c 4 rfl (a_c 5 rfl (a_c 44 rfl a_n))))) (hw_cond rfl (fun hc_29 => ?_) (fun hc_29 => ?_)))))))
     ·replace h := ite_t h hc_29
      refine hw_seq (hw_region (hl_v (v_move rfl) rfl (hl_v (v_move rfl) rfl (hl_v (v_move rfl) rfl (hl_v (v_move rfl) rfl (hl_v (v_ixL underlying23 sizeOf39 rfl rfl (slvl_len (hO.osl 1 rfl) hs_22 hs_23 rfl) hs_26) rfl (hl_v (v_loadFl isAgg39 sizeOf39 rfl (slvl_len (hO.osl 1 rfl) hs_22 hs_23 rfl) rfl hs_26) rfl ?_)))))))
      obtain ⟨hs_30, h⟩ := h
      refine hl_v (v_ixL underlying23 sizeOf39 rfl rfl (hO.osl 1 rfl) hs_30) rfl (hl_s (o_setA (x' := ((s2.drop k).getD k22.toNat default)) hO 1 rfl sizeOf39 rfl rfl rfl hs_30 rfl) ?_)
      rintro _ H_31 hO
      refine hl_nil (thenQ_n (hw_region (hl_v (v_move rfl) rfl ?_)))
      obtain ⟨hs_32, h⟩ := h
      refine hl_v (v_add rfl rfl hs_32) rfl (hl_v (v_assign rfl) rfl (hl_nil (blockQ_n (thenQ_n (hw_region (hl_v (v_move rfl) rfl ?_))))))
      obtain ⟨hs_33, h⟩ := h
      refine hl_v (v_add rfl rfl hs_33) rfl (hl_v (v_assign rfl) rfl (hl_nil (thenQ_n ?_)))
      exact ⟨_, _, (a_c 0 rfl (a_c 3 rfl (a_c 4 rfl (a_c 5 rfl a_n)))), ⟨(s2.set k2.toNat ((s2.drop k).getD k22.toNat default)), (k2 + 1), (k22 + 1), _, rfl, rfl, h.1, hO⟩, h.2⟩
     ·replace h := ite_f h hc_29
      refine hw_skip (blockQ_n (thenQ_n (hw_region (hl_v (v_move rfl) rfl ?_))))
      obtain ⟨hs_34, h⟩ := h
      refine hl_v (v_add rfl rfl hs_34) rfl (hl_v (v_assign rfl) rfl (hl_nil (thenQ_n ?_)))
      exact ⟨_, _, (a_c 0 rfl (a_c 3 rfl (a_c 4 rfl (a_c 5 rfl a_n)))), ⟨s2, k2, (k22 + 1), _, rfl, rfl, h.1, hO⟩, h.2⟩
    ·replace h := ite_f h hc_25
     refine hw_exit (thenQ_e (thenQ_e (blockQ_hit (thenQ_n (hw_seq (hw_region (hl_v (v_move rfl) rfl (hl_v (v_move rfl) rfl ?_))))))))
     obtain ⟨hs_35, h⟩ := h
     refine hl_v (v_sliceLl underlying23 sizeOf39 rfl rfl (hO.osl 1 rfl) hs_35) rfl (hl_s (o_clear (g := fGArc) (d := (⟨(0 : Int), (0 : Int), BSet.zero, ([] : List UInt8), false⟩ : GArc)) hO 1 rfl rfl underlying23 zeroValue39 rfl rfl rfl hs_35 rfl) ?_)
     rintro _ H_36 ⟨rfl, hO⟩
     refine hl_nil (thenQ_n (hw_seq (hw_region (hl_v (v_move rfl) rfl (hl_v (v_move rfl) rfl ?_)))))
     obtain ⟨hs_37, h⟩ := h
     refine hl_v (v_sliceLh underlying23 sizeOf39 rfl rfl (hO.osl 1 rfl) hs_37) rfl ?_
     replace hO : Own H_36 Z_20 (inZ Z :: own fGArc 39 (slv v_1 8 0 k2.toNat) ((s2.take k2.toNat ++ List.replicate (s2.length - k2.toNat) (⟨(0 : Int), (0 : Int), BSet.zero, ([] : List UInt8), false⟩ : GArc)).take k2.toNat) :: L) := hO.trunc (i := 1) rfl (by have hq := hs_37; omega)
     refine hl_v (v_assign rfl) rfl (hl_nil (thenQ_n (hw_sub _ (a_c 2 rfl a_n) (hw_ret (blockQ_r (thenQ_r (thenQ_r (blockQ_r (thenQ_r (ret_i _ (ra_t rfl ra_nil) ?_))))))))))
     exact ⟨_, ((s2.take k2.toNat ++ List.replicate (s2.length - k2.toNat) (⟨(0 : Int), (0 : Int), BSet.zero, ([] : List UInt8), false⟩ : GArc)).take k2.toNat), (slv v_1 8 0 k2.toNat), (hO.inz 0 rfl), h, rfl, (Own.sel (Ls := [_, _]) (L := L) [1] rfl hO)⟩
   ·replace h := ite_f h hc_14
    refine hw_skip (blockQ_n (thenQ_n (hw_region (hl_v (v_move rfl) rfl (hl_v (v_add rfl rfl (by have hq := of_decide_eq_true hc_11; have hm := hln_3; constructor <;> omega)) rfl (hl_v (v_assign rfl) rfl (hl_nil (thenQ_n ?_))))))))
    exact ⟨_, _, (a_c 0 rfl (a_c 3 rfl a_n)), ⟨k + 1, _, rfl, rfl, h, hO⟩, (by have hq := of_decide_eq_true hc_11; omega)⟩
  ·replace h := ite_f h hc_11
   refine hw_exit (thenQ_e (thenQ_e (blockQ_hit (thenQ_n (hw_seq (hw_region (hl_v (v_move rfl) rfl (hl_v (v_assign rfl) rfl (hl_nil (thenQ_n (hw_ret (ret_i _ (ra_t rfl ra_nil) ?_))))))))))))
   exact ⟨_, s, v_1, (hO.inz 0 rfl), h, rfl, (Own.sel (Ls := [_, _]) (L := L) [1] rfl hO)⟩
theorem compactArc_spec {a0 : List GArc} {v_1 : Value} {L : List As} (hp : a0.length ≤ 1000000000000) {H : Heap} {Z : Nat → Prop} (hO : Own H Z (own fGArc 39 v_1 a0 :: L))  : HC Tryz.prog 67 [v_1] H (fun v H' => ∃ (Z' : Nat → Prop) (v_2 : Value), (∀ b, Z b → Z' b) ∧ v = v_2 ∧ Own H' Z' (own fGArc 39 v_2 ((cpL a0)) :: L)) := by
  refine (compactArc_ok (s := a0) (@compactArc_wp a0 hp) hO).mono ?_
  rintro v H' ⟨Z', r0, v_2, hz, hq, hv, hO'⟩
  obtain rfl := hq
  exact ⟨Z', v_2, hz, hv, hO'⟩
theorem orderedArc_ok {l : List GArc} {less : (GArc → GArc → Int)} {g_3 : FuncId} {cs_4 : List Value} {v_1 : Value} {Q : (List GArc) → Prop} {H : Heap} {Z : Nat → Prop} {L : List As} (h : wp_orderedArc l less Q) (hO : Own H Z (L)) (hr_2 : Rd fGArc.rep L v_1 l) (hg_5 : ∀ args w, (callFunc g_3 args).run Tryz.prog w = .ok (.enter g_3 args) w) (hp_6 : ∀ (Ls : List As) (q0 : GArc) (q1 : GArc)  {H : Heap} {Z : Nat → Prop}, Own H Z Ls → HC Tryz.prog g_3 ([] ++ [.agg (fGArc.enc q0).toArray, .agg (fGArc.enc q1).toArray] ++ cs_4) H (fun v H' => ∃ Z' : Nat → Prop, (∀ b, Z b → Z' b) ∧ v = .int .i64 (less q0 q1) ∧ Own H' Z' Ls)) : HC Tryz.prog 45 [v_1, .func (.func g_3) #[] cs_4.toArray] H (fun v H' => ∃ (Z' : Nat → Prop) (r0 : List GArc) (v_7 : Value), (∀ b, Z b → Z' b) ∧ Q r0 ∧ v = v_7 ∧ Own H' Z' (own fGArc 39 v_7 r0 :: L)) := by
 replace hO := hO.inZ
 unfold wp_orderedArc at h
 refine hc_of_hw (N := 13) (rs := [(.tmp 4)]) Tryz.func45 rfl rfl rfl rfl (hw_seq (hw_region (hl_v (v_assign rfl) rfl (hl_nil (thenQ_n (hw_seq (hw_region (hl_v (v_move rfl) rfl ?_))))))))
 obtain ⟨hs_8, h⟩ := h
 refine hl_h (h_call call65 (evs_cons rfl evs_nil) (cloneArc_spec (a0 := l) hs_8 hO (Rd.tails [_] hr_2))) rfl ?_
 rintro v_9 H_10 ⟨Z_11, _, _, rfl, hO⟩
 refine hl_v (v_assign rfl) rfl (hl_nil (thenQ_n (hw_seq (hw_region (hl_v (v_move rfl) rfl (hl_v (v_move rfl) rfl ?_))))))
 obtain ⟨hs_13, h⟩ := h
 refine hl_h (h_call call66 (evs_cons rfl (evs_cons rfl evs_nil)) (sortArc_spec (a0 := l) (L := inZ Z :: L) hs_13 (Own.sel (Ls := [_, _]) (L := L) [0, 1] rfl hO) hg_5 hp_6)) rfl ?_
 rintro _ H_14 ⟨Z_15, _, rfl, hO⟩
 refine hl_nil (thenQ_n (hw_seq (hw_region (hl_v (v_move rfl) rfl ?_))))
 obtain ⟨hs_17, h⟩ := h
 refine hl_h (h_call call67 (evs_cons rfl evs_nil) (compactArc_spec (a0 := (srtL less l)) (L := inZ Z :: L) hs_17 (Own.sel (Ls := [_, _]) (L := L) [0, 1] rfl hO))) rfl ?_
 rintro v_18 H_19 ⟨Z_20, _, _, rfl, hO⟩
 refine hl_v (v_assign rfl) rfl (hl_nil (thenQ_n (hw_ret (ret_i _ (ra_t rfl ra_nil) ?_))))
 exact ⟨_, (cpL (srtL less l)), v_18, (hO.inz 1 rfl), h, rfl, (Own.sel (Ls := [_, _]) (L := L) [0] rfl hO)⟩
theorem orderedArc_spec {a0 : List GArc} {a1 : (GArc → GArc → Int)} {g_3 : FuncId} {cs_4 : List Value} {v_1 : Value} {L : List As} (hp : a0.length ≤ 1000000000000 ∧ TotC a1) {H : Heap} {Z : Nat → Prop} (hO : Own H Z (L)) (hr_2 : Rd fGArc.rep L v_1 a0) (hg_5 : ∀ args w, (callFunc g_3 args).run Tryz.prog w = .ok (.enter g_3 args) w) (hp_6 : ∀ (Ls : List As) (q0 : GArc) (q1 : GArc)  {H : Heap} {Z : Nat → Prop}, Own H Z Ls → HC Tryz.prog g_3 ([] ++ [.agg (fGArc.enc q0).toArray, .agg (fGArc.enc q1).toArray] ++ cs_4) H (fun v H' => ∃ Z' : Nat → Prop, (∀ b, Z b → Z' b) ∧ v = .int .i64 (a1 q0 q1) ∧ Own H' Z' Ls)) : HC Tryz.prog 45 [v_1, .func (.func g_3) #[] cs_4.toArray] H (fun v H' => ∃ (Z' : Nat → Prop) (v_7 : Value), (∀ b, Z b → Z' b) ∧ v = v_7 ∧ Own H' Z' (own fGArc 39 v_7 ((ordL a1 a0)) :: L)) := by
  refine (orderedArc_ok (l := a0) (less := a1) (@orderedArc_wp a0 a1 hp) hO hr_2 hg_5 hp_6).mono ?_
  rintro v H' ⟨Z', r0, v_7, hz, hq, hv, hO'⟩
  obtain rfl := hq
  exact ⟨Z', v_7, hz, hv, hO'⟩
theorem fCheck1_ok {s : Int} {c0 : GFst} {v_2 : Value} {v_4 : Value} {v_6 : Value} {b_1 : Nat} {Q : Bool → Prop} {H : Heap} {Z : Nat → Prop} {L : List As} (h : wp_fCheck1 s c0 Q) (hO : Own H Z (L)) (hf_3 : Fz fGTip.rep L v_2 c0.Starts) (hf_5 : Fz fGTip.rep L v_4 c0.Ends) (hf_7 : Fz fGArc.rep L v_6 c0.Arcs) (hb_8 : Bx L b_1 [.int .i64 c0.States, v_2, v_4, v_6] 25) : HC Tryz.prog 38 [.int .i64 s, ptr b_1 0] H (fun v H' => ∃ (r0 : Bool) , Q r0 ∧ v = .bool r0 ∧ H' = H) := by
 replace hO := Fz.item hf_3 hO
 replace hO := Fz.items [_] hf_5 hO
 replace hO := Fz.items [_, _] hf_7 hO
 unfold wp_fCheck1 at h
 refine hc_of_hw (N := 12) (rs := [(.tmp 3)]) Tryz.func38 rfl rfl rfl rfl (hw_seq (hw_region (hl_v (v_assign rfl) rfl (hl_nil (thenQ_n (hw_seq (hw_region (hl_v (v_move rfl) rfl (hl_v (v_geq rfl rfl) rfl (hl_v (v_move rfl) rfl (hl_g rfl rfl (fun hg => (v_move rfl)) rfl (hl_g rfl rfl (fun hg => (v_fieldA underlying25 rfl sizeOf3 rfl)) rfl (hl_g rfl rfl (fun hg => (v_load1 isAgg3 (gv_ok rfl hg) (Blk.cell (hb_8 _ _ (Own.tails [_, _, _] hO)) rfl))) rfl (hl_g rfl rfl (fun hg => (v_lss (gv_ok rfl hg) (gv_ok rfl hg))) rfl (hl_v (v_and rfl rfl) rfl (hl_v (v_assign rfl) rfl (hl_nil (thenQ_n (hw_ret (ret_i _ (ra_t rfl ra_nil) ?_))))))))))))))))))))
 exact ⟨(decide (0 ≤ s) && decide (s < c0.States)), h, rfl, rfl⟩
theorem fCheck1_spec {a0 : Int} {a1 : GFst} {v_2 : Value} {v_4 : Value} {v_6 : Value} {b_1 : Nat} {L : List As} {H : Heap} {Z : Nat → Prop} (hO : Own H Z (L)) (hf_3 : Fz fGTip.rep L v_2 a1.Starts) (hf_5 : Fz fGTip.rep L v_4 a1.Ends) (hf_7 : Fz fGArc.rep L v_6 a1.Arcs) (hb_8 : Bx L b_1 [.int .i64 a1.States, v_2, v_4, v_6] 25) : HC Tryz.prog 38 [.int .i64 a0, ptr b_1 0] H (fun v H' => v = .bool (fIn a1 a0) ∧ H' = H) := by
  refine (fCheck1_ok (s := a0) (c0 := a1) (@fCheck1_wp a0 a1) hO hf_3 hf_5 hf_7 hb_8).mono ?_
  rintro v H' ⟨r0, hq, hv, hH⟩
  obtain rfl := hq
  exact ⟨hv, hH⟩
theorem fCheck2_ok {x : GTip} {c0 : GFst} {v_3 : Value} {v_5 : Value} {v_7 : Value} {b_1 : Nat} {b_2 : Nat} {Q : Bool → Prop} {H : Heap} {Z : Nat → Prop} {L : List As} (h : wp_fCheck2 x c0 Q) (hO : Own H Z (L)) (hf_4 : Fz fGTip.rep L v_3 c0.Starts) (hf_6 : Fz fGTip.rep L v_5 c0.Ends) (hf_8 : Fz fGArc.rep L v_7 c0.Arcs) (hb_9 : Bx L b_2 [.int .i64 c0.States, v_3, v_5, v_7] 25) (hb_10 : Bx L b_1 [.func (.func 38) #[] #[ptr b_2 0]] 94) : HC Tryz.prog 39 [.agg (fGTip.enc x).toArray, ptr b_1 0] H (fun v H' => ∃ (Z' : Nat → Prop) (r0 : Bool) , (∀ b, Z b → Z' b) ∧ Q r0 ∧ v = .bool r0 ∧ Own H' Z' (L)) := by
 replace hO := hO.inZ
 replace hO := Fz.items [_] hf_4 hO
 replace hO := Fz.items [_, _] hf_6 hO
 replace hO := Fz.items [_, _, _] hf_8 hO
 unfold wp_fCheck2 at h
 refine hc_of_hw (N := 15) (rs := [(.tmp 3)]) Tryz.func39 rfl rfl rfl rfl (hw_seq (hw_region (hl_h (o_box (cs := (fGTip.enc x)) hO rfl rfl) rfl ?_)))
 rintro _ H_11 ⟨b_12, rfl, hO⟩
 refine hl_v (v_assign rfl) rfl (hl_nil (thenQ_n (hw_seq (hw_region (hl_v (v_load1 isAgg94 rfl (Blk.cell (hb_10 _ _ (Own.tails [_, _, _, _, _] hO)) rfl)) rfl (hl_v (v_fieldA underlying50 rfl sizeOf3 rfl) rfl (hl_v (v_load1 isAgg3 rfl (Blk.cell (hO.box 0 rfl) rfl)) rfl (hl_v (v_callv (fs := []) (cs := [ptr b_2 0]) call38 rfl (evs_cons rfl evs_nil) (fCheck1_spec (a0 := x.State) (a1 := c0) hO (Fz.of (i := 3) rfl) (Fz.of (i := 2) rfl) (Fz.of (i := 1) rfl) (Bx.tails [_, _, _, _, _] hb_9))) rfl (hl_v (v_not rfl) rfl (hl_v (v_move rfl) rfl (hl_g rfl rfl (fun hg => (v_fieldA underlying50 rfl sizeOf9 rfl)) rfl (hl_g rfl rfl (fun hg => (v_load1 isAgg9 (gv_ok rfl hg) (Blk.cell (hO.box 0 rfl) rfl))) rfl (hl_g rfl rfl (fun hg => (v_lenS rfl underlying9 (gv_ok rfl hg))) rfl (hl_g rfl rfl (fun hg => (v_gtr (gv_ok rfl hg) rfl)) rfl (hl_v (v_or rfl rfl) rfl (hl_v (v_assign rfl) rfl (hl_nil (thenQ_n (hw_sub _ (a_c 3 rfl a_n) (hw_ret (ret_i _ (ra_t rfl ra_nil) ?_)))))))))))))))))))))
 exact ⟨_, ((!fIn c0 x.State) || decide (1024 < (x.Out.length : Int))), (hO.inz 4 rfl), h, rfl, (Own.sel (Ls := [_, _, _, _, _]) (L := L) [] rfl hO)⟩
theorem fCheck2_spec {a0 : GTip} {a1 : GFst} {v_3 : Value} {v_5 : Value} {v_7 : Value} {b_1 : Nat} {b_2 : Nat} {L : List As} {H : Heap} {Z : Nat → Prop} (hO : Own H Z (L)) (hf_4 : Fz fGTip.rep L v_3 a1.Starts) (hf_6 : Fz fGTip.rep L v_5 a1.Ends) (hf_8 : Fz fGArc.rep L v_7 a1.Arcs) (hb_9 : Bx L b_2 [.int .i64 a1.States, v_3, v_5, v_7] 25) (hb_10 : Bx L b_1 [.func (.func 38) #[] #[ptr b_2 0]] 94) : HC Tryz.prog 39 [.agg (fGTip.enc a0).toArray, ptr b_1 0] H (fun v H' => ∃ (Z' : Nat → Prop) , (∀ b, Z b → Z' b) ∧ v = .bool (fTipBad a1 a0) ∧ Own H' Z' (L)) := by
  refine (fCheck2_ok (x := a0) (c0 := a1) (@fCheck2_wp a0 a1) hO hf_4 hf_6 hf_8 hb_9 hb_10).mono ?_
  rintro v H' ⟨Z', r0, hz, hq, hv, hO'⟩
  obtain rfl := hq
  exact ⟨Z', hz, hv, hO'⟩
theorem indexTip_ok {s : List GTip} {f : (GTip → Bool)} {g_3 : FuncId} {cs_4 : List Value} {v_1 : Value} {Q : Int → Prop} {H : Heap} {Z : Nat → Prop} {L : List As} (h : wp_indexTip s f Q) (hO : Own H Z (L)) (hr_2 : Rd fGTip.rep L v_1 s) (hg_5 : ∀ args w, (callFunc g_3 args).run Tryz.prog w = .ok (.enter g_3 args) w) (hp_6 : ∀ (Ls : List As) (q0 : GTip)  {H : Heap} {Z : Nat → Prop}, Own H Z (Ls ++ L) → HC Tryz.prog g_3 ([] ++ [.agg (fGTip.enc q0).toArray] ++ cs_4) H (fun v H' => ∃ Z' : Nat → Prop, (∀ b, Z b → Z' b) ∧ v = .bool (f q0) ∧ Own H' Z' (Ls ++ L))) : HC Tryz.prog 57 [v_1, .func (.func g_3) #[] cs_4.toArray] H (fun v H' => ∃ (Z' : Nat → Prop) (r0 : Int) , (∀ b, Z b → Z' b) ∧ Q r0 ∧ v = .int .i64 r0 ∧ Own H' Z' (L)) := by
 replace hO := hO.inZ
 unfold wp_indexTip at h
 refine hc_of_hw (N := 19) (rs := [(.tmp 4)]) Tryz.func57 rfl rfl rfl rfl (hw_seq (hw_region (hl_v (v_assign rfl) rfl (hl_nil (thenQ_n (hw_seq (hw_seq (hw_region (hl_v (v_move rfl) rfl ?_)))))))))
 have hln_7 := Sl.cap (Rd.sl hr_2 (Own.tails [_] hO))
 refine hl_v (v_lenL rfl underlying22 rfl (Rd.sl hr_2 (Own.tails [_] hO))) rfl (hl_v (v_move rfl) rfl (hl_nil (thenQ_n (hw_block ?_))))
 obtain ⟨I_8, h, hI_10⟩ := h
 refine hw_lp (fun n' g' H' => ∃ (k : Nat) (Z' : Nat → Prop), n' = s.length - k ∧ g' = [(0, v_1), (1, .func (.func g_3) #[] cs_4.toArray), (7, .int .i64 (s.length : Int)), (8, .int .i64 (k : Int))] ∧ I_8 k ∧ k ≤ s.length ∧ Own H' Z' (inZ Z :: L)) _ _ (a_c 0 rfl (a_c 1 rfl (a_c 7 rfl (a_c 8 rfl a_n)))) ⟨0, _, rfl, rfl, h, by omega, hO⟩ ?_
 rintro _ _ H_11 ⟨k, Z_12, rfl, rfl, h, hb_13, hO⟩
 replace h := hI_10 k h hb_13
 refine hw_seq (hw_region (hl_v (v_lss rfl rfl) rfl (hl_nil (thenQ_n (hw_seq (hw_cond rfl (fun hc_14 => ?_) (fun hc_14 => ?_)))))))
 ·replace h := ite_t h hc_14
  refine hw_skip (thenQ_n (hw_seq (hw_block (hw_seq (hw_region (hl_v (v_move rfl) rfl (hl_v (v_assign rfl) rfl (hl_nil (thenQ_n (hw_seq (hw_region (hl_v (v_move rfl) rfl (hl_v (v_move rfl) rfl (hl_v (v_move rfl) rfl (hl_v (v_ixL underlying22 sizeOf50 rfl rfl (Rd.sl hr_2 (Own.tails [_] hO)) (by exact ⟨Int.natCast_nonneg _, of_decide_eq_true hc_14⟩)) rfl (hl_v (v_loadFl isAgg50 sizeOf50 rfl (Rd.sl hr_2 (Own.tails [_] hO)) rfl (by exact ⟨Int.natCast_nonneg _, of_decide_eq_true hc_14⟩)) rfl (hl_h (h_callv (fs := []) (cs := cs_4) hg_5 rfl (evs_cons rfl evs_nil) (hp_6 [_] (s.getD k default) hO)) rfl ?_)))))))))))))))))
  rintro _ H_15 ⟨Z_16, _, rfl, hO⟩
  refine hl_nil (thenQ_n (hw_cond rfl (fun hc_18 => ?_) (fun hc_18 => ?_)))
  ·replace h := ite_t h hc_18
   refine hw_seq (hw_region (hl_v (v_move rfl) rfl (hl_v (v_assign rfl) rfl (hl_nil (thenQ_n (hw_sub _ (a_c 4 rfl a_n) (hw_ret (blockQ_r (thenQ_r (thenQ_r (blockQ_r (thenQ_r (ret_i _ (ra_t rfl ra_nil) ?_)))))))))))))
   exact ⟨_, (k : Int), (hO.inz 0 rfl), h, rfl, (Own.sel (Ls := [_]) (L := L) [] rfl hO)⟩
  ·replace h := ite_f h hc_18
   refine hw_skip (blockQ_n (thenQ_n (hw_region (hl_v (v_add rfl rfl (by have hq := of_decide_eq_true hc_14; have hm := hln_7; constructor <;> omega)) rfl (hl_v (v_move rfl) rfl (hl_nil (thenQ_n ?_)))))))
   exact ⟨_, _, (a_c 0 rfl (a_c 1 rfl (a_c 7 rfl (a_c 8 rfl a_n)))), ⟨k + 1, _, rfl, rfl, h, (by have hq := of_decide_eq_true hc_14; omega), hO⟩, (by have hq := of_decide_eq_true hc_14; omega)⟩
 ·replace h := ite_f h hc_14
  refine hw_exit (thenQ_e (thenQ_e (blockQ_hit (thenQ_n (hw_seq (hw_region (hl_v (v_assign rfl) rfl (hl_nil (thenQ_n (hw_ret (ret_i _ (ra_t rfl ra_nil) ?_)))))))))))
  exact ⟨_, (-1), (hO.inz 0 rfl), h, rfl, (Own.sel (Ls := [_]) (L := L) [] rfl hO)⟩
theorem indexTip_spec {a0 : List GTip} {a1 : (GTip → Bool)} {g_3 : FuncId} {cs_4 : List Value} {v_1 : Value} {L : List As} {H : Heap} {Z : Nat → Prop} (hO : Own H Z (L)) (hr_2 : Rd fGTip.rep L v_1 a0) (hg_5 : ∀ args w, (callFunc g_3 args).run Tryz.prog w = .ok (.enter g_3 args) w) (hp_6 : ∀ (Ls : List As) (q0 : GTip)  {H : Heap} {Z : Nat → Prop}, Own H Z (Ls ++ L) → HC Tryz.prog g_3 ([] ++ [.agg (fGTip.enc q0).toArray] ++ cs_4) H (fun v H' => ∃ Z' : Nat → Prop, (∀ b, Z b → Z' b) ∧ v = .bool (a1 q0) ∧ Own H' Z' (Ls ++ L))) : HC Tryz.prog 57 [v_1, .func (.func g_3) #[] cs_4.toArray] H (fun v H' => ∃ (Z' : Nat → Prop) , (∀ b, Z b → Z' b) ∧ v = .int .i64 (idxF a1 a0) ∧ Own H' Z' (L)) := by
  refine (indexTip_ok (s := a0) (f := a1) (@indexTip_wp a0 a1) hO hr_2 hg_5 hp_6).mono ?_
  rintro v H' ⟨Z', r0, hz, hq, hv, hO'⟩
  obtain rfl := hq
  exact ⟨Z', hz, hv, hO'⟩
theorem containsTip_ok {s : List GTip} {f : (GTip → Bool)} {g_3 : FuncId} {cs_4 : List Value} {v_1 : Value} {Q : Bool → Prop} {H : Heap} {Z : Nat → Prop} {L : List As} (h : wp_containsTip s f Q) (hO : Own H Z (L)) (hr_2 : Rd fGTip.rep L v_1 s) (hg_5 : ∀ args w, (callFunc g_3 args).run Tryz.prog w = .ok (.enter g_3 args) w) (hp_6 : ∀ (Ls : List As) (q0 : GTip)  {H : Heap} {Z : Nat → Prop}, Own H Z (Ls ++ L) → HC Tryz.prog g_3 ([] ++ [.agg (fGTip.enc q0).toArray] ++ cs_4) H (fun v H' => ∃ Z' : Nat → Prop, (∀ b, Z b → Z' b) ∧ v = .bool (f q0) ∧ Own H' Z' (Ls ++ L))) : HC Tryz.prog 40 [v_1, .func (.func g_3) #[] cs_4.toArray] H (fun v H' => ∃ (Z' : Nat → Prop) (r0 : Bool) , (∀ b, Z b → Z' b) ∧ Q r0 ∧ v = .bool r0 ∧ Own H' Z' (L)) := by
 replace hO := hO.inZ
 unfold wp_containsTip at h
 refine hc_of_hw (N := 9) (rs := [(.tmp 4)]) Tryz.func40 rfl rfl rfl rfl (hw_seq (hw_region (hl_v (v_assign rfl) rfl (hl_nil (thenQ_n (hw_seq (hw_region (hl_v (v_move rfl) rfl (hl_v (v_move rfl) rfl (hl_h (h_call call57 (evs_cons rfl (evs_cons rfl evs_nil)) (indexTip_spec (a0 := s) hO (Rd.tails [_] hr_2) hg_5 (fun Ls => by have hq := hp_6 (Ls ++ [inZ Z]); rw [List.append_assoc] at hq; exact hq))) rfl ?_))))))))))
 rintro _ H_7 ⟨Z_8, _, rfl, hO⟩
 refine hl_v (v_geq rfl rfl) rfl (hl_v (v_assign rfl) rfl (hl_nil (thenQ_n (hw_ret (ret_i _ (ra_t rfl ra_nil) ?_)))))
 exact ⟨_, decide (0 ≤ idxF f s), (hO.inz 0 rfl), h, rfl, (Own.sel (Ls := [_]) (L := L) [] rfl hO)⟩
theorem containsTip_spec {a0 : List GTip} {a1 : (GTip → Bool)} {g_3 : FuncId} {cs_4 : List Value} {v_1 : Value} {L : List As} {H : Heap} {Z : Nat → Prop} (hO : Own H Z (L)) (hr_2 : Rd fGTip.rep L v_1 a0) (hg_5 : ∀ args w, (callFunc g_3 args).run Tryz.prog w = .ok (.enter g_3 args) w) (hp_6 : ∀ (Ls : List As) (q0 : GTip)  {H : Heap} {Z : Nat → Prop}, Own H Z (Ls ++ L) → HC Tryz.prog g_3 ([] ++ [.agg (fGTip.enc q0).toArray] ++ cs_4) H (fun v H' => ∃ Z' : Nat → Prop, (∀ b, Z b → Z' b) ∧ v = .bool (a1 q0) ∧ Own H' Z' (Ls ++ L))) : HC Tryz.prog 40 [v_1, .func (.func g_3) #[] cs_4.toArray] H (fun v H' => ∃ (Z' : Nat → Prop) , (∀ b, Z b → Z' b) ∧ v = .bool (a0.any a1) ∧ Own H' Z' (L)) := by
  refine (containsTip_ok (s := a0) (f := a1) (@containsTip_wp a0 a1) hO hr_2 hg_5 hp_6).mono ?_
  rintro v H' ⟨Z', r0, hz, hq, hv, hO'⟩
  obtain rfl := hq
  exact ⟨Z', hz, hv, hO'⟩
theorem fCheckP_ok {t : GFst} {v_1 : Value} {v_3 : Value} {v_5 : Value} {Q : Int → Prop} {H : Heap} {Z : Nat → Prop} {L : List As} (h : wp_fCheckP t Q) (hO : Own H Z (L)) (hf_2 : Fz fGTip.rep L v_1 t.Starts) (hf_4 : Fz fGTip.rep L v_3 t.Ends) (hf_6 : Fz fGArc.rep L v_5 t.Arcs) : HC Tryz.prog 24 [.agg [.int .i64 t.States, v_1, v_3, v_5].toArray] H (fun v H' => ∃ (Z' : Nat → Prop) (r0 : Int) , (∀ b, Z b → Z' b) ∧ Q r0 ∧ v = .int .i64 r0 ∧ Own H' Z' (L)) := by
 replace hO := hO.inZ
 replace hO := Fz.items [_] hf_2 hO
 replace hO := Fz.items [_, _] hf_4 hO
 replace hO := Fz.items [_, _, _] hf_6 hO
 unfold wp_fCheckP at h
 refine hc_of_hw (N := 79) (rs := [(.tmp 2)]) Tryz.func24 rfl rfl rfl rfl (hw_seq (hw_region (hl_h (o_box (cs := [.int .i64 t.States, v_1, v_3, v_5]) hO rfl rfl) rfl ?_)))
 rintro _ H_7 ⟨b_8, rfl, hO⟩
 refine hl_v (v_assign rfl) rfl (hl_nil (thenQ_n (hw_seq (hw_region (hl_v (v_makeFunc (us := []) (vs := [_]) rfl rfl) rfl (hl_h (o_alloc (cs := [.nilFunc]) hO zeroValue94 rfl) rfl ?_))))))
 rintro _ H_9 ⟨b_10, rfl, hO⟩
 refine hl_s (o_store1 hO 0 rfl sizeOf94 rfl rfl rfl rfl) ?_
 rintro _ H_11 hO
 refine hl_nil (thenQ_n (hw_seq (hw_region (hl_v (v_makeFunc (us := []) (vs := [_]) rfl rfl) rfl (hl_v (v_assign rfl) rfl (hl_nil (thenQ_n (hw_seq (hw_block (hw_seq (hw_region (hl_v (v_fieldA underlying25 rfl sizeOf3 rfl) rfl (hl_v (v_load1 isAgg3 rfl (Blk.cell (hO.box 1 rfl) rfl)) rfl (hl_v (v_lss rfl rfl) rfl (hl_v (v_move rfl) rfl (hl_g rfl rfl (fun hg => (v_fieldA underlying25 rfl sizeOf3 rfl)) rfl (hl_g rfl rfl (fun hg => (v_load1 isAgg3 (gv_ok rfl hg) (Blk.cell (hO.box 1 rfl) rfl))) rfl (hl_g rfl rfl (fun hg => (v_gtr (gv_ok rfl hg) rfl)) rfl (hl_v (v_or rfl rfl) rfl (hl_v (v_move rfl) rfl (hl_g rfl rfl (fun hg => (v_fieldA underlying25 rfl sizeOf23 rfl)) rfl (hl_g rfl rfl (fun hg => (v_load1 isAgg23 (gv_ok rfl hg) (Blk.cell (hO.box 1 rfl) rfl))) rfl ?_))))))))))))))))))))))
 have hln_12 := Sl.cap (hO.fsl 2 rfl)
 refine hl_g rfl rfl (fun hg => (v_lenL rfl underlying23 (gv_ok rfl hg) (hO.fsl 2 rfl))) rfl (hl_g rfl rfl (fun hg => (v_gtr (gv_ok rfl hg) rfl)) rfl (hl_v (v_or rfl rfl) rfl (hl_v (v_move rfl) rfl (hl_g rfl rfl (fun hg => (v_fieldA underlying25 rfl sizeOf22 rfl)) rfl (hl_g rfl rfl (fun hg => (v_load1 isAgg22 (gv_ok rfl hg) (Blk.cell (hO.box 1 rfl) rfl))) rfl ?_)))))
 have hln_13 := Sl.cap (hO.fsl 4 rfl)
 refine hl_g rfl rfl (fun hg => (v_lenL rfl underlying22 (gv_ok rfl hg) (hO.fsl 4 rfl))) rfl (hl_g rfl rfl (fun hg => (v_gtr (gv_ok rfl hg) rfl)) rfl (hl_v (v_or rfl rfl) rfl (hl_v (v_move rfl) rfl (hl_g rfl rfl (fun hg => (v_fieldA underlying25 rfl sizeOf22 rfl)) rfl (hl_g rfl rfl (fun hg => (v_load1 isAgg22 (gv_ok rfl hg) (Blk.cell (hO.box 1 rfl) rfl))) rfl ?_)))))
 have hln_14 := Sl.cap (hO.fsl 3 rfl)
 refine hl_g rfl rfl (fun hg => (v_lenL rfl underlying22 (gv_ok rfl hg) (hO.fsl 3 rfl))) rfl (hl_g rfl rfl (fun hg => (v_gtr (gv_ok rfl hg) rfl)) rfl (hl_v (v_or rfl rfl) rfl (hl_v (v_assign rfl) rfl (hl_nil (thenQ_n (hw_sub _ (a_c 1 rfl (a_c 3 rfl (a_c 4 rfl (a_c 9 rfl a_n)))) (hw_cond rfl (fun hc_15 => ?_) (fun hc_15 => ?_))))))))
 ·replace h := ite_t h hc_15
  refine hw_seq (hw_region (hl_v (v_assign rfl) rfl (hl_nil (thenQ_n (hw_ret (blockQ_r (thenQ_r (ret_i _ (ra_t rfl ra_nil) ?_))))))))
  exact ⟨_, 1, (hO.inz 5 rfl), h, rfl, (Own.sel (Ls := [_, _, _, _, _, _]) (L := L) [] rfl hO)⟩
 ·replace h := ite_f h hc_15
  refine hw_seq (hw_region (hl_v (v_fieldA underlying25 rfl sizeOf22 rfl) rfl (hl_v (v_load1 isAgg22 rfl (Blk.cell (hO.box 1 rfl) rfl)) rfl (hl_v (v_move rfl) rfl (hl_h (h_call call40 (evs_cons rfl (evs_cons rfl evs_nil)) (containsTip_spec (a0 := t.Starts) hO (Rd.of_fz (i := 4) rfl) call39 (fun Ls q0 H Z hO => HC.mono (fCheck2_spec (a0 := q0) (a1 := t) hO (Fz.tails Ls (Fz.of (i := 4) rfl)) (Fz.tails Ls (Fz.of (i := 3) rfl)) (Fz.tails Ls (Fz.of (i := 2) rfl)) (Bx.tails Ls (Bx.of (i := 1) rfl)) (Bx.tails Ls (Bx.of (i := 0) rfl))) (fun v H' h => h)))) rfl ?_)))))
  rintro _ H_16 ⟨Z_17, _, rfl, hO⟩
  refine hl_v (v_move rfl) rfl (hl_g rfl rfl (fun hg => (v_fieldA underlying25 rfl sizeOf22 rfl)) rfl (hl_g rfl rfl (fun hg => (v_load1 isAgg22 (gv_ok rfl hg) (Blk.cell (hO.box 1 rfl) rfl))) rfl (hl_g rfl rfl (fun hg => (v_move rfl)) rfl (hl_gc (v := .bool (t.Ends.any (fun q0 => fTipBad t q0))) (R := fun H' => ∃ Z' : Nat → Prop, Own H' Z' (box b_10 [.func (.func 38) #[] #[ptr b_8 0]] 94 :: box b_8 [.int .i64 t.States, v_1, v_3, v_5] 25 :: fz fGArc.rep v_5 t.Arcs :: fz fGTip.rep v_3 t.Ends :: fz fGTip.rep v_1 t.Starts :: inZ Z :: L)) rfl rfl (fun hg => OpH.mono (h_call call40 (evs_cons (gv_ok rfl hg) (evs_cons (gv_ok rfl hg) evs_nil)) (containsTip_spec (a0 := t.Ends) hO (Rd.of_fz (i := 3) rfl) call39 (fun Ls q0 H Z hO => HC.mono (fCheck2_spec (a0 := q0) (a1 := t) hO (Fz.tails Ls (Fz.of (i := 4) rfl)) (Fz.tails Ls (Fz.of (i := 3) rfl)) (Fz.tails Ls (Fz.of (i := 2) rfl)) (Bx.tails Ls (Bx.of (i := 1) rfl)) (Bx.tails Ls (Bx.of (i := 0) rfl))) (fun v H' h => h)))) (g_c)) ⟨_, hO⟩ rfl ?_))))
  rintro H_19 ⟨Z_20, hO⟩
  refine hl_v (v_or rfl rfl) rfl (hl_v (v_assign rfl) rfl (hl_nil (thenQ_n (hw_sub _ (a_c 1 rfl (a_c 3 rfl (a_c 36 rfl a_n))) (hw_cond rfl (fun hc_22 => ?_) (fun hc_22 => ?_))))))
  ·replace h := ite_t h hc_22
   refine hw_seq (hw_region (hl_v (v_assign rfl) rfl (hl_nil (thenQ_n (hw_ret (blockQ_r (thenQ_r (ret_i _ (ra_t rfl ra_nil) ?_))))))))
   exact ⟨_, 1, (hO.inz 5 rfl), h, rfl, (Own.sel (Ls := [_, _, _, _, _, _]) (L := L) [] rfl hO)⟩
  ·replace h := ite_f h hc_22
   refine hw_skip (blockQ_n (thenQ_n (hw_seq (hw_seq (hw_region (hl_v (v_fieldA underlying25 rfl sizeOf23 rfl) rfl (hl_v (v_load1 isAgg23 rfl (Blk.cell (hO.box 1 rfl) rfl)) rfl (hl_v (v_lenL rfl underlying23 rfl (hO.fsl 2 rfl)) rfl (hl_v (v_move rfl) rfl (hl_nil (thenQ_n (hw_block ?_))))))))))))
   obtain ⟨I_23, h, hI_25⟩ := h
   refine hw_lp (fun n' g' H' => ∃ (k : Nat) (Z' : Nat → Prop), n' = t.Arcs.length - k ∧ g' = [(3, ptr b_10 0), (48, v_5), (49, .int .i64 (t.Arcs.length : Int)), (50, .int .i64 (k : Int))] ∧ I_23 k ∧ k ≤ t.Arcs.length ∧ Own H' Z' (box b_10 [.func (.func 38) #[] #[ptr b_8 0]] 94 :: box b_8 [.int .i64 t.States, v_1, v_3, v_5] 25 :: fz fGArc.rep v_5 t.Arcs :: fz fGTip.rep v_3 t.Ends :: fz fGTip.rep v_1 t.Starts :: inZ Z :: L)) _ _ (a_c 3 rfl (a_c 48 rfl (a_c 49 rfl (a_c 50 rfl a_n)))) ⟨0, _, rfl, rfl, h, by omega, hO⟩ ?_
   rintro _ _ H_26 ⟨k, Z_27, rfl, rfl, h, hb_28, hO⟩
   replace h := hI_25 k h hb_28
   refine hw_seq (hw_region (hl_v (v_lss rfl rfl) rfl (hl_nil (thenQ_n (hw_seq (hw_cond rfl (fun hc_29 => ?_) (fun hc_29 => ?_)))))))
   ·replace h := ite_t h hc_29
    refine hw_skip (thenQ_n (hw_seq (hw_block (hw_seq (hw_region (hl_v (v_ixL underlying23 sizeOf39 rfl rfl (hO.fsl 2 rfl) (by exact ⟨Int.natCast_nonneg _, of_decide_eq_true hc_29⟩)) rfl (hl_v (v_loadFl isAgg39 sizeOf39 rfl (hO.fsl 2 rfl) rfl (by exact ⟨Int.natCast_nonneg _, of_decide_eq_true hc_29⟩)) rfl (hl_h (o_alloc (cs := (fGArc.enc (⟨(0 : Int), (0 : Int), BSet.zero, ([] : List UInt8), false⟩ : GArc))) hO zeroValue39 rfl) rfl ?_))))))))
    rintro _ H_30 ⟨b_31, rfl, hO⟩
    refine hl_s (o_storeA (us := (fGArc.enc (t.Arcs.getD k default))) hO 0 rfl sizeOf39 rfl rfl rfl rfl (by intro u hu; exact (fGArc).one _ u hu)) ?_
    rintro _ H_32 hO
    refine hl_nil (thenQ_n (hw_seq (hw_region (hl_v (v_load1 isAgg94 rfl (Blk.cell (hO.box 1 rfl) rfl)) rfl (hl_v (v_fieldA underlying39 rfl sizeOf3 rfl) rfl (hl_v (v_load1 isAgg3 rfl (Blk.cell (hO.box 0 rfl) rfl)) rfl (hl_v (v_callv (fs := []) (cs := [ptr b_8 0]) call38 rfl (evs_cons rfl evs_nil) (fCheck1_spec (a0 := (t.Arcs.getD k default).From) (a1 := t) hO (Fz.of (i := 5) rfl) (Fz.of (i := 4) rfl) (Fz.of (i := 3) rfl) (Bx.of (i := 2) rfl))) rfl (hl_v (v_not rfl) rfl (hl_v (v_move rfl) rfl (hl_g rfl rfl (fun hg => (v_load1 isAgg94 rfl (Blk.cell (hO.box 1 rfl) rfl))) rfl (hl_g rfl rfl (fun hg => (v_fieldA underlying39 rfl sizeOf3 rfl)) rfl (hl_g rfl rfl (fun hg => (v_load1 isAgg3 (gv_ok rfl hg) (Blk.cell (hO.box 0 rfl) rfl))) rfl (hl_g rfl rfl (fun hg => (v_callv (fs := []) (cs := [ptr b_8 0]) call38 (gv_ok rfl hg) (evs_cons (gv_ok rfl hg) evs_nil) (fCheck1_spec (a0 := (t.Arcs.getD k default).To) (a1 := t) hO (Fz.of (i := 5) rfl) (Fz.of (i := 4) rfl) (Fz.of (i := 3) rfl) (Bx.of (i := 2) rfl)))) rfl (hl_g rfl rfl (fun hg => (v_not (gv_ok rfl hg))) rfl (hl_v (v_or rfl rfl) rfl (hl_v (v_move rfl) rfl (hl_g rfl rfl (fun hg => (v_fieldA underlying39 rfl sizeOf37 rfl)) rfl (hl_g rfl rfl (fun hg => (v_loadA (cs := (sw ((t.Arcs.getD k default).Set))) isAgg37 sizeOf37 (gv_ok rfl hg) (Blk.sub (n := 4) (hO.box 0 rfl) rfl) rfl)) rfl (hl_g rfl rfl (fun hg => (v_buildS0 underlying37 zeroValue37 sizeOf35)) rfl (hl_g rfl rfl (fun hg => (v_eqlSet underlying37 underlying35 sizeOf35 (by kernel_rfl) (gv_ok rfl hg) (gv_ok rfl hg))) rfl ?_))))))))))))))))))))
    refine hl_v (v_or rfl rfl) rfl (hl_v (v_move rfl) rfl (hl_g rfl rfl (fun hg => (v_fieldA underlying39 rfl sizeOf9 rfl)) rfl (hl_g rfl rfl (fun hg => (v_load1 isAgg9 (gv_ok rfl hg) (Blk.cell (hO.box 0 rfl) rfl))) rfl (hl_g rfl rfl (fun hg => (v_lenS rfl underlying9 (gv_ok rfl hg))) rfl (hl_g rfl rfl (fun hg => (v_gtr (gv_ok rfl hg) rfl)) rfl (hl_v (v_or rfl rfl) rfl (hl_nil (thenQ_n (hw_sub _ (a_c 3 rfl (a_c 48 rfl (a_c 49 rfl (a_c 50 rfl (a_c 77 rfl a_n))))) (hw_cond rfl (fun hc_33 => ?_) (fun hc_33 => ?_)))))))))))
    ·replace h := ite_t h hc_33
     refine hw_seq (hw_region (hl_v (v_assign rfl) rfl (hl_nil (thenQ_n (hw_ret (blockQ_r (thenQ_r (thenQ_r (blockQ_r (thenQ_r (ret_i _ (ra_t rfl ra_nil) ?_)))))))))))
     exact ⟨_, 1, (hO.inz 6 rfl), h, rfl, (Own.sel (Ls := [_, _, _, _, _, _, _]) (L := L) [] rfl hO)⟩
    ·replace h := ite_f h hc_33
     refine hw_skip (blockQ_n (thenQ_n (hw_region (hl_v (v_add rfl rfl (by have hq := of_decide_eq_true hc_29; have hm := hln_12; constructor <;> omega)) rfl (hl_v (v_move rfl) rfl (hl_nil (thenQ_n ?_)))))))
     exact ⟨_, _, (a_c 3 rfl (a_c 48 rfl (a_c 49 rfl (a_c 50 rfl a_n)))), ⟨k + 1, _, rfl, rfl, h, (by have hq := of_decide_eq_true hc_29; omega), (Own.sel (Ls := [_, _, _, _, _, _, _]) (L := L) [1, 2, 3, 4, 5, 6] rfl hO)⟩, (by have hq := of_decide_eq_true hc_29; omega)⟩
   ·replace h := ite_f h hc_29
    refine hw_exit (thenQ_e (thenQ_e (blockQ_hit (thenQ_n (hw_seq (hw_region (hl_v (v_assign rfl) rfl (hl_nil (thenQ_n (hw_ret (ret_i _ (ra_t rfl ra_nil) ?_)))))))))))
    exact ⟨_, 0, (hO.inz 5 rfl), h, rfl, (Own.sel (Ls := [_, _, _, _, _, _]) (L := L) [] rfl hO)⟩
theorem fCheckP_spec {a0 : GFst} {v_1 : Value} {v_3 : Value} {v_5 : Value} {L : List As} {H : Heap} {Z : Nat → Prop} (hO : Own H Z (L)) (hf_2 : Fz fGTip.rep L v_1 a0.Starts) (hf_4 : Fz fGTip.rep L v_3 a0.Ends) (hf_6 : Fz fGArc.rep L v_5 a0.Arcs) : HC Tryz.prog 24 [.agg [.int .i64 a0.States, v_1, v_3, v_5].toArray] H (fun v H' => ∃ (Z' : Nat → Prop) , (∀ b, Z b → Z' b) ∧ v = .int .i64 (fCheck a0) ∧ Own H' Z' (L)) := by
  refine (fCheckP_ok (t := a0) (@fCheckP_wp a0) hO hf_2 hf_4 hf_6).mono ?_
  rintro v H' ⟨Z', r0, hz, hq, hv, hO'⟩
  obtain rfl := hq
  exact ⟨Z', hz, hv, hO'⟩
theorem fSortP_ok {t : GFst} {v_1 : Value} {v_3 : Value} {v_5 : Value} {Q : GFst → Int → Prop} {H : Heap} {Z : Nat → Prop} {L : List As} (h : wp_fSortP t Q) (hO : Own H Z (L)) (hf_2 : Fz fGTip.rep L v_1 t.Starts) (hf_4 : Fz fGTip.rep L v_3 t.Ends) (hf_6 : Fz fGArc.rep L v_5 t.Arcs) : HC Tryz.prog 27 [.agg [.int .i64 t.States, v_1, v_3, v_5].toArray] H (fun v H' => ∃ (Z' : Nat → Prop) (r0 : GFst) (r1 : Int) (v_7 : Value) (v_8 : Value) (v_9 : Value), (∀ b, Z b → Z' b) ∧ Q r0 r1 ∧ v = .tuple #[.agg [.int .i64 r0.States, v_7, v_8, v_9].toArray, .int .i64 r1] ∧ Own H' Z' (own fGTip 50 v_7 r0.Starts :: own fGTip 50 v_8 r0.Ends :: own fGArc 39 v_9 r0.Arcs :: L)) := by
 replace hO := hO.inZ
 replace hO := Fz.items [_] hf_2 hO
 replace hO := Fz.items [_, _] hf_4 hO
 replace hO := Fz.items [_, _, _] hf_6 hO
 unfold wp_fSortP at h
 refine hc_of_hw (N := 23) (rs := [(.cell 2 25), (.tmp 3)]) Tryz.func27 rfl rfl rfl rfl (hw_seq (hw_region (hl_h (o_box (cs := [.int .i64 t.States, v_1, v_3, v_5]) hO rfl rfl) rfl ?_)))
 rintro _ H_10 ⟨b_11, rfl, hO⟩
 refine hl_h (o_alloc (cs := [.int .i64 (0 : Int), .slice none 0 0, .slice none 0 0, .slice none 0 0]) hO zeroValue25 rfl) rfl ?_
 rintro _ H_12 ⟨b_13, rfl, hO⟩
 refine hl_v (v_assign rfl) rfl (hl_nil (thenQ_n (hw_seq (hw_seq (hw_region (hl_v (v_loadA isAgg25 sizeOf25 rfl (Blk.at0 (hO.box 1 rfl)) rfl) rfl (hl_h (h_call call24 (evs_cons rfl evs_nil) (fCheckP_spec (a0 := t) hO (Fz.of (i := 4) rfl) (Fz.of (i := 3) rfl) (Fz.of (i := 2) rfl))) rfl ?_)))))))
 rintro _ H_14 ⟨Z_15, _, rfl, hO⟩
 refine hl_v (v_assign rfl) rfl (hl_nil (thenQ_n (hw_seq (hw_region (hl_v (v_move rfl) rfl (hl_v (v_neq rfl rfl) rfl (hl_nil (thenQ_n (hw_cond rfl (fun hc_17 => ?_) (fun hc_17 => ?_))))))))))
 ·replace h := ite_t h hc_17
  refine hw_seq (hw_region (hl_v (v_buildF (cs := [.int .i64 (0 : Int), .slice none 0 0, .slice none 0 0, .slice none 0 0]) (xs := []) (is := []) rfl evs_nil (fun w => by show _ = _; kernel_rfl)) rfl (hl_v (v_move rfl) rfl (hl_s (o_storeA (us := [.int .i64 (0 : Int), .slice none 0 0, .slice none 0 0, .slice none 0 0]) hO 0 rfl sizeOf25 rfl rfl rfl rfl (by simp only [List.forall_mem_cons]; exact ⟨rfl, rfl, rfl, rfl, by simp⟩)) ?_))))
  rintro _ H_18 hO
  refine hl_v (v_assign rfl) rfl (hl_nil (thenQ_n (hw_ret (thenQ_r ?_))))
  replace hO := hO.nil fGTip 50
  replace hO := hO.nil fGTip 50
  replace hO := hO.nil fGArc 39
  refine ret_i _ (ra_c rfl (fun w hw => run_loadVar_at (cs := [.int .i64 (0 : Int), .slice none 0 0, .slice none 0 0, .slice none 0 0]) isAgg25 sizeOf25 (Blk.at0 (hO.box 3 rfl)) rfl w hw) (ra_t rfl ra_nil)) ?_
  exact ⟨_, (⟨(0 : Int), [], [], []⟩ : GFst), fCheck t, .slice none 0 0, .slice none 0 0, .slice none 0 0, (hO.inz 8 rfl), h, rfl, (Own.sel (Ls := [_, _, _, _, _, _, _, _, _]) (L := L) [2, 1, 0] rfl hO)⟩
 ·replace h := ite_f h hc_17
  refine hw_skip (thenQ_n (hw_seq (hw_held2 12 (fun H' => ∃ Z' : Nat → Prop, Own H' Z' (box b_13 [.int .i64 (0 : Int), .slice none 0 0, .slice none 0 0, .slice none 0 0] 25 :: box b_11 [.int .i64 t.States, v_1, v_3, v_5] 25 :: fz fGArc.rep v_5 t.Arcs :: fz fGTip.rep v_3 t.Ends :: fz fGTip.rep v_1 t.Starts :: inZ Z :: L)) (.step 0 false (.step 1 false (.step 2 false (.step 3 false (.step 5 false (.step 6 false (.step 8 false (.step 9 false (.step 4 true (.step 7 true (.step 10 true (.step 11 false .done)))))))))))) (.step 12 true (.step 13 true .done)) Tryz.mixed (by kernel_rfl) ⟨_, hO⟩ (hd_v rfl (fun _ _ => (v_fieldA underlying25 rfl sizeOf3 rfl)) rfl (hd_v rfl (fun H' hS => by obtain ⟨Z', hO⟩ := hS; exact (v_load1 isAgg3 rfl (Blk.cell (hO.box 1 rfl) rfl))) rfl (hd_v rfl (fun _ _ => (v_fieldA underlying25 rfl sizeOf22 rfl)) rfl (hd_v rfl (fun H' hS => by obtain ⟨Z', hO⟩ := hS; exact (v_load1 isAgg22 rfl (Blk.cell (hO.box 1 rfl) rfl))) rfl (hd_v rfl (fun _ _ => (v_fieldA underlying25 rfl sizeOf22 rfl)) rfl (hd_v rfl (fun H' hS => by obtain ⟨Z', hO⟩ := hS; exact (v_load1 isAgg22 rfl (Blk.cell (hO.box 1 rfl) rfl))) rfl (hd_v rfl (fun _ _ => (v_fieldA underlying25 rfl sizeOf23 rfl)) rfl (hd_v rfl (fun H' hS => by obtain ⟨Z', hO⟩ := hS; exact (v_load1 isAgg23 rfl (Blk.cell (hO.box 1 rfl) rfl))) rfl ?_)))))))))))
  obtain ⟨hs_19, h⟩ := h
  refine hd_h (h_call call43 (evs_cons rfl (evs_cons rfl evs_nil)) (orderedTip_spec (a0 := t.Starts) hs_19 hO (Rd.of_fz (i := 4) rfl) call44 (fun Ls q0 q1 H Z hO => HC.mono (cmpTips_spec (a0 := q0) (a1 := q1) hO) (fun v H' h => h)))) (by rintro v_20 H_21 ⟨Z_22, _, _, rfl, hO⟩; exact ⟨_, (Own.sel (Ls := [_, _, _, _, _, _, _]) (L := L) [1, 2, 3, 4, 5, 6] rfl hO)⟩) rfl ?_
  rintro v_20 H_21 ⟨Z_22, _, _, rfl, hO⟩
  obtain ⟨hs_24, h⟩ := h
  refine hd_h (h_call call43 (evs_cons rfl (evs_cons rfl evs_nil)) (orderedTip_spec (a0 := t.Ends) hs_24 hO (Rd.of_fz (i := 4) rfl) call44 (fun Ls q0 q1 H Z hO => HC.mono (cmpTips_spec (a0 := q0) (a1 := q1) hO) (fun v H' h => h)))) (by rintro v_25 H_26 ⟨Z_27, _, _, rfl, hO⟩; exact ⟨_, (Own.sel (Ls := [_, _, _, _, _, _, _, _]) (L := L) [2, 3, 4, 5, 6, 7] rfl hO)⟩) rfl ?_
  rintro v_25 H_26 ⟨Z_27, _, _, rfl, hO⟩
  obtain ⟨hs_29, h⟩ := h
  refine hd_h (h_call call45 (evs_cons rfl (evs_cons rfl evs_nil)) (orderedArc_spec (a0 := t.Arcs) hs_29 hO (Rd.of_fz (i := 4) rfl) call46 (fun Ls q0 q1 H Z hO => HC.mono (cmpArcs_spec (a0 := q0) (a1 := q1) hO) (fun v H' h => h)))) (by rintro v_30 H_31 ⟨Z_32, _, _, rfl, hO⟩; exact ⟨_, (Own.sel (Ls := [_, _, _, _, _, _, _, _, _]) (L := L) [3, 4, 5, 6, 7, 8] rfl hO)⟩) rfl ?_
  rintro v_30 H_31 ⟨Z_32, _, _, rfl, hO⟩
  have hsh_34 := Sl.sh (hO.osl 2 rfl)
  have hsh_35 := Sl.sh (hO.osl 1 rfl)
  have hsh_36 := Sl.sh (hO.osl 0 rfl)
  refine hd_v rfl (fun _ _ => (v_buildF (cs := [.int .i64 t.States, v_20, v_25, v_30]) (xs := [.tmp 12, .tmp 15, .tmp 18, .tmp 21]) (is := [0, 1, 2, 3]) rfl (evs_cons rfl (evs_cons rfl (evs_cons rfl (evs_cons rfl evs_nil)))) (fun w => by obtain ⟨_, _, _, hw⟩ := hsh_34; (try subst hw); obtain ⟨_, _, _, hw⟩ := hsh_35; (try subst hw); obtain ⟨_, _, _, hw⟩ := hsh_36; (try subst hw); show _ = _; kernel_rfl))) rfl (hd_nil (hd_s (o_storeA (us := [.int .i64 t.States, v_20, v_25, v_30]) hO 3 rfl sizeOf25 rfl rfl rfl rfl (by simp only [List.forall_mem_cons]; exact ⟨rfl, (Sl.one (hO.osl 2 rfl)), (Sl.one (hO.osl 1 rfl)), (Sl.one (hO.osl 0 rfl)), by simp⟩)) (fun _ _ _ => trivial) ?_))
  rintro _ H_37 hO
  refine hd_h (OpV.toH (v_assign rfl)) (fun _ _ hR => trivial) rfl ?_
  rintro vv HH ⟨hvv, hHH⟩
  obtain rfl := hvv.symm
  obtain rfl := hHH.symm
  refine hd_nil (thenQ_n (hw_ret (ret_i _ (ra_c rfl (fun w hw => run_loadVar_at (cs := [.int .i64 t.States, v_20, v_25, v_30]) isAgg25 sizeOf25 (Blk.at0 (hO.box 3 rfl)) rfl w hw) (ra_t rfl ra_nil)) ?_)))
  exact ⟨_, (⟨t.States, (ordL (fun q0 q1 => (cmpTip q0 q1)) t.Starts), (ordL (fun q0 q1 => (cmpTip q0 q1)) t.Ends), (ordL (fun q0 q1 => (cmpArc q0 q1)) t.Arcs)⟩ : GFst), 0, v_20, v_25, v_30, (hO.inz 8 rfl), h, rfl, (Own.sel (Ls := [_, _, _, _, _, _, _, _, _]) (L := L) [2, 1, 0] rfl hO)⟩
theorem fSortP_spec {a0 : GFst} {v_1 : Value} {v_3 : Value} {v_5 : Value} {L : List As} {H : Heap} {Z : Nat → Prop} (hO : Own H Z (L)) (hf_2 : Fz fGTip.rep L v_1 a0.Starts) (hf_4 : Fz fGTip.rep L v_3 a0.Ends) (hf_6 : Fz fGArc.rep L v_5 a0.Arcs) : HC Tryz.prog 27 [.agg [.int .i64 a0.States, v_1, v_3, v_5].toArray] H (fun v H' => ∃ (Z' : Nat → Prop) (v_7 : Value) (v_8 : Value) (v_9 : Value), (∀ b, Z b → Z' b) ∧ v = .tuple #[.agg [.int .i64 ((fSort a0).1).States, v_7, v_8, v_9].toArray, .int .i64 ((fSort a0).2)] ∧ Own H' Z' (own fGTip 50 v_7 ((fSort a0).1).Starts :: own fGTip 50 v_8 ((fSort a0).1).Ends :: own fGArc 39 v_9 ((fSort a0).1).Arcs :: L)) := by
  refine (fSortP_ok (t := a0) (@fSortP_wp a0) hO hf_2 hf_4 hf_6).mono ?_
  rintro v H' ⟨Z', r0, r1, v_7, v_8, v_9, hz, hq, hv, hO'⟩
  obtain ⟨rfl, rfl⟩ := hq
  exact ⟨Z', v_7, v_8, v_9, hz, hv, hO'⟩
theorem rFew15_ok {t : GFst} {v_1 : Value} {v_3 : Value} {v_5 : Value} {Q : Bool → Prop} {H : Heap} {Z : Nat → Prop} {L : List As} (h : wp_rFew15 t Q) (hO : Own H Z (L)) (hf_2 : Fz fGTip.rep L v_1 t.Starts) (hf_4 : Fz fGTip.rep L v_3 t.Ends) (hf_6 : Fz fGArc.rep L v_5 t.Arcs) : HC Tryz.prog 10 [.agg [.int .i64 t.States, v_1, v_3, v_5].toArray] H (fun v H' => ∃ (Z' : Nat → Prop) (r0 : Bool) , (∀ b, Z b → Z' b) ∧ Q r0 ∧ v = .bool r0 ∧ Own H' Z' (L)) := by
 replace hO := hO.inZ
 replace hO := Fz.items [_] hf_2 hO
 replace hO := Fz.items [_, _] hf_4 hO
 replace hO := Fz.items [_, _, _] hf_6 hO
 unfold wp_rFew15 at h
 refine hc_of_hw (N := 93) (rs := [(.tmp 2)]) Tryz.func10 rfl rfl rfl rfl (hw_seq (hw_region (hl_h (o_box (cs := [.int .i64 t.States, v_1, v_3, v_5]) hO rfl rfl) rfl ?_)))
 rintro _ H_7 ⟨b_8, rfl, hO⟩
 refine hl_v (v_assign rfl) rfl (hl_nil (thenQ_n (hw_seq (hw_region (hl_v (v_fieldA underlying25 rfl sizeOf22 rfl) rfl (hl_v (v_load1 isAgg22 rfl (Blk.cell (hO.box 0 rfl) rfl)) rfl ?_))))))
 have hln_9 := Sl.cap (hO.fsl 3 rfl)
 refine hl_v (v_lenL rfl underlying22 rfl (hO.fsl 3 rfl)) rfl (hl_v (v_fieldA underlying25 rfl sizeOf22 rfl) rfl (hl_v (v_load1 isAgg22 rfl (Blk.cell (hO.box 0 rfl) rfl)) rfl ?_))
 have hln_10 := Sl.cap (hO.fsl 2 rfl)
 refine hl_v (v_lenL rfl underlying22 rfl (hO.fsl 2 rfl)) rfl ?_
 obtain ⟨hs_11, h⟩ := h
 refine hl_v (v_add rfl rfl hs_11) rfl (hl_v (v_fieldA underlying25 rfl sizeOf23 rfl) rfl (hl_v (v_load1 isAgg23 rfl (Blk.cell (hO.box 0 rfl) rfl)) rfl ?_))
 have hln_12 := Sl.cap (hO.fsl 1 rfl)
 refine hl_v (v_lenL rfl underlying23 rfl (hO.fsl 1 rfl)) rfl ?_
 obtain ⟨hs_13, h⟩ := h
 refine hl_v (v_add rfl rfl hs_13) rfl (hl_v (v_assign rfl) rfl (hl_nil (thenQ_n (hw_sub _ (a_c 1 rfl (a_c 3 rfl a_n)) (hw_seq (hw_seq (hw_region (hl_v (v_assign rfl) rfl (hl_nil (thenQ_n (hw_block ?_)))))))))))
 obtain ⟨I_14, μ_15, h, hI_16⟩ := h
 refine hw_lp (fun n' g' H' => ∃ (n : Int) (i : Int) (Z' : Nat → Prop), n' = μ_15 n i ∧ g' = [(1, ptr b_8 0), (3, .int .i64 n), (4, .int .i64 i)] ∧ I_14 n i ∧ Own H' Z' (box b_8 [.int .i64 t.States, v_1, v_3, v_5] 25 :: fz fGArc.rep v_5 t.Arcs :: fz fGTip.rep v_3 t.Ends :: fz fGTip.rep v_1 t.Starts :: inZ Z :: L)) _ _ (a_c 1 rfl (a_c 3 rfl (a_c 4 rfl a_n))) ⟨(((t.Starts.length : Int) + (t.Ends.length : Int)) + (t.Arcs.length : Int)), 0, _, rfl, rfl, h, hO⟩ ?_
 rintro _ _ H_17 ⟨n, i, Z_18, rfl, rfl, h, hO⟩
 replace h := hI_16 n i h
 refine hw_seq (hw_seq (hw_region (hl_v (v_move rfl) rfl (hl_v (v_fieldA underlying25 rfl sizeOf22 rfl) rfl (hl_v (v_load1 isAgg22 rfl (Blk.cell (hO.box 0 rfl) rfl)) rfl (hl_v (v_lenL rfl underlying22 rfl (hO.fsl 3 rfl)) rfl (hl_v (v_lss rfl rfl) rfl (hl_v (v_move rfl) rfl (hl_g rfl rfl (fun hg => (v_move rfl)) rfl (hl_g rfl rfl (fun hg => (v_leq (gv_ok rfl hg) rfl)) rfl (hl_v (v_and rfl rfl) rfl (hl_nil (thenQ_n (hw_cond rfl (fun hc_20 => ?_) (fun hc_20 => ?_)))))))))))))))
 ·replace h := ite_t h hc_20
  refine hw_skip (thenQ_n (hw_seq (hw_block (hw_region (hl_v (v_move rfl) rfl (hl_v (v_fieldA underlying25 rfl sizeOf22 rfl) rfl (hl_v (v_load1 isAgg22 rfl (Blk.cell (hO.box 0 rfl) rfl)) rfl (hl_v (v_move rfl) rfl ?_))))))))
  obtain ⟨hs_21, h⟩ := h
  refine hl_v (v_ixL underlying22 sizeOf50 rfl rfl (hO.fsl 3 rfl) hs_21) rfl (hl_v (v_fieldA underlying50 rfl sizeOf9 rfl) rfl (hl_v (v_loadSub (j := 1) isAgg9 rfl (hO.fsl 3 rfl) rfl hs_21 rfl) rfl (hl_v (v_lenS rfl underlying9 rfl) rfl ?_)))
  obtain ⟨hs_22, h⟩ := h
  refine hl_v (v_quo rfl rfl hs_22) rfl ?_
  obtain ⟨hs_23, h⟩ := h
  refine hl_v (v_add rfl rfl hs_23) rfl (hl_v (v_assign rfl) rfl (hl_nil (blockQ_n (thenQ_n (hw_region (hl_v (v_move rfl) rfl ?_))))))
  obtain ⟨hs_24, h⟩ := h
  refine hl_v (v_add rfl rfl hs_24) rfl (hl_v (v_assign rfl) rfl (hl_nil (thenQ_n ?_)))
  exact ⟨_, _, (a_c 1 rfl (a_c 3 rfl (a_c 4 rfl a_n))), ⟨(n + ((((t.Starts.getD i.toNat default).Out).length : Int) / 40)), (i + 1), _, rfl, rfl, h.1, hO⟩, h.2⟩
 ·replace h := ite_f h hc_20
  refine hw_exit (thenQ_e (thenQ_e (blockQ_hit (thenQ_n (hw_seq (hw_seq (hw_region (hl_v (v_assign rfl) rfl (hl_nil (thenQ_n (hw_block ?_)))))))))))
  obtain ⟨I_25, μ_26, h, hI_27⟩ := h
  refine hw_lp (fun n' g' H' => ∃ (n2 : Int) (i2 : Int) (Z' : Nat → Prop), n' = μ_26 n2 i2 ∧ g' = [(1, ptr b_8 0), (3, .int .i64 n2), (5, .int .i64 i2)] ∧ I_25 n2 i2 ∧ Own H' Z' (box b_8 [.int .i64 t.States, v_1, v_3, v_5] 25 :: fz fGArc.rep v_5 t.Arcs :: fz fGTip.rep v_3 t.Ends :: fz fGTip.rep v_1 t.Starts :: inZ Z :: L)) _ _ (a_c 1 rfl (a_c 3 rfl (a_c 5 rfl a_n))) ⟨n, 0, _, rfl, rfl, h, hO⟩ ?_
  rintro _ _ H_28 ⟨n2, i2, Z_29, rfl, rfl, h, hO⟩
  replace h := hI_27 n2 i2 h
  refine hw_seq (hw_seq (hw_region (hl_v (v_move rfl) rfl (hl_v (v_fieldA underlying25 rfl sizeOf22 rfl) rfl (hl_v (v_load1 isAgg22 rfl (Blk.cell (hO.box 0 rfl) rfl)) rfl (hl_v (v_lenL rfl underlying22 rfl (hO.fsl 2 rfl)) rfl (hl_v (v_lss rfl rfl) rfl (hl_v (v_move rfl) rfl (hl_g rfl rfl (fun hg => (v_move rfl)) rfl (hl_g rfl rfl (fun hg => (v_leq (gv_ok rfl hg) rfl)) rfl (hl_v (v_and rfl rfl) rfl (hl_nil (thenQ_n (hw_cond rfl (fun hc_31 => ?_) (fun hc_31 => ?_)))))))))))))))
  ·replace h := ite_t h hc_31
   refine hw_skip (thenQ_n (hw_seq (hw_block (hw_region (hl_v (v_move rfl) rfl (hl_v (v_fieldA underlying25 rfl sizeOf22 rfl) rfl (hl_v (v_load1 isAgg22 rfl (Blk.cell (hO.box 0 rfl) rfl)) rfl (hl_v (v_move rfl) rfl ?_))))))))
   obtain ⟨hs_32, h⟩ := h
   refine hl_v (v_ixL underlying22 sizeOf50 rfl rfl (hO.fsl 2 rfl) hs_32) rfl (hl_v (v_fieldA underlying50 rfl sizeOf9 rfl) rfl (hl_v (v_loadSub (j := 1) isAgg9 rfl (hO.fsl 2 rfl) rfl hs_32 rfl) rfl (hl_v (v_lenS rfl underlying9 rfl) rfl ?_)))
   obtain ⟨hs_33, h⟩ := h
   refine hl_v (v_quo rfl rfl hs_33) rfl ?_
   obtain ⟨hs_34, h⟩ := h
   refine hl_v (v_add rfl rfl hs_34) rfl (hl_v (v_assign rfl) rfl (hl_nil (blockQ_n (thenQ_n (hw_region (hl_v (v_move rfl) rfl ?_))))))
   obtain ⟨hs_35, h⟩ := h
   refine hl_v (v_add rfl rfl hs_35) rfl (hl_v (v_assign rfl) rfl (hl_nil (thenQ_n ?_)))
   exact ⟨_, _, (a_c 1 rfl (a_c 3 rfl (a_c 5 rfl a_n))), ⟨(n2 + ((((t.Ends.getD i2.toNat default).Out).length : Int) / 40)), (i2 + 1), _, rfl, rfl, h.1, hO⟩, h.2⟩
  ·replace h := ite_f h hc_31
   refine hw_exit (thenQ_e (thenQ_e (blockQ_hit (thenQ_n (hw_seq (hw_seq (hw_region (hl_v (v_assign rfl) rfl (hl_nil (thenQ_n (hw_block ?_)))))))))))
   obtain ⟨I_36, μ_37, h, hI_38⟩ := h
   refine hw_lp (fun n' g' H' => ∃ (n3 : Int) (i3 : Int) (Z' : Nat → Prop), n' = μ_37 n3 i3 ∧ g' = [(1, ptr b_8 0), (3, .int .i64 n3), (6, .int .i64 i3)] ∧ I_36 n3 i3 ∧ Own H' Z' (box b_8 [.int .i64 t.States, v_1, v_3, v_5] 25 :: fz fGArc.rep v_5 t.Arcs :: fz fGTip.rep v_3 t.Ends :: fz fGTip.rep v_1 t.Starts :: inZ Z :: L)) _ _ (a_c 1 rfl (a_c 3 rfl (a_c 6 rfl a_n))) ⟨n2, 0, _, rfl, rfl, h, hO⟩ ?_
   rintro _ _ H_39 ⟨n3, i3, Z_40, rfl, rfl, h, hO⟩
   replace h := hI_38 n3 i3 h
   refine hw_seq (hw_seq (hw_region (hl_v (v_move rfl) rfl (hl_v (v_fieldA underlying25 rfl sizeOf23 rfl) rfl (hl_v (v_load1 isAgg23 rfl (Blk.cell (hO.box 0 rfl) rfl)) rfl (hl_v (v_lenL rfl underlying23 rfl (hO.fsl 1 rfl)) rfl (hl_v (v_lss rfl rfl) rfl (hl_v (v_move rfl) rfl (hl_g rfl rfl (fun hg => (v_move rfl)) rfl (hl_g rfl rfl (fun hg => (v_leq (gv_ok rfl hg) rfl)) rfl (hl_v (v_and rfl rfl) rfl (hl_nil (thenQ_n (hw_cond rfl (fun hc_42 => ?_) (fun hc_42 => ?_)))))))))))))))
   ·replace h := ite_t h hc_42
    refine hw_skip (thenQ_n (hw_seq (hw_block (hw_region (hl_v (v_move rfl) rfl (hl_v (v_fieldA underlying25 rfl sizeOf23 rfl) rfl (hl_v (v_load1 isAgg23 rfl (Blk.cell (hO.box 0 rfl) rfl)) rfl (hl_v (v_move rfl) rfl ?_))))))))
    obtain ⟨hs_43, h⟩ := h
    refine hl_v (v_ixL underlying23 sizeOf39 rfl rfl (hO.fsl 1 rfl) hs_43) rfl (hl_v (v_fieldA underlying39 rfl sizeOf9 rfl) rfl (hl_v (v_loadSub (j := 6) isAgg9 rfl (hO.fsl 1 rfl) rfl hs_43 rfl) rfl (hl_v (v_lenS rfl underlying9 rfl) rfl ?_)))
    obtain ⟨hs_44, h⟩ := h
    refine hl_v (v_quo rfl rfl hs_44) rfl ?_
    obtain ⟨hs_45, h⟩ := h
    refine hl_v (v_add rfl rfl hs_45) rfl (hl_v (v_assign rfl) rfl (hl_nil (blockQ_n (thenQ_n (hw_region (hl_v (v_move rfl) rfl ?_))))))
    obtain ⟨hs_46, h⟩ := h
    refine hl_v (v_add rfl rfl hs_46) rfl (hl_v (v_assign rfl) rfl (hl_nil (thenQ_n ?_)))
    exact ⟨_, _, (a_c 1 rfl (a_c 3 rfl (a_c 6 rfl a_n))), ⟨(n3 + ((((t.Arcs.getD i3.toNat default).Out).length : Int) / 40)), (i3 + 1), _, rfl, rfl, h.1, hO⟩, h.2⟩
   ·replace h := ite_f h hc_42
    refine hw_exit (thenQ_e (thenQ_e (blockQ_hit (thenQ_n (hw_seq (hw_region (hl_v (v_move rfl) rfl (hl_v (v_leq rfl rfl) rfl (hl_v (v_move rfl) rfl (hl_g rfl rfl (fun hg => (v_fieldA underlying25 rfl sizeOf3 rfl)) rfl (hl_g rfl rfl (fun hg => (v_load1 isAgg3 (gv_ok rfl hg) (Blk.cell (hO.box 0 rfl) rfl))) rfl (hl_g rfl rfl (fun hg => (v_leq (gv_ok rfl hg) rfl)) rfl (hl_g rfl rfl (fun hg => (v_move (gv_ok rfl hg))) rfl (hl_g rfl rfl (fun hg => (v_fieldA underlying25 rfl sizeOf3 rfl)) rfl (hl_g rfl rfl (fun hg => (v_load1 isAgg3 (gv_ok rfl hg) (Blk.cell (hO.box 0 rfl) rfl))) rfl (hl_g rfl rfl (fun hg => (v_gtr (gv_ok rfl hg) rfl)) rfl (hl_g rfl rfl (fun hg => (v_or (gv_ok rfl hg) (gvgb_ok rfl hg))) rfl (hl_v (v_and rfl rfl) rfl (hl_v (v_assign rfl) rfl (hl_nil (thenQ_n (hw_sub _ (a_c 2 rfl a_n) (hw_ret (ret_i _ (ra_t rfl ra_nil) ?_))))))))))))))))))))))))
    exact ⟨_, (decide (n3 ≤ 60) && (decide (t.States ≤ 20) || decide (1024 < t.States))), (hO.inz 4 rfl), h, rfl, (Own.sel (Ls := [_, _, _, _, _]) (L := L) [] rfl hO)⟩
theorem rFew15_spec {a0 : GFst} {v_1 : Value} {v_3 : Value} {v_5 : Value} {L : List As} (hp : fSane a0) {H : Heap} {Z : Nat → Prop} (hO : Own H Z (L)) (hf_2 : Fz fGTip.rep L v_1 a0.Starts) (hf_4 : Fz fGTip.rep L v_3 a0.Ends) (hf_6 : Fz fGArc.rep L v_5 a0.Arcs) : HC Tryz.prog 10 [.agg [.int .i64 a0.States, v_1, v_3, v_5].toArray] H (fun v H' => ∃ (Z' : Nat → Prop) , (∀ b, Z b → Z' b) ∧ v = .bool (fFew a0) ∧ Own H' Z' (L)) := by
  refine (rFew15_ok (t := a0) (@rFew15_wp a0 hp) hO hf_2 hf_4 hf_6).mono ?_
  rintro v H' ⟨Z', r0, hz, hq, hv, hO'⟩
  obtain rfl := hq
  exact ⟨Z', hz, hv, hO'⟩
end
end Go.Proofs.YtaopgjfioabfpaaGreat
