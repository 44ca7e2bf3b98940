/- The library's sort over assertions on a heap. No condition. -/
import Derived.Test.YtbaciogbhjcdoaaTer
import Derived.Test.YtbaciogbhjcdoaaSrt
import Derived.Shelf.SlSortCmp.NoneTotal
import Derived.Lib.Bytealg
set_option linter.unusedSimpArgs false
set_option linter.unusedVariables false
namespace Go.Proofs.Ytbaciogbhjcdoaa
open Go.Sort Go.Shelf
theorem TotC.swo {α : Type} {cf : α → α → Int} (h : TotC cf) : SWO (ltOf cf) where
  irrefl x := by simpa [ltOf] using h.irrefl x
  trans x y z h1 h2 := by
    simp only [ltOf, decide_eq_true_eq] at *
    exact h.trans x y z h1 h2
  ntrans x y z h1 h2 := by
    simp only [ltOf, decide_eq_false_iff_not] at *
    exact h.ntrans x y z h1 h2
theorem TotC.tot {α : Type} {cf : α → α → Int} (h : TotC cf) : ∀ x y, (ltOf cf) x y = false → (ltOf cf) y x = false → x = y := fun x y h1 h2 => by
  simp only [ltOf, decide_eq_false_iff_not] at *
  exact h.eq x y h1 h2
section
variable {α : Type} [Inhabited α]
theorem putCells_take (enc : α → Value) (d : Array α) (cur : Array Value) (h : d.size ≤ cur.size) : (putCells enc 0 d cur).toList.take d.size = d.toList.map enc := by
  apply List.ext_getElem
  · simp [putCells]; omega
  · intro i h1 h2
    have hi : i < d.size := by simpa using h2
    simp only [putCells, List.getElem_take, Array.getElem_toList, Array.getElem_mapIdx, List.getElem_map, Nat.zero_add, Nat.zero_le, true_and, Nat.sub_zero]
    rw [if_pos hi, getElem!_pos d i hi]
theorem put_blk (enc : α → Value) {w : World} {b m : Nat} {cur : Array Value} {e : TypeId} {fr : Nat × Nat} (d : Array α) (os : Array Obj) (h : w.heap[b]? = some (.cells cur e fr)) :
    (grow (putRow enc (Go.Sort.ahead w m) b 0 d) os).heap[b]? = some (.cells (putCells enc 0 d cur) e fr) := by
  have hl := (Array.getElem?_eq_some_iff.1 h).1
  show ((w.heap.modify b (onCells (putCells enc 0 d))) ++ os)[b]? = _
  rw [Array.getElem?_append_left (by simpa using hl), Array.getElem?_modify, if_pos rfl, h]
  rfl
theorem put_old (enc : α → Value) {w : World} {b m x : Nat} (d : Array α) (os : Array Obj) (h : x ≠ b) (hl : x < w.heap.size) :
    (grow (putRow enc (Go.Sort.ahead w m) b 0 d) os).heap[x]? = w.heap[x]? := by
  show ((w.heap.modify b (onCells (putCells enc 0 d))) ++ os)[x]? = _
  rw [Array.getElem?_append_left (by simpa using hl), Array.getElem?_modify, if_neg (fun e => h e.symm)]
theorem put_size (enc : α → Value) {w : World} {b m : Nat} (d : Array α) (os : Array Obj) : w.heap.size ≤ (grow (putRow enc (Go.Sort.ahead w m) b 0 d) os).heap.size := by
  show _ ≤ ((w.heap.modify b (onCells (putCells enc 0 d))) ++ os).size
  simp
theorem flatK_eq (g : Flat α) (l : List α) : flatK g.enc g.sz l.toArray = (l.flatMap g.enc).toArray := by
  apply Array.ext_getElem?
  intro i
  by_cases hi : i < l.length * g.sz
  · have hk : 0 < g.sz := Nat.pos_of_ne_zero fun h => by rw [h] at hi; simp at hi
    have h1 : i / g.sz < l.length := by
      rw [Nat.div_lt_iff_lt_mul hk]; exact hi
    have h2 := Nat.mod_lt i hk
    have h3 : i / g.sz * g.sz + i % g.sz = i := Nat.div_add_mod' i g.sz
    have h4 := flat_get g l (i / g.sz) (i % g.sz) h1 h2
    rw [h3] at h4
    have h5 : (l.flatMap g.enc).toArray[i]? = (l.flatMap g.enc)[i]? := by simp
    rw [h5, h4]
    simp only [flatK, Array.getElem?_map, List.size_toArray]
    rw [Array.getElem?_range, if_pos hi]
    simp only [Option.map_some]
    rw [show l.toArray[i / g.sz]! = l[i / g.sz] by simp [h1]]
    rw [List.getElem?_eq_getElem (by rw [g.len]; exact h2), getElem!_pos _ _ (by rw [g.len]; exact h2)]
  · rw [Array.getElem?_eq_none (by simp; omega), Array.getElem?_eq_none (by simp only [List.size_toArray, flat_len]; omega)]
/-- the row's cells hold the slice's data -/
theorem ow_holds {g : Flat α} {w : World} {e : TypeId} {b n cap : Nat} {l : List α} (h : Ow g w.heap 0 e (.slice (some ⟨b, 0, none⟩) n cap) l) : HoldsK g.enc g.sz w b 0 l.toArray ∧ b < w.heap.size ∧ n = l.length ∧ ∃ cur, w.heap[b]? = some (.cells cur e (0, 0)) ∧ l.length ≤ cap ∧ cap ≤ maxLen ∧ cur.size = cap * g.sz ∧ cur.toList.take (l.length * g.sz) = l.flatMap g.enc := by
  obtain ⟨h1, h2⟩ := h
  rcases h2 with ⟨h2, _⟩ | ⟨k, cap', cur, h2, h3, h4, h5, h6, h7, h8⟩
  · cases h2
  · cases h2
    refine ⟨?_, (Array.getElem?_eq_some_iff.1 h4).1, rfl, cur, h4, h5, h6, h7, h8⟩
    unfold HoldsK Holds
    rw [flatK_eq]
    intro j hj
    have hj' : j < l.length * g.sz := by rw [List.size_toArray, flat_len] at hj; exact hj
    constructor
    · rw [cell?_eq]
      simp only [cellH, h4, Nat.zero_add]
      have : cur[j]? = (cur.toList.take (l.length * g.sz))[j]? := by rw [List.getElem?_take_of_lt hj']; simp
      rw [this, h8, getElem!_pos (l.flatMap g.enc).toArray j hj]
      rw [List.getElem?_eq_getElem (by rw [List.size_toArray] at hj; exact hj)]
      simp
    · simp [World.frozen?, h4]
theorem own_sorted {g : Flat α} {w w' : World} {Z : Nat → Prop} {L : List As} {e : TypeId} {b n cap m : Nat} {l l' : List α} {os : Array Obj} (hO : Own w.heap Z (own g e (.slice (some ⟨b, 0, none⟩) n cap) l :: L)) (hl : l'.length = l.length)
    (hw : w' = grow (putRow id (Go.Sort.ahead w m) b 0 (flatK g.enc g.sz l'.toArray)) os) : Env w w' ∧ Own w'.heap Z (own g e (.slice (some ⟨b, 0, none⟩) n cap) l' :: L) := by
  obtain ⟨-, hb, rfl, cur, h4, h5, h6, h7, h8⟩ := ow_holds (hO.ow 0 rfl)
  have h9 := put_blk (m := m) id (flatK g.enc g.sz l'.toArray) os h4
  have hold := fun x => put_old (m := m) (x := x) (b := b) id (w := w) (flatK g.enc g.sz l'.toArray) os
  have hsz := put_size (m := m) (b := b) id (w := w) (flatK g.enc g.sz l'.toArray) os
  rw [← hw] at h9 hold hsz
  refine ⟨⟨by rw [hw]; rfl, by rw [hw]; rfl, by rw [hw]; rfl, fun D o hd ho => ?_, by rw [hw]; exact Nat.le_add_right _ _⟩, ?_⟩
  · have hne : D ≠ b := by rintro rfl; rw [h4] at hd; cases hd; exact ho.elim
    exact (hold D hne (Array.getElem?_eq_some_iff.1 hd).1).trans hd
  · refine hO.grow (i := 0) rfl ?_ ⟨hsz, fun x hx hm => hold x (fun e => hm (by simp [mb, e])) hx⟩ fun _ h => .inl h
    refine ⟨flat_len g _, .inr ⟨b, cap, _, by rw [hl], Nat.zero_le _, h9, by omega, h6, by simp [putCells, h7], ?_⟩⟩
    have hle : (flatK g.enc g.sz l'.toArray).size ≤ cur.size := by
      simp only [size_flatK, List.size_toArray, hl, h7]; exact Nat.mul_le_mul_right _ h5
    have := putCells_take id (flatK g.enc g.sz l'.toArray) cur hle
    rw [flatK_eq] at this ⊢
    simp only [List.size_toArray, flat_len, List.map_id] at this
    exact this
end
/-- a comparison that keeps all: as the library's sort asks it -/
theorem lays_of {P : Program} {gid : Nat} {cb args : List Value} {n : Int}
    (hp : ∀ (Ls : List As) {H : Heap} {Z : Nat → Prop}, Own H Z Ls → HC P gid ([] ++ args ++ cb) H (fun v H' => ∃ Z' : Nat → Prop, (∀ b, Z b → Z' b) ∧ v = .int .i64 n ∧ Own H' Z' Ls)) (W : World) :
    Calls P gid (args.toArray ++ cb.toArray) W fun e w' => e = .returned (.int .i64 n) ∧ ∃ q os, w' = grow (W.drewN q) os := by
  have h := hp [was W.heap] (Own.start W.heap) W rfl
  rw [show (([] : List Value) ++ args ++ cb).toArray = args.toArray ++ cb.toArray by simp] at h
  refine h.mono ?_
  rintro e w' ⟨v, rfl, henv, Z', _, rfl, hO⟩
  have hx : Ext [] W.heap w'.heap := hO.same (i := 0) rfl
  refine ⟨rfl, w'.drawn - W.drawn, w'.heap.extract W.heap.size w'.heap.size, ?_⟩
  have e1 : w'.heap = W.heap ++ w'.heap.extract W.heap.size w'.heap.size := by
    apply Array.ext_getElem?
    intro i
    rw [Array.getElem?_append]
    split
    · rename_i hi; exact hx.old i hi (by simp)
    · rename_i hi
      have := hx.size
      rw [Array.getElem?_extract]
      split
      · rename_i h2; congr 1; omega
      · rename_i h2; rw [Array.getElem?_eq_none (by omega)]
  obtain ⟨a1, a2, a3, _, a5⟩ := henv
  cases w' with
  | mk hp tp dr o ou =>
    simp only [grow, World.drewN] at *
    subst a1 a2 a3
    congr 1
    omega
section
variable {P : Program} {ρ : Ren} {α : Type} [Inhabited α] {g : Flat α} {e : TypeId} {v : Value} {l : List α} {cf : α → α → Int} {gid : Nat} {cb : List Value} {H : Heap} {Z : Nat → Prop} {L : List As}
omit [Inhabited α] in
theorem srt_len (cf : α → α → Int) (l : List α) : (srtL cf l).length = l.length := List.length_mergeSort _
omit [Inhabited α] in
theorem hc_sortN (lay : SlLaysF0.n6 P ρ) (fv : Value) (hO : Own H Z (own g e (.slice none 0 0) l :: L)) :
    HC P (ρ.f 6) [.slice none 0 0, fv] H (fun r H' => ∃ Z' : Nat → Prop, (∀ b, Z b → Z' b) ∧ r = .tuple #[] ∧ Own H' Z' (own g e (.slice none 0 0) (srtL cf l) :: L)) := by
  intro w hw
  subst hw
  have hl : l = [] := by
    obtain ⟨-, h2⟩ := hO.ow 0 rfl
    rcases h2 with ⟨-, h2⟩ | ⟨k, cap', cur, h2, _⟩
    · exact List.eq_nil_of_length_eq_zero h2
    · cases h2
  refine (AnyF.slices_SortFunc_none lay none 0 fv w).mono ?_
  rintro e w' ⟨rfl, rfl⟩
  refine ⟨_, rfl, .refl _, Z, fun _ h => h, rfl, ?_⟩
  subst hl
  rw [show srtL cf ([] : List α) = [] by simp [srtL]]
  exact hO
theorem hc_sortK (lay : SlLaysF0.n6 P ρ) (aE : ∀ w, (isAgg (ρ.t 24)).run P w = .ok true w) (zE : ∀ w, (Go.sizeOf (ρ.t 24)).run P w = .ok g.sz w) (hC : TotC cf ∧ l.length < 4611686018427387904)
    (hO : Own H Z (own g e v l :: L)) (eg : ∀ args w, (callFunc gid args).run P w = .ok (.enter gid args) w)
    (hp : ∀ (Ls : List As) (x y : α) {H : Heap} {Z : Nat → Prop}, Own H Z Ls → HC P gid ([] ++ [.agg (g.enc x).toArray, .agg (g.enc y).toArray] ++ cb) H (fun v H' => ∃ Z' : Nat → Prop, (∀ b, Z b → Z' b) ∧ v = .int .i64 (cf x y) ∧ Own H' Z' Ls)) :
    HC P (ρ.f 6) [v, .func (.func gid) #[] cb.toArray] H (fun r H' => ∃ Z' : Nat → Prop, (∀ b, Z b → Z' b) ∧ r = .tuple #[] ∧ Own H' Z' (own g e v (srtL cf l) :: L)) := by
  have h0 := hO.ow 0 rfl
  rcases h0.2 with ⟨rfl, _⟩ | ⟨b, cap, cur, rfl, _⟩
  · exact hc_sortN lay _ hO
  · intro w hw
    subst hw
    obtain ⟨hH, hb, -, -⟩ := ow_holds h0
    have hh := AnyQ.slices_SortFunc_total lay g.sz aE zE g.enc g.len g.one cf hC.1.swo gid cb.toArray b 0 cap l.toArray w eg (fun m os dk _ x y => lays_of (fun Ls {H Z} hO => hp Ls x y hO) _) hH hb (by simpa using hC.2) hC.1.tot
    rw [List.size_toArray] at hh
    refine Calls.mono hh ?_
    rintro e1 w' ⟨rfl, n, os, hw⟩
    obtain ⟨k1, k2⟩ := own_sorted (l' := srtL cf l) hO (srt_len cf l) hw
    exact ⟨_, rfl, k1, Z, fun _ h => h, rfl, k2⟩
theorem hc_sort1 {enc : α → Value} (hg : ∀ x, g.enc x = [enc x]) (lay : SlLaysF.n6 P ρ) (hC : TotC cf ∧ l.length < 4611686018427387904)
    (hO : Own H Z (own g e v l :: L)) (eg : ∀ args w, (callFunc gid args).run P w = .ok (.enter gid args) w)
    (hp : ∀ (Ls : List As) (x y : α) {H : Heap} {Z : Nat → Prop}, Own H Z Ls → HC P gid ([] ++ [enc x, enc y] ++ cb) H (fun v H' => ∃ Z' : Nat → Prop, (∀ b, Z b → Z' b) ∧ v = .int .i64 (cf x y) ∧ Own H' Z' Ls)) :
    HC P (ρ.f 6) [v, .func (.func gid) #[] cb.toArray] H (fun r H' => ∃ Z' : Nat → Prop, (∀ b, Z b → Z' b) ∧ r = .tuple #[] ∧ Own H' Z' (own g e v (srtL cf l) :: L)) := by
  have h0 := hO.ow 0 rfl
  have hsz : ∀ x : α, g.sz = 1 := fun x => by rw [← g.len x, hg]; rfl
  have hfl : ∀ l : List α, flatK g.enc g.sz l.toArray = (l.map enc).toArray := fun l => by
    rw [flatK_eq, List.flatMap_def]
    congr 1
    rw [show List.map g.enc l = l.map (fun x => [enc x]) from List.map_congr_left fun x _ => hg x]
    induction l with
    | nil => rfl
    | cons a l ih => simp [ih]
  rcases h0.2 with ⟨rfl, _⟩ | ⟨b, cap, cur, rfl, _⟩
  · exact hc_sortN { lay with } _ hO
  · intro w hw
    subst hw
    obtain ⟨hH, hb, -, -⟩ := ow_holds h0
    have hH1 : Holds enc w b 0 l.toArray := by
      unfold HoldsK Holds at hH
      rw [hfl] at hH
      intro j hj
      have hj' : j < l.length := by simpa using hj
      have := hH j (by simpa using hj)
      rw [getElem!_pos (l.map enc).toArray j (by simpa using hj)] at this
      rw [getElem!_pos l.toArray j hj]
      simpa using this
    have hh := Any.slices_SortFunc_total lay enc (fun x => g.one x (enc x) (by rw [hg]; simp)) cf hC.1.swo gid cb.toArray b 0 cap l.toArray w eg (fun m os dk _ x y => lays_of (fun Ls {H Z} hO => hp Ls x y hO) _) hH1 hb (by simpa using hC.2) hC.1.tot
    rw [List.size_toArray] at hh
    refine Calls.mono hh ?_
    rintro e1 w' ⟨rfl, n, os, hw⟩
    have hpc : putCells id 0 (flatK g.enc g.sz (srtL cf l).toArray) = putCells enc 0 (srtL cf l).toArray := by
      funext c
      rw [hfl]
      unfold putCells
      simp only [List.size_toArray, List.length_map]
      apply Array.ext
      · simp
      · intro i h1 h2
        simp only [Array.getElem_mapIdx, Nat.zero_le, true_and, Nat.zero_add, Nat.sub_zero]
        split
        · rename_i hi
          rw [getElem!_pos (List.map enc (srtL cf l)).toArray i (by simpa using hi), getElem!_pos (srtL cf l).toArray i (by simpa using hi)]
          simp
        · rfl
    obtain ⟨k1, k2⟩ := own_sorted (w' := w') (l' := srtL cf l) (m := n) (os := os) hO (srt_len cf l) (by
      rw [hw]
      unfold sortWorld putRow
      rw [hpc]
      rfl)
    exact ⟨_, rfl, k1, Z, fun _ h => h, rfl, k2⟩
end
theorem compareBytes_eq : ∀ (a b : List UInt8), Lib.compareBytes a b = cmpS a b
  | [], [] => rfl
  | [], _ :: _ => rfl
  | _ :: _, [] => rfl
  | a :: l, b :: m => by
    simp only [Lib.compareBytes, cmpS, cmpL, orZ, cmpB]
    have ih : Lib.compareBytes l m = cmpL cmpB l m := compareBytes_eq l m
    by_cases h1 : a < b
    · simp [h1]
    · by_cases h2 : b < a <;> simp [h1, h2, ih]
end Go.Proofs.Ytbaciogbhjcdoaa
