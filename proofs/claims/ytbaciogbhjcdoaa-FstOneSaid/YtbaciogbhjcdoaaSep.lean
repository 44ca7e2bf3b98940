/- Assertions on a heap, one beside the other. No condition. -/
import Derived.Test.YtbaciogbhjcdoaaOpen
import Derived.Test.YtbaciogbhjcdoaaMap
set_option linter.unusedSimpArgs false
set_option linter.unusedVariables false
namespace Go.Proofs.Ytbaciogbhjcdoaa

/-- what a part of a heap is: the blocks of D are its own, the blocks of Z nobody turns any more -/
structure As where
  r : Heap → (Nat → Prop) → (Nat → Prop) → Prop
  keep : ∀ {H H' : Heap} {Z Z' D : Nat → Prop}, r H Z D → (∀ b, D b ∨ Z b → b < H.size → H'[b]? = H[b]?) → (∀ b, Z b → Z' b) → r H' Z' D

def OwnF (H : Heap) (Z : Nat → Prop) : (Nat → Prop) → List As → Prop
  | _, [] => True
  | F, A :: L => ∃ D, A.r H Z D ∧ (∀ b, D b → F b) ∧ OwnF H Z (fun b => F b ∧ ¬ D b) L

structure Own (H : Heap) (Z : Nat → Prop) (L : List As) : Prop where
  z : ∀ b, Z b → b < H.size
  f : OwnF H Z (fun b => b < H.size ∧ ¬ Z b) L

section
variable {H H' : Heap} {Z Z' F F' : Nat → Prop} {L : List As} {A A' : As}

theorem OwnF.frame : ∀ {L : List As} {F F' : Nat → Prop}, OwnF H Z F L → (∀ b, F b → F' b) → (∀ b, F b ∨ Z b → b < H.size → H'[b]? = H[b]?) → (∀ b, Z b → Z' b) → OwnF H' Z' F' L
  | [], _, _, _, _, _, _ => trivial
  | A :: L, F, F', ⟨D, h1, h2, h3⟩, hF, hb, hz =>
    ⟨D, A.keep h1 (fun b h => hb b (h.imp (h2 b) id)) hz, fun b h => hF b (h2 b h), OwnF.frame h3 (fun b ⟨k1, k2⟩ => ⟨hF b k1, k2⟩) (fun b h => hb b (h.imp (fun q => q.1) id)) hz⟩

theorem OwnF.at : ∀ {L : List As} {F : Nat → Prop} {i : Nat} {A : As}, OwnF H Z F L → L[i]? = some A → ∃ D, A.r H Z D ∧ (∀ b, D b → F b) ∧
    ∀ {H' : Heap} {Z' F' D' : Nat → Prop} {A' : As}, A'.r H' Z' D' → (∀ b, D' b → F' b) → (∀ b, F b → ¬ D b → F' b ∧ ¬ D' b) → (∀ b, (F b ∧ ¬ D b) ∨ Z b → b < H.size → H'[b]? = H[b]?) → (∀ b, Z b → Z' b) → OwnF H' Z' F' (L.set i A')
  | [], _, _, _, _, hi => by simp at hi
  | B :: L, F, 0, A, ⟨D, h1, h2, h3⟩, hi => by
    simp only [List.getElem?_cons_zero, Option.some.injEq] at hi
    subst hi
    refine ⟨D, h1, h2, fun k1 k2 k3 k4 k5 => ⟨_, k1, k2, OwnF.frame h3 (fun b ⟨q1, q2⟩ => k3 b q1 q2) k4 k5⟩⟩
  | B :: L, F, i + 1, A, ⟨DB, h1, h2, h3⟩, hi => by
    simp only [List.getElem?_cons_succ] at hi
    obtain ⟨D, g1, g2, g3⟩ := OwnF.at h3 hi
    refine ⟨D, g1, fun b h => (g2 b h).1, fun {H' Z' F' D' A'} k1 k2 k3 k4 k5 => ?_⟩
    have q : ∀ b, DB b → F b ∧ ¬ D b := fun b h => ⟨h2 b h, fun hd => (g2 b hd).2 h⟩
    refine ⟨DB, B.keep h1 (fun b h => k4 b (h.imp (q b) id)) k5, fun b h => (k3 b (q b h).1 (q b h).2).1, g3 (F' := fun b => F' b ∧ ¬ DB b) k1 ?_ ?_ ?_ k5⟩
    · intro b h
      exact ⟨k2 b h, fun hd => (k3 b (q b hd).1 (q b hd).2).2 h⟩
    · rintro b ⟨f1, f2⟩ f3
      exact ⟨⟨(k3 b f1 f3).1, f2⟩, (k3 b f1 f3).2⟩
    · intro b h
      exact k4 b (h.imp (fun ⟨⟨f1, _⟩, f3⟩ => ⟨f1, f3⟩) id)

theorem Own.get {i : Nat} (h : Own H Z L) (hi : L[i]? = some A) : ∃ D, A.r H Z D ∧ ∀ b, D b → b < H.size ∧ ¬ Z b := by
  obtain ⟨D, h1, h2, _⟩ := h.f.at hi
  exact ⟨D, h1, h2⟩

theorem Own.upd {i : Nat} (h : Own H Z L) (hi : L[i]? = some A) : ∃ D, A.r H Z D ∧ (∀ b, D b → b < H.size ∧ ¬ Z b) ∧
    ∀ {H' : Heap} {A' : As} {D' : Nat → Prop}, A'.r H' Z D' → (∀ b, D' b → D b ∨ (H.size ≤ b ∧ b < H'.size)) → H.size ≤ H'.size → (∀ b, b < H.size → ¬ D b → H'[b]? = H[b]?) → Own H' Z (L.set i A') := by
  obtain ⟨D, h1, h2, h3⟩ := h.f.at hi
  refine ⟨D, h1, h2, fun k1 k2 k3 k4 => ⟨fun b hb => Nat.lt_of_lt_of_le (h.z b hb) k3, h3 (F' := fun b => b < _ ∧ ¬ Z b) k1 ?_ ?_ ?_ fun _ h => h⟩⟩
  · intro b hb
    rcases k2 b hb with q | ⟨q1, q2⟩
    · exact ⟨Nat.lt_of_lt_of_le (h2 b q).1 k3, (h2 b q).2⟩
    · exact ⟨q2, fun hz => absurd (h.z b hz) (by omega)⟩
  · rintro b ⟨f1, f2⟩ f3
    refine ⟨⟨Nat.lt_of_lt_of_le f1 k3, f2⟩, fun hd => ?_⟩
    rcases k2 b hd with q | ⟨q1, _⟩
    · exact f3 q
    · omega
  · intro b hb hl
    rcases hb with ⟨_, q⟩ | q
    · exact k4 b hl q
    · exact k4 b hl fun hd => (h2 b hd).2 q

theorem Own.ext (h : Own H Z L) (hx : Ext [] H H') : Own H' Z L :=
  ⟨fun b hb => Nat.lt_of_lt_of_le (h.z b hb) hx.size, h.f.frame (fun b ⟨k1, k2⟩ => ⟨Nat.lt_of_lt_of_le k1 hx.size, k2⟩) (fun b _ hl => hx.old b hl (by simp)) fun _ h => h⟩

theorem Own.add {D' : Nat → Prop} (h : Own H Z L) (hx : Ext [] H H') (hA : A'.r H' Z D') (hd : ∀ b, D' b → H.size ≤ b ∧ b < H'.size) : Own H' Z (A' :: L) :=
  ⟨fun b hb => Nat.lt_of_lt_of_le (h.z b hb) hx.size, D', hA, fun b hb => ⟨(hd b hb).2, fun hz => absurd (h.z b hz) (by have := (hd b hb).1; omega)⟩,
    h.f.frame (fun b ⟨k1, k2⟩ => ⟨⟨Nat.lt_of_lt_of_le k1 hx.size, k2⟩, fun hb => by have := (hd b hb).1; omega⟩) (fun b _ hl => hx.old b hl (by simp)) fun _ h => h⟩

theorem Own.frz {i : Nat} (h : Own H Z L) (hi : L[i]? = some A) (hA : ∀ D, A.r H Z D → A'.r H (fun b => Z b ∨ D b) (fun _ => False)) : ∃ Z', (∀ b, Z b → Z' b) ∧ Own H Z' (L.set i A') := by
  obtain ⟨D, h1, h2, h3⟩ := h.f.at hi
  refine ⟨fun b => Z b ∨ D b, fun _ h => .inl h, ⟨fun b hb => ?_, ?_⟩⟩
  · rcases hb with hb | hb
    · exact h.z b hb
    · exact (h2 b hb).1
  · exact h3 (F' := fun b => b < H.size ∧ ¬ (Z b ∨ D b)) (hA D h1) (fun b hb => hb.elim) (fun b ⟨f1, f2⟩ f3 => ⟨⟨f1, fun hh => hh.elim f2 f3⟩, fun hh => hh⟩) (fun _ _ _ => rfl) fun _ h => .inl h

/-- nothing -/
def emp : As := ⟨fun _ _ D => ∀ b, ¬ D b, fun h _ _ => h⟩
def sel (Ls : List As) (is : List Nat) : List As := is.map fun i => Ls.getD i emp
theorem OwnF.sel : ∀ (is : List Nat) (Ls : List As) (F : Nat → Prop), is.Nodup → (∀ i ∈ is, i < Ls.length) → OwnF H Z F (Ls ++ L) → OwnF H Z F (sel Ls is ++ L)
  | [], [], F, _, _, h => h
  | [], A :: Ls, F, hn, hb, ⟨D, h1, h2, h3⟩ => by
    have := OwnF.sel [] Ls _ hn (by simp) h3
    exact this.frame (fun b h => h.1) (fun _ _ _ => rfl) fun _ h => h
  | i :: is, Ls, F, hn, hb, h => by
    obtain ⟨hn1, hn2⟩ := List.nodup_cons.1 hn
    have hi : i < Ls.length := hb i (by simp)
    obtain ⟨D, h1, h2, h3⟩ := h.at (i := i) (A := Ls.getD i emp) (by rw [List.getElem?_append_left hi, List.getD, List.getElem?_eq_getElem hi]; rfl)
    have h4 := h3 (H' := H) (Z' := Z) (F' := fun b => F b ∧ ¬ D b) (D' := fun _ => False) (A' := emp) (fun _ h => h) (fun _ h => h.elim) (fun b f1 f2 => ⟨⟨f1, f2⟩, fun h => h⟩) (fun _ _ _ => rfl) fun _ h => h
    rw [List.set_append_left _ _ hi] at h4
    have h5 := OwnF.sel is (Ls.set i emp) _ hn2 (fun j hj => by rw [List.length_set]; exact hb j (by simp [hj])) h4
    refine ⟨D, h1, h2, ?_⟩
    have e : Go.Proofs.Ytbaciogbhjcdoaa.sel (Ls.set i emp) is = Go.Proofs.Ytbaciogbhjcdoaa.sel Ls is := by
      unfold Go.Proofs.Ytbaciogbhjcdoaa.sel
      apply List.map_congr_left
      intro j hj
      have : i ≠ j := by rintro rfl; exact hn1 hj
      simp [List.getD, List.getElem?_set_ne this]
    rw [e] at h5; exact h5
def okSel (n : Nat) (is : List Nat) : Bool := match is with
  | [] => true
  | i :: r => Nat.blt i n && !(r.contains i) && okSel n r
theorem okSel_ok {n : Nat} : ∀ {is : List Nat}, okSel n is = true → is.Nodup ∧ ∀ i ∈ is, i < n
  | [], _ => ⟨List.nodup_nil, by simp⟩
  | i :: r, h => by
    simp only [okSel, Bool.and_eq_true, Bool.not_eq_true'] at h
    obtain ⟨⟨h1, h2⟩, h3⟩ := h
    obtain ⟨k1, k2⟩ := okSel_ok h3
    refine ⟨List.nodup_cons.2 ⟨fun hc => by simp [hc] at h2, k1⟩, fun j hj => ?_⟩
    rcases List.mem_cons.1 hj with rfl | hj
    · exact blt_lt h1
    · exact k2 j hj
theorem Own.sel {Ls : List As} (is : List Nat) (hn : okSel Ls.length is = true) (h : Own H Z (Ls ++ L)) : Own H Z (sel Ls is ++ L) :=
  ⟨h.z, OwnF.sel is Ls _ (okSel_ok hn).1 (okSel_ok hn).2 h.f⟩
theorem Own.tail (h : Own H Z (A :: L)) : Own H Z L := by
  obtain ⟨D, h1, h2, h3⟩ := h.f
  exact ⟨h.z, h3.frame (fun b k => k.1) (fun _ _ _ => rfl) fun _ h => h⟩
theorem Own.tails (Ls : List As) (h : Own H Z (Ls ++ L)) : Own H Z L := Own.sel (Ls := Ls) [] rfl h
/-- one more of what nobody turns -/
theorem Own.dup (h : Own H Z L) (hA : A'.r H Z fun _ => False) : Own H Z (A' :: L) :=
  ⟨h.z, fun _ => False, hA, fun _ hb => hb.elim, h.f.frame (fun b k => ⟨k, fun h => h⟩) (fun _ _ _ => rfl) fun _ h => h⟩

/-! ## what there is -/
variable {b : Nat} {cs cs' : List Value} {T e : TypeId} {v v' : Value}
def box (b : Nat) (cs : List Value) (T : TypeId) : As := ⟨fun H _ D => Blk H b cs T ∧ ∀ x, D x ↔ x = b, fun ⟨h1, h2⟩ hb _ => ⟨(hb b (.inl ((h2 b).2 rfl)) h1.lt).trans h1, h2⟩⟩
def own {α : Type} (g : Flat α) (e : TypeId) (v : Value) (l : List α) : As :=
  ⟨fun H _ D => Ow g H 0 e v l ∧ ∀ x, D x ↔ x ∈ mb v, fun {H H' Z Z' D} ⟨h1, h2⟩ hb _ => by
    refine ⟨?_, h2⟩
    obtain ⟨k1, k2⟩ := h1
    refine ⟨k1, ?_⟩
    rcases k2 with k2 | ⟨k, cap, cur, rfl, h3, h4, h5⟩
    · exact .inl k2
    · exact .inr ⟨k, cap, cur, rfl, h3, (hb k (.inl ((h2 k).2 (by simp [mb]))) (Array.getElem?_eq_some_iff.1 h4).1).trans h4, h5⟩⟩
def fz {α : Type} (r : Rep α) (v : Value) (l : List α) : As := ⟨fun H Z D => Sl r H Z v l ∧ ∀ x, ¬ D x, fun ⟨h1, h2⟩ hb hz => ⟨h1.keep (fun b hZ hl => hb b (.inr hZ) hl) hz, h2⟩⟩
def tbl {K V : Type} (ke : K → Value) (ve : V → Value) (b : Nat) (l : List (K × V)) : As :=
  ⟨fun H _ D => Mp ke ve H b l ∧ ∀ x, D x ↔ x = b, fun ⟨h1, h2⟩ hb _ => by
    obtain ⟨es, clock, k1, k2⟩ := h1
    exact ⟨⟨es, clock, (hb b (.inl ((h2 b).2 rfl)) (Array.getElem?_eq_some_iff.1 k1).1).trans k1, k2⟩, h2⟩⟩
/-- blocks as they were in H0 -/
def was (H0 : Heap) : As := ⟨fun H Z D => (∀ b, b < H0.size → Z b ∧ b < H.size ∧ H[b]? = H0[b]?) ∧ ∀ x, ¬ D x, fun {H H' Z Z' D} ⟨h1, h2⟩ hb hz => ⟨fun b hb0 => by
    obtain ⟨k1, k2, k3⟩ := h1 b hb0
    have e := hb b (.inr k1) k2
    refine ⟨hz b k1, ?_, e.trans k3⟩
    rcases Nat.lt_or_ge b H'.size with q | q
    · exact q
    · exact absurd (e.symm.trans (Array.getElem?_eq_none q)) (by rw [Array.getElem?_eq_getElem k2]; simp), h2⟩⟩

theorem Own.start (H : Heap) : Own H (inH H) [was H] := ⟨fun _ h => h, fun _ => False, ⟨fun b hb => ⟨hb, hb, rfl⟩, fun _ h => h⟩, fun _ h => h.elim, trivial⟩
theorem Own.same {H0 : Heap} {i : Nat} (h : Own H Z L) (hi : L[i]? = some (was H0)) : Ext [] H0 H := by
  obtain ⟨D, ⟨h1, _⟩, _⟩ := h.get hi
  refine ⟨?_, fun b hb _ => (h1 b hb).2.2⟩
  rcases Nat.eq_zero_or_pos H0.size with h0 | h0
  · omega
  · have := (h1 (H0.size - 1) (by omega)).2.1; omega

section
variable {α : Type} {g : Flat α} {r : Rep α} {l l' : List α} {i : Nat}
theorem Own.box (h : Own H Z L) (i : Nat) (hi : L[i]? = some (box b cs T)) : Blk H b cs T := by obtain ⟨D, h1, _⟩ := h.get hi; exact h1.1
theorem Own.ow (h : Own H Z L) (i : Nat) (hi : L[i]? = some (own g e v l)) : Ow g H 0 e v l := by obtain ⟨D, h1, _⟩ := h.get hi; exact h1.1
theorem Own.osl (h : Own H Z L) (i : Nat) (hi : L[i]? = some (own g e v l)) : Sl g.rep H (fun b => b ∈ mb v) v l := (h.ow i hi).sl0
theorem Own.fsl (h : Own H Z L) (i : Nat) (hi : L[i]? = some (fz r v l)) : Sl r H Z v l := by obtain ⟨D, h1, _⟩ := h.get hi; exact h1.1
theorem Own.tbl {K V : Type} {ke : K → Value} {ve : V → Value} {l : List (K × V)} (h : Own H Z L) (i : Nat) (hi : L[i]? = some (tbl ke ve b l)) : Mp ke ve H b l := by obtain ⟨D, h1, _⟩ := h.get hi; exact h1.1

theorem Own.new (h : Own H Z L) (n : New H H' cs T) : Own H' Z (Go.Proofs.Ytbaciogbhjcdoaa.box H.size cs T :: L) :=
  h.add n.ext (D' := fun x => x = H.size) ⟨n.blk, fun _ => Iff.rfl⟩ fun b hb => by subst hb; exact ⟨Nat.le_refl _, by rw [n.size]; omega⟩
theorem Own.made (h : Own H Z L) (ho : Ow g H' H.size e v l) (hx : Ext [] H H') : Own H' Z (own g e v l :: L) :=
  h.add hx (D' := fun x => x ∈ mb v) ⟨ho.base (Nat.zero_le _), fun _ => Iff.rfl⟩ fun b hb => ho.lt b hb
theorem Own.newSl (h : Own H Z L) (n : New H H' (l.flatMap g.enc) e) (hl : l.length ≤ 9223372036854775807) : Own H' Z (own g e (.slice (some ⟨H.size, 0, none⟩) l.length l.length) l :: L) :=
  h.made (Ow.new n rfl (Nat.le_refl _) hl) n.ext
theorem Own.nil (h : Own H Z L) (g : Flat α) (e : TypeId) : Own H Z (own g e (.slice none 0 0) [] :: L) :=
  h.add (.refl _) (D' := fun x => x ∈ mb (.slice none 0 0)) ⟨Ow.nil, fun _ => Iff.rfl⟩ fun b hb => by simp [mb] at hb
theorem Own.put (h : Own H Z L) (hi : L[i]? = some (Go.Proofs.Ytbaciogbhjcdoaa.box b cs T)) (p : Put H H' b cs' T) : Own H' Z (L.set i (Go.Proofs.Ytbaciogbhjcdoaa.box b cs' T)) := by
  obtain ⟨D, ⟨h1, h2⟩, h3, h4⟩ := h.upd hi
  refine h4 (D' := D) ⟨p.blk, h2⟩ (fun b hb => .inl hb) (by rw [p.size]; exact Nat.le_refl _) fun x hx hd => p.ext.old x hx ?_
  intro hm; simp only [List.mem_cons, List.not_mem_nil, or_false] at hm; exact hd ((h2 x).2 hm)
theorem Own.grow (h : Own H Z L) (hi : L[i]? = some (own g e v l)) (ho : Ow g H' 0 e v' l') (hx : Ext (mb v) H H') (hb : ∀ b, b ∈ mb v' → b ∈ mb v ∨ H.size ≤ b) : Own H' Z (L.set i (own g e v' l')) := by
  obtain ⟨D, ⟨h1, h2⟩, h3, h4⟩ := h.upd hi
  refine h4 (D' := fun x => x ∈ mb v') ⟨ho, fun _ => Iff.rfl⟩ (fun b k => ?_) hx.size fun x hl hd => hx.old x hl fun hm => hd ((h2 x).2 hm)
  rcases hb b k with q | q
  · exact .inl ((h2 b).2 q)
  · exact .inr ⟨q, (ho.lt b k).2⟩
theorem Own.pat {B : Nat} (h : Own H Z L) (hi : L[i]? = some (own g e v l)) (p : Pat g H H' B e v l') : Own H' Z (L.set i (own g e v l')) :=
  h.grow hi (p.ow.base (Nat.zero_le _)) p.ext fun _ k => .inl k
theorem Own.putM {K V : Type} {ke : K → Value} {ve : V → Value} {l l' : List (K × V)} (h : Own H Z L) (hi : L[i]? = some (Go.Proofs.Ytbaciogbhjcdoaa.tbl ke ve b l)) (p : PutM ke ve H H' b l') : Own H' Z (L.set i (Go.Proofs.Ytbaciogbhjcdoaa.tbl ke ve b l')) := by
  obtain ⟨D, ⟨h1, h2⟩, h3, h4⟩ := h.upd hi
  refine h4 (D' := D) ⟨p.mp, h2⟩ (fun b hb => .inl hb) (by rw [p.size]; exact Nat.le_refl _) fun x hx hd => p.ext.old x hx ?_
  intro hm; simp only [List.mem_cons, List.not_mem_nil, or_false] at hm; exact hd ((h2 x).2 hm)
theorem Own.newM {K V : Type} {ke : K → Value} {ve : V → Value} {l : List (K × V)} (h : Own H Z L) (hx : Ext [] H H') (hs : H'.size = H.size + 1) (hm : Mp ke ve H' H.size l) : Own H' Z (Go.Proofs.Ytbaciogbhjcdoaa.tbl ke ve H.size l :: L) :=
  h.add hx (D' := fun x => x = H.size) ⟨hm, fun _ => Iff.rfl⟩ fun b hb => by subst hb; exact ⟨Nat.le_refl _, by omega⟩
theorem Own.freeze (h : Own H Z L) (hi : L[i]? = some (own g e v l)) : ∃ Z', (∀ b, Z b → Z' b) ∧ Own H Z' (L.set i (fz g.rep v l)) :=
  h.frz hi fun D ⟨h1, h2⟩ => ⟨h1.sl fun b hb => .inr ((h2 b).2 hb), fun _ h => h⟩
theorem Own.congr (h : Own H Z L) {L' : List As} (e : L = L') : Own H Z L' := e ▸ h
end
end

/-! ## loops and cuts over relations of frames -/
section
variable {P : Program} {r : Option Nat} {N : Sz} {Q : Post} {f : Frm} {H : Heap}
theorem hw_lp {c : Code} (Inv : Nat → Frm → Heap → Prop) (n0 : Nat) (g0 : Frm) (hf : AllIn f g0) (h0 : Inv n0 g0 H)
    (round : ∀ n g H, Inv n g H → HW P r N c (thenQ (fun f' H' => ∃ m g', AllIn f' g' ∧ Inv m g' H' ∧ m < n) Q) g H) : HW P r N (.loop c) Q f H := by
  refine hw_loop (α := Nat × Frm) [] (fun x => x.2) (fun x H => Inv x.1 x.2 H) (fun x => x.1) (n0, g0) (by rw [List.append_nil]; exact hf) h0 ?_
  intro x H hI
  rw [List.append_nil]
  refine hw_mono (round x.1 x.2 H hI) fun e f' H' hq => ?_
  cases e with
  | normal =>
    obtain ⟨m, g', h1, h2, h3⟩ := hq
    exact ⟨(m, g'), by rw [List.append_nil]; exact h1, h2, h3⟩
  | exit id => exact hq
  | goto l => exact hq
  | ret => exact hq
  | panic c => exact hq
  | outgrown => exact hq
theorem hw_jn {x y : Code} (Inv : Frm → Heap → Prop) (h : HW P r N x (thenQ (fun f' H' => ∃ g, AllIn f' g ∧ Inv g H') Q) f H) (k : ∀ g H', Inv g H' → HW P r N y Q g H') : HW P r N (.seq x y) Q f H :=
  hw_seq (hw_mono h fun e f' H' hq => by
    cases e with
    | normal => obtain ⟨z, h1, h2⟩ := hq; exact hw_sub _ h1 (k z H' h2)
    | exit id => exact hq
    | goto l => exact hq
    | ret => exact hq
    | panic c => exact hq
    | outgrown => exact hq)
end
end Go.Proofs.Ytbaciogbhjcdoaa
