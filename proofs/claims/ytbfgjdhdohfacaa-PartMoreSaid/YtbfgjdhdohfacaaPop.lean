/- Counting the bits of a word by halves, and sizes of sets. No condition. -/
import Derived.Test.YtbfgjdhdohfacaaPlain01
set_option linter.unusedSimpArgs false
set_option linter.unusedVariables false
namespace Go.Proofs.Ytbfgjdhdohfacaa

/-- how many of the first n -/
def cntB (p : Nat → Bool) (n : Nat) : Nat := ((List.range n).filter p).length
theorem cntB_succ (p : Nat → Bool) (n : Nat) : cntB p (n + 1) = cntB p n + if p n then 1 else 0 := by
  unfold cntB; rw [List.range_succ, List.filter_append, List.length_append]
  congr 1; simp only [List.filter_cons, List.filter_nil]; split <;> rfl
theorem cntB_add (p : Nat → Bool) (m : Nat) : ∀ n, cntB p (m + n) = cntB p m + cntB (fun i => p (m + i)) n
  | 0 => by simp [cntB]
  | n + 1 => by rw [← Nat.add_assoc, cntB_succ, cntB_add p m n, cntB_succ, Nat.add_assoc]
theorem cntB_congr {p q : Nat → Bool} : ∀ {n : Nat}, (∀ i, i < n → p i = q i) → cntB p n = cntB q n
  | 0, _ => rfl
  | n + 1, h => by rw [cntB_succ, cntB_succ, cntB_congr fun i hi => h i (by omega), h n (by omega)]
theorem cntB_le (p : Nat → Bool) (n : Nat) : cntB p n ≤ n := by
  have := List.length_filter_le p (List.range n); simpa [cntB] using this

/-- a word's bits -/
def popc (x : BitVec 64) : Nat := cntB (fun i => x.getLsbD i) 64
def pop8 (b : Nat) : Nat := cntB (fun i => b.testBit i) 8

def toN : List Nat → Nat
  | [] => 0
  | b :: l => b + 256 * toN l
theorem and_split {a b c d : Nat} (hb : b < 256) (hd : d < 256) : (b + 256 * a) &&& (d + 256 * c) = (b &&& d) + 256 * (a &&& c) := by
  have h1 : ((b + 256 * a) &&& (d + 256 * c)) % 2 ^ 8 = (b &&& d) := by
    rw [Nat.and_mod_two_pow]
    rw [show (b + 256 * a) % 2 ^ 8 = b by omega, show (d + 256 * c) % 2 ^ 8 = d by omega]
  have h2 : ((b + 256 * a) &&& (d + 256 * c)) / 2 ^ 8 = (a &&& c) := by
    rw [Nat.and_div_two_pow]
    rw [show (b + 256 * a) / 2 ^ 8 = a by omega, show (d + 256 * c) / 2 ^ 8 = c by omega]
  have := Nat.div_add_mod ((b + 256 * a) &&& (d + 256 * c)) (2 ^ 8)
  omega

def g1 (b : Nat) : Nat := ((b / 2) &&& 85) + (b &&& 85)
def g2 (b : Nat) : Nat := ((b / 4) &&& 51) + (b &&& 51)
def g3 (b : Nat) : Nat := (b / 16 + b) % 16
theorem low1 : ∀ q < 2, ∀ b < 256, (128 * q + b / 2) &&& 85 = (b / 2) &&& 85 := by decide +kernel
theorem low2 : ∀ q < 4, ∀ b < 256, (64 * q + b / 4) &&& 51 = (b / 4) &&& 51 := by decide +kernel
theorem low3 : ∀ q < 5, ∀ b < 256, b % 16 ≤ 4 → b / 16 ≤ 4 → (16 * q + b / 16 + b) &&& 15 = g3 b ∧ 16 * q + b / 16 + b < 256 := by decide +kernel
theorem pops : ∀ b < 256, g1 b < 256 ∧ g2 (g1 b) < 256 ∧ g2 (g1 b) % 16 ≤ 4 ∧ g2 (g1 b) / 16 ≤ 4 ∧ g3 (g2 (g1 b)) = pop8 b := by decide +kernel
theorem pop8_le (b : Nat) : pop8 b ≤ 8 := cntB_le _ _

theorem step1 : ∀ (l : List Nat), (∀ b ∈ l, b < 256) → ((toN l / 2) &&& toN (l.map fun _ => 85)) + (toN l &&& toN (l.map fun _ => 85)) = toN (l.map g1)
  | [], _ => rfl
  | b :: l, h => by
    have hb : b < 256 := h b (by simp)
    have ih := step1 l fun c hc => h c (by simp [hc])
    simp only [List.map_cons, toN]
    rw [show (b + 256 * toN l) / 2 = (128 * (toN l % 2) + b / 2) + 256 * (toN l / 2) by omega, and_split (by omega) (by decide), and_split hb (by decide), low1 _ (Nat.mod_lt _ (by decide)) _ hb]
    unfold g1; unfold g1 at ih
    omega
theorem step2 : ∀ (l : List Nat), (∀ b ∈ l, b < 256) → ((toN l / 4) &&& toN (l.map fun _ => 51)) + (toN l &&& toN (l.map fun _ => 51)) = toN (l.map g2)
  | [], _ => rfl
  | b :: l, h => by
    have hb : b < 256 := h b (by simp)
    have ih := step2 l fun c hc => h c (by simp [hc])
    simp only [List.map_cons, toN]
    rw [show (b + 256 * toN l) / 4 = (64 * (toN l % 4) + b / 4) + 256 * (toN l / 4) by omega, and_split (by omega) (by decide), and_split hb (by decide), low2 _ (Nat.mod_lt _ (by decide)) _ hb]
    unfold g2; unfold g2 at ih
    omega
theorem step3 : ∀ (l : List Nat), (∀ b ∈ l, b < 256 ∧ b % 16 ≤ 4 ∧ b / 16 ≤ 4) → (toN l / 16 + toN l) &&& toN (l.map fun _ => 15) = toN (l.map g3) ∧ toN l % 16 ≤ 4
  | [], _ => ⟨rfl, by decide⟩
  | b :: l, h => by
    obtain ⟨hb, hb1, hb2⟩ := h b (by simp)
    obtain ⟨ih, iq⟩ := step3 l fun c hc => h c (by simp [hc])
    simp only [List.map_cons, toN]
    obtain ⟨e1, e2⟩ := low3 (toN l % 16) (by omega) b hb hb1 hb2
    rw [show (b + 256 * toN l) / 16 + (b + 256 * toN l) = (16 * (toN l % 16) + b / 16 + b) + 256 * (toN l / 16 + toN l) by omega, and_split e2 (by decide), e1, ih]
    exact ⟨rfl, by omega⟩

def dig (X : Nat) (j : Nat) : Nat := X / 2 ^ (8 * j) % 256
def digs (X : Nat) : List Nat := [dig X 0, dig X 1, dig X 2, dig X 3, dig X 4, dig X 5, dig X 6, dig X 7]
theorem toN_digs {X : Nat} (h : X < 2 ^ 64) : toN (digs X) = X := by
  simp only [digs, toN, dig]; omega
theorem digs_lt (X : Nat) : ∀ b ∈ digs X, b < 256 := by
  intro b hb
  simp only [digs, List.mem_cons, List.not_mem_nil, or_false] at hb
  rcases hb with rfl | rfl | rfl | rfl | rfl | rfl | rfl | rfl <;> exact Nat.mod_lt _ (by decide)
theorem cnt64 (p : Nat → Bool) : cntB p 64 = cntB (fun i => p (8 * 0 + i)) 8 + cntB (fun i => p (8 * 1 + i)) 8 + cntB (fun i => p (8 * 2 + i)) 8 + cntB (fun i => p (8 * 3 + i)) 8 + cntB (fun i => p (8 * 4 + i)) 8 + cntB (fun i => p (8 * 5 + i)) 8 + cntB (fun i => p (8 * 6 + i)) 8 + cntB (fun i => p (8 * 7 + i)) 8 := by
  rw [show (64 : Nat) = 56 + 8 from rfl, cntB_add, show (56 : Nat) = 48 + 8 from rfl, cntB_add, show (48 : Nat) = 40 + 8 from rfl, cntB_add, show (40 : Nat) = 32 + 8 from rfl, cntB_add, show (32 : Nat) = 24 + 8 from rfl, cntB_add, show (24 : Nat) = 16 + 8 from rfl, cntB_add, show (16 : Nat) = 8 + 8 from rfl, cntB_add]
  simp only [Nat.mul_zero, Nat.zero_add, Nat.mul_one, Nat.reduceMul, Nat.reduceAdd]
theorem popc_digs (x : BitVec 64) : popc x = pop8 (dig x.toNat 0) + pop8 (dig x.toNat 1) + pop8 (dig x.toNat 2) + pop8 (dig x.toNat 3) + pop8 (dig x.toNat 4) + pop8 (dig x.toNat 5) + pop8 (dig x.toNat 6) + pop8 (dig x.toNat 7) := by
  have key : ∀ j, cntB (fun i => x.getLsbD (8 * j + i)) 8 = pop8 (dig x.toNat j) := by
    intro j
    apply cntB_congr
    intro i hi
    unfold dig
    rw [← BitVec.testBit_toNat, show 256 = 2 ^ 8 from rfl, Nat.testBit_mod_two_pow, Nat.testBit_div_two_pow, Nat.add_comm i]
    simp [hi]
  unfold popc
  rw [cnt64]
  simp only [key]

/-- the code's steps -/
def pc1 (x : BitVec 64) : BitVec 64 := ((x >>> 1) &&& 6148914691236517205#64) + (x &&& 6148914691236517205#64)
def pc2 (x : BitVec 64) : BitVec 64 := ((x >>> 2) &&& 3689348814741910323#64) + (x &&& 3689348814741910323#64)
def pc3 (x : BitVec 64) : BitVec 64 := ((x >>> 4) + x) &&& 1085102592571150095#64
def pc4 (x : BitVec 64) : BitVec 64 := x + (x >>> 8)
def pc5 (x : BitVec 64) : BitVec 64 := x + (x >>> 16)
def pc6 (x : BitVec 64) : BitVec 64 := x + (x >>> 32)
theorem toN_lt : ∀ (l : List Nat), (∀ b ∈ l, b < 256) → toN l < 256 ^ l.length
  | [], _ => by simp [toN]
  | b :: l, h => by
    have h1 := h b (by simp)
    have h2 := toN_lt l fun c hc => h c (by simp [hc])
    rw [List.length_cons, Nat.pow_succ]
    simp only [toN]; omega
theorem toN_le (M : Nat) : ∀ (l : List Nat), (∀ b ∈ l, b ≤ M) → 255 * toN l + M ≤ M * 256 ^ l.length
  | [], _ => by simp [toN]
  | b :: l, h => by
    have h1 := h b (by simp)
    have h2 := toN_le M l fun c hc => h c (by simp [hc])
    rw [List.length_cons, Nat.pow_succ, ← Nat.mul_assoc]
    simp only [toN]; omega
theorem all8 {p : Nat → Prop} {a b c d e f g h : Nat} (ha : p a) (hb : p b) (hc : p c) (hd : p d) (he : p e) (hf : p f) (hg : p g) (hh : p h) : ∀ x ∈ [a, b, c, d, e, f, g, h], p x := by
  intro x hx
  simp only [List.mem_cons, List.not_mem_nil, or_false] at hx
  rcases hx with rfl | rfl | rfl | rfl | rfl | rfl | rfl | rfl <;> assumption
theorem toN8_lt {a b c d e f g h : Nat} (ha : a < 256) (hb : b < 256) (hc : c < 256) (hd : d < 256) (he : e < 256) (hf : f < 256) (hg : g < 256) (hh : h < 256) : toN [a, b, c, d, e, f, g, h] < 2 ^ 64 := by
  have := toN_lt [a, b, c, d, e, f, g, h] (all8 (p := fun x => x < 256) ha hb hc hd he hf hg hh)
  simp only [List.length_cons, List.length_nil, Nat.reducePow, Nat.reduceAdd] at this ⊢
  exact this
theorem toN8_lt' {a b c d e f g h : Nat} (ha : a < 80) (hb : b < 80) (hc : c < 80) (hd : d < 80) (he : e < 80) (hf : f < 80) (hg : g < 80) (hh : h < 80) : toN [a, b, c, d, e, f, g, h] < 2 ^ 63 := by
  have := toN_le 79 [a, b, c, d, e, f, g, h] (all8 (p := fun x => x ≤ 79) (by omega) (by omega) (by omega) (by omega) (by omega) (by omega) (by omega) (by omega))
  simp only [List.length_cons, List.length_nil, Nat.reducePow, Nat.reduceAdd] at this ⊢
  omega
theorem toN8_le {a b c d e f g h : Nat} (ha : a ≤ 8) (hb : b ≤ 8) (hc : c ≤ 8) (hd : d ≤ 8) (he : e ≤ 8) (hf : f ≤ 8) (hg : g ≤ 8) (hh : h ≤ 8) : toN [a, b, c, d, e, f, g, h] < 2 ^ 60 := by
  have := toN_le 8 [a, b, c, d, e, f, g, h] (all8 (p := fun x => x ≤ 8) ha hb hc hd he hf hg hh)
  simp only [List.length_cons, List.length_nil, Nat.reducePow, Nat.reduceAdd] at this ⊢
  omega
theorem m85 (X : Nat) : toN ((digs X).map fun _ => 85) = 6148914691236517205 := by simp only [digs, List.map_cons, List.map_nil, toN, Nat.reduceMul, Nat.reduceAdd]
theorem m51 (X : Nat) : toN (((digs X).map g1).map fun _ => 51) = 3689348814741910323 := by simp only [digs, List.map_cons, List.map_nil, toN, Nat.reduceMul, Nat.reduceAdd]
theorem m15 (X : Nat) : toN ((((digs X).map g1).map g2).map fun _ => 15) = 1085102592571150095 := by simp only [digs, List.map_cons, List.map_nil, toN, Nat.reduceMul, Nat.reduceAdd]
theorem pcl1 (x : BitVec 64) : (pc1 x).toNat = toN ((digs x.toNat).map g1) := by
  have p := fun j => pops (dig x.toNat j) (Nat.mod_lt _ (by decide))
  have h1 := step1 _ (digs_lt x.toNat)
  rw [toN_digs x.isLt, m85] at h1
  have h2 : toN ((digs x.toNat).map g1) < 2 ^ 64 := toN8_lt (p 0).1 (p 1).1 (p 2).1 (p 3).1 (p 4).1 (p 5).1 (p 6).1 (p 7).1
  rw [← h1] at h2 ⊢
  unfold pc1
  simp only [BitVec.toNat_add, BitVec.toNat_and, BitVec.toNat_ushiftRight, Nat.shiftRight_eq_div_pow, BitVec.toNat_ofNat, Nat.reducePow, Nat.reduceMod] at h2 ⊢
  exact Nat.mod_eq_of_lt h2
theorem pcl2 (x : BitVec 64) : (pc2 (pc1 x)).toNat = toN (((digs x.toNat).map g1).map g2) := by
  have p := fun j => pops (dig x.toNat j) (Nat.mod_lt _ (by decide))
  have h1 := step2 ((digs x.toNat).map g1) (by
    intro b hb
    obtain ⟨c, hc, rfl⟩ := List.mem_map.1 hb
    exact (pops c (digs_lt _ c hc)).1)
  rw [← pcl1 x, m51] at h1
  have h2 : toN (((digs x.toNat).map g1).map g2) < 2 ^ 64 := toN8_lt (p 0).2.1 (p 1).2.1 (p 2).2.1 (p 3).2.1 (p 4).2.1 (p 5).2.1 (p 6).2.1 (p 7).2.1
  rw [← h1] at h2 ⊢
  generalize pc1 x = z at h2 ⊢
  unfold pc2
  simp only [BitVec.toNat_add, BitVec.toNat_and, BitVec.toNat_ushiftRight, Nat.shiftRight_eq_div_pow, BitVec.toNat_ofNat, Nat.reducePow, Nat.reduceMod] at h2 ⊢
  exact Nat.mod_eq_of_lt h2
def p8s (X : Nat) : List Nat := [pop8 (dig X 0), pop8 (dig X 1), pop8 (dig X 2), pop8 (dig X 3), pop8 (dig X 4), pop8 (dig X 5), pop8 (dig X 6), pop8 (dig X 7)]
theorem pcl3 (x : BitVec 64) : (pc3 (pc2 (pc1 x))).toNat = toN (p8s x.toNat) := by
  have p := fun j => pops (dig x.toNat j) (Nat.mod_lt _ (by decide))
  have q : ∀ j, g2 (g1 (dig x.toNat j)) < 80 := fun j => by have := (p j).2.2.2.1; omega
  have h1 := (step3 (((digs x.toNat).map g1).map g2) (by
    intro b hb
    obtain ⟨c', hc', rfl⟩ := List.mem_map.1 hb
    obtain ⟨c, hc, rfl⟩ := List.mem_map.1 hc'
    have := pops c (digs_lt _ c hc)
    exact ⟨this.2.1, this.2.2.1, this.2.2.2.1⟩)).1
  have h3 : (((digs x.toNat).map g1).map g2).map g3 = p8s x.toNat := by
    simp only [digs, p8s, List.map_cons, List.map_nil, (p 0).2.2.2.2, (p 1).2.2.2.2, (p 2).2.2.2.2, (p 3).2.2.2.2, (p 4).2.2.2.2, (p 5).2.2.2.2, (p 6).2.2.2.2, (p 7).2.2.2.2]
  have h4 : toN (((digs x.toNat).map g1).map g2) < 2 ^ 63 := toN8_lt' (q 0) (q 1) (q 2) (q 3) (q 4) (q 5) (q 6) (q 7)
  rw [← pcl2 x] at h1 h4
  rw [m15, h3] at h1
  rw [← h1]
  generalize pc2 (pc1 x) = z at h4 ⊢
  unfold pc3
  simp only [BitVec.toNat_add, BitVec.toNat_and, BitVec.toNat_ushiftRight, Nat.shiftRight_eq_div_pow, BitVec.toNat_ofNat, Nat.reducePow, Nat.reduceMod] at h4 ⊢
  rw [Nat.mod_eq_of_lt (by omega)]
theorem pcl4 (y : BitVec 64) (h : y.toNat < 2 ^ 60) : (pc6 (pc5 (pc4 y))).toNat = (y.toNat + y.toNat / 256) + (y.toNat + y.toNat / 256) / 65536 + ((y.toNat + y.toNat / 256) + (y.toNat + y.toNat / 256) / 65536) / 4294967296 := by
  have f4 : (pc4 y).toNat = y.toNat + y.toNat / 256 := by
    unfold pc4
    simp only [BitVec.toNat_add, BitVec.toNat_ushiftRight, Nat.shiftRight_eq_div_pow, Nat.reducePow] at h ⊢
    exact Nat.mod_eq_of_lt (by omega)
  have f5 : (pc5 (pc4 y)).toNat = (pc4 y).toNat + (pc4 y).toNat / 65536 := by
    unfold pc5
    simp only [BitVec.toNat_add, BitVec.toNat_ushiftRight, Nat.shiftRight_eq_div_pow, Nat.reducePow] at h ⊢
    exact Nat.mod_eq_of_lt (by omega)
  have f6 : (pc6 (pc5 (pc4 y))).toNat = (pc5 (pc4 y)).toNat + (pc5 (pc4 y)).toNat / 4294967296 := by
    unfold pc6
    simp only [BitVec.toNat_add, BitVec.toNat_ushiftRight, Nat.shiftRight_eq_div_pow, Nat.reducePow] at h ⊢
    exact Nat.mod_eq_of_lt (by omega)
  rw [f6, f5, f4]
theorem sum8 (a0 a1 a2 a3 a4 a5 a6 a7 y : Nat) (h0 : a0 ≤ 8) (h1 : a1 ≤ 8) (h2 : a2 ≤ 8) (h3 : a3 ≤ 8) (h4 : a4 ≤ 8) (h5 : a5 ≤ 8) (h6 : a6 ≤ 8) (h7 : a7 ≤ 8) (hy : y = toN [a0, a1, a2, a3, a4, a5, a6, a7]) :
    ((y + y / 256) + (y + y / 256) / 65536 + ((y + y / 256) + (y + y / 256) / 65536) / 4294967296) % 128 = a0 + a1 + a2 + a3 + a4 + a5 + a6 + a7 := by
  simp only [toN] at hy
  have e1 : y + y / 256 = (a0 + a1) + 256 * ((a1 + a2) + 256 * ((a2 + a3) + 256 * ((a3 + a4) + 256 * ((a4 + a5) + 256 * ((a5 + a6) + 256 * ((a6 + a7) + 256 * a7)))))) := by omega
  generalize y + y / 256 = z at e1 ⊢
  have e2 : z + z / 65536 = (a0 + a1 + a2 + a3) + 256 * ((a1 + a2 + a3 + a4) + 256 * ((a2 + a3 + a4 + a5) + 256 * ((a3 + a4 + a5 + a6) + 256 * ((a4 + a5 + a6 + a7) + 256 * ((a5 + a6 + a7) + 256 * ((a6 + a7) + 256 * a7)))))) := by omega
  generalize z + z / 65536 = u at e2 ⊢
  have e3 : u + u / 4294967296 = (a0 + a1 + a2 + a3 + a4 + a5 + a6 + a7) + 256 * ((a1 + a2 + a3 + a4 + a5 + a6 + a7) + 256 * ((a2 + a3 + a4 + a5 + a6 + a7) + 256 * ((a3 + a4 + a5 + a6 + a7) + 256 * ((a4 + a5 + a6 + a7) + 256 * ((a5 + a6 + a7) + 256 * ((a6 + a7) + 256 * a7)))))) := by omega
  rw [e3]
  clear e1 e2 e3 hy
  omega
theorem pc_all (x : BitVec 64) : (pc6 (pc5 (pc4 (pc3 (pc2 (pc1 x)))))).toNat % 128 = popc x := by
  have h3 := pcl3 x
  have l := fun j => pop8_le (dig x.toNat j)
  rw [pcl4 _ (by rw [h3]; exact toN8_le (l 0) (l 1) (l 2) (l 3) (l 4) (l 5) (l 6) (l 7)), popc_digs]
  exact sum8 _ _ _ _ _ _ _ _ _ (l 0) (l 1) (l 2) (l 3) (l 4) (l 5) (l 6) (l 7) h3

namespace BSet
def sizeK (s : BSet) : Nat → Nat
  | 0 => 0
  | k + 1 => sizeK s k + popc (s.wd k)
/-- how many bytes -/
def size (s : BSet) : Nat := s.sizeK 4
theorem size_mem (s : BSet) : s.size = s.mem.length := by
  have e : s.mem.length = cntB s.has 256 := rfl
  have key : ∀ k, k < 4 → cntB (fun i => s.has (64 * k + i)) 64 = popc (s.wd k) := by
    intro k hk
    apply cntB_congr
    intro i hi
    unfold has
    rw [show (64 * k + i) / 64 = k by omega, show (64 * k + i) % 64 = i by omega]
  rw [e, show (256 : Nat) = 192 + 64 from rfl, cntB_add, show (192 : Nat) = 128 + 64 from rfl, cntB_add, show (128 : Nat) = 64 + 64 from rfl, cntB_add]
  unfold size sizeK sizeK sizeK sizeK sizeK
  rw [← key 0 (by omega), ← key 1 (by omega), ← key 2 (by omega), ← key 3 (by omega)]
  simp only [Nat.mul_zero, Nat.zero_add, Nat.mul_one]
theorem sizeK_le (s : BSet) : ∀ k, s.sizeK k ≤ 64 * k
  | 0 => Nat.zero_le _
  | k + 1 => by
    have := sizeK_le s k
    have h2 : popc (s.wd k) ≤ 64 := cntB_le _ _
    simp only [sizeK]; omega
theorem size_cnt (s : BSet) : s.size = cntB s.has 256 := s.size_mem
theorem cnt_two {p q r t : Nat → Bool} : ∀ {n : Nat}, (∀ i, i < n → (if p i then 1 else 0) + (if q i then 1 else 0) = (if r i then 1 else 0) + (if t i then 1 else 0)) → cntB p n + cntB q n = cntB r n + cntB t n
  | 0, _ => rfl
  | n + 1, h => by
    have h1 := cnt_two (n := n) fun i hi => h i (by omega)
    have h2 := h n (by omega)
    simp only [cntB_succ]
    omega
theorem size_two (s t : BSet) : (band s t).size + (bor s t).size = s.size + t.size := by
  simp only [size_cnt]
  apply cnt_two
  intro i hi
  rw [has_band _ _ hi, has_bor _ _ hi]
  cases s.has i <;> cases t.has i <;> rfl
theorem size_not (s : BSet) : s.size + s.bnot.size = 256 := by
  have h : cntB s.has 256 + cntB s.bnot.has 256 = cntB (fun _ => true) 256 + cntB (fun _ => false) 256 := by
    apply cnt_two
    intro i hi
    rw [has_bnot _ hi]
    cases s.has i <;> rfl
  simp only [size_cnt]
  rw [h]; decide +kernel
end BSet

section
variable {P : Program} {N : Sz} {f : Frm} {H : Heap} {t t' e ty : TypeId} {x y : Operand}
theorem v_low7 {m : Int} (hx : ev f x = some (.int .i64 (IntKind.i64.wrap m))) (hy : ev f y = some (.int .i64 127)) : OpV P N (.binOp .and t x y t') ty f H (.int .i64 (m % 128)) :=
  v_bin hx hy fun w => by
    have h2 : (BitVec.ofInt 64 (127 : Int) : BitVec 64).toNat = 2 ^ 7 - 1 := by decide
    have h3 : ((BitVec.ofInt 64 (IntKind.i64.wrap m)).toNat : Int) = m % 18446744073709551616 := by
      rw [BitVec.toNat_ofInt, IntKind.wrap_i64]
      omega
    have h1 : IntKind.i64.wrap ((((BitVec.ofInt 64 (IntKind.i64.wrap m)) &&& (BitVec.ofInt 64 127) : BitVec 64).toNat : Nat) : Int) = m % 128 := by
      rw [BitVec.toNat_and, h2, Nat.and_two_pow_sub_one_eq_mod]
      rw [IntWalk.i64_in _ (by omega)]
      omega
    simp only [eqGuard_and, binOp_and, Op.intBits, IntKind.bits]
    exact congrArg (fun n => Result.ok (Value.int IntKind.i64 n) w) h1
end
end Go.Proofs.Ytbfgjdhdohfacaa
