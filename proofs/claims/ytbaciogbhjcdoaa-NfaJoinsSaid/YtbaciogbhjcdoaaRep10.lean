/- slices.Repeat of one record. No condition. -/
import Derived.Test.YtbaciogbhjcdoaaG10m
set_option linter.unusedVariables false
set_option linter.unusedSimpArgs false
set_option maxRecDepth 20000
namespace Go.Proofs.Ytbaciogbhjcdoaa
open Go.Proofs
theorem ofN_toN {k : Nat} (hk : k ≤ 64) : (BitVec.ofNat 64 k).toNat = k := by rw [BitVec.toNat_ofNat]; omega
theorem mulOne {k : Nat} (hk : k ≤ 64) {H : Heap} {Z : Nat → Prop} {L : List As} (hO : Own H Z L) : HC Try.prog 81 [w64 (BitVec.ofNat 64 1), w64 (BitVec.ofNat 64 k)] H (fun v H' => v = .tuple #[w64 0#64, w64 (BitVec.ofNat 64 k)] ∧ H' = H) :=
  (mulU_spec (a0 := BitVec.ofNat 64 1) (a1 := BitVec.ofNat 64 k) hO).mono fun v H' ⟨h1, h2⟩ => ⟨by
    rw [h1]
    have e1 := mulHi_one ⟨k, by omega⟩
    have e2 : BitVec.ofNat 64 1 * BitVec.ofNat 64 k = BitVec.ofNat 64 k := by rw [show BitVec.ofNat 64 1 = 1#64 from rfl, BitVec.one_mul]
    rw [show mulHi (BitVec.ofNat 64 1) (BitVec.ofNat 64 k) = 0#64 from e1, e2], h2⟩
def zNfa : GNfa := ⟨0, [], [], []⟩
theorem rel_zNfa (H : Heap) (Z : Nat → Prop) : rGNfa.rel H Z [.int .i64 0, .slice none 0 0, .slice none 0 0, .slice none 0 0] zNfa := ⟨_, _, _, rfl, Sl.nil, Sl.nil, Sl.nil⟩
/-- so many of one, then zeros -/
def repL (a : GNfa) (k n : Nat) : List GNfa := List.replicate n a ++ List.replicate (k - n) zNfa
theorem repL_len {a : GNfa} {k n : Nat} (h : n ≤ k) : (repL a k n).length = k := by simp [repL]; omega
theorem repL_step {a : GNfa} {k n m : Nat} (h : n + m ≤ k) (hm : m ≤ n) : (repL a k n).take n ++ ((repL a k n).take n).take m ++ (repL a k n).drop (n + m) = repL a k (n + m) := by
  have e1 : (repL a k n).take n = List.replicate n a := by unfold repL; rw [List.take_append, List.length_replicate, List.take_of_length_le (by simp)]; simp
  have e2 : (repL a k n).drop (n + m) = List.replicate (k - (n + m)) zNfa := by
    unfold repL; rw [List.drop_append, List.length_replicate, List.drop_of_length_le (by simp), List.drop_replicate]; simp; omega
  rw [e1, e2, List.take_replicate, Nat.min_eq_left hm, List.replicate_append_replicate]; rfl
theorem repL_first {a : GNfa} {k : Nat} : (List.replicate k zNfa).take 0 ++ [a].take (min 1 k) ++ (List.replicate k zNfa).drop (0 + min 1 k) = repL a k (min 1 k) := by
  cases k with
  | zero => rfl
  | succ k => simp [repL, show min 1 (k + 1) = 1 by omega]
theorem v_ofWk {k : Nat} (hk : k ≤ 64) {N : Sz} {f : Frm} {H : Heap} {t t' ty : TypeId} {x : Operand} (hs : (Try.prog.underlying t).isSome = true) (ht : Try.prog.underlying t' = some (.int .i64)) (hx : ev f x = some (w64 (BitVec.ofNat 64 k))) : OpV Try.prog N (.convert t t' x) ty f H (.int .i64 (k : Int)) := by
  have := v_ofW (N := N) (ty := ty) (H := H) hs ht hx (by rw [ofN_toN hk]; omega)
  rwa [ofN_toN hk] at this
theorem v_sl1 {n k g : Nat} (hlt : n < k) {N : Sz} {f : Frm} {H : Heap} {S : Nat → Prop} {ty : TypeId} {x y : Operand} {l' : List GNfa} (hs : Sl rGNfa H S (.slice (some ⟨g, 0, none⟩) k k) l') (hl' : l'.length = k) (hx : ev f x = some (.slice (some ⟨g, 0, none⟩) k k)) (hy : ev f y = some (.int .i64 (n : Int))) :
    OpV Try.prog N (.slice 87 x (some y) none none) ty f H (.slice (some ⟨g, n * 4, none⟩) (k - n) (k - n)) := by
  have := v_sliceLl (N := N) (ty := ty) (lo := (n : Int)) Try.underlying87 Try.sizeOf25 hx hy hs ⟨by omega, by omega⟩
  rw [Int.toNat_natCast, hl', slv_some hlt] at this
  exact this
theorem repeatNfa_spec {a0 : List GNfa} {a1 : Int} {v_1 : Value} {L : List As} (hp : a0.length = 1 ∧ 0 ≤ a1 ∧ a1 ≤ 64) {H : Heap} {Z : Nat → Prop} (hO : Own H Z L) (hf : Fz rGNfa L v_1 a0) :
    HC Try.prog 56 [v_1, .int .i64 a1] H (fun v H' => ∃ (Z' : Nat → Prop) (v_3 : Value), (∀ b, Z b → Z' b) ∧ v = v_3 ∧ Own H' Z' (ownR rGNfa 25 v_3 (List.replicate a1.toNat (a0.getD 0 default)) :: L)) := by
  obtain ⟨h1, h2, h3⟩ := hp
  obtain ⟨k, rfl⟩ := Int.eq_ofNat_of_zero_le h2
  have hk : k ≤ 64 := by omega
  match a0, h1 with
  | [a], _ =>
  replace hO := Fz.item hf hO
  refine hc_of_hw (N := 48) (rs := [(.tmp 4)]) Try.func56 rfl rfl rfl rfl ?_
  refine hw_seq ?_
  refine hw_region ?_
  refine hl_v (v_assign rfl) rfl ?_
  refine hl_nil ?_
  refine thenQ_n ?_
  refine hw_sub _ (ai_cons (t := 0) rfl (ai_cons (t := 1) rfl ai_nil)) ?_
  refine hw_seq ?_
  refine hw_seq ?_
  refine hw_region ?_
  refine hl_v (v_move rfl) rfl ?_
  refine hl_v (v_lss rfl rfl) rfl ?_
  refine hl_nil ?_
  refine thenQ_n ?_
  refine hw_sub _ (ai_cons (t := 0) rfl (ai_cons (t := 1) rfl (ai_cons (t := 10) rfl ai_nil))) ?_
  refine hw_cond rfl (fun hc_4 => ?_) (fun hc_4 => ?_)
  · exact absurd (of_decide_eq_true hc_4) (by omega)
  refine hw_skip ?_
  refine thenQ_n ?_
  refine hw_seq ?_
  refine hw_region ?_
  refine hl_v (v_move rfl) rfl ?_
  refine hl_v (v_lenL rfl Try.underlying87 rfl (hO.fsl 0 rfl)) rfl ?_
  refine hl_v (v_toW (n := 1) (by rw [Try.underlying3]; rfl) Try.underlying112 rfl ⟨by decide, by decide⟩) rfl ?_
  refine hl_v (v_move rfl) rfl ?_
  refine hl_v (v_toW (n := (k : Int)) (by rw [Try.underlying3]; rfl) Try.underlying112 rfl ⟨by omega, by omega⟩) rfl ?_
  refine hl_v (v_call Try.call81 (evs_cons rfl (evs_cons rfl evs_nil)) (mulOne hk hO)) rfl ?_
  refine hl_v (v_move rfl) rfl ?_
  refine hl_v (v_extract rfl rfl) rfl ?_
  refine hl_v (v_extract rfl rfl) rfl ?_
  refine hl_v (v_assign rfl) rfl ?_
  refine hl_v (v_assign rfl) rfl ?_
  refine hl_nil ?_
  refine thenQ_n ?_
  refine hw_sub _ (ai_cons (t := 0) rfl (ai_cons (t := 5) rfl (ai_cons (t := 6) rfl ai_nil))) ?_
  refine hw_seq ?_
  refine hw_seq ?_
  refine hw_region ?_
  refine hl_v (v_move rfl) rfl ?_
  refine hl_v (v_gtr64 rfl (show _ = some (w64 0#64) from rfl)) rfl ?_
  refine hl_v (v_move rfl) rfl ?_
  refine hl_g rfl rfl (fun hg => (v_move rfl)) rfl ?_
  refine hl_g rfl rfl (fun hg => (v_gtr64 (gv_ok rfl hg) (show _ = some (w64 9223372036854775807#64) from rfl))) rfl ?_
  refine hl_v (v_or rfl rfl) rfl ?_
  refine hl_nil ?_
  refine thenQ_n ?_
  refine hw_sub _ (ai_cons (t := 0) rfl (ai_cons (t := 6) rfl (ai_cons (t := 26) rfl ai_nil))) ?_
  refine hw_cond rfl (fun hc_8 => ?_) (fun hc_8 => ?_)
  · exfalso
    have hk2 := ofN_toN hk
    simp only [Bool.or_eq_true, decide_eq_true_eq, BitVec.lt_def] at hc_8
    rcases hc_8 with hc_8 | hc_8
    · exact absurd hc_8 (by decide)
    · rw [hk2] at hc_8
      have : (9223372036854775807#64 : BitVec 64).toNat = 9223372036854775807 := by decide
      omega
  refine hw_skip ?_
  refine thenQ_n ?_
  refine hw_seq ?_
  refine hw_region ?_
  refine hl_v (v_move rfl) rfl ?_
  have ek := ofN_toN hk
  refine hl_v (v_ofWk hk (by rw [Try.underlying112]; rfl) Try.underlying3 rfl) rfl ?_
  refine hl_h (o_makeSliceR (r := rGNfa) (d := zNfa) (zc := [.int .i64 0, .slice none 0 0, .slice none 0 0, .slice none 0 0]) (n := (k : Int)) hO Try.underlying87 Try.type25 rfl rfl rfl rfl (by decide) rfl rel_zNfa rfl rfl (by omega) (by rw [show Try.t25.bytes = 80 from rfl, Int.toNat_natCast]; omega) (by omega)) rfl ?_
  rintro _ H1 ⟨g, rfl, hO⟩
  replace hO : Own H1 Z (ownR rGNfa 25 (.slice (some ⟨g, 0, none⟩) k k) (List.replicate k zNfa) :: fz rGNfa v_1 [a] :: L) := hO
  refine hl_v (v_assign rfl) rfl ?_
  refine hl_nil ?_
  refine thenQ_n ?_
  refine hw_sub [(0, v_1), (7, .slice (some ⟨g, 0, none⟩) k k)] (ai_cons (t := 0) rfl (ai_cons (t := 7) rfl ai_nil)) ?_
  refine hw_seq ?_
  refine hw_region ?_
  refine hl_v (v_move rfl) rfl ?_
  refine hl_v (v_move rfl) rfl ?_
  rcases hO.fsrc 1 rfl with ⟨hcon, _⟩ | ⟨css, hR, hat, hw⟩
  · exact absurd hcon (by simp)
  refine hl_h (o_copyR (r := rGNfa) (lo := 0) (sz := 4) (m := min 1 k) (dCap := k) (i := 0) hO rfl (by simp) rfl Try.underlying87 Try.type25 rfl rfl (by rw [Nat.zero_mul]; rfl) rfl hR hat hw (by omega) (by simp)) rfl ?_
  rintro _ H2 ⟨rfl, hO⟩
  replace hO : Own H2 Z (ownR rGNfa 25 (.slice (some ⟨g, 0, none⟩) k k) (repL a k (min 1 k)) :: fz rGNfa v_1 [a] :: L) := by rw [← repL_first]; exact hO
  refine hl_v (v_assign rfl) rfl ?_
  refine hl_nil ?_
  refine thenQ_n ?_
  refine hw_sub [(7, .slice (some ⟨g, 0, none⟩) k k), (8, .int .i64 ((min 1 k : Nat) : Int))] (ai_cons (t := 7) rfl (ai_cons (t := 8) rfl ai_nil)) ?_
  refine hw_seq ?_
  refine hw_block ?_
  refine hw_lp (fun n' g' H' => ∃ (n : Nat) (Z' : Nat → Prop), n' = k - n ∧ g' = [(7, .slice (some ⟨g, 0, none⟩) k k), (8, .int .i64 (n : Int))] ∧ (∀ b, Z b → Z' b) ∧ n ≤ k ∧ (0 < k → 0 < n) ∧ Own H' Z' (ownR rGNfa 25 (.slice (some ⟨g, 0, none⟩) k k) (repL a k n) :: fz rGNfa v_1 [a] :: L)) _ _ (ai_cons (t := 7) rfl (ai_cons (t := 8) rfl ai_nil)) ⟨min 1 k, _, rfl, rfl, fun _ h => h, by omega, by omega, hO⟩ ?_
  rintro _ _ H3 ⟨n, Z3, rfl, rfl, hZ, hn, hn0, hO⟩
  refine hw_seq ?_
  refine hw_seq ?_
  refine hw_region ?_
  refine hl_v (v_move rfl) rfl ?_
  refine hl_v (v_move rfl) rfl ?_
  refine hl_v (v_lenL rfl Try.underlying87 rfl (hO.rsl 0 rfl)) rfl ?_
  refine hl_v (v_lss rfl rfl) rfl ?_
  refine hl_nil ?_
  refine thenQ_n ?_
  refine hw_sub _ (ai_cons (t := 7) rfl (ai_cons (t := 8) rfl (ai_cons (t := 37) rfl ai_nil))) ?_
  rw [repL_len hn]
  refine hw_cond rfl (fun hc => ?_) (fun hc => ?_)
  · have hlt : n < k := by have := of_decide_eq_true hc; omega
    refine hw_skip ?_
    refine thenQ_n ?_
    refine hw_block ?_
    refine hw_held (fun H' => ∃ l', l'.length = k ∧ Own H' Z3 (ownR rGNfa 25 (.slice (some ⟨g, 0, none⟩) k k) l' :: fz rGNfa v_1 [a] :: L)) (.step 0 false (.step 1 false (.step 2 false (.step 3 false (.step 4 false (.step 5 false (.step 6 false (.step 7 true (.step 8 false (.step 9 false .done)))))))))) Try.mixed (by kernel_rfl) ⟨_, repL_len hn, hO⟩ ?_
    refine hd_v rfl (fun H' hS => v_move rfl) rfl ?_
    refine hd_v rfl (fun H' hS => v_move rfl) rfl ?_
    refine hd_v rfl (fun H' hS => v_move rfl) rfl ?_
    refine hd_v (v := .slice (some ⟨g, n * 4, none⟩) (k - n) (k - n)) rfl (fun H' hS => by
      obtain ⟨l', hl', hO'⟩ := hS
      exact v_sl1 hlt (hO'.rsl 0 rfl) hl' rfl rfl) rfl ?_
    refine hd_v rfl (fun H' hS => v_move rfl) rfl ?_
    refine hd_v rfl (fun H' hS => v_move rfl) rfl ?_
    refine hd_v (v := slv (.slice (some ⟨g, 0, none⟩) k k) 4 0 n) rfl (fun H' hS => by
      obtain ⟨l', hl', hO'⟩ := hS
      exact v_sliceLh (hi := (n : Int)) Try.underlying87 Try.sizeOf25 rfl rfl (hO'.rsl 0 rfl) ⟨by omega, by omega⟩) rfl ?_
    have hsl := (hO.rsl 0 rfl).slice (lo := 0) (hi := n) (Nat.zero_le _) (by rw [repL_len hn]; exact hn)
    obtain ⟨css', hcs1, hcs2⟩ := hO.og 0 rfl
    have hsrc : ∃ css2, relAll rGNfa H3 Z3 css2 ((repL a k n).take n) ∧ At H3 g 0 css2.flatten := by
      rcases hO.rsrc 0 rfl with ⟨hcon, _⟩ | ⟨css, hR, hat, hw⟩
      · have := repL_len (a := a) hn; rw [hcon] at this; simp at this; omega
      · refine ⟨css.take n, hR.take' n, fun j u hj => hat j u ?_⟩
        rw [← hR.take_flat n, List.getElem?_take] at hj
        split at hj
        · exact hj
        · cases hj
    obtain ⟨css2, hR2, hat2⟩ := hsrc
    have hl2 : ((repL a k n).take n).length = n := by rw [List.length_take, repL_len hn]; omega
    refine hd_h (o_copyR (r := rGNfa) (lo := n) (sz := 4) (m := min n (k - n)) (dCap := k - n) (w2 := .slice (some ⟨g, 0, none⟩) n k) (i := 0) hO rfl (repL_len hn) rfl Try.underlying87 Try.type25 rfl rfl rfl (show _ = some _ by rw [show slv (.slice (some ⟨g, 0, none⟩) k k) 4 0 n = .slice (some ⟨g, 0, none⟩) n k by rw [slv_some (by omega), Nat.zero_mul, Nat.sub_zero]]; rfl) hR2 hat2 (by rw [hl2]; rfl) hn (by rw [hl2])) (by
      rintro _ H4 ⟨_, hO'⟩
      exact ⟨_, by rw [repL_step (by omega) (by omega), repL_len (by omega)], hO'⟩) rfl ?_
    rintro _ H4 ⟨rfl, hO⟩
    replace hO : Own H4 Z3 (ownR rGNfa 25 (.slice (some ⟨g, 0, none⟩) k k) (repL a k (n + min n (k - n))) :: fz rGNfa v_1 [a] :: L) := by rw [← repL_step (by omega) (by omega)]; exact hO
    refine hd_v rfl (fun H' hS => v_add rfl rfl ⟨by omega, by omega⟩) rfl ?_
    refine hd_v rfl (fun H' hS => v_assign rfl) rfl ?_
    refine hd_nil ?_
    refine blockQ_n ?_
    exact ⟨_, _, (ai_cons (t := 7) rfl (ai_cons (t := 8) rfl ai_nil)), ⟨n + min n (k - n), _, rfl, by rw [Int.natCast_add], hZ, by omega, by omega, hO⟩, by omega⟩
  · have hnk : n = k := by have : k ≤ n := by { simpa using hc }; omega
    subst hnk
    refine hw_exit ?_
    refine thenQ_e ?_
    refine thenQ_e ?_
    refine blockQ_hit ?_
    refine thenQ_n ?_
    refine hw_seq ?_
    refine hw_region ?_
    refine hl_v (v_move rfl) rfl ?_
    refine hl_v (v_assign rfl) rfl ?_
    refine hl_nil ?_
    refine thenQ_n ?_
    refine hw_sub _ (ai_cons (t := 4) rfl ai_nil) ?_
    refine hw_ret ?_
    refine ret_i _ (ra_t rfl ra_nil) ?_
    refine ⟨_, _, hZ, rfl, ?_⟩
    have e : repL a n n = List.replicate n a := by simp [repL]
    rw [e] at hO
    exact Own.sel (Ls := [ownR rGNfa 25 (.slice (some ⟨g, 0, none⟩) n n) (List.replicate n a), fz rGNfa v_1 [a]]) (L := L) [0] rfl hO
end Go.Proofs.Ytbaciogbhjcdoaa
