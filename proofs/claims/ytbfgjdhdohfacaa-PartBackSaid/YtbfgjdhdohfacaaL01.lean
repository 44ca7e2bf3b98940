/- Walks of layer 1 (set). No condition. -/
import Derived.Test.YtbfgjdhdohfacaaProg
import Derived.Test.YtbfgjdhdohfacaaPlain01
import Derived.Test.YtbfgjdhdohfacaaHeld
import Derived.Test.YtbfgjdhdohfacaaRange
set_option linter.unusedVariables false
set_option linter.unusedSimpArgs false
namespace Go.Proofs.Ytbfgjdhdohfacaa
open Go.Proofs
theorem Try.mixed : Try.prog.follows .mixedOrders = true := by kernel_rfl
theorem Of_spec {v0 : Value} {l : List UInt8} {S : Nat → Prop} {H : Heap} (hs : Sl fByte.rep H S v0 l) (hS : ∀ b, S b → b < H.size) : HC Try.prog 18 [v0] H (fun v H' => v = sv (.ofL l) ∧ Ext [] H H') := by
  have hx0 : Ext [] H H := Ext.refl _
  have hcap := hs.cap
  refine hc_of_hw (N := 23) (rs := [(.cell 2 31)]) Try.func18 rfl rfl rfl rfl ?_
  refine hw_seq ?_
  refine hw_region ?_
  refine hl_h (h_allocS Try.zeroValue31) rfl ?_
  rintro _ H1 ⟨rfl, n2⟩
  have n2s := n2.size
  replace hx0 := Ext.trans hx0 n2.ext
  replace hs := Sl.ext0 hs n2.ext
  have n2b := n2.blk
  refine hl_nil ?_
  refine thenQ_n ?_
  refine hw_sub _ (ai_cons (t := 0) rfl (ai_cons (t := 2) rfl ai_nil)) ?_
  refine hw_seq ?_
  refine hw_region ?_
  refine hl_h (h_allocS Try.zeroValue31) rfl ?_
  rintro _ H3 ⟨rfl, n4⟩
  have n4s := n4.size
  replace hx0 := Ext.trans hx0 n4.ext
  replace hs := Sl.ext0 hs n4.ext
  replace n2b := Ext.blk n4.ext n2b (by simp)
  have n4b := n4.blk
  refine hl_nil ?_
  refine thenQ_n ?_
  refine hw_sub _ (ai_cons (t := 0) rfl (ai_cons (t := 2) rfl (ai_cons (t := 3) rfl ai_nil))) ?_
  refine hw_seq ?_
  refine hw_seq ?_
  refine hw_region ?_
  refine hl_v (v_move rfl) rfl ?_
  refine hl_v (v_lenL rfl Try.underlying28 rfl (by first | assumption | exact Ow.sl0 (by assumption))) rfl ?_
  refine hl_v (v_move rfl) rfl ?_
  refine hl_nil ?_
  refine thenQ_n ?_
  refine hw_sub _ (ai_cons (t := 2) rfl (ai_cons (t := 3) rfl (ai_cons (t := 6) rfl (ai_cons (t := 7) rfl (ai_cons (t := 8) rfl ai_nil))))) ?_
  refine hw_block ?_
  refine hw_loop (α := Nat) [(2, _), (3, _), (6, _), (7, _)] (fun k => [(8, .int .i64 (k : Int))]) (fun k G3 => Ext [] H G3 ∧ Sl fByte.rep G3 S v0 l ∧ Blk G3 H.size (sw .zero) 31 ∧ Blk G3 H1.size (sw (.ofL (l.take k))) 31 ∧ H3.size ≤ G3.size ∧ k ≤ l.length) (fun k => l.length - k) 0 (ai_cons (t := 8) rfl (ai_cons (t := 2) rfl (ai_cons (t := 3) rfl (ai_cons (t := 6) rfl (ai_cons (t := 7) rfl ai_nil))))) ?_ ?_
  · exact ⟨hx0, hs, n2b, n4b, Nat.le_refl _, Nat.zero_le _⟩
  · intro k G3 hI
    obtain ⟨hx0, hs, n2b, n4b, hz, hk⟩ := hI
    have hx0z := hx0.size
    refine hw_seq ?_
    refine hw_region ?_
    refine hl_v (v_lss rfl rfl) rfl ?_
    refine hl_nil ?_
    refine thenQ_n ?_
    refine hw_sub _ (ai_cons (t := 2) rfl (ai_cons (t := 3) rfl (ai_cons (t := 6) rfl (ai_cons (t := 7) rfl (ai_cons (t := 8) rfl (ai_cons (t := 9) rfl ai_nil)))))) ?_
    refine hw_seq ?_
    refine hw_cond rfl (fun hc5 => ?_) (fun hc5 => ?_)
    · try simp only [decide_eq_true_eq, decide_eq_false_iff_not, Bool.and_eq_true, Bool.and_eq_false_iff, Bool.or_eq_true, Bool.or_eq_false_iff, Bool.not_eq_true', Bool.not_eq_false', Bool.not_eq_true, Bool.not_eq_false, beq_iff_eq, Int.not_lt, Int.not_le] at hc5
      refine hw_skip ?_
      refine thenQ_n ?_
      refine hw_seq ?_
      refine hw_block ?_
      refine hw_seq ?_
      refine hw_region ?_
      refine hl_v (v_ixL Try.underlying28 Try.sizeOf5 rfl rfl (by first | assumption | exact Ow.sl0 (by assumption)) (by first | omega | assumption | (simp only [Int.toNat_natCast]; omega) | (simp; done) | (simp at *; omega))) rfl ?_
      refine hl_v (v_loadSc Try.isAgg5 rfl (by first | assumption | exact Ow.sl0 (by assumption)) rfl (by first | omega | assumption | (simp only [Int.toNat_natCast]; omega) | (simp; done) | (simp at *; omega)) rfl) rfl ?_
      refine hl_v (v_assign rfl) rfl ?_
      refine hl_nil ?_
      refine thenQ_n ?_
      refine hw_sub _ (ai_cons (t := 2) rfl (ai_cons (t := 3) rfl (ai_cons (t := 5) rfl (ai_cons (t := 6) rfl (ai_cons (t := 7) rfl (ai_cons (t := 8) rfl ai_nil)))))) ?_
      have hbyte := (l.getD k default).toNat_lt
      refine hw_region ?_
      refine hl_v (v_move rfl) rfl ?_
      refine hl_v (v_quo8 rfl rfl (by first | omega | assumption | (simp only [Int.toNat_natCast]; omega) | (simp; done) | (simp at *; omega))) rfl ?_
      refine hl_v (v_ixS Try.underlying31 Try.sizeOf29 rfl rfl (by first | omega | assumption | (simp only [Int.toNat_natCast]; omega) | (simp; done) | (simp at *; omega))) rfl ?_
      refine hl_v (v_loadW Try.isAgg29 rfl (by first | exact n4b | assumption) (by first | omega | assumption | (simp only [Int.toNat_natCast]; omega) | (simp; done) | (simp at *; omega))) rfl ?_
      refine hl_v (v_move rfl) rfl ?_
      refine hl_v (v_rem8 rfl rfl (by first | omega | assumption | (simp only [Int.toNat_natCast]; omega) | (simp; done) | (simp at *; omega))) rfl ?_
      refine hl_v (v_shl64 (show _ = some (w64 1#64) from rfl) rfl (by first | omega | assumption | (simp only [Int.toNat_natCast]; omega) | (simp; done) | (simp at *; omega))) rfl ?_
      refine hl_v (v_or64 rfl rfl) rfl ?_
      refine hl_v (v_ixS Try.underlying31 Try.sizeOf29 rfl rfl (by first | omega | assumption | (simp only [Int.toNat_natCast]; omega) | (simp; done) | (simp at *; omega))) rfl ?_
      refine hl_s (h_storeW Try.sizeOf29 rfl rfl n4b (by first | omega | assumption | (simp only [Int.toNat_natCast]; omega) | (simp; done) | (simp at *; omega))) ?_
      rintro _ H6 p7
      have p7s := p7.size
      replace hx0 := Ext.fresh hx0 p7.ext (by intro b hb; simp at hb; omega)
      replace hs := Sl.ext hs p7.ext (by intro b hb; (try have hSb := hS b hb); (try simp only [mb, List.mem_singleton] at hb); simp; omega)
      replace n2b := Ext.blk p7.ext n2b (by (try simp only [mb, List.mem_singleton] at hb); simp; omega)
      replace n4b := p7.blk
      refine hl_nil ?_
      refine blockQ_n ?_
      refine thenQ_n ?_
      refine hw_region ?_
      refine hl_v (v_add rfl rfl (by first | omega | assumption | (simp only [Int.toNat_natCast]; omega) | (simp; done) | (simp at *; omega))) rfl ?_
      refine hl_v (v_move rfl) rfl ?_
      refine hl_nil ?_
      refine thenQ_n ?_
      refine ⟨k + 1, (ai_cons (t := 8) rfl (ai_cons (t := 2) rfl (ai_cons (t := 3) rfl (ai_cons (t := 6) rfl (ai_cons (t := 7) rfl ai_nil))))), ?_, ?_⟩
      · skip
        exact ⟨hx0, hs, n2b, (by rw [take_snoc (by omega), BSet.ofL_snoc]; exact n4b), (by omega), by omega⟩
      · omega
    · try simp only [decide_eq_true_eq, decide_eq_false_iff_not, Bool.and_eq_true, Bool.and_eq_false_iff, Bool.or_eq_true, Bool.or_eq_false_iff, Bool.not_eq_true', Bool.not_eq_false', Bool.not_eq_true, Bool.not_eq_false, beq_iff_eq, Int.not_lt, Int.not_le] at hc5
      refine hw_exit ?_
      refine thenQ_e ?_
      refine thenQ_e ?_
      refine blockQ_hit ?_
      refine thenQ_n ?_
      refine hw_seq ?_
      refine hw_region ?_
      refine hl_v (v_loadS Try.isAgg31 Try.sizeOf31 rfl (by first | exact n4b | assumption)) rfl ?_
      refine hl_s (h_storeS Try.sizeOf31 rfl rfl n2b) ?_
      rintro _ H8 p9
      have p9s := p9.size
      replace hx0 := Ext.fresh hx0 p9.ext (by intro b hb; simp at hb; omega)
      replace hs := Sl.ext hs p9.ext (by intro b hb; (try have hSb := hS b hb); (try simp only [mb, List.mem_singleton] at hb); simp; omega)
      replace n4b := Ext.blk p9.ext n4b (by (try simp only [mb, List.mem_singleton] at hb); simp; omega)
      replace n2b := p9.blk
      refine hl_nil ?_
      refine thenQ_n ?_
      refine hw_sub _ (ai_cons (t := 2) rfl ai_nil) ?_
      refine hw_ret ?_
      refine ret_i _ (ra_c rfl (fun w hw => run_loadVar_at Try.isAgg31 Try.sizeOf31 (Blk.at0 (by assumption)) rfl w hw) ra_nil) ?_
      refine ⟨?_, hx0⟩
      rw [List.take_of_length_le (by omega)]; rfl

theorem Any1_spec (a b : BitVec 64) (H : Heap) : HC Try.prog 54 [w64 a, w64 b] H (fun v H' => v = w64 (a ||| b) ∧ H' = H) := by
  refine hc_of_hw (N := 8) (rs := [(.tmp 4)]) Try.func54 rfl rfl rfl rfl ?_
  refine hw_seq ?_
  refine hw_region ?_
  refine hl_v (v_assign rfl) rfl ?_
  refine hl_nil ?_
  refine thenQ_n ?_
  refine hw_sub _ (ai_cons (t := 0) rfl (ai_cons (t := 1) rfl ai_nil)) ?_
  refine hw_seq ?_
  refine hw_region ?_
  refine hl_v (v_move rfl) rfl ?_
  refine hl_v (v_move rfl) rfl ?_
  refine hl_v (v_or64 rfl rfl) rfl ?_
  refine hl_v (v_assign rfl) rfl ?_
  refine hl_nil ?_
  refine thenQ_n ?_
  refine hw_sub _ (ai_cons (t := 4) rfl ai_nil) ?_
  refine hw_ret ?_
  refine ret_i _ (ra_t rfl ra_nil) ?_
  exact ⟨rfl, rfl⟩

theorem Both1_spec (a b : BitVec 64) (H : Heap) : HC Try.prog 58 [w64 a, w64 b] H (fun v H' => v = w64 (a &&& b) ∧ H' = H) := by
  refine hc_of_hw (N := 8) (rs := [(.tmp 4)]) Try.func58 rfl rfl rfl rfl ?_
  refine hw_seq ?_
  refine hw_region ?_
  refine hl_v (v_assign rfl) rfl ?_
  refine hl_nil ?_
  refine thenQ_n ?_
  refine hw_sub _ (ai_cons (t := 0) rfl (ai_cons (t := 1) rfl ai_nil)) ?_
  refine hw_seq ?_
  refine hw_region ?_
  refine hl_v (v_move rfl) rfl ?_
  refine hl_v (v_move rfl) rfl ?_
  refine hl_v (v_and64 rfl rfl) rfl ?_
  refine hl_v (v_assign rfl) rfl ?_
  refine hl_nil ?_
  refine thenQ_n ?_
  refine hw_sub _ (ai_cons (t := 4) rfl ai_nil) ?_
  refine hw_ret ?_
  refine ret_i _ (ra_t rfl ra_nil) ?_
  exact ⟨rfl, rfl⟩

theorem Less1_spec (a b : BitVec 64) (H : Heap) : HC Try.prog 60 [w64 a, w64 b] H (fun v H' => v = w64 (a &&& ~~~b) ∧ H' = H) := by
  refine hc_of_hw (N := 8) (rs := [(.tmp 4)]) Try.func60 rfl rfl rfl rfl ?_
  refine hw_seq ?_
  refine hw_region ?_
  refine hl_v (v_assign rfl) rfl ?_
  refine hl_nil ?_
  refine thenQ_n ?_
  refine hw_sub _ (ai_cons (t := 0) rfl (ai_cons (t := 1) rfl ai_nil)) ?_
  refine hw_seq ?_
  refine hw_region ?_
  refine hl_v (v_move rfl) rfl ?_
  refine hl_v (v_move rfl) rfl ?_
  refine hl_v (v_andNot64 rfl rfl) rfl ?_
  refine hl_v (v_assign rfl) rfl ?_
  refine hl_nil ?_
  refine thenQ_n ?_
  refine hw_sub _ (ai_cons (t := 4) rfl ai_nil) ?_
  refine hw_ret ?_
  refine ret_i _ (ra_t rfl ra_nil) ?_
  exact ⟨rfl, rfl⟩

theorem Not1_spec (a b : BitVec 64) (H : Heap) : HC Try.prog 59 [w64 a, w64 b] H (fun v H' => v = w64 (~~~a) ∧ H' = H) := by
  refine hc_of_hw (N := 7) (rs := [(.tmp 4)]) Try.func59 rfl rfl rfl rfl ?_
  refine hw_seq ?_
  refine hw_region ?_
  refine hl_v (v_assign rfl) rfl ?_
  refine hl_nil ?_
  refine thenQ_n ?_
  refine hw_sub _ (ai_cons (t := 0) rfl ai_nil) ?_
  refine hw_seq ?_
  refine hw_region ?_
  refine hl_v (v_move rfl) rfl ?_
  refine hl_v (v_not64 rfl) rfl ?_
  refine hl_v (v_assign rfl) rfl ?_
  refine hl_nil ?_
  refine thenQ_n ?_
  refine hw_sub _ (ai_cons (t := 4) rfl ai_nil) ?_
  refine hw_ret ?_
  refine ret_i _ (ra_t rfl ra_nil) ?_
  exact ⟨rfl, rfl⟩

theorem each_spec {s t : BSet} {g : Nat} {J : BitVec 64 → BitVec 64 → BitVec 64} {H : Heap} (hg : ∀ args w, (callFunc g args).run Try.prog w = .ok (.enter g args) w) (hj : ∀ (a b : BitVec 64) (H : Heap), HC Try.prog g [w64 a, w64 b] H (fun v H' => v = w64 (J a b) ∧ H' = H)) : HC Try.prog 53 [sv s, sv t, .func (.func g) #[] #[]] H (fun v H' => v = sv (.map2 J s t) ∧ Ext [] H H') := by
  have hx0 : Ext [] H H := Ext.refl _
  refine hc_of_hw (N := 24) (rs := [(.cell 6 31)]) Try.func53 rfl rfl rfl rfl ?_
  refine hw_seq ?_
  refine hw_region ?_
  refine hl_h (h_boxS rfl) rfl ?_
  rintro _ H1 ⟨rfl, n2⟩
  have n2s := n2.size
  replace hx0 := Ext.trans hx0 n2.ext
  have n2b := n2.blk
  refine hl_h (h_boxS rfl) rfl ?_
  rintro _ H3 ⟨rfl, n4⟩
  have n4s := n4.size
  replace hx0 := Ext.trans hx0 n4.ext
  replace n2b := Ext.blk n4.ext n2b (by simp)
  have n4b := n4.blk
  refine hl_h (h_allocS Try.zeroValue31) rfl ?_
  rintro _ H5 ⟨rfl, n6⟩
  have n6s := n6.size
  replace hx0 := Ext.trans hx0 n6.ext
  replace n2b := Ext.blk n6.ext n2b (by simp)
  replace n4b := Ext.blk n6.ext n4b (by simp)
  have n6b := n6.blk
  refine hl_nil ?_
  refine thenQ_n ?_
  refine hw_sub _ (ai_cons (t := 2) rfl (ai_cons (t := 3) rfl (ai_cons (t := 4) rfl (ai_cons (t := 6) rfl ai_nil)))) ?_
  refine hw_seq ?_
  refine hw_seq ?_
  refine hw_region ?_
  refine hl_v (v_loadS Try.isAgg31 Try.sizeOf31 rfl (by first | exact n2b | assumption)) rfl ?_
  refine hl_v (v_move rfl) rfl ?_
  refine hl_nil ?_
  refine thenQ_n ?_
  refine hw_sub _ (ai_cons (t := 2) rfl (ai_cons (t := 3) rfl (ai_cons (t := 4) rfl (ai_cons (t := 6) rfl (ai_cons (t := 9) rfl (ai_cons (t := 10) rfl ai_nil)))))) ?_
  refine hw_block ?_
  refine hw_loop (α := Nat) [(2, _), (3, _), (4, _), (6, _), (9, _)] (fun k => [(10, .int .i64 (k : Int))]) (fun k G2 => Ext [] H G2 ∧ Blk G2 H.size (sw (.map2k J s t k)) 31 ∧ Blk G2 H1.size (sw t) 31 ∧ Blk G2 H3.size (sw .zero) 31 ∧ H5.size ≤ G2.size ∧ k ≤ 4) (fun k => 4 - k) 0 (ai_cons (t := 10) rfl (ai_cons (t := 2) rfl (ai_cons (t := 3) rfl (ai_cons (t := 4) rfl (ai_cons (t := 6) rfl (ai_cons (t := 9) rfl ai_nil)))))) ?_ ?_
  · exact ⟨hx0, n2b, n4b, n6b, Nat.le_refl _, Nat.zero_le _⟩
  · intro k G2 hI
    obtain ⟨hx0, n2b, n4b, n6b, hz, hk⟩ := hI
    have hx0z := hx0.size
    refine hw_seq ?_
    refine hw_region ?_
    refine hl_v (v_lss rfl rfl) rfl ?_
    refine hl_nil ?_
    refine thenQ_n ?_
    refine hw_sub _ (ai_cons (t := 2) rfl (ai_cons (t := 3) rfl (ai_cons (t := 4) rfl (ai_cons (t := 6) rfl (ai_cons (t := 9) rfl (ai_cons (t := 10) rfl (ai_cons (t := 11) rfl ai_nil))))))) ?_
    refine hw_seq ?_
    refine hw_cond rfl (fun hc7 => ?_) (fun hc7 => ?_)
    · try simp only [decide_eq_true_eq, decide_eq_false_iff_not, Bool.and_eq_true, Bool.and_eq_false_iff, Bool.or_eq_true, Bool.or_eq_false_iff, Bool.not_eq_true', Bool.not_eq_false', Bool.not_eq_true, Bool.not_eq_false, beq_iff_eq, Int.not_lt, Int.not_le] at hc7
      refine hw_skip ?_
      refine thenQ_n ?_
      refine hw_seq ?_
      refine hw_block ?_
      refine hw_seq ?_
      refine hw_region ?_
      refine hl_v (v_move rfl) rfl ?_
      refine hl_v (v_ixVS Try.underlying31 Try.sizeOf29 Try.isAgg29 rfl rfl (by first | omega | assumption | (simp only [Int.toNat_natCast]; omega) | (simp; done) | (simp at *; omega))) rfl ?_
      refine hl_v (v_assign rfl) rfl ?_
      refine hl_v (v_assign rfl) rfl ?_
      refine hl_nil ?_
      refine thenQ_n ?_
      refine hw_sub _ (ai_cons (t := 2) rfl (ai_cons (t := 3) rfl (ai_cons (t := 4) rfl (ai_cons (t := 6) rfl (ai_cons (t := 7) rfl (ai_cons (t := 8) rfl (ai_cons (t := 9) rfl (ai_cons (t := 10) rfl ai_nil)))))))) ?_
      refine hw_region ?_
      refine hl_v (v_move rfl) rfl ?_
      refine hl_v (v_move rfl) rfl ?_
      refine hl_v (v_move rfl) rfl ?_
      refine hl_v (v_move rfl) rfl ?_
      refine hl_v (v_ixS Try.underlying31 Try.sizeOf29 rfl rfl (by first | omega | assumption | (simp only [Int.toNat_natCast]; omega) | (simp; done) | (simp at *; omega))) rfl ?_
      refine hl_v (v_loadW Try.isAgg29 rfl (by first | exact n4b | assumption) (by first | omega | assumption | (simp only [Int.toNat_natCast]; omega) | (simp; done) | (simp at *; omega))) rfl ?_
      refine hl_v (v_callv (fs := []) (cs := []) hg rfl (evs_cons rfl (evs_cons rfl evs_nil)) (hj _ _ _)) rfl ?_
      refine hl_v (v_ixS Try.underlying31 Try.sizeOf29 rfl rfl (by first | omega | assumption | (simp only [Int.toNat_natCast]; omega) | (simp; done) | (simp at *; omega))) rfl ?_
      refine hl_s (h_storeW Try.sizeOf29 rfl rfl n2b (by first | omega | assumption | (simp only [Int.toNat_natCast]; omega) | (simp; done) | (simp at *; omega))) ?_
      rintro _ H8 p9
      have p9s := p9.size
      replace hx0 := Ext.fresh hx0 p9.ext (by intro b hb; simp at hb; omega)
      replace n4b := Ext.blk p9.ext n4b (by (try simp only [mb, List.mem_singleton] at hb); simp; omega)
      replace n6b := Ext.blk p9.ext n6b (by (try simp only [mb, List.mem_singleton] at hb); simp; omega)
      replace n2b := p9.blk
      refine hl_nil ?_
      refine blockQ_n ?_
      refine thenQ_n ?_
      refine hw_region ?_
      refine hl_v (v_add rfl rfl (by first | omega | assumption | (simp only [Int.toNat_natCast]; omega) | (simp; done) | (simp at *; omega))) rfl ?_
      refine hl_v (v_move rfl) rfl ?_
      refine hl_nil ?_
      refine thenQ_n ?_
      refine ⟨k + 1, (ai_cons (t := 10) rfl (ai_cons (t := 2) rfl (ai_cons (t := 3) rfl (ai_cons (t := 4) rfl (ai_cons (t := 6) rfl (ai_cons (t := 9) rfl ai_nil)))))), ?_, ?_⟩
      · skip
        exact ⟨hx0, (by rw [← BSet.map2k_succ J s t (by omega)]; exact n2b), n4b, n6b, (by omega), by omega⟩
      · omega
    · try simp only [decide_eq_true_eq, decide_eq_false_iff_not, Bool.and_eq_true, Bool.and_eq_false_iff, Bool.or_eq_true, Bool.or_eq_false_iff, Bool.not_eq_true', Bool.not_eq_false', Bool.not_eq_true, Bool.not_eq_false, beq_iff_eq, Int.not_lt, Int.not_le] at hc7
      refine hw_exit ?_
      refine thenQ_e ?_
      refine thenQ_e ?_
      refine blockQ_hit ?_
      refine thenQ_n ?_
      refine hw_seq ?_
      refine hw_region ?_
      refine hl_v (v_loadS Try.isAgg31 Try.sizeOf31 rfl (by first | exact n2b | assumption)) rfl ?_
      refine hl_s (h_storeS Try.sizeOf31 rfl rfl n6b) ?_
      rintro _ H10 p11
      have p11s := p11.size
      replace hx0 := Ext.fresh hx0 p11.ext (by intro b hb; simp at hb; omega)
      replace n2b := Ext.blk p11.ext n2b (by (try simp only [mb, List.mem_singleton] at hb); simp; omega)
      replace n4b := Ext.blk p11.ext n4b (by (try simp only [mb, List.mem_singleton] at hb); simp; omega)
      replace n6b := p11.blk
      refine hl_nil ?_
      refine thenQ_n ?_
      refine hw_sub _ (ai_cons (t := 6) rfl ai_nil) ?_
      refine hw_ret ?_
      refine ret_i _ (ra_c rfl (fun w hw => run_loadVar_at Try.isAgg31 Try.sizeOf31 (Blk.at0 (by assumption)) rfl w hw) ra_nil) ?_
      obtain rfl : k = 4 := by omega
      exact ⟨rfl, hx0⟩

theorem Both_spec {s t : BSet} {H : Heap} : HC Try.prog 35 [sv s, sv t] H (fun v H' => v = sv (.band s t) ∧ Ext [] H H') := by
  have hx0 : Ext [] H H := Ext.refl _
  refine hc_of_hw (N := 8) (rs := [(.cell 4 31)]) Try.func35 rfl rfl rfl rfl ?_
  refine hw_seq ?_
  refine hw_region ?_
  refine hl_h (h_boxS rfl) rfl ?_
  rintro _ H1 ⟨rfl, n2⟩
  have n2s := n2.size
  replace hx0 := Ext.trans hx0 n2.ext
  have n2b := n2.blk
  refine hl_h (h_boxS rfl) rfl ?_
  rintro _ H3 ⟨rfl, n4⟩
  have n4s := n4.size
  replace hx0 := Ext.trans hx0 n4.ext
  replace n2b := Ext.blk n4.ext n2b (by simp)
  have n4b := n4.blk
  refine hl_h (h_allocS Try.zeroValue31) rfl ?_
  rintro _ H5 ⟨rfl, n6⟩
  have n6s := n6.size
  replace hx0 := Ext.trans hx0 n6.ext
  replace n2b := Ext.blk n6.ext n2b (by simp)
  replace n4b := Ext.blk n6.ext n4b (by simp)
  have n6b := n6.blk
  refine hl_nil ?_
  refine thenQ_n ?_
  refine hw_sub _ (ai_cons (t := 2) rfl (ai_cons (t := 3) rfl (ai_cons (t := 4) rfl ai_nil))) ?_
  refine hw_seq ?_
  refine hw_region ?_
  refine hl_v (v_loadS Try.isAgg31 Try.sizeOf31 rfl (by first | exact n2b | assumption)) rfl ?_
  refine hl_v (v_loadS Try.isAgg31 Try.sizeOf31 rfl (by first | exact n4b | assumption)) rfl ?_
  refine hl_h (h_call Try.call53 (evs_cons rfl (evs_cons rfl (evs_cons rfl evs_nil))) (each_spec Try.call58 Both1_spec)) rfl ?_
  rintro _ H7 ⟨rfl, n8⟩
  have n8s := n8.size
  replace hx0 := Ext.trans hx0 n8
  replace n2b := Ext.blk n8 n2b (by simp)
  replace n4b := Ext.blk n8 n4b (by simp)
  replace n6b := Ext.blk n8 n6b (by simp)
  refine hl_s (h_storeS Try.sizeOf31 rfl rfl n6b) ?_
  rintro _ H9 p10
  have p10s := p10.size
  replace hx0 := Ext.fresh hx0 p10.ext (by intro b hb; simp at hb; omega)
  replace n2b := Ext.blk p10.ext n2b (by (try simp only [mb, List.mem_singleton] at hb); simp; omega)
  replace n4b := Ext.blk p10.ext n4b (by (try simp only [mb, List.mem_singleton] at hb); simp; omega)
  replace n6b := p10.blk
  refine hl_nil ?_
  refine thenQ_n ?_
  refine hw_sub _ (ai_cons (t := 4) rfl ai_nil) ?_
  refine hw_ret ?_
  refine ret_i _ (ra_c rfl (fun w hw => run_loadVar_at Try.isAgg31 Try.sizeOf31 (Blk.at0 (by assumption)) rfl w hw) ra_nil) ?_
  exact ⟨rfl, hx0⟩

theorem Any_spec {s t : BSet} {H : Heap} : HC Try.prog 25 [sv s, sv t] H (fun v H' => v = sv (.bor s t) ∧ Ext [] H H') := by
  have hx0 : Ext [] H H := Ext.refl _
  refine hc_of_hw (N := 8) (rs := [(.cell 4 31)]) Try.func25 rfl rfl rfl rfl ?_
  refine hw_seq ?_
  refine hw_region ?_
  refine hl_h (h_boxS rfl) rfl ?_
  rintro _ H1 ⟨rfl, n2⟩
  have n2s := n2.size
  replace hx0 := Ext.trans hx0 n2.ext
  have n2b := n2.blk
  refine hl_h (h_boxS rfl) rfl ?_
  rintro _ H3 ⟨rfl, n4⟩
  have n4s := n4.size
  replace hx0 := Ext.trans hx0 n4.ext
  replace n2b := Ext.blk n4.ext n2b (by simp)
  have n4b := n4.blk
  refine hl_h (h_allocS Try.zeroValue31) rfl ?_
  rintro _ H5 ⟨rfl, n6⟩
  have n6s := n6.size
  replace hx0 := Ext.trans hx0 n6.ext
  replace n2b := Ext.blk n6.ext n2b (by simp)
  replace n4b := Ext.blk n6.ext n4b (by simp)
  have n6b := n6.blk
  refine hl_nil ?_
  refine thenQ_n ?_
  refine hw_sub _ (ai_cons (t := 2) rfl (ai_cons (t := 3) rfl (ai_cons (t := 4) rfl ai_nil))) ?_
  refine hw_seq ?_
  refine hw_region ?_
  refine hl_v (v_loadS Try.isAgg31 Try.sizeOf31 rfl (by first | exact n2b | assumption)) rfl ?_
  refine hl_v (v_loadS Try.isAgg31 Try.sizeOf31 rfl (by first | exact n4b | assumption)) rfl ?_
  refine hl_h (h_call Try.call53 (evs_cons rfl (evs_cons rfl (evs_cons rfl evs_nil))) (each_spec Try.call54 Any1_spec)) rfl ?_
  rintro _ H7 ⟨rfl, n8⟩
  have n8s := n8.size
  replace hx0 := Ext.trans hx0 n8
  replace n2b := Ext.blk n8 n2b (by simp)
  replace n4b := Ext.blk n8 n4b (by simp)
  replace n6b := Ext.blk n8 n6b (by simp)
  refine hl_s (h_storeS Try.sizeOf31 rfl rfl n6b) ?_
  rintro _ H9 p10
  have p10s := p10.size
  replace hx0 := Ext.fresh hx0 p10.ext (by intro b hb; simp at hb; omega)
  replace n2b := Ext.blk p10.ext n2b (by (try simp only [mb, List.mem_singleton] at hb); simp; omega)
  replace n4b := Ext.blk p10.ext n4b (by (try simp only [mb, List.mem_singleton] at hb); simp; omega)
  replace n6b := p10.blk
  refine hl_nil ?_
  refine thenQ_n ?_
  refine hw_sub _ (ai_cons (t := 4) rfl ai_nil) ?_
  refine hw_ret ?_
  refine ret_i _ (ra_c rfl (fun w hw => run_loadVar_at Try.isAgg31 Try.sizeOf31 (Blk.at0 (by assumption)) rfl w hw) ra_nil) ?_
  exact ⟨rfl, hx0⟩

theorem Less_spec {s t : BSet} {H : Heap} : HC Try.prog 37 [sv s, sv t] H (fun v H' => v = sv (.bless s t) ∧ Ext [] H H') := by
  have hx0 : Ext [] H H := Ext.refl _
  refine hc_of_hw (N := 8) (rs := [(.cell 4 31)]) Try.func37 rfl rfl rfl rfl ?_
  refine hw_seq ?_
  refine hw_region ?_
  refine hl_h (h_boxS rfl) rfl ?_
  rintro _ H1 ⟨rfl, n2⟩
  have n2s := n2.size
  replace hx0 := Ext.trans hx0 n2.ext
  have n2b := n2.blk
  refine hl_h (h_boxS rfl) rfl ?_
  rintro _ H3 ⟨rfl, n4⟩
  have n4s := n4.size
  replace hx0 := Ext.trans hx0 n4.ext
  replace n2b := Ext.blk n4.ext n2b (by simp)
  have n4b := n4.blk
  refine hl_h (h_allocS Try.zeroValue31) rfl ?_
  rintro _ H5 ⟨rfl, n6⟩
  have n6s := n6.size
  replace hx0 := Ext.trans hx0 n6.ext
  replace n2b := Ext.blk n6.ext n2b (by simp)
  replace n4b := Ext.blk n6.ext n4b (by simp)
  have n6b := n6.blk
  refine hl_nil ?_
  refine thenQ_n ?_
  refine hw_sub _ (ai_cons (t := 2) rfl (ai_cons (t := 3) rfl (ai_cons (t := 4) rfl ai_nil))) ?_
  refine hw_seq ?_
  refine hw_region ?_
  refine hl_v (v_loadS Try.isAgg31 Try.sizeOf31 rfl (by first | exact n2b | assumption)) rfl ?_
  refine hl_v (v_loadS Try.isAgg31 Try.sizeOf31 rfl (by first | exact n4b | assumption)) rfl ?_
  refine hl_h (h_call Try.call53 (evs_cons rfl (evs_cons rfl (evs_cons rfl evs_nil))) (each_spec Try.call60 Less1_spec)) rfl ?_
  rintro _ H7 ⟨rfl, n8⟩
  have n8s := n8.size
  replace hx0 := Ext.trans hx0 n8
  replace n2b := Ext.blk n8 n2b (by simp)
  replace n4b := Ext.blk n8 n4b (by simp)
  replace n6b := Ext.blk n8 n6b (by simp)
  refine hl_s (h_storeS Try.sizeOf31 rfl rfl n6b) ?_
  rintro _ H9 p10
  have p10s := p10.size
  replace hx0 := Ext.fresh hx0 p10.ext (by intro b hb; simp at hb; omega)
  replace n2b := Ext.blk p10.ext n2b (by (try simp only [mb, List.mem_singleton] at hb); simp; omega)
  replace n4b := Ext.blk p10.ext n4b (by (try simp only [mb, List.mem_singleton] at hb); simp; omega)
  replace n6b := p10.blk
  refine hl_nil ?_
  refine thenQ_n ?_
  refine hw_sub _ (ai_cons (t := 4) rfl ai_nil) ?_
  refine hw_ret ?_
  refine ret_i _ (ra_c rfl (fun w hw => run_loadVar_at Try.isAgg31 Try.sizeOf31 (Blk.at0 (by assumption)) rfl w hw) ra_nil) ?_
  exact ⟨rfl, hx0⟩

theorem Not_spec {s : BSet} {H : Heap} : HC Try.prog 36 [sv s] H (fun v H' => v = sv (.bnot s) ∧ Ext [] H H') := by
  have hx0 : Ext [] H H := Ext.refl _
  refine hc_of_hw (N := 6) (rs := [(.cell 2 31)]) Try.func36 rfl rfl rfl rfl ?_
  refine hw_seq ?_
  refine hw_region ?_
  refine hl_h (h_boxS rfl) rfl ?_
  rintro _ H1 ⟨rfl, n2⟩
  have n2s := n2.size
  replace hx0 := Ext.trans hx0 n2.ext
  have n2b := n2.blk
  refine hl_h (h_allocS Try.zeroValue31) rfl ?_
  rintro _ H3 ⟨rfl, n4⟩
  have n4s := n4.size
  replace hx0 := Ext.trans hx0 n4.ext
  replace n2b := Ext.blk n4.ext n2b (by simp)
  have n4b := n4.blk
  refine hl_nil ?_
  refine thenQ_n ?_
  refine hw_sub _ (ai_cons (t := 1) rfl (ai_cons (t := 2) rfl ai_nil)) ?_
  refine hw_seq ?_
  refine hw_region ?_
  refine hl_v (v_loadS Try.isAgg31 Try.sizeOf31 rfl (by first | exact n2b | assumption)) rfl ?_
  refine hl_v (v_loadS Try.isAgg31 Try.sizeOf31 rfl (by first | exact n2b | assumption)) rfl ?_
  refine hl_h (h_call Try.call53 (evs_cons rfl (evs_cons rfl (evs_cons rfl evs_nil))) (each_spec Try.call59 Not1_spec)) rfl ?_
  rintro _ H5 ⟨rfl, n6⟩
  have n6s := n6.size
  replace hx0 := Ext.trans hx0 n6
  replace n2b := Ext.blk n6 n2b (by simp)
  replace n4b := Ext.blk n6 n4b (by simp)
  refine hl_s (h_storeS Try.sizeOf31 rfl rfl n4b) ?_
  rintro _ H7 p8
  have p8s := p8.size
  replace hx0 := Ext.fresh hx0 p8.ext (by intro b hb; simp at hb; omega)
  replace n2b := Ext.blk p8.ext n2b (by (try simp only [mb, List.mem_singleton] at hb); simp; omega)
  replace n4b := p8.blk
  refine hl_nil ?_
  refine thenQ_n ?_
  refine hw_sub _ (ai_cons (t := 2) rfl ai_nil) ?_
  refine hw_ret ?_
  refine ret_i _ (ra_c rfl (fun w hw => run_loadVar_at Try.isAgg31 Try.sizeOf31 (Blk.at0 (by assumption)) rfl w hw) ra_nil) ?_
  exact ⟨rfl, hx0⟩

theorem Has_spec {s : BSet} {c : UInt8} {H : Heap} : HC Try.prog 22 [sv s, .int .u8 c.toNat] H (fun v H' => v = .bool (s.has c.toNat) ∧ Ext [] H H') := by
  have hx0 : Ext [] H H := Ext.refl _
  have hc := c.toNat_lt
  refine hc_of_hw (N := 14) (rs := [(.tmp 4)]) Try.func22 rfl rfl rfl rfl ?_
  refine hw_seq ?_
  refine hw_region ?_
  refine hl_h (h_boxS rfl) rfl ?_
  rintro _ H1 ⟨rfl, n2⟩
  have n2s := n2.size
  replace hx0 := Ext.trans hx0 n2.ext
  have n2b := n2.blk
  refine hl_v (v_assign rfl) rfl ?_
  refine hl_nil ?_
  refine thenQ_n ?_
  refine hw_sub _ (ai_cons (t := 1) rfl (ai_cons (t := 2) rfl ai_nil)) ?_
  refine hw_seq ?_
  refine hw_region ?_
  refine hl_v (v_move rfl) rfl ?_
  refine hl_v (v_quo8 rfl rfl (by first | omega | assumption | (simp only [Int.toNat_natCast]; omega) | (simp; done) | (simp at *; omega))) rfl ?_
  refine hl_v (v_ixS Try.underlying31 Try.sizeOf29 rfl rfl (by first | omega | assumption | (simp only [Int.toNat_natCast]; omega) | (simp; done) | (simp at *; omega))) rfl ?_
  refine hl_v (v_loadW Try.isAgg29 rfl (by first | exact n2b | assumption) (by first | omega | assumption | (simp only [Int.toNat_natCast]; omega) | (simp; done) | (simp at *; omega))) rfl ?_
  refine hl_v (v_move rfl) rfl ?_
  refine hl_v (v_rem8 rfl rfl (by first | omega | assumption | (simp only [Int.toNat_natCast]; omega) | (simp; done) | (simp at *; omega))) rfl ?_
  refine hl_v (v_shr64 rfl rfl (by first | omega | assumption | (simp only [Int.toNat_natCast]; omega) | (simp; done) | (simp at *; omega))) rfl ?_
  refine hl_v (v_and64 rfl (show _ = some (w64 1#64) from rfl)) rfl ?_
  refine hl_v (v_eql64 rfl (show _ = some (w64 1#64) from rfl)) rfl ?_
  refine hl_v (v_assign rfl) rfl ?_
  refine hl_nil ?_
  refine thenQ_n ?_
  refine hw_sub _ (ai_cons (t := 4) rfl ai_nil) ?_
  refine hw_ret ?_
  refine ret_i _ (ra_t rfl ra_nil) ?_
  exact ⟨congrArg Value.bool (BSet.has_shr s hc), hx0⟩

theorem power_spec {n : Int} {H : Heap} (h0 : 0 ≤ n ∧ n ≤ 1000) : HC Try.prog 51 [.int .i64 n] H (fun v H' => v = w64 (1#64 <<< n.toNat) ∧ H' = H) := by
  refine hc_of_hw (N := 13) (rs := [(.tmp 2)]) Try.func51 rfl rfl rfl rfl ?_
  refine hw_seq ?_
  refine hw_region ?_
  refine hl_v (v_assign rfl) rfl ?_
  refine hl_nil ?_
  refine thenQ_n ?_
  refine hw_sub _ (ai_cons (t := 0) rfl ai_nil) ?_
  refine hw_seq ?_
  refine hw_region ?_
  refine hl_v (v_assign rfl) rfl ?_
  refine hl_nil ?_
  refine thenQ_n ?_
  refine hw_sub _ (ai_cons (t := 0) rfl (ai_cons (t := 3) rfl ai_nil)) ?_
  refine hw_seq ?_
  refine hw_seq ?_
  refine hw_region ?_
  refine hl_v (v_assign rfl) rfl ?_
  refine hl_nil ?_
  refine thenQ_n ?_
  refine hw_sub _ (ai_cons (t := 0) rfl (ai_cons (t := 3) rfl (ai_cons (t := 4) rfl ai_nil))) ?_
  refine hw_block ?_
  refine hw_loop (α := Nat) [(0, _)] (fun k => [(3, w64 (1#64 <<< k)), (4, .int .i64 (k : Int))]) (fun k G3 => G3 = H ∧ (k : Int) ≤ n) (fun k => n.toNat - k) 0 (ai_cons (t := 3) rfl (ai_cons (t := 4) rfl (ai_cons (t := 0) rfl ai_nil))) ?_ ?_
  · exact ⟨rfl, h0.1⟩
  · intro k G3 hI
    obtain ⟨rfl, hk⟩ := hI
    refine hw_seq ?_
    refine hw_seq ?_
    refine hw_region ?_
    refine hl_v (v_move rfl) rfl ?_
    refine hl_v (v_move rfl) rfl ?_
    refine hl_v (v_lss rfl rfl) rfl ?_
    refine hl_nil ?_
    refine thenQ_n ?_
    refine hw_sub _ (ai_cons (t := 0) rfl (ai_cons (t := 3) rfl (ai_cons (t := 4) rfl (ai_cons (t := 7) rfl ai_nil)))) ?_
    refine hw_cond rfl (fun hc1 => ?_) (fun hc1 => ?_)
    · try simp only [decide_eq_true_eq, decide_eq_false_iff_not, Bool.and_eq_true, Bool.and_eq_false_iff, Bool.or_eq_true, Bool.or_eq_false_iff, Bool.not_eq_true', Bool.not_eq_false', Bool.not_eq_true, Bool.not_eq_false, beq_iff_eq, Int.not_lt, Int.not_le] at hc1
      refine hw_skip ?_
      refine thenQ_n ?_
      refine hw_seq ?_
      refine hw_block ?_
      refine hw_region ?_
      refine hl_v (v_move rfl) rfl ?_
      refine hl_v (v_mul64 (show _ = some (w64 2#64) from rfl) rfl) rfl ?_
      refine hl_v (v_assign rfl) rfl ?_
      refine hl_nil ?_
      refine blockQ_n ?_
      refine thenQ_n ?_
      refine hw_region ?_
      refine hl_v (v_move rfl) rfl ?_
      refine hl_v (v_add rfl rfl (by first | omega | assumption | (simp only [Int.toNat_natCast]; omega) | (simp; done) | (simp at *; omega))) rfl ?_
      refine hl_v (v_assign rfl) rfl ?_
      refine hl_nil ?_
      refine thenQ_n ?_
      refine ⟨k + 1, (ai_cons (t := 3) (by first | (show some _ = some _; rw [BSet.pow_shl]) | rfl) (ai_cons (t := 4) (by first | (show some _ = some _; rw [BSet.pow_shl]) | rfl) (ai_cons (t := 0) rfl ai_nil))), ?_, ?_⟩
      · exact ⟨rfl, by omega⟩
      · omega
    · try simp only [decide_eq_true_eq, decide_eq_false_iff_not, Bool.and_eq_true, Bool.and_eq_false_iff, Bool.or_eq_true, Bool.or_eq_false_iff, Bool.not_eq_true', Bool.not_eq_false', Bool.not_eq_true, Bool.not_eq_false, beq_iff_eq, Int.not_lt, Int.not_le] at hc1
      refine hw_exit ?_
      refine thenQ_e ?_
      refine thenQ_e ?_
      refine blockQ_hit ?_
      refine thenQ_n ?_
      refine hw_seq ?_
      refine hw_region ?_
      refine hl_v (v_move rfl) rfl ?_
      refine hl_v (v_assign rfl) rfl ?_
      refine hl_nil ?_
      refine thenQ_n ?_
      refine hw_sub _ (ai_cons (t := 2) rfl ai_nil) ?_
      refine hw_ret ?_
      refine ret_i _ (ra_t rfl ra_nil) ?_
      refine ⟨?_, rfl⟩
      rw [show n.toNat = k by omega]; rfl

theorem rHas_spec {s : BSet} {b : Nat} {H : Heap} (hb : b < 256) : HC Try.prog 23 [sv s, .int .i64 b] H (fun v H' => v = .bool (s.has b) ∧ Ext [] H H') := by
  have hx0 : Ext [] H H := Ext.refl _
  have hne : 1#64 <<< ((b : Int) % 64).toNat ≠ 0#64 := BSet.shl_ne _ (by omega)
  refine hc_of_hw (N := 15) (rs := [(.tmp 4)]) Try.func23 rfl rfl rfl rfl ?_
  refine hw_seq ?_
  refine hw_region ?_
  refine hl_h (h_boxS rfl) rfl ?_
  rintro _ H1 ⟨rfl, n2⟩
  have n2s := n2.size
  replace hx0 := Ext.trans hx0 n2.ext
  have n2b := n2.blk
  refine hl_v (v_assign rfl) rfl ?_
  refine hl_nil ?_
  refine thenQ_n ?_
  refine hw_sub _ (ai_cons (t := 1) rfl (ai_cons (t := 2) rfl ai_nil)) ?_
  refine hw_seq ?_
  refine hw_quiet Try.mixed (by kernel_rfl) ?_
  refine hq_v (v_move rfl) rfl ?_
  refine hq_v (v_quo rfl rfl (by first | omega | assumption | (simp only [Int.toNat_natCast]; omega) | (simp; done) | (simp at *; omega))) rfl ?_
  refine hq_v (v_ixS Try.underlying31 Try.sizeOf29 rfl rfl (by first | omega | assumption | (simp only [Int.toNat_natCast]; omega) | (simp; done) | (simp at *; omega))) rfl ?_
  refine hq_v (v_loadW Try.isAgg29 rfl (by first | exact n2b | assumption) (by first | omega | assumption | (simp only [Int.toNat_natCast]; omega) | (simp; done) | (simp at *; omega))) rfl ?_
  refine hq_v (v_move rfl) rfl ?_
  refine hq_v (v_rem rfl rfl (by first | omega | assumption | (simp only [Int.toNat_natCast]; omega) | (simp; done) | (simp at *; omega))) rfl ?_
  refine hq_v (v_call Try.call51 (evs_cons rfl evs_nil) (power_spec (by first | omega | assumption | (simp only [Int.toNat_natCast]; omega) | (simp; done) | (simp at *; omega)))) rfl ?_
  refine hq_v (v_uquo64 rfl rfl (by first | omega | assumption | (simp only [Int.toNat_natCast]; omega) | (simp; done) | (simp at *; omega))) rfl ?_
  refine hq_v (v_urem64 rfl (show _ = some (w64 2#64) from rfl) (by decide)) rfl ?_
  refine hq_v (v_eql64 rfl (show _ = some (w64 1#64) from rfl)) rfl ?_
  refine hq_v (v_assign rfl) rfl ?_
  refine hq_nil ?_
  refine thenQ_n ?_
  refine hw_sub _ (ai_cons (t := 4) rfl ai_nil) ?_
  refine hw_ret ?_
  refine ret_i _ (ra_t rfl ra_nil) ?_
  exact ⟨congrArg Value.bool (BSet.has_quo s hb), hx0⟩

theorem Make_spec {v0 : Value} {l : List Bool} {S : Nat → Prop} {H : Heap} (hs : Sl fBool.rep H S v0 l) (hS : ∀ b, S b → b < H.size) (hl : l.length = 256) : HC Try.prog 50 [v0] H (fun v H' => v = sv (.ofFn (fun m => l.getD m false) 256) ∧ Ext [] H H') := by
  have hx0 : Ext [] H H := Ext.refl _
  refine hc_of_hw (N := 25) (rs := [(.cell 2 31)]) Try.func50 rfl rfl rfl rfl ?_
  refine hw_seq ?_
  refine hw_region ?_
  refine hl_h (h_allocS Try.zeroValue31) rfl ?_
  rintro _ H1 ⟨rfl, n2⟩
  have n2s := n2.size
  replace hx0 := Ext.trans hx0 n2.ext
  replace hs := Sl.ext0 hs n2.ext
  have n2b := n2.blk
  refine hl_nil ?_
  refine thenQ_n ?_
  refine hw_sub _ (ai_cons (t := 0) rfl (ai_cons (t := 2) rfl ai_nil)) ?_
  refine hw_seq ?_
  refine hw_region ?_
  refine hl_h (h_allocS Try.zeroValue31) rfl ?_
  rintro _ H3 ⟨rfl, n4⟩
  have n4s := n4.size
  replace hx0 := Ext.trans hx0 n4.ext
  replace hs := Sl.ext0 hs n4.ext
  replace n2b := Ext.blk n4.ext n2b (by simp)
  have n4b := n4.blk
  refine hl_nil ?_
  refine thenQ_n ?_
  refine hw_sub _ (ai_cons (t := 0) rfl (ai_cons (t := 2) rfl (ai_cons (t := 3) rfl ai_nil))) ?_
  refine hw_seq ?_
  refine hw_seq ?_
  refine hw_region ?_
  refine hl_v (v_assign rfl) rfl ?_
  refine hl_nil ?_
  refine thenQ_n ?_
  refine hw_sub _ (ai_cons (t := 0) rfl (ai_cons (t := 2) rfl (ai_cons (t := 3) rfl (ai_cons (t := 4) rfl ai_nil)))) ?_
  refine hw_block ?_
  refine hw_loop (α := Nat) [(0, _), (2, _), (3, _)] (fun k => [(4, .int .i64 (k : Int))]) (fun k G3 => Ext [] H G3 ∧ Sl fBool.rep G3 S v0 l ∧ Blk G3 H.size (sw .zero) 31 ∧ Blk G3 H1.size (sw (.ofFn (fun m => l.getD m false) k)) 31 ∧ H3.size ≤ G3.size ∧ k ≤ 256) (fun k => 256 - k) 0 (ai_cons (t := 4) rfl (ai_cons (t := 0) rfl (ai_cons (t := 2) rfl (ai_cons (t := 3) rfl ai_nil)))) ?_ ?_
  · exact ⟨hx0, hs, n2b, n4b, Nat.le_refl _, Nat.zero_le _⟩
  · intro k G3 hI
    obtain ⟨hx0, hs, n2b, n4b, hz, hk⟩ := hI
    have hx0z := hx0.size
    refine hw_seq ?_
    refine hw_seq ?_
    refine hw_region ?_
    refine hl_v (v_move rfl) rfl ?_
    refine hl_v (v_lss rfl rfl) rfl ?_
    refine hl_nil ?_
    refine thenQ_n ?_
    refine hw_sub _ (ai_cons (t := 0) rfl (ai_cons (t := 2) rfl (ai_cons (t := 3) rfl (ai_cons (t := 4) rfl (ai_cons (t := 6) rfl ai_nil))))) ?_
    refine hw_cond rfl (fun hc5 => ?_) (fun hc5 => ?_)
    · try simp only [decide_eq_true_eq, decide_eq_false_iff_not, Bool.and_eq_true, Bool.and_eq_false_iff, Bool.or_eq_true, Bool.or_eq_false_iff, Bool.not_eq_true', Bool.not_eq_false', Bool.not_eq_true, Bool.not_eq_false, beq_iff_eq, Int.not_lt, Int.not_le] at hc5
      refine hw_skip ?_
      refine thenQ_n ?_
      refine hw_seq ?_
      refine hw_block ?_
      refine hw_seq ?_
      refine hw_region ?_
      refine hl_v (v_move rfl) rfl ?_
      refine hl_v (v_move rfl) rfl ?_
      refine hl_v (v_ixL Try.underlying71 Try.sizeOf4 rfl rfl (by first | assumption | exact Ow.sl0 (by assumption)) (by first | omega | assumption | (simp only [Int.toNat_natCast]; omega) | (simp; done) | (simp at *; omega))) rfl ?_
      refine hl_v (v_loadSc Try.isAgg4 rfl (by first | assumption | exact Ow.sl0 (by assumption)) rfl (by first | omega | assumption | (simp only [Int.toNat_natCast]; omega) | (simp; done) | (simp at *; omega)) rfl) rfl ?_
      refine hl_nil ?_
      refine thenQ_n ?_
      refine hw_sub _ (ai_cons (t := 0) rfl (ai_cons (t := 2) rfl (ai_cons (t := 3) rfl (ai_cons (t := 4) rfl (ai_cons (t := 12) rfl ai_nil))))) ?_
      refine hw_cond rfl (fun hc6 => ?_) (fun hc6 => ?_)
      · try simp only [decide_eq_true_eq, decide_eq_false_iff_not, Bool.and_eq_true, Bool.and_eq_false_iff, Bool.or_eq_true, Bool.or_eq_false_iff, Bool.not_eq_true', Bool.not_eq_false', Bool.not_eq_true, Bool.not_eq_false, beq_iff_eq, Int.not_lt, Int.not_le] at hc6
        have hb : (BSet.ofFn (fun m => l.getD m false) k).has k = false := by rw [BSet.has_ofFn _ _ hk (by omega)]; simp
        refine hw_held2 11 (fun H' => Ext [] G3 H') (.step 0 false (.step 1 false (.step 2 false (.step 3 false (.step 4 false (.step 5 false (.step 6 false (.step 7 false (.step 8 true (.step 9 false (.step 10 false .done))))))))))) (.step 11 true .done) Try.mixed (by kernel_rfl) ?_ ?_
        · exact Ext.refl _
        have xr7 : Ext [] G3 G3 := Ext.refl _
        have hsR := hs
        have n2bR := n2b
        have n4bR := n4b
        refine hd_v rfl (fun H' hS => (v_move rfl)) rfl ?_
        refine hd_v rfl (fun H' hS => (v_quo rfl rfl (by first | omega | assumption | (simp only [Int.toNat_natCast]; omega) | (simp; done) | (simp at *; omega)))) rfl ?_
        refine hd_v rfl (fun H' hS => (v_move rfl)) rfl ?_
        refine hd_v rfl (fun H' hS => (v_quo rfl rfl (by first | omega | assumption | (simp only [Int.toNat_natCast]; omega) | (simp; done) | (simp at *; omega)))) rfl ?_
        refine hd_v rfl (fun H' hS => (v_ixS Try.underlying31 Try.sizeOf29 rfl rfl (by first | omega | assumption | (simp only [Int.toNat_natCast]; omega) | (simp; done) | (simp at *; omega)))) rfl ?_
        refine hd_v rfl (fun H' hS => (v_loadW Try.isAgg29 rfl (by first | exact Ext.blk hS n4bR (by simp) | exact n4b | exact Ext.blk hS (by first | assumption | exact Ext.blk hS (by assumption) (by simp) | exact Sl.ext0 (by assumption) hS | exact Sl.ext0 (Ow.sl0 (by assumption)) hS) (by simp)) (by first | omega | assumption | (simp only [Int.toNat_natCast]; omega) | (simp; done) | (simp at *; omega)))) rfl ?_
        refine hd_v rfl (fun H' hS => (v_move rfl)) rfl ?_
        refine hd_v rfl (fun H' hS => (v_rem rfl rfl (by first | omega | assumption | (simp only [Int.toNat_natCast]; omega) | (simp; done) | (simp at *; omega)))) rfl ?_
        refine hd_h (OpV.toH (v_call Try.call51 (evs_cons rfl evs_nil) (power_spec (by first | omega | assumption | (simp only [Int.toNat_natCast]; omega) | (simp; done) | (simp at *; omega))))) (fun _ _ hR => hR.2 ▸ xr7) rfl ?_
        rintro _ _ ⟨rfl, rfl⟩
        refine hd_v rfl (fun H' hS => (v_add64 rfl rfl)) rfl ?_
        refine hd_v rfl (fun H' hS => (v_ixS Try.underlying31 Try.sizeOf29 rfl rfl (by first | omega | assumption | (simp only [Int.toNat_natCast]; omega) | (simp; done) | (simp at *; omega)))) rfl ?_
        refine hd_nil ?_
        refine hd_s (h_storeW Try.sizeOf29 rfl rfl n4b (by first | omega | assumption | (simp only [Int.toNat_natCast]; omega) | (simp; done) | (simp at *; omega))) (fun _ _ _ => trivial) ?_
        rintro _ H8 p9
        have p9s := p9.size
        replace hx0 := Ext.fresh hx0 p9.ext (by intro b hb; simp at hb; omega)
        replace hs := Sl.ext hs p9.ext (by intro b hb; (try have hSb := hS b hb); (try simp only [mb, List.mem_singleton] at hb); simp; omega)
        replace n2b := Ext.blk p9.ext n2b (by (try simp only [mb, List.mem_singleton] at hb); simp; omega)
        replace n4b := p9.blk
        refine hd_nil ?_
        refine blockQ_n ?_
        refine thenQ_n ?_
        refine hw_region ?_
        refine hl_v (v_move rfl) rfl ?_
        refine hl_v (v_add rfl rfl (by first | omega | assumption | (simp only [Int.toNat_natCast]; omega) | (simp; done) | (simp at *; omega))) rfl ?_
        refine hl_v (v_assign rfl) rfl ?_
        refine hl_nil ?_
        refine thenQ_n ?_
        refine ⟨k + 1, (ai_cons (t := 4) rfl (ai_cons (t := 0) rfl (ai_cons (t := 2) rfl (ai_cons (t := 3) rfl ai_nil)))), ?_, ?_⟩
        · skip
          exact ⟨hx0, hs, n2b, (by first | (rw [BSet.ofFn_succ, if_pos (by assumption), ← BSet.add_bit _ hb]; exact n4b) | (rw [BSet.ofFn_succ, if_neg (by rw [Bool.not_eq_true]; assumption)]; exact n4b)), (by omega), by omega⟩
        · omega
      · try simp only [decide_eq_true_eq, decide_eq_false_iff_not, Bool.and_eq_true, Bool.and_eq_false_iff, Bool.or_eq_true, Bool.or_eq_false_iff, Bool.not_eq_true', Bool.not_eq_false', Bool.not_eq_true, Bool.not_eq_false, beq_iff_eq, Int.not_lt, Int.not_le] at hc6
        refine hw_skip ?_
        refine blockQ_n ?_
        refine thenQ_n ?_
        refine hw_region ?_
        refine hl_v (v_move rfl) rfl ?_
        refine hl_v (v_add rfl rfl (by first | omega | assumption | (simp only [Int.toNat_natCast]; omega) | (simp; done) | (simp at *; omega))) rfl ?_
        refine hl_v (v_assign rfl) rfl ?_
        refine hl_nil ?_
        refine thenQ_n ?_
        refine ⟨k + 1, (ai_cons (t := 4) rfl (ai_cons (t := 0) rfl (ai_cons (t := 2) rfl (ai_cons (t := 3) rfl ai_nil)))), ?_, ?_⟩
        · skip
          exact ⟨hx0, hs, n2b, (by first | (rw [BSet.ofFn_succ, if_pos (by assumption), ← BSet.add_bit _ hb]; exact n4b) | (rw [BSet.ofFn_succ, if_neg (by rw [Bool.not_eq_true]; assumption)]; exact n4b)), (by omega), by omega⟩
        · omega
    · try simp only [decide_eq_true_eq, decide_eq_false_iff_not, Bool.and_eq_true, Bool.and_eq_false_iff, Bool.or_eq_true, Bool.or_eq_false_iff, Bool.not_eq_true', Bool.not_eq_false', Bool.not_eq_true, Bool.not_eq_false, beq_iff_eq, Int.not_lt, Int.not_le] at hc5
      refine hw_exit ?_
      refine thenQ_e ?_
      refine thenQ_e ?_
      refine blockQ_hit ?_
      refine thenQ_n ?_
      refine hw_seq ?_
      refine hw_region ?_
      refine hl_v (v_loadS Try.isAgg31 Try.sizeOf31 rfl (by first | exact n4b | assumption)) rfl ?_
      refine hl_s (h_storeS Try.sizeOf31 rfl rfl n2b) ?_
      rintro _ H10 p11
      have p11s := p11.size
      replace hx0 := Ext.fresh hx0 p11.ext (by intro b hb; simp at hb; omega)
      replace hs := Sl.ext hs p11.ext (by intro b hb; (try have hSb := hS b hb); (try simp only [mb, List.mem_singleton] at hb); simp; omega)
      replace n4b := Ext.blk p11.ext n4b (by (try simp only [mb, List.mem_singleton] at hb); simp; omega)
      replace n2b := p11.blk
      refine hl_nil ?_
      refine thenQ_n ?_
      refine hw_sub _ (ai_cons (t := 2) rfl ai_nil) ?_
      refine hw_ret ?_
      refine ret_i _ (ra_c rfl (fun w hw => run_loadVar_at Try.isAgg31 Try.sizeOf31 (Blk.at0 (by assumption)) rfl w hw) ra_nil) ?_
      obtain rfl : k = 256 := by omega
      exact ⟨rfl, hx0⟩

theorem rOf_spec {v0 : Value} {l : List UInt8} {S : Nat → Prop} {H : Heap} (hs : Sl fByte.rep H S v0 l) (hS : ∀ b, S b → b < H.size) : HC Try.prog 19 [v0] H (fun v H' => v = sv (.ofL l) ∧ Ext [] H H') := by
  have hx0 : Ext [] H H := Ext.refl _
  have hcap := hs.cap
  refine hc_of_hw (N := 20) (rs := [(.cell 2 31)]) Try.func19 rfl rfl rfl rfl ?_
  refine hw_seq ?_
  refine hw_region ?_
  refine hl_h (h_allocS Try.zeroValue31) rfl ?_
  rintro _ H1 ⟨rfl, n2⟩
  have n2s := n2.size
  replace hx0 := Ext.trans hx0 n2.ext
  replace hs := Sl.ext0 hs n2.ext
  have n2b := n2.blk
  refine hl_nil ?_
  refine thenQ_n ?_
  refine hw_sub _ (ai_cons (t := 0) rfl (ai_cons (t := 2) rfl ai_nil)) ?_
  refine hw_seq ?_
  refine hw_region ?_
  refine hl_h (h_makeSlice (g := fBool) (d := default) (B := H1.size) Try.underlying71 Try.type4 rfl rfl rfl (by decide) rfl rfl (by first | omega | assumption | (simp only [Int.toNat_natCast]; omega) | (simp; done) | (simp at *; omega)) (by first | omega | assumption | (simp only [Int.toNat_natCast]; omega) | (simp; done) | (simp at *; omega)) (by rw [show Try.t4.bytes = 1 from rfl]; (first | omega | assumption | (simp only [Int.toNat_natCast]; omega) | (simp; done) | (simp at *; omega))) (by first | omega | assumption | (simp only [Int.toNat_natCast]; omega) | (simp; done) | (simp at *; omega))) rfl ?_
  rintro _ H3 ⟨rfl, n4o, n4x, n4s⟩
  replace hx0 := Ext.trans hx0 n4x
  replace hs := Sl.ext0 hs n4x
  replace n2b := Ext.blk n4x n2b (by simp)
  refine hl_v (v_assign rfl) rfl ?_
  refine hl_nil ?_
  refine thenQ_n ?_
  refine hw_sub _ (ai_cons (t := 0) rfl (ai_cons (t := 2) rfl (ai_cons (t := 3) rfl ai_nil))) ?_
  refine hw_seq ?_
  refine hw_seq ?_
  refine hw_region ?_
  refine hl_v (v_assign rfl) rfl ?_
  refine hl_nil ?_
  refine thenQ_n ?_
  refine hw_sub _ (ai_cons (t := 0) rfl (ai_cons (t := 2) rfl (ai_cons (t := 3) rfl (ai_cons (t := 4) rfl ai_nil)))) ?_
  refine hw_block ?_
  refine hw_loop (α := Nat) [(0, _), (2, _), (3, _)] (fun k => [(4, .int .i64 (k : Int))]) (fun k G3 => Ext [] H G3 ∧ Sl fByte.rep G3 S v0 l ∧ Blk G3 H.size (sw .zero) 31 ∧ Ow fBool G3 H1.size 4 (.slice (some ⟨H1.size, 0, none⟩) (256 : Int).toNat (256 : Int).toNat) (marks l k) ∧ H3.size ≤ G3.size ∧ k ≤ l.length) (fun k => l.length - k) 0 (ai_cons (t := 4) rfl (ai_cons (t := 0) rfl (ai_cons (t := 2) rfl (ai_cons (t := 3) rfl ai_nil)))) ?_ ?_
  · exact ⟨hx0, hs, n2b, (n4o.congr (marks_zero l)), Nat.le_refl _, Nat.zero_le _⟩
  · intro k G3 hI
    obtain ⟨hx0, hs, n2b, n4o, hz, hk⟩ := hI
    have hx0z := hx0.size
    have htl := marks_len l k
    refine hw_seq ?_
    refine hw_seq ?_
    refine hw_region ?_
    refine hl_v (v_move rfl) rfl ?_
    refine hl_v (v_move rfl) rfl ?_
    refine hl_v (v_lenL rfl Try.underlying28 rfl (by first | assumption | exact Ow.sl0 (by assumption))) rfl ?_
    refine hl_v (v_lss rfl rfl) rfl ?_
    refine hl_nil ?_
    refine thenQ_n ?_
    refine hw_sub _ (ai_cons (t := 0) rfl (ai_cons (t := 2) rfl (ai_cons (t := 3) rfl (ai_cons (t := 4) rfl (ai_cons (t := 9) rfl ai_nil))))) ?_
    refine hw_cond rfl (fun hc5 => ?_) (fun hc5 => ?_)
    · try simp only [decide_eq_true_eq, decide_eq_false_iff_not, Bool.and_eq_true, Bool.and_eq_false_iff, Bool.or_eq_true, Bool.or_eq_false_iff, Bool.not_eq_true', Bool.not_eq_false', Bool.not_eq_true, Bool.not_eq_false, beq_iff_eq, Int.not_lt, Int.not_le] at hc5
      refine hw_skip ?_
      refine thenQ_n ?_
      refine hw_seq ?_
      refine hw_block ?_
      have hbyte := (l.getD k default).toNat_lt
      refine hw_region ?_
      refine hl_v (v_move rfl) rfl ?_
      refine hl_v (v_move rfl) rfl ?_
      refine hl_v (v_move rfl) rfl ?_
      refine hl_v (v_ixL Try.underlying28 Try.sizeOf5 rfl rfl (by first | assumption | exact Ow.sl0 (by assumption)) (by first | omega | assumption | (simp only [Int.toNat_natCast]; omega) | (simp; done) | (simp at *; omega))) rfl ?_
      refine hl_v (v_loadSc Try.isAgg5 rfl (by first | assumption | exact Ow.sl0 (by assumption)) rfl (by first | omega | assumption | (simp only [Int.toNat_natCast]; omega) | (simp; done) | (simp at *; omega)) rfl) rfl ?_
      refine hl_v (v_ixL Try.underlying71 Try.sizeOf4 rfl rfl (by first | assumption | exact Ow.sl0 (by assumption)) (by first | omega | assumption | (simp only [Int.toNat_natCast]; omega) | (simp; done) | (simp at *; omega))) rfl ?_
      refine hl_s (h_storeOw1 Try.sizeOf4 rfl rfl rfl rfl n4o (by first | omega | assumption | (simp only [Int.toNat_natCast]; omega) | (simp; done) | (simp at *; omega)) rfl rfl) ?_
      rintro _ H6 p7
      have p7s := p7.size
      replace hx0 := Ext.fresh hx0 p7.ext (by intro b hb; exact Or.inl (Nat.le_trans (by omega) (Ow.lt n4o b hb).1))
      replace hs := Sl.ext hs p7.ext (by intro b hb; (try have hSb := hS b hb); intro hm; have hlt := Ow.lt n4o _ hm; (try simp only [mb, List.mem_singleton] at hb); (try simp only [mb, List.mem_singleton] at hm); omega)
      replace n2b := Ext.blk p7.ext n2b (by intro hm; have hlt := Ow.lt n4o _ hm; (try simp only [mb, List.mem_singleton] at hb); (try simp only [mb, List.mem_singleton] at hm); omega)
      replace n4o := p7.ow
      refine hl_nil ?_
      refine blockQ_n ?_
      refine thenQ_n ?_
      refine hw_region ?_
      refine hl_v (v_move rfl) rfl ?_
      refine hl_v (v_add rfl rfl (by first | omega | assumption | (simp only [Int.toNat_natCast]; omega) | (simp; done) | (simp at *; omega))) rfl ?_
      refine hl_v (v_assign rfl) rfl ?_
      refine hl_nil ?_
      refine thenQ_n ?_
      refine ⟨k + 1, (ai_cons (t := 4) rfl (ai_cons (t := 0) rfl (ai_cons (t := 2) rfl (ai_cons (t := 3) rfl ai_nil)))), ?_, ?_⟩
      · skip
        exact ⟨hx0, hs, n2b, (n4o.congr (marks_succ (by omega))), (by omega), by omega⟩
      · omega
    · try simp only [decide_eq_true_eq, decide_eq_false_iff_not, Bool.and_eq_true, Bool.and_eq_false_iff, Bool.or_eq_true, Bool.or_eq_false_iff, Bool.not_eq_true', Bool.not_eq_false', Bool.not_eq_true, Bool.not_eq_false, beq_iff_eq, Int.not_lt, Int.not_le] at hc5
      refine hw_exit ?_
      refine thenQ_e ?_
      refine thenQ_e ?_
      refine blockQ_hit ?_
      refine thenQ_n ?_
      refine hw_seq ?_
      refine hw_region ?_
      refine hl_v (v_move rfl) rfl ?_
      refine hl_h (h_call Try.call50 (evs_cons rfl evs_nil) (Make_spec (by first | assumption | exact Ow.sl0 (by assumption)) (by first | assumption | exact fun _ h => h | exact fun b hb => (Ow.lt (by assumption) b hb).2 | (intro b hb; have hSb := hS b hb; omega)) (by first | assumption | simp [tab_len]))) rfl ?_
      rintro _ H8 ⟨rfl, n9⟩
      have n9s := n9.size
      replace hx0 := Ext.trans hx0 n9
      replace hs := Sl.ext0 hs n9
      replace n2b := Ext.blk n9 n2b (by simp)
      replace n4o := Ow.ext0 n4o n9
      refine hl_s (h_storeS Try.sizeOf31 rfl rfl n2b) ?_
      rintro _ H10 p11
      have p11s := p11.size
      replace hx0 := Ext.fresh hx0 p11.ext (by intro b hb; simp at hb; omega)
      replace hs := Sl.ext hs p11.ext (by intro b hb; (try have hSb := hS b hb); (try simp only [mb, List.mem_singleton] at hb); simp; omega)
      replace n4o := Ow.ext n4o p11.ext (by intro b hb; have hlb := Ow.lt n4o b hb; (try simp only [mb, List.mem_singleton] at hb); simp; omega)
      replace n2b := p11.blk
      refine hl_nil ?_
      refine thenQ_n ?_
      refine hw_sub _ (ai_cons (t := 2) rfl ai_nil) ?_
      refine hw_ret ?_
      refine ret_i _ (ra_c rfl (fun w hw => run_loadVar_at Try.isAgg31 Try.sizeOf31 (Blk.at0 (by assumption)) rfl w hw) ra_nil) ?_
      exact ⟨congrArg sv (BSet.ofFn_marks l (by omega)), hx0⟩

theorem rSpan_spec {a b : UInt8} {H : Heap} : HC Try.prog 21 [.int .u8 a.toNat, .int .u8 b.toNat] H (fun v H' => v = sv (.span a.toNat b.toNat) ∧ Ext [] H H') := by
  have hx0 : Ext [] H H := Ext.refl _
  have ha := a.toNat_lt
  have hb := b.toNat_lt
  refine hc_of_hw (N := 21) (rs := [(.cell 4 31)]) Try.func21 rfl rfl rfl rfl ?_
  refine hw_seq ?_
  refine hw_region ?_
  refine hl_h (h_allocS Try.zeroValue31) rfl ?_
  rintro _ H1 ⟨rfl, n2⟩
  have n2s := n2.size
  replace hx0 := Ext.trans hx0 n2.ext
  have n2b := n2.blk
  refine hl_nil ?_
  refine thenQ_n ?_
  refine hw_sub _ (ai_cons (t := 0) rfl (ai_cons (t := 1) rfl (ai_cons (t := 4) rfl ai_nil))) ?_
  refine hw_seq ?_
  refine hw_region ?_
  refine hl_h (h_makeSlice (g := fBool) (d := default) (B := H1.size) Try.underlying71 Try.type4 rfl rfl rfl (by decide) rfl rfl (by first | omega | assumption | (simp only [Int.toNat_natCast]; omega) | (simp; done) | (simp at *; omega)) (by first | omega | assumption | (simp only [Int.toNat_natCast]; omega) | (simp; done) | (simp at *; omega)) (by rw [show Try.t4.bytes = 1 from rfl]; (first | omega | assumption | (simp only [Int.toNat_natCast]; omega) | (simp; done) | (simp at *; omega))) (by first | omega | assumption | (simp only [Int.toNat_natCast]; omega) | (simp; done) | (simp at *; omega))) rfl ?_
  rintro _ H3 ⟨rfl, n4o, n4x, n4s⟩
  replace hx0 := Ext.trans hx0 n4x
  replace n2b := Ext.blk n4x n2b (by simp)
  refine hl_v (v_assign rfl) rfl ?_
  refine hl_nil ?_
  refine thenQ_n ?_
  refine hw_sub _ (ai_cons (t := 0) rfl (ai_cons (t := 1) rfl (ai_cons (t := 4) rfl (ai_cons (t := 5) rfl ai_nil)))) ?_
  refine hw_seq ?_
  refine hw_seq ?_
  refine hw_region ?_
  refine hl_v (v_move rfl) rfl ?_
  refine hl_v (v_conv_id (t := 5) (t' := 3) (by rw [Try.underlying5]; rfl) Try.underlying3 rfl (IntWalk.i64_in _ (by first | omega | assumption | (simp only [Int.toNat_natCast]; omega) | (simp; done) | (simp at *; omega)))) rfl ?_
  refine hl_v (v_assign rfl) rfl ?_
  refine hl_nil ?_
  refine thenQ_n ?_
  refine hw_sub _ (ai_cons (t := 1) rfl (ai_cons (t := 4) rfl (ai_cons (t := 5) rfl (ai_cons (t := 6) rfl ai_nil)))) ?_
  refine hw_block ?_
  refine hw_loop (α := Nat) [(1, _), (4, _), (5, _)] (fun k => [(6, .int .i64 (k : Int))]) (fun k G3 => Ext [] H G3 ∧ Blk G3 H.size (sw .zero) 31 ∧ Ow fBool G3 H1.size 4 (.slice (some ⟨H1.size, 0, none⟩) (256 : Int).toNat (256 : Int).toNat) (upto (fun m => decide (a.toNat ≤ m)) k) ∧ H3.size ≤ G3.size ∧ a.toNat ≤ k ∧ (k ≤ b.toNat + 1 ∨ k = a.toNat)) (fun k => 256 - k) a.toNat (ai_cons (t := 6) rfl (ai_cons (t := 1) rfl (ai_cons (t := 4) rfl (ai_cons (t := 5) rfl ai_nil)))) ?_ ?_
  · exact ⟨hx0, n2b, (n4o.congr (upto_none fun m hm => decide_eq_false (by omega))), Nat.le_refl _, ⟨Nat.le_refl _, .inr rfl⟩⟩
  · intro k G3 hI
    obtain ⟨hx0, n2b, n4o, hz, hk⟩ := hI
    have hx0z := hx0.size
    have htl := upto_len (fun m => decide (a.toNat ≤ m)) k
    refine hw_seq ?_
    refine hw_seq ?_
    refine hw_region ?_
    refine hl_v (v_move rfl) rfl ?_
    refine hl_v (v_move rfl) rfl ?_
    refine hl_v (v_conv_id (t := 5) (t' := 3) (by rw [Try.underlying5]; rfl) Try.underlying3 rfl (IntWalk.i64_in _ (by first | omega | assumption | (simp only [Int.toNat_natCast]; omega) | (simp; done) | (simp at *; omega)))) rfl ?_
    refine hl_v (v_leq rfl rfl) rfl ?_
    refine hl_nil ?_
    refine thenQ_n ?_
    refine hw_sub _ (ai_cons (t := 1) rfl (ai_cons (t := 4) rfl (ai_cons (t := 5) rfl (ai_cons (t := 6) rfl (ai_cons (t := 13) rfl ai_nil))))) ?_
    refine hw_cond rfl (fun hc5 => ?_) (fun hc5 => ?_)
    · try simp only [decide_eq_true_eq, decide_eq_false_iff_not, Bool.and_eq_true, Bool.and_eq_false_iff, Bool.or_eq_true, Bool.or_eq_false_iff, Bool.not_eq_true', Bool.not_eq_false', Bool.not_eq_true, Bool.not_eq_false, beq_iff_eq, Int.not_lt, Int.not_le] at hc5
      refine hw_skip ?_
      refine thenQ_n ?_
      refine hw_seq ?_
      refine hw_block ?_
      refine hw_region ?_
      refine hl_v (v_move rfl) rfl ?_
      refine hl_v (v_move rfl) rfl ?_
      refine hl_v (v_ixL Try.underlying71 Try.sizeOf4 rfl rfl (by first | assumption | exact Ow.sl0 (by assumption)) (by first | omega | assumption | (simp only [Int.toNat_natCast]; omega) | (simp; done) | (simp at *; omega))) rfl ?_
      refine hl_s (h_storeOw1 Try.sizeOf4 rfl rfl rfl rfl n4o (by first | omega | assumption | (simp only [Int.toNat_natCast]; omega) | (simp; done) | (simp at *; omega)) rfl rfl) ?_
      rintro _ H6 p7
      have p7s := p7.size
      replace hx0 := Ext.fresh hx0 p7.ext (by intro b hb; exact Or.inl (Nat.le_trans (by omega) (Ow.lt n4o b hb).1))
      replace n2b := Ext.blk p7.ext n2b (by intro hm; have hlt := Ow.lt n4o _ hm; (try simp only [mb, List.mem_singleton] at hb); (try simp only [mb, List.mem_singleton] at hm); omega)
      replace n4o := p7.ow
      refine hl_nil ?_
      refine blockQ_n ?_
      refine thenQ_n ?_
      refine hw_region ?_
      refine hl_v (v_move rfl) rfl ?_
      refine hl_v (v_add rfl rfl (by first | omega | assumption | (simp only [Int.toNat_natCast]; omega) | (simp; done) | (simp at *; omega))) rfl ?_
      refine hl_v (v_assign rfl) rfl ?_
      refine hl_nil ?_
      refine thenQ_n ?_
      refine ⟨k + 1, (ai_cons (t := 6) rfl (ai_cons (t := 1) rfl (ai_cons (t := 4) rfl (ai_cons (t := 5) rfl ai_nil)))), ?_, ?_⟩
      · skip
        exact ⟨hx0, n2b, (n4o.congr (upto_set (fun m => decide (a.toNat ≤ m)) (decide_eq_true (by omega)).symm)), (by omega), ⟨by omega, .inl (by omega)⟩⟩
      · omega
    · try simp only [decide_eq_true_eq, decide_eq_false_iff_not, Bool.and_eq_true, Bool.and_eq_false_iff, Bool.or_eq_true, Bool.or_eq_false_iff, Bool.not_eq_true', Bool.not_eq_false', Bool.not_eq_true, Bool.not_eq_false, beq_iff_eq, Int.not_lt, Int.not_le] at hc5
      refine hw_exit ?_
      refine thenQ_e ?_
      refine thenQ_e ?_
      refine blockQ_hit ?_
      refine thenQ_n ?_
      refine hw_seq ?_
      refine hw_region ?_
      refine hl_v (v_move rfl) rfl ?_
      refine hl_h (h_call Try.call50 (evs_cons rfl evs_nil) (Make_spec (by first | assumption | exact Ow.sl0 (by assumption)) (by first | assumption | exact fun _ h => h | exact fun b hb => (Ow.lt (by assumption) b hb).2 | (intro b hb; have hSb := hS b hb; omega)) (by first | assumption | simp [tab_len]))) rfl ?_
      rintro _ H8 ⟨rfl, n9⟩
      have n9s := n9.size
      replace hx0 := Ext.trans hx0 n9
      replace n2b := Ext.blk n9 n2b (by simp)
      replace n4o := Ow.ext0 n4o n9
      refine hl_s (h_storeS Try.sizeOf31 rfl rfl n2b) ?_
      rintro _ H10 p11
      have p11s := p11.size
      replace hx0 := Ext.fresh hx0 p11.ext (by intro b hb; simp at hb; omega)
      replace n4o := Ow.ext n4o p11.ext (by intro b hb; have hlb := Ow.lt n4o b hb; (try simp only [mb, List.mem_singleton] at hb); simp; omega)
      replace n2b := p11.blk
      refine hl_nil ?_
      refine thenQ_n ?_
      refine hw_sub _ (ai_cons (t := 4) rfl ai_nil) ?_
      refine hw_ret ?_
      refine ret_i _ (ra_c rfl (fun w hw => run_loadVar_at Try.isAgg31 Try.sizeOf31 (Blk.at0 (by assumption)) rfl w hw) ra_nil) ?_
      refine ⟨congrArg sv ?_, hx0⟩
      rw [BSet.ofFn_upto]
      apply BSet.ofFn_congr _ (Nat.le_refl _)
      intro m hm
      rw [Bool.eq_iff_iff]; simp only [Bool.and_eq_true, decide_eq_true_eq]; omega

theorem Span_spec {a b : UInt8} {H : Heap} : HC Try.prog 20 [.int .u8 a.toNat, .int .u8 b.toNat] H (fun v H' => v = sv (.span a.toNat b.toNat) ∧ Ext [] H H') := by
  have hx0 : Ext [] H H := Ext.refl _
  have ha := a.toNat_lt
  have hb := b.toNat_lt
  refine hc_of_hw (N := 22) (rs := [(.cell 4 31)]) Try.func20 rfl rfl rfl rfl ?_
  refine hw_seq ?_
  refine hw_region ?_
  refine hl_h (h_allocS Try.zeroValue31) rfl ?_
  rintro _ H1 ⟨rfl, n2⟩
  have n2s := n2.size
  replace hx0 := Ext.trans hx0 n2.ext
  have n2b := n2.blk
  refine hl_nil ?_
  refine thenQ_n ?_
  refine hw_sub _ (ai_cons (t := 0) rfl (ai_cons (t := 1) rfl (ai_cons (t := 4) rfl ai_nil))) ?_
  refine hw_seq ?_
  refine hw_region ?_
  refine hl_h (h_allocS Try.zeroValue31) rfl ?_
  rintro _ H3 ⟨rfl, n4⟩
  have n4s := n4.size
  replace hx0 := Ext.trans hx0 n4.ext
  replace n2b := Ext.blk n4.ext n2b (by simp)
  have n4b := n4.blk
  refine hl_nil ?_
  refine thenQ_n ?_
  refine hw_sub _ (ai_cons (t := 0) rfl (ai_cons (t := 1) rfl (ai_cons (t := 4) rfl (ai_cons (t := 5) rfl ai_nil)))) ?_
  refine hw_seq ?_
  refine hw_seq ?_
  refine hw_region ?_
  refine hl_v (v_move rfl) rfl ?_
  refine hl_v (v_conv_id (t := 5) (t' := 3) (by rw [Try.underlying5]; rfl) Try.underlying3 rfl (IntWalk.i64_in _ (by first | omega | assumption | (simp only [Int.toNat_natCast]; omega) | (simp; done) | (simp at *; omega)))) rfl ?_
  refine hl_v (v_assign rfl) rfl ?_
  refine hl_nil ?_
  refine thenQ_n ?_
  refine hw_sub _ (ai_cons (t := 1) rfl (ai_cons (t := 4) rfl (ai_cons (t := 5) rfl (ai_cons (t := 6) rfl ai_nil)))) ?_
  refine hw_block ?_
  refine hw_loop (α := Nat) [(1, _), (4, _), (5, _)] (fun k => [(6, .int .i64 (k : Int))]) (fun k G3 => Ext [] H G3 ∧ Blk G3 H.size (sw .zero) 31 ∧ Blk G3 H1.size (sw (.ofFn (fun m => decide (a.toNat ≤ m)) k)) 31 ∧ H3.size ≤ G3.size ∧ a.toNat ≤ k ∧ (k ≤ b.toNat + 1 ∨ k = a.toNat)) (fun k => 256 - k) a.toNat (ai_cons (t := 6) rfl (ai_cons (t := 1) rfl (ai_cons (t := 4) rfl (ai_cons (t := 5) rfl ai_nil)))) ?_ ?_
  · exact ⟨hx0, n2b, (by rw [BSet.ofFn_none (by omega) fun m hm => decide_eq_false (by omega)]; exact n4b), Nat.le_refl _, ⟨Nat.le_refl _, .inr rfl⟩⟩
  · intro k G3 hI
    obtain ⟨hx0, n2b, n4b, hz, hk⟩ := hI
    have hx0z := hx0.size
    refine hw_seq ?_
    refine hw_seq ?_
    refine hw_region ?_
    refine hl_v (v_move rfl) rfl ?_
    refine hl_v (v_move rfl) rfl ?_
    refine hl_v (v_conv_id (t := 5) (t' := 3) (by rw [Try.underlying5]; rfl) Try.underlying3 rfl (IntWalk.i64_in _ (by first | omega | assumption | (simp only [Int.toNat_natCast]; omega) | (simp; done) | (simp at *; omega)))) rfl ?_
    refine hl_v (v_leq rfl rfl) rfl ?_
    refine hl_nil ?_
    refine thenQ_n ?_
    refine hw_sub _ (ai_cons (t := 1) rfl (ai_cons (t := 4) rfl (ai_cons (t := 5) rfl (ai_cons (t := 6) rfl (ai_cons (t := 12) rfl ai_nil))))) ?_
    refine hw_cond rfl (fun hc5 => ?_) (fun hc5 => ?_)
    · try simp only [decide_eq_true_eq, decide_eq_false_iff_not, Bool.and_eq_true, Bool.and_eq_false_iff, Bool.or_eq_true, Bool.or_eq_false_iff, Bool.not_eq_true', Bool.not_eq_false', Bool.not_eq_true, Bool.not_eq_false, beq_iff_eq, Int.not_lt, Int.not_le] at hc5
      refine hw_skip ?_
      refine thenQ_n ?_
      refine hw_seq ?_
      refine hw_block ?_
      refine hw_held2 6 (fun H' => Ext [] G3 H') (.step 0 false (.step 1 false (.step 2 false (.step 3 true (.step 4 true (.step 5 true .done)))))) (.step 6 true .done) Try.mixed (by kernel_rfl) ?_ ?_
      · exact Ext.refl _
      have xr6 : Ext [] G3 G3 := Ext.refl _
      have n2bR := n2b
      have n4bR := n4b
      refine hd_v rfl (fun H' hS => (v_loadS Try.isAgg31 Try.sizeOf31 rfl (by first | exact Ext.blk hS n4bR (by simp) | exact n4b | exact Ext.blk hS (by first | assumption | exact Ext.blk hS (by assumption) (by simp) | exact Sl.ext0 (by assumption) hS | exact Sl.ext0 (Ow.sl0 (by assumption)) hS) (by simp)))) rfl ?_
      refine hd_v rfl (fun H' hS => (v_move rfl)) rfl ?_
      refine hd_v rfl (fun H' hS => (v_toB (by rw [Try.underlying3]; rfl) Try.underlying5 rfl (by first | omega | assumption | (simp only [Int.toNat_natCast]; omega) | (simp; done) | (simp at *; omega)))) rfl ?_
      refine hd_h (h_buildSlice (xs := [.tmp 17]) Try.underlying28 Try.sizeOf5 Try.zeroValue5 rfl (evs_cons rfl evs_nil) rfl (by decide) (by decide) (by intro v hv; simp only [List.mem_cons, List.not_mem_nil, or_false] at hv; rcases hv with rfl <;> rfl)) (fun _ _ hR => Ext.trans xr6 (hR.2.ext)) rfl ?_
      rintro _ H7 ⟨rfl, n8⟩
      have n8s := n8.size
      replace hx0 := Ext.trans hx0 n8.ext
      replace n2b := Ext.blk n8.ext n2b (by simp)
      replace n4b := Ext.blk n8.ext n4b (by simp)
      have n8o := Ow.new (g := fByte) (l := [_]) (B := G3.size) n8 rfl (by omega) (by simp)
      replace xr6 := Ext.trans xr6 n8.ext
      refine hd_h (h_call Try.call18 (evs_cons rfl evs_nil) (Of_spec (by first | assumption | exact Ow.sl0 (by assumption)) (by first | assumption | exact fun _ h => h | exact fun b hb => (Ow.lt (by assumption) b hb).2 | (intro b hb; have hSb := hS b hb; omega)))) (fun _ _ hR => Ext.trans xr6 (hR.2)) rfl ?_
      rintro _ H9 ⟨rfl, n10⟩
      have n10s := n10.size
      replace hx0 := Ext.trans hx0 n10
      replace n2b := Ext.blk n10 n2b (by simp)
      replace n4b := Ext.blk n10 n4b (by simp)
      replace n8o := Ow.ext0 n8o n10
      replace xr6 := Ext.trans xr6 n10
      refine hd_h (h_call Try.call25 (evs_cons rfl (evs_cons rfl evs_nil)) (Any_spec)) (fun _ _ hR => Ext.trans xr6 (hR.2)) rfl ?_
      rintro _ H11 ⟨rfl, n12⟩
      have n12s := n12.size
      replace hx0 := Ext.trans hx0 n12
      replace n2b := Ext.blk n12 n2b (by simp)
      replace n4b := Ext.blk n12 n4b (by simp)
      replace n8o := Ow.ext0 n8o n12
      replace xr6 := Ext.trans xr6 n12
      refine hd_nil ?_
      refine hd_s (h_storeS Try.sizeOf31 rfl rfl n4b) (fun _ _ _ => trivial) ?_
      rintro _ H13 p14
      have p14s := p14.size
      replace hx0 := Ext.fresh hx0 p14.ext (by intro b hb; simp at hb; omega)
      replace n2b := Ext.blk p14.ext n2b (by (try simp only [mb, List.mem_singleton] at hb); simp; omega)
      replace n4b := p14.blk
      refine hd_nil ?_
      refine blockQ_n ?_
      refine thenQ_n ?_
      refine hw_region ?_
      refine hl_v (v_move rfl) rfl ?_
      refine hl_v (v_add rfl rfl (by first | omega | assumption | (simp only [Int.toNat_natCast]; omega) | (simp; done) | (simp at *; omega))) rfl ?_
      refine hl_v (v_assign rfl) rfl ?_
      refine hl_nil ?_
      refine thenQ_n ?_
      refine ⟨k + 1, (ai_cons (t := 6) rfl (ai_cons (t := 1) rfl (ai_cons (t := 4) rfl (ai_cons (t := 5) rfl ai_nil)))), ?_, ?_⟩
      · skip
        exact ⟨hx0, n2b, (by rw [BSet.add_or] at n4b; rw [BSet.ofFn_succ, if_pos (decide_eq_true hk.1)]; rw [show (UInt8.ofNat ((k : Int).toNat)).toNat = k by rw [UInt8.toNat_ofNat']; omega] at n4b; exact n4b), (by omega), ⟨by omega, .inl (by omega)⟩⟩
      · omega
    · try simp only [decide_eq_true_eq, decide_eq_false_iff_not, Bool.and_eq_true, Bool.and_eq_false_iff, Bool.or_eq_true, Bool.or_eq_false_iff, Bool.not_eq_true', Bool.not_eq_false', Bool.not_eq_true, Bool.not_eq_false, beq_iff_eq, Int.not_lt, Int.not_le] at hc5
      refine hw_exit ?_
      refine thenQ_e ?_
      refine thenQ_e ?_
      refine blockQ_hit ?_
      refine thenQ_n ?_
      refine hw_seq ?_
      refine hw_region ?_
      refine hl_v (v_loadS Try.isAgg31 Try.sizeOf31 rfl (by first | exact n4b | assumption)) rfl ?_
      refine hl_s (h_storeS Try.sizeOf31 rfl rfl n2b) ?_
      rintro _ H15 p16
      have p16s := p16.size
      replace hx0 := Ext.fresh hx0 p16.ext (by intro b hb; simp at hb; omega)
      replace n4b := Ext.blk p16.ext n4b (by (try simp only [mb, List.mem_singleton] at hb); simp; omega)
      replace n2b := p16.blk
      refine hl_nil ?_
      refine thenQ_n ?_
      refine hw_sub _ (ai_cons (t := 4) rfl ai_nil) ?_
      refine hw_ret ?_
      refine ret_i _ (ra_c rfl (fun w hw => run_loadVar_at Try.isAgg31 Try.sizeOf31 (Blk.at0 (by assumption)) rfl w hw) ra_nil) ?_
      exact ⟨congrArg sv (BSet.span_of hb (by omega) hk.1 hk.2 (by omega)), hx0⟩

theorem members1_it {s : BSet} {b : Nat} {T : TypeId} : ItC Try.prog 63 [ptr b 0] (fun k => [.int .u8 (UInt8.ofNat (s.mem.getD k 0)).toNat]) s.mem.length (fun G => Blk G b (sw s) T) := by
  intro l J Jx H hD hE hY h0
  refine hc_of_hw (N := 19) (rs := []) Try.func63 rfl rfl rfl rfl ?_
  refine hw_seq ?_
  refine hw_region ?_
  refine hl_v (v_move rfl) rfl ?_
  refine hl_nil ?_
  refine thenQ_n ?_
  refine hw_sub _ (ai_cons (t := 0) rfl (ai_cons (t := 1) rfl (ai_cons (t := 4) rfl ai_nil))) ?_
  refine hw_block ?_
  refine hw_loop (α := Nat) [(0, _), (1, _)] (fun k => [(4, .int .i64 (k : Int))]) (fun k G1 => J (s.memK k).length G1 ∧ k ≤ 256) (fun k => 256 - k) 0 (ai_cons (t := 4) rfl (ai_cons (t := 0) rfl (ai_cons (t := 1) rfl ai_nil))) ?_ ?_
  · exact ⟨h0, Nat.zero_le _⟩
  · intro k G1 hI
    obtain ⟨hJ, hk⟩ := hI
    refine hw_seq ?_
    refine hw_region ?_
    refine hl_v (v_lss rfl rfl) rfl ?_
    refine hl_nil ?_
    refine thenQ_n ?_
    refine hw_sub _ (ai_cons (t := 0) rfl (ai_cons (t := 1) rfl (ai_cons (t := 4) rfl (ai_cons (t := 5) rfl ai_nil)))) ?_
    refine hw_seq ?_
    refine hw_cond rfl (fun hc1 => ?_) (fun hc1 => ?_)
    · try simp only [decide_eq_true_eq, decide_eq_false_iff_not, Bool.and_eq_true, Bool.and_eq_false_iff, Bool.or_eq_true, Bool.or_eq_false_iff, Bool.not_eq_true', Bool.not_eq_false', Bool.not_eq_true, Bool.not_eq_false, beq_iff_eq, Int.not_lt, Int.not_le] at hc1
      refine hw_skip ?_
      refine thenQ_n ?_
      refine hw_seq ?_
      refine hw_block ?_
      refine hw_seq ?_
      refine hw_region ?_
      refine hl_v (v_move rfl) rfl ?_
      refine hl_v (v_assign rfl) rfl ?_
      refine hl_nil ?_
      refine thenQ_n ?_
      refine hw_sub _ (ai_cons (t := 0) rfl (ai_cons (t := 1) rfl (ai_cons (t := 3) rfl (ai_cons (t := 4) rfl ai_nil)))) ?_
      refine hw_seq ?_
      have hn := hD _ _ hJ
      refine hw_region ?_
      refine hl_v (v_loadS Try.isAgg31 Try.sizeOf31 rfl (by assumption)) rfl ?_
      refine hl_v (v_move rfl) rfl ?_
      refine hl_v (v_toB (by rw [Try.underlying3]; rfl) Try.underlying5 rfl (by first | omega | assumption | (simp only [Int.toNat_natCast]; omega) | (simp; done) | (simp at *; omega))) rfl ?_
      refine hl_h (h_call Try.call22 (evs_cons rfl (evs_cons rfl evs_nil)) Has_spec) rfl ?_
      rintro _ H2 ⟨rfl, hx⟩
      replace hJ := hE _ _ _ hJ hx
      have hbv : (UInt8.ofNat ((k : Int).toNat)).toNat = k := by rw [UInt8.toNat_ofNat']; simp only [Int.toNat_natCast]; omega
      rw [hbv]
      refine hl_v (v_move rfl) rfl ?_
      refine hl_g rfl rfl (fun hg => (v_move rfl)) rfl ?_
      refine hl_g rfl rfl (fun hg => (v_move rfl)) rfl ?_
      refine hl_g rfl rfl (fun hg => (v_toB (by rw [Try.underlying3]; rfl) Try.underlying5 (gv_ok rfl hg) (by simp only [gb_t, gb_f, gb_g, decide_eq_true_eq, decide_eq_false_iff_not, Bool.and_eq_true, Bool.and_eq_false_iff, Bool.or_eq_true, Bool.or_eq_false_iff, Bool.not_eq_true', Bool.not_eq_false', Bool.not_eq_true, Bool.not_eq_false, beq_iff_eq, Int.not_lt, Int.not_le] at hg; (first | omega | assumption | (simp only [Int.toNat_natCast]; omega) | (simp; done) | (simp at *; omega))))) rfl ?_
      refine hl_gyb (Rb := fun b G' => (b = true ∧ J ((s.memK k).length + 1) G') ∨ (b = false ∧ Jx G')) rfl rfl (fun hg => y_call (vs := [.int .u8 (UInt8.ofNat (s.mem.getD (s.memK k).length 0)).toNat]) (gv_ok rfl hg) (evs_cons (by rw [(s.mem_get (by omega) (gb_true hg)).2]; exact gv_ok rfl hg) evs_nil) (hY _ (s.mem_get (by omega) (gb_true hg)).1 _ hJ)) (fun v G' hr => by rcases hr with ⟨rfl, h⟩ | ⟨rfl, h⟩; exact ⟨true, rfl, .inl ⟨rfl, h⟩⟩; exact ⟨false, rfl, .inr ⟨rfl, h⟩⟩) rfl ?_
      rintro b5 H5 hcase
      refine hl_g rfl rfl (fun hg => (v_not (gv_ok rfl hg))) rfl ?_
      refine hl_v (v_and rfl rfl) rfl ?_
      refine hl_nil ?_
      refine thenQ_n ?_
      refine hw_sub _ (ai_cons (t := 0) rfl (ai_cons (t := 1) rfl (ai_cons (t := 4) rfl (ai_cons (t := 17) rfl ai_nil)))) ?_
      refine hw_cond rfl (fun hc2 => ?_) (fun hc2 => ?_)
      · try simp only [decide_eq_true_eq, decide_eq_false_iff_not, Bool.and_eq_true, Bool.and_eq_false_iff, Bool.or_eq_true, Bool.or_eq_false_iff, Bool.not_eq_true', Bool.not_eq_false', Bool.not_eq_true, Bool.not_eq_false, beq_iff_eq, Int.not_lt, Int.not_le] at hc2
        refine hw_ret ?_
        refine blockQ_r ?_
        refine thenQ_r ?_
        refine thenQ_r ?_
        refine blockQ_r ?_
        refine ret_i _ ra_nil ?_
        obtain ⟨h1, h2⟩ := hc2
        rw [h1, h2] at hcase
        rcases hcase with ⟨_, ⟨h, _⟩ | ⟨_, h⟩⟩ | ⟨h, _⟩
        · cases h
        · exact .inr h
        · cases h
      · try simp only [decide_eq_true_eq, decide_eq_false_iff_not, Bool.and_eq_true, Bool.and_eq_false_iff, Bool.or_eq_true, Bool.or_eq_false_iff, Bool.not_eq_true', Bool.not_eq_false', Bool.not_eq_true, Bool.not_eq_false, beq_iff_eq, Int.not_lt, Int.not_le] at hc2
        refine hw_skip ?_
        refine blockQ_n ?_
        refine thenQ_n ?_
        refine hw_region ?_
        refine hl_v (v_add rfl rfl (by first | omega | assumption | (simp only [Int.toNat_natCast]; omega) | (simp; done) | (simp at *; omega))) rfl ?_
        refine hl_v (v_move rfl) rfl ?_
        refine hl_nil ?_
        refine thenQ_n ?_
        refine ⟨k + 1, (ai_cons (t := 4) rfl (ai_cons (t := 0) rfl (ai_cons (t := 1) rfl ai_nil))), ?_, ?_⟩
        · skip
          refine ⟨?_, by omega⟩
          rw [BSet.memK_succ]
          cases hh : s.has k
          · rw [if_neg (by simp)]
            rw [hh] at hcase
            rcases hcase with ⟨h, _⟩ | ⟨_, rfl⟩
            · cases h
            · exact hJ
          · rw [if_pos rfl, List.length_append]
            rw [hh] at hcase hc2
            rcases hcase with ⟨_, ⟨_, h⟩ | ⟨h, _⟩⟩ | ⟨h, _⟩
            · exact h
            · rw [h] at hc2; simp at hc2
            · cases h
        · omega
    · try simp only [decide_eq_true_eq, decide_eq_false_iff_not, Bool.and_eq_true, Bool.and_eq_false_iff, Bool.or_eq_true, Bool.or_eq_false_iff, Bool.not_eq_true', Bool.not_eq_false', Bool.not_eq_true, Bool.not_eq_false, beq_iff_eq, Int.not_lt, Int.not_le] at hc1
      refine hw_exit ?_
      refine thenQ_e ?_
      refine thenQ_e ?_
      refine blockQ_hit ?_
      refine ret_n _ ra_nil ?_
      obtain rfl : k = 256 := by omega
      exact .inl hJ

theorem members_spec {s : BSet} {H : Heap} : HC Try.prog 52 [sv s] H (fun v H' => ∃ b, v = .func (.func 63) #[] #[ptr b 0] ∧ Blk H' b (sw s) 31 ∧ H.size ≤ b ∧ Ext [] H H') := by
  have hx0 : Ext [] H H := Ext.refl _
  refine hc_of_hw (N := 4) (rs := [(.tmp 2)]) Try.func52 rfl rfl rfl rfl ?_
  refine hw_seq ?_
  refine hw_region ?_
  refine hl_h (h_boxS rfl) rfl ?_
  rintro _ H1 ⟨rfl, n2⟩
  have n2s := n2.size
  replace hx0 := Ext.trans hx0 n2.ext
  have n2b := n2.blk
  refine hl_v (v_assign rfl) rfl ?_
  refine hl_nil ?_
  refine thenQ_n ?_
  refine hw_sub _ (ai_cons (t := 1) rfl ai_nil) ?_
  refine hw_seq ?_
  refine hw_region ?_
  refine hl_v (v_makeFunc (us := []) (vs := [_]) rfl rfl) rfl ?_
  refine hl_v (v_assign rfl) rfl ?_
  refine hl_nil ?_
  refine thenQ_n ?_
  refine hw_sub _ (ai_cons (t := 2) rfl ai_nil) ?_
  refine hw_ret ?_
  refine ret_i _ (ra_t rfl ra_nil) ?_
  exact ⟨_, rfl, n2b, Nat.le_refl _, hx0⟩

theorem First_spec {s : BSet} {H : Heap} : HC Try.prog 40 [sv s] H (fun v H' => v = .tuple #[.int .u8 (s.bytes.getD 0 0).toNat, .bool (decide (s.mem.length ≠ 0))] ∧ Ext [] H H') := by
  have hx0 : Ext [] H H := Ext.refl _
  refine hc_of_hw_m (M := 9) (rs := [(.cell 2 5), (.cell 3 4)]) Try.func40 rfl rfl rfl rfl ?_
  refine hw_seq ?_
  refine hw_region ?_
  refine hl_h (h_boxS rfl) rfl ?_
  rintro _ H1 ⟨rfl, n2⟩
  have n2s := n2.size
  replace hx0 := Ext.trans hx0 n2.ext
  have n2b := n2.blk
  refine hl_h (h_alloc Try.zeroValue5 rfl) rfl ?_
  rintro _ H4 ⟨rfl, n5⟩
  have n5s := n5.size
  replace hx0 := Ext.trans hx0 n5.ext
  replace n2b := Ext.blk n5.ext n2b (by simp)
  have n5b := n5.blk
  refine hl_h (h_alloc Try.zeroValue4 rfl) rfl ?_
  rintro _ H7 ⟨rfl, n8⟩
  have n8s := n8.size
  replace hx0 := Ext.trans hx0 n8.ext
  replace n2b := Ext.blk n8.ext n2b (by simp)
  replace n5b := Ext.blk n8.ext n5b (by simp)
  have n8b := n8.blk
  refine hl_nil ?_
  refine thenQ_n ?_
  refine hw_sub _ (ai_cons (t := 1) rfl (ai_cons (t := 2) rfl (ai_cons (t := 3) rfl ai_nil))) ?_
  refine hw_seq ?_
  refine hw_seq ?_
  refine hw_region ?_
  refine hl_v (v_loadS Try.isAgg31 Try.sizeOf31 rfl (by first | exact n2b | assumption)) rfl ?_
  refine hl_h (h_call Try.call52 (evs_cons rfl evs_nil) (members_spec)) rfl ?_
  rintro _ H9 ⟨n10q, rfl, n10b, n10l, n10⟩
  have n10s := n10.size
  replace hx0 := Ext.trans hx0 n10
  replace n2b := Ext.blk n10 n2b (by simp)
  replace n5b := Ext.blk n10 n5b (by simp)
  replace n8b := Ext.blk n10 n8b (by simp)
  refine hl_nil ?_
  refine thenQ_n ?_
  refine hw_sub _ (ai_cons (t := 2) rfl (ai_cons (t := 3) rfl (ai_cons (t := 6) rfl ai_nil))) ?_
  refine hw_block ?_
  refine hw_range (B := H.size) (M := 9) (caps := [ptr _ 0]) (ps := [7]) rfl Try.call63 (members1_it (s := s) (T := 31)) rfl (fun _ => rfl) (by omega) (fun k R2 => Ext [] H R2 ∧ Blk R2 n10q (sw s) 31 ∧ Blk R2 H1.size [.int .u8 0] 5 ∧ Blk R2 H4.size [.bool false] 4 ∧ H7.size ≤ R2.size ∧ k = 0) (fun c R2 => c = .ret ∧ Ext [] H R2 ∧ Blk R2 H1.size [.int .u8 (UInt8.ofNat (s.mem.getD 0 0)).toNat] 5 ∧ Blk R2 H4.size [.bool true] 4 ∧ 0 < s.mem.length) ?_ ?_ ?_ ?_ ?_ ?_ ?_ ?_
  · rintro k G ⟨hx0, n10b, n5b, n8b, hz, hk0⟩
    exact n10b
  · rintro k G G' ⟨hx0, n10b, n5b, n8b, hz, hk0⟩ hx
    exact ⟨(Ext.trans hx0 hx), (Ext.blk hx n10b (by simp)), (Ext.blk hx n5b (by simp)), (Ext.blk hx n8b (by simp)), (Nat.le_trans hz hx.size), hk0⟩
  · rintro k G G' ⟨hx0, n10b, n5b, n8b, hz, hk0⟩ c
    have hch := c.size
    exact ⟨(Ext.fresh hx0 c.ext (by intro b hb; simp at hb; omega)), (n10b.chg c), (n5b.chg c), (n8b.chg c), (by rw [c.size]; exact hz), hk0⟩
  · skip
    rintro c G G' ⟨h1, h2, h3, h4, h5⟩ cc
    have hch := cc.size
    exact ⟨h1, Ext.fresh h2 cc.ext (by intro b hb; simp at hb; omega), h3.chg cc, h4.chg cc, h5⟩
  · exact ⟨hx0, n10b, n5b, n8b, (by omega), rfl⟩
  · rintro k hk R2 ⟨hx0, n10b, n5b, n8b, hz, hk0⟩ hsz
    refine hw_sub _ (ai_cons (t := 2) rfl (ai_cons (t := 3) rfl (ai_cons (t := 7) rfl ai_nil))) ?_
    refine hw_region ?_
    refine hl_v (v_assign rfl) rfl ?_
    refine hl_nil ?_
    refine ⟨rfl, rfl, ?_⟩
    rintro R2b ⟨hx0, n10b, n5b, n8b, hz, hk0⟩ hsz2
    subst hk0
    refine hw_block ?_
    refine hw_seq ?_
    refine hw_region ?_
    refine hl_v (v_move rfl) rfl ?_
    refine hl_s (h_store1 Try.sizeOf5 rfl rfl n5b (by simp) rfl) ?_
    rintro _ H11 p12
    have p12s := p12.size
    replace hx0 := Ext.fresh hx0 p12.ext (by intro b hb; simp at hb; omega)
    replace n10b := Ext.blk p12.ext n10b (by (try simp only [mb, List.mem_singleton] at hb); simp; omega)
    replace n8b := Ext.blk p12.ext n8b (by (try simp only [mb, List.mem_singleton] at hb); simp; omega)
    replace n5b := p12.blk
    refine hl_s (h_store1 Try.sizeOf4 rfl rfl n8b (by simp) rfl) ?_
    rintro _ H13 p14
    have p14s := p14.size
    replace hx0 := Ext.fresh hx0 p14.ext (by intro b hb; simp at hb; omega)
    replace n10b := Ext.blk p14.ext n10b (by (try simp only [mb, List.mem_singleton] at hb); simp; omega)
    replace n5b := Ext.blk p14.ext n5b (by (try simp only [mb, List.mem_singleton] at hb); simp; omega)
    replace n8b := p14.blk
    refine hl_nil ?_
    refine thenQ_n ?_
    refine hw_sub _ (ai_cons (t := 2) rfl (ai_cons (t := 3) rfl ai_nil)) ?_
    refine hw_ret ?_
    refine blockQ_r ?_
    exact ⟨rfl, hx0, n5b, n8b, by omega⟩
  · rintro R2 ⟨hx0, n10b, n5b, n8b, hz, hk0⟩ hsz
    refine blockQ_n ?_
    refine thenQ_n ?_
    refine hw_seq ?_
    refine hw_region ?_
    refine hl_s (h_store1 Try.sizeOf5 rfl (show _ = some (Value.int .u8 (((0 : UInt8).toNat : Nat) : Int)) from rfl) n5b (by simp) rfl) ?_
    rintro _ H15 p16
    have p16s := p16.size
    replace hx0 := Ext.fresh hx0 p16.ext (by intro b hb; simp at hb; omega)
    replace n10b := Ext.blk p16.ext n10b (by (try simp only [mb, List.mem_singleton] at hb); simp; omega)
    replace n8b := Ext.blk p16.ext n8b (by (try simp only [mb, List.mem_singleton] at hb); simp; omega)
    replace n5b := p16.blk
    refine hl_s (h_store1 Try.sizeOf4 rfl rfl n8b (by simp) rfl) ?_
    rintro _ H17 p18
    have p18s := p18.size
    replace hx0 := Ext.fresh hx0 p18.ext (by intro b hb; simp at hb; omega)
    replace n10b := Ext.blk p18.ext n10b (by (try simp only [mb, List.mem_singleton] at hb); simp; omega)
    replace n5b := Ext.blk p18.ext n5b (by (try simp only [mb, List.mem_singleton] at hb); simp; omega)
    replace n8b := p18.blk
    refine hl_nil ?_
    refine thenQ_n ?_
    refine hw_sub _ (ai_cons (t := 2) rfl (ai_cons (t := 3) rfl ai_nil)) ?_
    refine hw_ret ?_
    refine retm_i ?_
    intro Gz hsh
    replace hx0 := Ext.shut hx0 hsh (Nat.le_refl _)
    replace n10b := n10b.shut hsh
    replace n5b := n5b.shut hsh
    replace n8b := n8b.shut hsh
    refine ⟨_, (ra_c rfl (fun w hw => run_loadVar1_at Try.isAgg5 (Blk.cell (by assumption) rfl) w hw) (ra_c rfl (fun w hw => run_loadVar1_at Try.isAgg4 (Blk.cell (by assumption) rfl) w hw) ra_nil)), ?_⟩
    refine ⟨?_, hx0⟩
    have he : s.bytes = [] := List.eq_nil_of_length_eq_zero (by rw [s.bytes_len]; exact hk0)
    rw [he, hk0]; rfl
  · rintro c R2 ⟨rfl, hx0, n5b, n8b, hpos⟩ hsz
    refine hw_ret ?_
    refine blockQ_r ?_
    refine thenQ_r ?_
    refine retm_i ?_
    intro Gz hsh
    replace hx0 := Ext.shut hx0 hsh (Nat.le_refl _)
    replace n5b := n5b.shut hsh
    replace n8b := n8b.shut hsh
    refine ⟨_, (ra_c rfl (fun w hw => run_loadVar1_at Try.isAgg5 (Blk.cell (by assumption) rfl) w hw) (ra_c rfl (fun w hw => run_loadVar1_at Try.isAgg4 (Blk.cell (by assumption) rfl) w hw) ra_nil)), ?_⟩
    refine ⟨?_, hx0⟩
    have hb := s.bytes_getD hpos
    rw [show s.bytes.getD 0 0 = s.bytes.getD 0 default from rfl, hb, decide_eq_true (by omega)]; rfl

theorem Rows_spec {s : BSet} {H : Heap} : HC Try.prog 24 [sv s] H (fun v H' => Ow fPair H' H.size 40 v s.rows ∧ Ext [] H H') := by
  have hx0 : Ext [] H H := Ext.refl _
  refine hc_of_hw_m (M := 39) (rs := [(.tmp 2)]) Try.func24 rfl rfl rfl rfl ?_
  refine hw_seq ?_
  refine hw_region ?_
  refine hl_h (h_boxS rfl) rfl ?_
  rintro _ H1 ⟨rfl, n2⟩
  have n2s := n2.size
  replace hx0 := Ext.trans hx0 n2.ext
  have n2b := n2.blk
  refine hl_v (v_assign rfl) rfl ?_
  refine hl_nil ?_
  refine thenQ_n ?_
  refine hw_sub _ (ai_cons (t := 1) rfl ai_nil) ?_
  refine hw_seq ?_
  refine hw_region ?_
  refine hl_h (h_alloc Try.zeroValue38 rfl) rfl ?_
  rintro _ H4 ⟨rfl, n5⟩
  have n5s := n5.size
  replace hx0 := Ext.trans hx0 n5.ext
  replace n2b := Ext.blk n5.ext n2b (by simp)
  have n5b := n5.blk
  refine hl_nil ?_
  refine thenQ_n ?_
  refine hw_sub _ (ai_cons (t := 1) rfl (ai_cons (t := 3) rfl ai_nil)) ?_
  refine hw_seq ?_
  refine hw_seq ?_
  refine hw_region ?_
  refine hl_v (v_loadS Try.isAgg31 Try.sizeOf31 rfl (by first | exact n2b | assumption)) rfl ?_
  refine hl_h (h_call Try.call52 (evs_cons rfl evs_nil) (members_spec)) rfl ?_
  rintro _ H6 ⟨n7q, rfl, n7b, n7l, n7⟩
  have n7s := n7.size
  replace hx0 := Ext.trans hx0 n7
  replace n2b := Ext.blk n7 n2b (by simp)
  replace n5b := Ext.blk n7 n5b (by simp)
  refine hl_nil ?_
  refine thenQ_n ?_
  refine hw_sub _ (ai_cons (t := 3) rfl (ai_cons (t := 7) rfl ai_nil)) ?_
  refine hw_block ?_
  have n7lt := n7b.lt
  refine hw_range (B := H.size) (M := 39) (caps := [ptr _ 0]) (ps := [8]) rfl Try.call63 (members1_it (s := s) (T := 31)) rfl (fun _ => rfl) (by omega) (fun k R3 => ∃ v, Ext [] H R3 ∧ Blk R3 n7q (sw s) 31 ∧ Blk R3 H1.size [v] 38 ∧ Ow fPair R3 H6.size 40 v (rowsL (s.bytes.take k)) ∧ H6.size ≤ R3.size) (fun c R3 => False) ?_ ?_ ?_ ?_ ?_ ?_ ?_ ?_
  · rintro k G ⟨v, hx0, n7b, n5b, ow, hz⟩
    exact n7b
  · rintro k G G' ⟨v, hx0, n7b, n5b, ow, hz⟩ hx
    exact ⟨_, (Ext.trans hx0 hx), (Ext.blk hx n7b (by simp)), (Ext.blk hx n5b (by simp)), (Ow.ext0 ow hx), (Nat.le_trans hz hx.size)⟩
  · rintro k G G' ⟨v, hx0, n7b, n5b, ow, hz⟩ c
    have hch := c.size
    exact ⟨_, (Ext.fresh hx0 c.ext (by intro b hb; simp at hb; omega)), (n7b.chg c), (n5b.chg c), (ow.chg c), (by rw [c.size]; exact hz)⟩
  · skip
    exact fun _ _ _ h _ => h
  · exact ⟨.slice none 0 0, hx0, n7b, n5b, Ow.nil, (by omega)⟩
  · rintro k hk R3 ⟨v, hx0, n7b, n5b, ow, hz⟩ hsz
    refine hw_sub _ (ai_cons (t := 3) rfl (ai_cons (t := 8) rfl ai_nil)) ?_
    refine hw_region ?_
    refine hl_v (v_assign rfl) rfl ?_
    refine hl_nil ?_
    refine ⟨rfl, rfl, ?_⟩
    rintro R3b ⟨v, hx0, n7b, n5b, ow, hz⟩ hsz2
    have htk := s.bytes_snoc hk
    have hrl := rowsL_len (s.bytes.take k)
    have hml := s.mem_len
    rw [List.length_take] at hrl
    have hlb := ((rowsL (s.bytes.take k)).getD (((rowsL (s.bytes.take k)).length : Int) - 1).toNat default).2.toNat_lt
    refine hw_block ?_
    refine hw_seq ?_
    refine hw_seq ?_
    refine hw_region ?_
    refine hl_v (v_load1 Try.isAgg38 rfl (Blk.cell (by assumption) rfl)) rfl ?_
    refine hl_v (v_lenL rfl Try.underlying38 rfl (by first | assumption | exact Ow.sl0 (by assumption))) rfl ?_
    refine hl_v (v_assign rfl) rfl ?_
    refine hl_nil ?_
    refine thenQ_n ?_
    refine hw_sub _ (ai_cons (t := 3) rfl (ai_cons (t := 4) rfl (ai_cons (t := 5) rfl ai_nil))) ?_
    refine hw_seq ?_
    refine hw_region ?_
    refine hl_v (v_move rfl) rfl ?_
    refine hl_v (v_gtr rfl rfl) rfl ?_
    refine hl_v (v_move rfl) rfl ?_
    refine hl_g rfl rfl (fun hg => (v_load1 Try.isAgg38 rfl (Blk.cell (by assumption) rfl))) rfl ?_
    refine hl_g rfl rfl (fun hg => (v_move rfl)) rfl ?_
    refine hl_g rfl rfl (fun hg => (v_sub (gv_ok rfl hg) rfl (by simp only [gb_t, gb_f, gb_g, decide_eq_true_eq, decide_eq_false_iff_not, Bool.and_eq_true, Bool.and_eq_false_iff, Bool.or_eq_true, Bool.or_eq_false_iff, Bool.not_eq_true', Bool.not_eq_false', Bool.not_eq_true, Bool.not_eq_false, beq_iff_eq, Int.not_lt, Int.not_le] at hg; (first | omega | assumption | (simp only [Int.toNat_natCast]; omega) | (simp; done) | (simp at *; omega))))) rfl ?_
    refine hl_g rfl rfl (fun hg => (v_ixL Try.underlying38 Try.sizeOf40 (gv_ok rfl hg) (gv_ok rfl hg) (by first | assumption | exact Ow.sl0 (by assumption)) (by simp only [gb_t, gb_f, gb_g, decide_eq_true_eq, decide_eq_false_iff_not, Bool.and_eq_true, Bool.and_eq_false_iff, Bool.or_eq_true, Bool.or_eq_false_iff, Bool.not_eq_true', Bool.not_eq_false', Bool.not_eq_true, Bool.not_eq_false, beq_iff_eq, Int.not_lt, Int.not_le] at hg; (first | omega | assumption | (simp only [Int.toNat_natCast]; omega) | (simp; done) | (simp at *; omega))))) rfl ?_
    refine hl_g rfl rfl (fun hg => (v_ixA Try.underlying40 Try.sizeOf5 (gv_ok rfl hg) rfl (by simp only [gb_t, gb_f, gb_g, decide_eq_true_eq, decide_eq_false_iff_not, Bool.and_eq_true, Bool.and_eq_false_iff, Bool.or_eq_true, Bool.or_eq_false_iff, Bool.not_eq_true', Bool.not_eq_false', Bool.not_eq_true, Bool.not_eq_false, beq_iff_eq, Int.not_lt, Int.not_le] at hg; (first | omega | assumption | (simp only [Int.toNat_natCast]; omega) | (simp; done) | (simp at *; omega))))) rfl ?_
    refine hl_g rfl rfl (fun hg => (v_loadSub Try.isAgg5 (gv_ok rfl hg) (by first | assumption | exact Ow.sl0 (by assumption)) rfl (by simp only [gb_t, gb_f, gb_g, decide_eq_true_eq, decide_eq_false_iff_not, Bool.and_eq_true, Bool.and_eq_false_iff, Bool.or_eq_true, Bool.or_eq_false_iff, Bool.not_eq_true', Bool.not_eq_false', Bool.not_eq_true, Bool.not_eq_false, beq_iff_eq, Int.not_lt, Int.not_le] at hg; (first | omega | assumption | (simp only [Int.toNat_natCast]; omega) | (simp; done) | (simp at *; omega))) rfl)) rfl ?_
    refine hl_g rfl rfl (fun hg => (v_conv_id (t := 5) (t' := 3) (by rw [Try.underlying5]; rfl) Try.underlying3 (gv_ok rfl hg) (IntWalk.i64_in _ (by first | omega | assumption | (simp only [Int.toNat_natCast]; omega) | (simp; done) | (simp at *; omega))))) rfl ?_
    refine hl_g rfl rfl (fun hg => (v_add (gv_ok rfl hg) rfl (by simp only [gb_t, gb_f, gb_g, decide_eq_true_eq, decide_eq_false_iff_not, Bool.and_eq_true, Bool.and_eq_false_iff, Bool.or_eq_true, Bool.or_eq_false_iff, Bool.not_eq_true', Bool.not_eq_false', Bool.not_eq_true, Bool.not_eq_false, beq_iff_eq, Int.not_lt, Int.not_le] at hg; (first | omega | assumption | (simp only [Int.toNat_natCast]; omega) | (simp; done) | (simp at *; omega))))) rfl ?_
    refine hl_g rfl rfl (fun hg => (v_move rfl)) rfl ?_
    refine hl_g rfl rfl (fun hg => (v_conv_id (t := 5) (t' := 3) (by rw [Try.underlying5]; rfl) Try.underlying3 (gv_ok rfl hg) (IntWalk.i64_in _ (by first | omega | assumption | (simp only [Int.toNat_natCast]; omega) | (simp; done) | (simp at *; omega))))) rfl ?_
    refine hl_g rfl rfl (fun hg => (v_eql (gv_ok rfl hg) (gv_ok rfl hg))) rfl ?_
    refine hl_v (v_and rfl rfl) rfl ?_
    refine hl_nil ?_
    refine thenQ_n ?_
    refine hw_sub _ (ai_cons (t := 3) rfl (ai_cons (t := 4) rfl (ai_cons (t := 5) rfl (ai_cons (t := 25) rfl ai_nil)))) ?_
    refine hw_cond rfl (fun hc8 => ?_) (fun hc8 => ?_)
    · try simp only [decide_eq_true_eq, decide_eq_false_iff_not, Bool.and_eq_true, Bool.and_eq_false_iff, Bool.or_eq_true, Bool.or_eq_false_iff, Bool.not_eq_true', Bool.not_eq_false', Bool.not_eq_true, Bool.not_eq_false, beq_iff_eq, Int.not_lt, Int.not_le] at hc8
      refine hw_seq ?_
      refine hw_region ?_
      refine hl_v (v_load1 Try.isAgg38 rfl (Blk.cell (by assumption) rfl)) rfl ?_
      refine hl_v (v_move rfl) rfl ?_
      refine hl_v (v_sub rfl rfl (by first | omega | assumption | (simp only [Int.toNat_natCast]; omega) | (simp; done) | (simp at *; omega))) rfl ?_
      refine hl_v (v_move rfl) rfl ?_
      refine hl_v (v_ixL Try.underlying38 Try.sizeOf40 rfl rfl (by first | assumption | exact Ow.sl0 (by assumption)) (by first | omega | assumption | (simp only [Int.toNat_natCast]; omega) | (simp; done) | (simp at *; omega))) rfl ?_
      refine hl_v (v_ixA Try.underlying40 Try.sizeOf5 rfl rfl (by first | omega | assumption | (simp only [Int.toNat_natCast]; omega) | (simp; done) | (simp at *; omega))) rfl ?_
      refine hl_s (h_storeOw (x' := (((rowsL (s.bytes.take k)).getD (((rowsL (s.bytes.take k)).length : Int) - 1).toNat default).1, UInt8.ofNat (s.mem.getD k 0))) Try.sizeOf5 rfl rfl rfl ow (by first | omega | assumption | (simp only [Int.toNat_natCast]; omega) | (simp; done) | (simp at *; omega)) (by decide) rfl rfl) ?_
      rintro _ H9 p10
      have p10s := p10.size
      replace hx0 := Ext.fresh hx0 p10.ext (by intro b hb; exact Or.inl (Nat.le_trans (by omega) (Ow.lt ow b hb).1))
      replace n7b := Ext.blk p10.ext n7b (by intro hm; have hlt := Ow.lt ow _ hm; (try simp only [mb, List.mem_singleton] at hb); (try simp only [mb, List.mem_singleton] at hm); omega)
      replace n5b := Ext.blk p10.ext n5b (by intro hm; have hlt := Ow.lt ow _ hm; (try simp only [mb, List.mem_singleton] at hb); (try simp only [mb, List.mem_singleton] at hm); omega)
      replace ow := p10.ow
      refine hl_nil ?_
      refine thenQ_n ?_
      refine hw_sub _ ai_nil ?_
      refine hw_exit ?_
      refine thenQ_e ?_
      refine blockQ_hit ?_
      exact ⟨_, hx0, n7b, n5b, ow.congr (by rw [htk, rowsL_snoc]; unfold rowStep; rw [if_pos hc8]), by omega⟩
    · try simp only [decide_eq_true_eq, decide_eq_false_iff_not, Bool.and_eq_true, Bool.and_eq_false_iff, Bool.or_eq_true, Bool.or_eq_false_iff, Bool.not_eq_true', Bool.not_eq_false', Bool.not_eq_true, Bool.not_eq_false, beq_iff_eq, Int.not_lt, Int.not_le] at hc8
      refine hw_skip ?_
      refine thenQ_n ?_
      refine hw_region ?_
      refine hl_v (v_load1 Try.isAgg38 rfl (Blk.cell (by assumption) rfl)) rfl ?_
      refine hl_v (v_move rfl) rfl ?_
      refine hl_v (v_move rfl) rfl ?_
      refine hl_v (v_build2 Try.underlying40 Try.zeroValue40 rfl Try.sizeOf5 rfl rfl) rfl ?_
      refine hl_h (h_buildSlice (xs := [.tmp 35]) Try.underlying38 Try.sizeOf40 Try.zeroValue40 rfl (evs_cons rfl evs_nil) rfl (by decide) (by decide) (by intro v hv; simp only [List.mem_cons, List.not_mem_nil, or_false] at hv; rcases hv with rfl <;> rfl)) rfl ?_
      rintro _ H11 ⟨rfl, n12⟩
      have n12s := n12.size
      replace hx0 := Ext.trans hx0 n12.ext
      replace n7b := Ext.blk n12.ext n7b (by simp)
      replace n5b := Ext.blk n12.ext n5b (by simp)
      replace ow := Ow.ext0 ow n12.ext
      have n12o := Ow.new (g := fPair) (l := [_]) (B := R3b.size) n12 rfl (by omega) (by simp)
      refine hl_h (h_append (g := fPair) (B := _) rfl Try.underlying38 Try.type40 rfl rfl rfl rfl (by decide) rfl rfl ow (by first | assumption | exact Ow.sl0 (by assumption)) (by first | (rw [show Try.t40.bytes = 2 from rfl]; simp only [List.length_append, List.length_cons, List.length_nil]; omega) | (rw [show Try.t40.bytes = 2 from rfl]; omega) | omega | (simp only [List.length_append, List.length_cons, List.length_nil]; omega) | assumption | (simp; done)) (by first | (rw [show Try.t40.bytes = 2 from rfl]; simp only [List.length_append, List.length_cons, List.length_nil]; omega) | (rw [show Try.t40.bytes = 2 from rfl]; omega) | omega | (simp only [List.length_append, List.length_cons, List.length_nil]; omega) | assumption | (simp; done)) (by first | (rw [show Try.t40.bytes = 2 from rfl]; simp only [List.length_append, List.length_cons, List.length_nil]; omega) | (rw [show Try.t40.bytes = 2 from rfl]; omega) | omega | (simp only [List.length_append, List.length_cons, List.length_nil]; omega) | assumption | (simp; done))) rfl ?_
      rintro v15 H13 ⟨a14o, a14x, a14n, a14b⟩
      have a14s := a14x.size
      replace hx0 := Ext.fresh hx0 a14x (by intro b hb; exact Or.inl (Nat.le_trans (by omega) (Ow.lt ow b hb).1))
      replace n7b := Ext.blk a14x n7b (by intro hm; have hlt := Ow.lt ow _ hm; (try simp only [mb, List.mem_singleton] at hb); (try simp only [mb, List.mem_singleton] at hm); omega)
      replace n5b := Ext.blk a14x n5b (by intro hm; have hlt := Ow.lt ow _ hm; (try simp only [mb, List.mem_singleton] at hb); (try simp only [mb, List.mem_singleton] at hm); omega)
      refine hl_s (h_store1 Try.sizeOf38 rfl rfl n5b (by simp) (Ow.one (by assumption))) ?_
      rintro _ H16 p17
      have p17s := p17.size
      replace hx0 := Ext.fresh hx0 p17.ext (by intro b hb; simp at hb; omega)
      replace n7b := Ext.blk p17.ext n7b (by (try simp only [mb, List.mem_singleton] at hb); simp; omega)
      replace a14o := Ow.ext a14o p17.ext (by intro b hb; have hlb := Ow.lt a14o b hb; (try simp only [mb, List.mem_singleton] at hb); simp; omega)
      replace n5b := p17.blk
      refine hl_nil ?_
      refine blockQ_n ?_
      exact ⟨_, hx0, n7b, n5b, a14o.congr (by rw [htk, rowsL_snoc]; unfold rowStep; rw [if_neg (fun h => by rcases hc8 with h1 | h1; omega; exact h1 h.2)]), by omega⟩
  · rintro R3 ⟨v, hx0, n7b, n5b, ow, hz⟩ hsz
    refine blockQ_n ?_
    refine thenQ_n ?_
    refine hw_seq ?_
    refine hw_region ?_
    refine hl_v (v_load1 Try.isAgg38 rfl (Blk.cell (by assumption) rfl)) rfl ?_
    refine hl_v (v_assign rfl) rfl ?_
    refine hl_nil ?_
    refine thenQ_n ?_
    refine hw_sub _ (ai_cons (t := 2) rfl ai_nil) ?_
    refine hw_ret ?_
    refine retm_i ?_
    intro Gz hsh
    replace hx0 := Ext.shut hx0 hsh (Nat.le_refl _)
    replace n7b := n7b.shut hsh
    replace n5b := n5b.shut hsh
    replace ow := ow.shut hsh
    refine ⟨_, (ra_t rfl ra_nil), ?_⟩
    have he : s.bytes.take s.mem.length = s.bytes := List.take_of_length_le (by rw [s.bytes_len]; exact Nat.le_refl _)
    rw [he] at ow
    exact ⟨ow.base (by omega), hx0⟩
  · rintro c R3 ⟨⟩ hsz

theorem Pairs_spec {v0 v1 : Value} {l m : List (UInt8 × UInt8)} {S S' : Nat → Prop} {H : Heap} (hs : Sl fPair.rep H S v0 l) (ht : Sl fPair.rep H S' v1 m) : HC Try.prog 42 [v0, v1] H (fun v H' => v = .bool (decide (l = m)) ∧ H' = H) := by
  have hcap := hs.cap
  refine hc_of_hw (N := 26) (rs := [(.tmp 4)]) Try.func42 rfl rfl rfl rfl ?_
  refine hw_seq ?_
  refine hw_region ?_
  refine hl_v (v_assign rfl) rfl ?_
  refine hl_nil ?_
  refine thenQ_n ?_
  refine hw_sub _ (ai_cons (t := 0) rfl (ai_cons (t := 1) rfl ai_nil)) ?_
  refine hw_seq ?_
  refine hw_seq ?_
  refine hw_region ?_
  refine hl_v (v_move rfl) rfl ?_
  refine hl_v (v_lenL rfl Try.underlying38 rfl (by first | assumption | exact Ow.sl0 (by assumption))) rfl ?_
  refine hl_v (v_move rfl) rfl ?_
  refine hl_v (v_lenL rfl Try.underlying38 rfl (by first | assumption | exact Ow.sl0 (by assumption))) rfl ?_
  refine hl_v (v_neq rfl rfl) rfl ?_
  refine hl_nil ?_
  refine thenQ_n ?_
  refine hw_sub _ (ai_cons (t := 0) rfl (ai_cons (t := 1) rfl (ai_cons (t := 10) rfl ai_nil))) ?_
  refine hw_cond rfl (fun hc1 => ?_) (fun hc1 => ?_)
  · try simp only [decide_eq_true_eq, decide_eq_false_iff_not, Bool.and_eq_true, Bool.and_eq_false_iff, Bool.or_eq_true, Bool.or_eq_false_iff, Bool.not_eq_true', Bool.not_eq_false', Bool.not_eq_true, Bool.not_eq_false, beq_iff_eq, Int.not_lt, Int.not_le] at hc1
    refine hw_seq ?_
    refine hw_region ?_
    refine hl_v (v_assign rfl) rfl ?_
    refine hl_nil ?_
    refine thenQ_n ?_
    refine hw_sub _ (ai_cons (t := 4) rfl ai_nil) ?_
    refine hw_ret ?_
    refine thenQ_r ?_
    refine ret_i _ (ra_t rfl ra_nil) ?_
    exact ⟨congrArg Value.bool (decide_eq_false (by rintro rfl; omega)).symm, rfl⟩
  · try simp only [decide_eq_true_eq, decide_eq_false_iff_not, Bool.and_eq_true, Bool.and_eq_false_iff, Bool.or_eq_true, Bool.or_eq_false_iff, Bool.not_eq_true', Bool.not_eq_false', Bool.not_eq_true, Bool.not_eq_false, beq_iff_eq, Int.not_lt, Int.not_le] at hc1
    refine hw_skip ?_
    refine thenQ_n ?_
    refine hw_seq ?_
    refine hw_seq ?_
    refine hw_region ?_
    refine hl_v (v_assign rfl) rfl ?_
    refine hl_nil ?_
    refine thenQ_n ?_
    refine hw_sub _ (ai_cons (t := 0) rfl (ai_cons (t := 1) rfl (ai_cons (t := 5) rfl ai_nil))) ?_
    refine hw_block ?_
    refine hw_loop (α := Nat) [(0, _), (1, _)] (fun k => [(5, .int .i64 (k : Int))]) (fun k G4 => G4 = H ∧ k ≤ l.length ∧ l.take k = m.take k) (fun k => l.length - k) 0 (ai_cons (t := 5) rfl (ai_cons (t := 0) rfl (ai_cons (t := 1) rfl ai_nil))) ?_ ?_
    · exact ⟨rfl, Nat.zero_le _, rfl⟩
    · intro k G4 hI
      obtain ⟨rfl, hk, heq⟩ := hI
      refine hw_seq ?_
      refine hw_seq ?_
      refine hw_region ?_
      refine hl_v (v_move rfl) rfl ?_
      refine hl_v (v_move rfl) rfl ?_
      refine hl_v (v_lenL rfl Try.underlying38 rfl (by first | assumption | exact Ow.sl0 (by assumption))) rfl ?_
      refine hl_v (v_lss rfl rfl) rfl ?_
      refine hl_nil ?_
      refine thenQ_n ?_
      refine hw_sub _ (ai_cons (t := 0) rfl (ai_cons (t := 1) rfl (ai_cons (t := 5) rfl (ai_cons (t := 14) rfl ai_nil)))) ?_
      refine hw_cond rfl (fun hc2 => ?_) (fun hc2 => ?_)
      · try simp only [decide_eq_true_eq, decide_eq_false_iff_not, Bool.and_eq_true, Bool.and_eq_false_iff, Bool.or_eq_true, Bool.or_eq_false_iff, Bool.not_eq_true', Bool.not_eq_false', Bool.not_eq_true, Bool.not_eq_false, beq_iff_eq, Int.not_lt, Int.not_le] at hc2
        refine hw_skip ?_
        refine thenQ_n ?_
        refine hw_seq ?_
        refine hw_block ?_
        refine hw_seq ?_
        refine hw_quiet Try.mixed (by kernel_rfl) ?_
        refine hq_v (v_move rfl) rfl ?_
        refine hq_v (v_move rfl) rfl ?_
        refine hq_v (v_ixL Try.underlying38 Try.sizeOf40 rfl rfl (by first | assumption | exact Ow.sl0 (by assumption)) (by first | omega | assumption | (simp only [Int.toNat_natCast]; omega) | (simp; done) | (simp at *; omega))) rfl ?_
        refine hq_v (v_loadFl Try.isAgg40 Try.sizeOf40 rfl (by first | assumption | exact Ow.sl0 (by assumption)) rfl (by first | omega | assumption | (simp only [Int.toNat_natCast]; omega) | (simp; done) | (simp at *; omega))) rfl ?_
        refine hq_v (v_move rfl) rfl ?_
        refine hq_v (v_move rfl) rfl ?_
        refine hq_v (v_ixL Try.underlying38 Try.sizeOf40 rfl rfl (by first | assumption | exact Ow.sl0 (by assumption)) (by first | omega | assumption | (simp only [Int.toNat_natCast]; omega) | (simp; done) | (simp at *; omega))) rfl ?_
        refine hq_v (v_loadFl Try.isAgg40 Try.sizeOf40 rfl (by first | assumption | exact Ow.sl0 (by assumption)) rfl (by first | omega | assumption | (simp only [Int.toNat_natCast]; omega) | (simp; done) | (simp at *; omega))) rfl ?_
        refine hq_v (v_neqPair Try.underlying40 Try.underlying5 Try.sizeOf5 (by kernel_rfl) rfl rfl) rfl ?_
        refine hq_nil ?_
        refine thenQ_n ?_
        refine hw_sub _ (ai_cons (t := 0) rfl (ai_cons (t := 1) rfl (ai_cons (t := 5) rfl (ai_cons (t := 25) rfl ai_nil)))) ?_
        refine hw_cond rfl (fun hc3 => ?_) (fun hc3 => ?_)
        · try simp only [decide_eq_true_eq, decide_eq_false_iff_not, Bool.and_eq_true, Bool.and_eq_false_iff, Bool.or_eq_true, Bool.or_eq_false_iff, Bool.not_eq_true', Bool.not_eq_false', Bool.not_eq_true, Bool.not_eq_false, beq_iff_eq, Int.not_lt, Int.not_le] at hc3
          refine hw_seq ?_
          refine hw_region ?_
          refine hl_v (v_assign rfl) rfl ?_
          refine hl_nil ?_
          refine thenQ_n ?_
          refine hw_sub _ (ai_cons (t := 4) rfl ai_nil) ?_
          refine hw_ret ?_
          refine blockQ_r ?_
          refine thenQ_r ?_
          refine thenQ_r ?_
          refine blockQ_r ?_
          refine thenQ_r ?_
          refine ret_i _ (ra_t rfl ra_nil) ?_
          exact ⟨congrArg Value.bool (decide_eq_false (by rintro rfl; exact hc3 rfl)).symm, rfl⟩
        · try simp only [decide_eq_true_eq, decide_eq_false_iff_not, Bool.and_eq_true, Bool.and_eq_false_iff, Bool.or_eq_true, Bool.or_eq_false_iff, Bool.not_eq_true', Bool.not_eq_false', Bool.not_eq_true, Bool.not_eq_false, beq_iff_eq, Int.not_lt, Int.not_le] at hc3
          refine hw_skip ?_
          refine blockQ_n ?_
          refine thenQ_n ?_
          refine hw_region ?_
          refine hl_v (v_move rfl) rfl ?_
          refine hl_v (v_add rfl rfl (by first | omega | assumption | (simp only [Int.toNat_natCast]; omega) | (simp; done) | (simp at *; omega))) rfl ?_
          refine hl_v (v_assign rfl) rfl ?_
          refine hl_nil ?_
          refine thenQ_n ?_
          refine ⟨k + 1, (ai_cons (t := 5) rfl (ai_cons (t := 0) rfl (ai_cons (t := 1) rfl ai_nil))), ?_, ?_⟩
          · exact ⟨rfl, by omega, take_ext heq (by omega) (by omega) hc3⟩
          · omega
      · try simp only [decide_eq_true_eq, decide_eq_false_iff_not, Bool.and_eq_true, Bool.and_eq_false_iff, Bool.or_eq_true, Bool.or_eq_false_iff, Bool.not_eq_true', Bool.not_eq_false', Bool.not_eq_true, Bool.not_eq_false, beq_iff_eq, Int.not_lt, Int.not_le] at hc2
        refine hw_exit ?_
        refine thenQ_e ?_
        refine thenQ_e ?_
        refine blockQ_hit ?_
        refine thenQ_n ?_
        refine hw_seq ?_
        refine hw_region ?_
        refine hl_v (v_assign rfl) rfl ?_
        refine hl_nil ?_
        refine thenQ_n ?_
        refine hw_sub _ (ai_cons (t := 4) rfl ai_nil) ?_
        refine hw_ret ?_
        refine ret_i _ (ra_t rfl ra_nil) ?_
        refine ⟨congrArg Value.bool (decide_eq_true ?_).symm, rfl⟩
        rwa [List.take_of_length_le (by omega), List.take_of_length_le (by omega)] at heq

theorem Bytes_spec {s : BSet} {H : Heap} : HC Try.prog 39 [sv s] H (fun v H' => Ow fByte H' H.size 5 v s.bytes ∧ Ext [] H H') := by
  have hx0 : Ext [] H H := Ext.refl _
  refine hc_of_hw (N := 18) (rs := [(.tmp 2)]) Try.func39 rfl rfl rfl rfl ?_
  refine hw_seq ?_
  refine hw_region ?_
  refine hl_h (h_boxS rfl) rfl ?_
  rintro _ H1 ⟨rfl, n2⟩
  have n2s := n2.size
  replace hx0 := Ext.trans hx0 n2.ext
  have n2b := n2.blk
  refine hl_v (v_assign rfl) rfl ?_
  refine hl_nil ?_
  refine thenQ_n ?_
  refine hw_sub _ (ai_cons (t := 1) rfl ai_nil) ?_
  refine hw_seq ?_
  refine hw_region ?_
  refine hl_v (v_assign rfl) rfl ?_
  refine hl_nil ?_
  refine thenQ_n ?_
  refine hw_sub _ (ai_cons (t := 1) rfl (ai_cons (t := 3) rfl ai_nil)) ?_
  refine hw_seq ?_
  refine hw_seq ?_
  refine hw_region ?_
  refine hl_v (v_assign rfl) rfl ?_
  refine hl_nil ?_
  refine thenQ_n ?_
  refine hw_sub _ (ai_cons (t := 1) rfl (ai_cons (t := 3) rfl (ai_cons (t := 4) rfl ai_nil))) ?_
  refine hw_block ?_
  refine hw_loop (α := Nat × Value) [(1, _)] (fun x => [(3, x.2), (4, .int .i64 (x.1 : Int))]) (fun x G3 => Ext [] H G3 ∧ Blk G3 H.size (sw s) 31 ∧ Ow fByte G3 H1.size 5 x.2 ((s.memK x.1).map UInt8.ofNat) ∧ H1.size ≤ G3.size ∧ x.1 ≤ 256) (fun x => 256 - x.1) (0, .slice none 0 0) (ai_cons (t := 3) rfl (ai_cons (t := 4) rfl (ai_cons (t := 1) rfl ai_nil))) ?_ ?_
  · exact ⟨hx0, n2b, Ow.nil, Nat.le_refl _, Nat.zero_le _⟩
  · intro x G3 hI
    obtain ⟨hx0, n2b, ow, hz, hk⟩ := hI
    have hx0z := hx0.size
    have hml := s.memK_le x.1
    have hmm : ((s.memK x.1).map UInt8.ofNat).length = (s.memK x.1).length := List.length_map _
    refine hw_seq ?_
    refine hw_seq ?_
    refine hw_region ?_
    refine hl_v (v_move rfl) rfl ?_
    refine hl_v (v_lss rfl rfl) rfl ?_
    refine hl_nil ?_
    refine thenQ_n ?_
    refine hw_sub _ (ai_cons (t := 1) rfl (ai_cons (t := 3) rfl (ai_cons (t := 4) rfl (ai_cons (t := 6) rfl ai_nil)))) ?_
    refine hw_cond rfl (fun hc3 => ?_) (fun hc3 => ?_)
    · try simp only [decide_eq_true_eq, decide_eq_false_iff_not, Bool.and_eq_true, Bool.and_eq_false_iff, Bool.or_eq_true, Bool.or_eq_false_iff, Bool.not_eq_true', Bool.not_eq_false', Bool.not_eq_true, Bool.not_eq_false, beq_iff_eq, Int.not_lt, Int.not_le] at hc3
      refine hw_skip ?_
      refine thenQ_n ?_
      refine hw_seq ?_
      refine hw_block ?_
      refine hw_seq ?_
      refine hw_region ?_
      refine hl_v (v_loadS Try.isAgg31 Try.sizeOf31 rfl (by first | exact n2b | assumption)) rfl ?_
      refine hl_v (v_move rfl) rfl ?_
      refine hl_h (h_call Try.call23 (evs_cons rfl (evs_cons rfl evs_nil)) (rHas_spec (by first | omega | assumption | (simp only [Int.toNat_natCast]; omega) | (simp; done) | (simp at *; omega)))) rfl ?_
      rintro _ H4 ⟨rfl, n5⟩
      have n5s := n5.size
      replace hx0 := Ext.trans hx0 n5
      replace n2b := Ext.blk n5 n2b (by simp)
      replace ow := Ow.ext0 ow n5
      refine hl_nil ?_
      refine thenQ_n ?_
      refine hw_sub _ (ai_cons (t := 1) rfl (ai_cons (t := 3) rfl (ai_cons (t := 4) rfl (ai_cons (t := 11) rfl ai_nil)))) ?_
      refine hw_cond rfl (fun hc6 => ?_) (fun hc6 => ?_)
      · try simp only [decide_eq_true_eq, decide_eq_false_iff_not, Bool.and_eq_true, Bool.and_eq_false_iff, Bool.or_eq_true, Bool.or_eq_false_iff, Bool.not_eq_true', Bool.not_eq_false', Bool.not_eq_true, Bool.not_eq_false, beq_iff_eq, Int.not_lt, Int.not_le] at hc6
        refine hw_region ?_
        refine hl_v (v_move rfl) rfl ?_
        refine hl_v (v_move rfl) rfl ?_
        refine hl_v (v_toB (by rw [Try.underlying3]; rfl) Try.underlying5 rfl (by first | omega | assumption | (simp only [Int.toNat_natCast]; omega) | (simp; done) | (simp at *; omega))) rfl ?_
        refine hl_h (h_buildSlice (xs := [.tmp 14]) Try.underlying28 Try.sizeOf5 Try.zeroValue5 rfl (evs_cons rfl evs_nil) rfl (by decide) (by decide) (by intro v hv; simp only [List.mem_cons, List.not_mem_nil, or_false] at hv; rcases hv with rfl <;> rfl)) rfl ?_
        rintro _ H7 ⟨rfl, n8⟩
        have n8s := n8.size
        replace hx0 := Ext.trans hx0 n8.ext
        replace n2b := Ext.blk n8.ext n2b (by simp)
        replace ow := Ow.ext0 ow n8.ext
        have n8o := Ow.new (g := fByte) (l := [_]) (B := H4.size) n8 rfl (by omega) (by simp)
        refine hl_h (h_append (g := fByte) (B := _) rfl Try.underlying28 Try.type5 rfl rfl rfl rfl (by decide) rfl rfl ow (by first | assumption | exact Ow.sl0 (by assumption)) (by first | (rw [show Try.t5.bytes = 1 from rfl]; simp only [List.length_append, List.length_cons, List.length_nil]; omega) | (rw [show Try.t5.bytes = 1 from rfl]; omega) | omega | (simp only [List.length_append, List.length_cons, List.length_nil]; omega) | assumption | (simp; done)) (by first | (rw [show Try.t5.bytes = 1 from rfl]; simp only [List.length_append, List.length_cons, List.length_nil]; omega) | (rw [show Try.t5.bytes = 1 from rfl]; omega) | omega | (simp only [List.length_append, List.length_cons, List.length_nil]; omega) | assumption | (simp; done)) (by first | (rw [show Try.t5.bytes = 1 from rfl]; simp only [List.length_append, List.length_cons, List.length_nil]; omega) | (rw [show Try.t5.bytes = 1 from rfl]; omega) | omega | (simp only [List.length_append, List.length_cons, List.length_nil]; omega) | assumption | (simp; done))) rfl ?_
        rintro v11 H9 ⟨a10o, a10x, a10n, a10b⟩
        have a10s := a10x.size
        replace hx0 := Ext.fresh hx0 a10x (by intro b hb; exact Or.inl (Nat.le_trans (by omega) (Ow.lt ow b hb).1))
        replace n2b := Ext.blk a10x n2b (by intro hm; have hlt := Ow.lt ow _ hm; (try simp only [mb, List.mem_singleton] at hb); (try simp only [mb, List.mem_singleton] at hm); omega)
        refine hl_v (v_assign rfl) rfl ?_
        refine hl_nil ?_
        refine blockQ_n ?_
        refine thenQ_n ?_
        refine hw_region ?_
        refine hl_v (v_move rfl) rfl ?_
        refine hl_v (v_add rfl rfl (by first | omega | assumption | (simp only [Int.toNat_natCast]; omega) | (simp; done) | (simp at *; omega))) rfl ?_
        refine hl_v (v_assign rfl) rfl ?_
        refine hl_nil ?_
        refine thenQ_n ?_
        refine ⟨(x.1 + 1, _), (ai_cons (t := 3) rfl (ai_cons (t := 4) rfl (ai_cons (t := 1) rfl ai_nil))), ?_, ?_⟩
        · skip
          exact ⟨hx0, n2b, (by rw [BSet.memK_succ]; first | (rw [if_pos (by assumption), List.map_append]; exact a10o) | (rw [if_neg (by rw [Bool.not_eq_true]; assumption)]; exact ow)), (by omega), by omega⟩
        · omega
      · try simp only [decide_eq_true_eq, decide_eq_false_iff_not, Bool.and_eq_true, Bool.and_eq_false_iff, Bool.or_eq_true, Bool.or_eq_false_iff, Bool.not_eq_true', Bool.not_eq_false', Bool.not_eq_true, Bool.not_eq_false, beq_iff_eq, Int.not_lt, Int.not_le] at hc6
        refine hw_skip ?_
        refine blockQ_n ?_
        refine thenQ_n ?_
        refine hw_region ?_
        refine hl_v (v_move rfl) rfl ?_
        refine hl_v (v_add rfl rfl (by first | omega | assumption | (simp only [Int.toNat_natCast]; omega) | (simp; done) | (simp at *; omega))) rfl ?_
        refine hl_v (v_assign rfl) rfl ?_
        refine hl_nil ?_
        refine thenQ_n ?_
        refine ⟨(x.1 + 1, _), (ai_cons (t := 3) rfl (ai_cons (t := 4) rfl (ai_cons (t := 1) rfl ai_nil))), ?_, ?_⟩
        · skip
          exact ⟨hx0, n2b, (by rw [BSet.memK_succ]; first | (rw [if_pos (by assumption), List.map_append]; exact a10o) | (rw [if_neg (by rw [Bool.not_eq_true]; assumption)]; exact ow)), (by omega), by omega⟩
        · omega
    · try simp only [decide_eq_true_eq, decide_eq_false_iff_not, Bool.and_eq_true, Bool.and_eq_false_iff, Bool.or_eq_true, Bool.or_eq_false_iff, Bool.not_eq_true', Bool.not_eq_false', Bool.not_eq_true, Bool.not_eq_false, beq_iff_eq, Int.not_lt, Int.not_le] at hc3
      refine hw_exit ?_
      refine thenQ_e ?_
      refine thenQ_e ?_
      refine blockQ_hit ?_
      refine thenQ_n ?_
      refine hw_seq ?_
      refine hw_region ?_
      refine hl_v (v_move rfl) rfl ?_
      refine hl_v (v_assign rfl) rfl ?_
      refine hl_nil ?_
      refine thenQ_n ?_
      refine hw_sub _ (ai_cons (t := 2) rfl ai_nil) ?_
      refine hw_ret ?_
      refine ret_i _ (ra_t rfl ra_nil) ?_
      have hk6 : x.1 = 256 := by omega
      rw [hk6] at ow
      exact ⟨ow.base (by omega), hx0⟩

theorem rRows_spec {s : BSet} {H : Heap} : HC Try.prog 43 [sv s] H (fun v H' => Ow fPair H' H.size 40 v s.rows ∧ Ext [] H H') := by
  have hx0 : Ext [] H H := Ext.refl _
  refine hc_of_hw (N := 50) (rs := [(.tmp 2)]) Try.func43 rfl rfl rfl rfl ?_
  refine hw_seq ?_
  refine hw_region ?_
  refine hl_h (h_boxS rfl) rfl ?_
  rintro _ H1 ⟨rfl, n2⟩
  have n2s := n2.size
  replace hx0 := Ext.trans hx0 n2.ext
  have n2b := n2.blk
  refine hl_v (v_assign rfl) rfl ?_
  refine hl_nil ?_
  refine thenQ_n ?_
  refine hw_sub _ (ai_cons (t := 1) rfl ai_nil) ?_
  refine hw_seq ?_
  refine hw_region ?_
  refine hl_v (v_assign rfl) rfl ?_
  refine hl_nil ?_
  refine thenQ_n ?_
  refine hw_sub _ (ai_cons (t := 1) rfl (ai_cons (t := 3) rfl ai_nil)) ?_
  refine hw_seq ?_
  refine hw_region ?_
  refine hl_v (v_loadS Try.isAgg31 Try.sizeOf31 rfl (by first | exact n2b | assumption)) rfl ?_
  refine hl_h (h_call Try.call39 (evs_cons rfl evs_nil) (Bytes_spec)) rfl ?_
  rintro n4v H3 ⟨n4o, n4⟩
  have n4s := n4.size
  replace hx0 := Ext.trans hx0 n4
  replace n2b := Ext.blk n4 n2b (by simp)
  refine hl_v (v_assign rfl) rfl ?_
  refine hl_nil ?_
  refine thenQ_n ?_
  refine hw_sub _ (ai_cons (t := 3) rfl (ai_cons (t := 4) rfl ai_nil)) ?_
  refine hw_seq ?_
  refine hw_region ?_
  refine hl_v (v_assign rfl) rfl ?_
  refine hl_nil ?_
  refine thenQ_n ?_
  refine hw_sub _ (ai_cons (t := 3) rfl (ai_cons (t := 4) rfl (ai_cons (t := 5) rfl ai_nil))) ?_
  refine hw_seq ?_
  refine hw_seq ?_
  refine hw_region ?_
  refine hl_v (v_assign rfl) rfl ?_
  refine hl_nil ?_
  refine thenQ_n ?_
  refine hw_sub _ (ai_cons (t := 3) rfl (ai_cons (t := 4) rfl (ai_cons (t := 5) rfl (ai_cons (t := 6) rfl ai_nil)))) ?_
  refine hw_block ?_
  refine hw_loop (α := Nat × Nat × Value × List (UInt8 × UInt8)) [(4, _)] (fun x => [(3, x.2.2.1), (5, .int .i64 (x.2.1 : Int)), (6, .int .i64 (x.1 : Int))]) (fun x G5 => Ext [] H G5 ∧ Sl fByte.rep G5 (fun b => b < H3.size) n4v s.bytes ∧ Ow fPair G5 H3.size 40 x.2.2.1 x.2.2.2 ∧ H3.size ≤ G5.size ∧ RI s.bytes x.1 x.2.1 x.2.2.2) (fun x => s.bytes.length - x.1) (0, 0, .slice none 0 0, []) (ai_cons (t := 3) rfl (ai_cons (t := 5) rfl (ai_cons (t := 6) rfl (ai_cons (t := 4) rfl ai_nil)))) ?_ ?_
  · exact ⟨hx0, (n4o.sl fun b hb => (Ow.lt n4o b hb).2), Ow.nil, Nat.le_refl _, RI_start _⟩
  · intro x G5 hI
    obtain ⟨hx0, n4r, ow, hz, hri⟩ := hI
    have hx0z := hx0.size
    have hml := s.mem_len
    rw [← s.bytes_len] at hml
    have hfr := hri.1
    have hil := hri.2.1
    have hol := RI_len hri
    refine hw_seq ?_
    refine hw_seq ?_
    refine hw_region ?_
    refine hl_v (v_move rfl) rfl ?_
    refine hl_v (v_move rfl) rfl ?_
    refine hl_v (v_lenL rfl Try.underlying28 rfl (by first | assumption | exact Ow.sl0 (by assumption))) rfl ?_
    refine hl_v (v_lss rfl rfl) rfl ?_
    refine hl_nil ?_
    refine thenQ_n ?_
    refine hw_sub _ (ai_cons (t := 3) rfl (ai_cons (t := 4) rfl (ai_cons (t := 5) rfl (ai_cons (t := 6) rfl (ai_cons (t := 12) rfl ai_nil))))) ?_
    refine hw_cond rfl (fun hc5 => ?_) (fun hc5 => ?_)
    · try simp only [decide_eq_true_eq, decide_eq_false_iff_not, Bool.and_eq_true, Bool.and_eq_false_iff, Bool.or_eq_true, Bool.or_eq_false_iff, Bool.not_eq_true', Bool.not_eq_false', Bool.not_eq_true, Bool.not_eq_false, beq_iff_eq, Int.not_lt, Int.not_le] at hc5
      refine hw_skip ?_
      refine thenQ_n ?_
      refine hw_seq ?_
      refine hw_block ?_
      refine hw_seq ?_
      have hb1 := (s.bytes.getD ((x.1 : Int) + 1).toNat default).toNat_lt
      have hb2 := (s.bytes.getD (x.1 : Int).toNat default).toNat_lt
      refine hw_quiet Try.mixed (by kernel_rfl) ?_
      refine hq_v (v_move rfl) rfl ?_
      refine hq_v (v_add rfl rfl (by first | omega | assumption | (simp only [Int.toNat_natCast]; omega) | (simp; done) | (simp at *; omega))) rfl ?_
      refine hq_v (v_move rfl) rfl ?_
      refine hq_v (v_lenL rfl Try.underlying28 rfl (by first | assumption | exact Ow.sl0 (by assumption))) rfl ?_
      refine hq_v (v_eql rfl rfl) rfl ?_
      refine hq_v (v_move rfl) rfl ?_
      refine hq_g rfl rfl (fun hg => (v_move rfl)) rfl ?_
      refine hq_g rfl rfl (fun hg => (v_move rfl)) rfl ?_
      refine hq_g rfl rfl (fun hg => (v_add (gv_ok rfl hg) rfl (by simp only [gb_t, gb_f, gb_g, decide_eq_true_eq, decide_eq_false_iff_not, Bool.and_eq_true, Bool.and_eq_false_iff, Bool.or_eq_true, Bool.or_eq_false_iff, Bool.not_eq_true', Bool.not_eq_false', Bool.not_eq_true, Bool.not_eq_false, beq_iff_eq, Int.not_lt, Int.not_le] at hg; (first | omega | assumption | (simp only [Int.toNat_natCast]; omega) | (simp; done) | (simp at *; omega))))) rfl ?_
      refine hq_g rfl rfl (fun hg => (v_ixL Try.underlying28 Try.sizeOf5 (gv_ok rfl hg) (gv_ok rfl hg) (by first | assumption | exact Ow.sl0 (by assumption)) (by simp only [gb_t, gb_f, gb_g, decide_eq_true_eq, decide_eq_false_iff_not, Bool.and_eq_true, Bool.and_eq_false_iff, Bool.or_eq_true, Bool.or_eq_false_iff, Bool.not_eq_true', Bool.not_eq_false', Bool.not_eq_true, Bool.not_eq_false, beq_iff_eq, Int.not_lt, Int.not_le] at hg; (first | omega | assumption | (simp only [Int.toNat_natCast]; omega) | (simp; done) | (simp at *; omega))))) rfl ?_
      refine hq_g rfl rfl (fun hg => (v_loadSc Try.isAgg5 (gv_ok rfl hg) (by first | assumption | exact Ow.sl0 (by assumption)) rfl (by simp only [gb_t, gb_f, gb_g, decide_eq_true_eq, decide_eq_false_iff_not, Bool.and_eq_true, Bool.and_eq_false_iff, Bool.or_eq_true, Bool.or_eq_false_iff, Bool.not_eq_true', Bool.not_eq_false', Bool.not_eq_true, Bool.not_eq_false, beq_iff_eq, Int.not_lt, Int.not_le] at hg; (first | omega | assumption | (simp only [Int.toNat_natCast]; omega) | (simp; done) | (simp at *; omega))) rfl)) rfl ?_
      refine hq_g rfl rfl (fun hg => (v_conv_id (t := 5) (t' := 3) (by rw [Try.underlying5]; rfl) Try.underlying3 (gv_ok rfl hg) (IntWalk.i64_in _ (by first | omega | assumption | (simp only [Int.toNat_natCast]; omega) | (simp; done) | (simp at *; omega))))) rfl ?_
      refine hq_g rfl rfl (fun hg => (v_move rfl)) rfl ?_
      refine hq_g rfl rfl (fun hg => (v_move rfl)) rfl ?_
      refine hq_g rfl rfl (fun hg => (v_ixL Try.underlying28 Try.sizeOf5 (gv_ok rfl hg) (gv_ok rfl hg) (by first | assumption | exact Ow.sl0 (by assumption)) (by simp only [gb_t, gb_f, gb_g, decide_eq_true_eq, decide_eq_false_iff_not, Bool.and_eq_true, Bool.and_eq_false_iff, Bool.or_eq_true, Bool.or_eq_false_iff, Bool.not_eq_true', Bool.not_eq_false', Bool.not_eq_true, Bool.not_eq_false, beq_iff_eq, Int.not_lt, Int.not_le] at hg; (first | omega | assumption | (simp only [Int.toNat_natCast]; omega) | (simp; done) | (simp at *; omega))))) rfl ?_
      refine hq_g rfl rfl (fun hg => (v_loadSc Try.isAgg5 (gv_ok rfl hg) (by first | assumption | exact Ow.sl0 (by assumption)) rfl (by simp only [gb_t, gb_f, gb_g, decide_eq_true_eq, decide_eq_false_iff_not, Bool.and_eq_true, Bool.and_eq_false_iff, Bool.or_eq_true, Bool.or_eq_false_iff, Bool.not_eq_true', Bool.not_eq_false', Bool.not_eq_true, Bool.not_eq_false, beq_iff_eq, Int.not_lt, Int.not_le] at hg; (first | omega | assumption | (simp only [Int.toNat_natCast]; omega) | (simp; done) | (simp at *; omega))) rfl)) rfl ?_
      refine hq_g rfl rfl (fun hg => (v_conv_id (t := 5) (t' := 3) (by rw [Try.underlying5]; rfl) Try.underlying3 (gv_ok rfl hg) (IntWalk.i64_in _ (by first | omega | assumption | (simp only [Int.toNat_natCast]; omega) | (simp; done) | (simp at *; omega))))) rfl ?_
      refine hq_g rfl rfl (fun hg => (v_add (gv_ok rfl hg) rfl (by simp only [gb_t, gb_f, gb_g, decide_eq_true_eq, decide_eq_false_iff_not, Bool.and_eq_true, Bool.and_eq_false_iff, Bool.or_eq_true, Bool.or_eq_false_iff, Bool.not_eq_true', Bool.not_eq_false', Bool.not_eq_true, Bool.not_eq_false, beq_iff_eq, Int.not_lt, Int.not_le] at hg; (first | omega | assumption | (simp only [Int.toNat_natCast]; omega) | (simp; done) | (simp at *; omega))))) rfl ?_
      refine hq_g rfl rfl (fun hg => (v_neq (gv_ok rfl hg) (gv_ok rfl hg))) rfl ?_
      refine hq_v (v_or rfl rfl) rfl ?_
      refine hq_nil ?_
      refine thenQ_n ?_
      refine hw_sub _ (ai_cons (t := 3) rfl (ai_cons (t := 4) rfl (ai_cons (t := 5) rfl (ai_cons (t := 6) rfl (ai_cons (t := 34) rfl ai_nil))))) ?_
      refine hw_cond rfl (fun hc6 => ?_) (fun hc6 => ?_)
      · try simp only [decide_eq_true_eq, decide_eq_false_iff_not, Bool.and_eq_true, Bool.and_eq_false_iff, Bool.or_eq_true, Bool.or_eq_false_iff, Bool.not_eq_true', Bool.not_eq_false', Bool.not_eq_true, Bool.not_eq_false, beq_iff_eq, Int.not_lt, Int.not_le] at hc6
        rw [show ((x.1 : Int) + 1).toNat = x.1 + 1 by omega, Int.toNat_natCast] at hc6
        refine hw_seq ?_
        refine hw_held (fun H' => Ext (mb x.2.2.1) G5 H') (.step 0 false (.step 1 false (.step 2 false (.step 3 false (.step 4 false (.step 5 false (.step 6 false (.step 7 false (.step 8 false (.step 9 false (.step 10 true (.step 11 true (.step 12 false .done))))))))))))) Try.mixed (by kernel_rfl) ?_ ?_
        · exact Ext.refl _
        have xr7 : Ext (mb x.2.2.1) G5 G5 := Ext.refl _
        have n4rR := n4r
        have owR := ow
        refine hd_v rfl (fun H' hS => (v_move rfl)) rfl ?_
        refine hd_v rfl (fun H' hS => (v_move rfl)) rfl ?_
        refine hd_v rfl (fun H' hS => (v_move rfl)) rfl ?_
        refine hd_v rfl (fun H' hS => (v_ixL Try.underlying28 Try.sizeOf5 rfl rfl (by first | assumption | exact Ow.sl0 (by assumption) | exact Sl.ext0 (by assumption) hS | exact Sl.ext0 (Ow.sl0 (by assumption)) hS | exact Sl.ext (by assumption) hS (by intro b hb hm; have h2 := Ow.lt ow _ hm; omega)) (by first | omega | assumption | (simp only [Int.toNat_natCast]; omega) | (simp; done) | (simp at *; omega)))) rfl ?_
        refine hd_v rfl (fun H' hS => (v_loadSc Try.isAgg5 rfl (by first | assumption | exact Ow.sl0 (by assumption) | exact Sl.ext0 (by assumption) hS | exact Sl.ext0 (Ow.sl0 (by assumption)) hS | exact Sl.ext (by assumption) hS (by intro b hb hm; have h2 := Ow.lt ow _ hm; omega)) rfl (by first | omega | assumption | (simp only [Int.toNat_natCast]; omega) | (simp; done) | (simp at *; omega)) rfl)) rfl ?_
        refine hd_v rfl (fun H' hS => (v_move rfl)) rfl ?_
        refine hd_v rfl (fun H' hS => (v_move rfl)) rfl ?_
        refine hd_v rfl (fun H' hS => (v_ixL Try.underlying28 Try.sizeOf5 rfl rfl (by first | assumption | exact Ow.sl0 (by assumption) | exact Sl.ext0 (by assumption) hS | exact Sl.ext0 (Ow.sl0 (by assumption)) hS | exact Sl.ext (by assumption) hS (by intro b hb hm; have h2 := Ow.lt ow _ hm; omega)) (by first | omega | assumption | (simp only [Int.toNat_natCast]; omega) | (simp; done) | (simp at *; omega)))) rfl ?_
        refine hd_v rfl (fun H' hS => (v_loadSc Try.isAgg5 rfl (by first | assumption | exact Ow.sl0 (by assumption) | exact Sl.ext0 (by assumption) hS | exact Sl.ext0 (Ow.sl0 (by assumption)) hS | exact Sl.ext (by assumption) hS (by intro b hb hm; have h2 := Ow.lt ow _ hm; omega)) rfl (by first | omega | assumption | (simp only [Int.toNat_natCast]; omega) | (simp; done) | (simp at *; omega)) rfl)) rfl ?_
        refine hd_v rfl (fun H' hS => (v_build2 Try.underlying40 Try.zeroValue40 rfl Try.sizeOf5 rfl rfl)) rfl ?_
        refine hd_h (h_buildSlice (xs := [.tmp 44]) Try.underlying38 Try.sizeOf40 Try.zeroValue40 rfl (evs_cons rfl evs_nil) rfl (by decide) (by decide) (by intro v hv; simp only [List.mem_cons, List.not_mem_nil, or_false] at hv; rcases hv with rfl <;> rfl)) (fun _ _ hR => Ext.trans xr7 (by first | exact hR.2.ext | exact Ext.nil (hR.2.ext))) rfl ?_
        rintro _ H8 ⟨rfl, n9⟩
        have n9s := n9.size
        replace hx0 := Ext.trans hx0 n9.ext
        replace n4r := Sl.ext0 n4r n9.ext
        replace ow := Ow.ext0 ow n9.ext
        have n9o := Ow.new (g := fPair) (l := [_]) (B := G5.size) n9 rfl (by omega) (by simp)
        replace xr7 := Ext.trans xr7 (by first | exact n9.ext | exact Ext.nil n9.ext)
        refine hd_h (h_append (g := fPair) (B := _) rfl Try.underlying38 Try.type40 rfl rfl rfl rfl (by decide) rfl rfl ow (by first | assumption | exact Ow.sl0 (by assumption)) (by first | (rw [show Try.t40.bytes = 2 from rfl]; simp only [List.length_append, List.length_cons, List.length_nil]; omega) | (rw [show Try.t40.bytes = 2 from rfl]; omega) | omega | (simp only [List.length_append, List.length_cons, List.length_nil]; omega) | assumption | (simp; done)) (by first | (rw [show Try.t40.bytes = 2 from rfl]; simp only [List.length_append, List.length_cons, List.length_nil]; omega) | (rw [show Try.t40.bytes = 2 from rfl]; omega) | omega | (simp only [List.length_append, List.length_cons, List.length_nil]; omega) | assumption | (simp; done)) (by first | (rw [show Try.t40.bytes = 2 from rfl]; simp only [List.length_append, List.length_cons, List.length_nil]; omega) | (rw [show Try.t40.bytes = 2 from rfl]; omega) | omega | (simp only [List.length_append, List.length_cons, List.length_nil]; omega) | assumption | (simp; done))) (fun _ _ hR => Ext.trans xr7 (by first | exact hR.2.1 | exact Ext.nil (hR.2.1))) rfl ?_
        rintro v12 H10 ⟨a11o, a11x, a11n, a11b⟩
        have a11s := a11x.size
        replace hx0 := Ext.fresh hx0 a11x (by intro b hb; exact Or.inl (Nat.le_trans (by omega) (Ow.lt ow b hb).1))
        replace n4r := Sl.ext n4r a11x (by intro b hb; (try have hSb := hS b hb); intro hm; have hlt := Ow.lt ow _ hm; (try simp only [mb, List.mem_singleton] at hb); (try simp only [mb, List.mem_singleton] at hm); omega)
        replace xr7 := Ext.trans xr7 (by first | exact a11x | exact Ext.nil a11x)
        refine hd_v rfl (fun H' hS => (v_assign rfl)) rfl ?_
        refine hd_nil ?_
        refine thenQ_n ?_
        refine hw_sub _ (ai_cons (t := 3) rfl (ai_cons (t := 4) rfl (ai_cons (t := 6) rfl ai_nil))) ?_
        refine hw_region ?_
        refine hl_v (v_move rfl) rfl ?_
        refine hl_v (v_add rfl rfl (by first | omega | assumption | (simp only [Int.toNat_natCast]; omega) | (simp; done) | (simp at *; omega))) rfl ?_
        refine hl_v (v_assign rfl) rfl ?_
        refine hl_nil ?_
        refine blockQ_n ?_
        refine thenQ_n ?_
        refine hw_region ?_
        refine hl_v (v_move rfl) rfl ?_
        refine hl_v (v_add rfl rfl (by first | omega | assumption | (simp only [Int.toNat_natCast]; omega) | (simp; done) | (simp at *; omega))) rfl ?_
        refine hl_v (v_assign rfl) rfl ?_
        refine hl_nil ?_
        refine thenQ_n ?_
        refine ⟨(x.1 + 1, x.1 + 1, _, x.2.2.2 ++ [(s.bytes.getD x.2.1 default, s.bytes.getD x.1 default)]), (ai_cons (t := 3) rfl (ai_cons (t := 5) rfl (ai_cons (t := 6) rfl (ai_cons (t := 4) rfl ai_nil)))), ?_, ?_⟩
        · skip
          exact ⟨hx0, n4r, a11o, (by omega), (RI_shut hri (by omega) (by omega))⟩
        · omega
      · try simp only [decide_eq_true_eq, decide_eq_false_iff_not, Bool.and_eq_true, Bool.and_eq_false_iff, Bool.or_eq_true, Bool.or_eq_false_iff, Bool.not_eq_true', Bool.not_eq_false', Bool.not_eq_true, Bool.not_eq_false, beq_iff_eq, Int.not_lt, Int.not_le] at hc6
        rw [show ((x.1 : Int) + 1).toNat = x.1 + 1 by omega, Int.toNat_natCast] at hc6
        refine hw_skip ?_
        refine blockQ_n ?_
        refine thenQ_n ?_
        refine hw_region ?_
        refine hl_v (v_move rfl) rfl ?_
        refine hl_v (v_add rfl rfl (by first | omega | assumption | (simp only [Int.toNat_natCast]; omega) | (simp; done) | (simp at *; omega))) rfl ?_
        refine hl_v (v_assign rfl) rfl ?_
        refine hl_nil ?_
        refine thenQ_n ?_
        refine ⟨(x.1 + 1, x.2.1, x.2.2.1, x.2.2.2), (ai_cons (t := 3) rfl (ai_cons (t := 5) rfl (ai_cons (t := 6) rfl (ai_cons (t := 4) rfl ai_nil)))), ?_, ?_⟩
        · skip
          exact ⟨hx0, n4r, ow, (by omega), (RI_open hri (by omega) (by omega))⟩
        · omega
    · try simp only [decide_eq_true_eq, decide_eq_false_iff_not, Bool.and_eq_true, Bool.and_eq_false_iff, Bool.or_eq_true, Bool.or_eq_false_iff, Bool.not_eq_true', Bool.not_eq_false', Bool.not_eq_true, Bool.not_eq_false, beq_iff_eq, Int.not_lt, Int.not_le] at hc5
      refine hw_exit ?_
      refine thenQ_e ?_
      refine thenQ_e ?_
      refine blockQ_hit ?_
      refine thenQ_n ?_
      refine hw_seq ?_
      refine hw_region ?_
      refine hl_v (v_move rfl) rfl ?_
      refine hl_v (v_assign rfl) rfl ?_
      refine hl_nil ?_
      refine thenQ_n ?_
      refine hw_sub _ (ai_cons (t := 2) rfl ai_nil) ?_
      refine hw_ret ?_
      refine ret_i _ (ra_t rfl ra_nil) ?_
      rw [RI_end hri (by omega)] at ow
      exact ⟨ow.base (by omega), hx0⟩

theorem By_spec {s t : BSet} {how : Int} {H : Heap} : HC Try.prog 41 [sv s, sv t, .int .i64 how] H (fun v H' => v = sv (.ofFn (fun m => byP how (s.has m) (t.has m)) 256) ∧ Ext [] H H') := by
  have hx0 : Ext [] H H := Ext.refl _
  refine hc_of_hw (N := 64) (rs := [(.cell 6 31)]) Try.func41 rfl rfl rfl rfl ?_
  refine hw_seq ?_
  refine hw_region ?_
  refine hl_h (h_boxS rfl) rfl ?_
  rintro _ H1 ⟨rfl, n2⟩
  have n2s := n2.size
  replace hx0 := Ext.trans hx0 n2.ext
  have n2b := n2.blk
  refine hl_h (h_boxS rfl) rfl ?_
  rintro _ H3 ⟨rfl, n4⟩
  have n4s := n4.size
  replace hx0 := Ext.trans hx0 n4.ext
  replace n2b := Ext.blk n4.ext n2b (by simp)
  have n4b := n4.blk
  refine hl_h (h_allocS Try.zeroValue31) rfl ?_
  rintro _ H5 ⟨rfl, n6⟩
  have n6s := n6.size
  replace hx0 := Ext.trans hx0 n6.ext
  replace n2b := Ext.blk n6.ext n2b (by simp)
  replace n4b := Ext.blk n6.ext n4b (by simp)
  have n6b := n6.blk
  refine hl_nil ?_
  refine thenQ_n ?_
  refine hw_sub _ (ai_cons (t := 2) rfl (ai_cons (t := 3) rfl (ai_cons (t := 4) rfl (ai_cons (t := 6) rfl ai_nil)))) ?_
  refine hw_seq ?_
  refine hw_region ?_
  refine hl_h (h_makeSlice (g := fBool) (d := default) (B := H5.size) Try.underlying71 Try.type4 rfl rfl rfl (by decide) rfl rfl (by first | omega | assumption | (simp only [Int.toNat_natCast]; omega) | (simp; done) | (simp at *; omega)) (by first | omega | assumption | (simp only [Int.toNat_natCast]; omega) | (simp; done) | (simp at *; omega)) (by rw [show Try.t4.bytes = 1 from rfl]; (first | omega | assumption | (simp only [Int.toNat_natCast]; omega) | (simp; done) | (simp at *; omega))) (by first | omega | assumption | (simp only [Int.toNat_natCast]; omega) | (simp; done) | (simp at *; omega))) rfl ?_
  rintro _ H7 ⟨rfl, n8o, n8x, n8s⟩
  replace hx0 := Ext.trans hx0 n8x
  replace n2b := Ext.blk n8x n2b (by simp)
  replace n4b := Ext.blk n8x n4b (by simp)
  replace n6b := Ext.blk n8x n6b (by simp)
  refine hl_v (v_assign rfl) rfl ?_
  refine hl_nil ?_
  refine thenQ_n ?_
  refine hw_sub _ (ai_cons (t := 2) rfl (ai_cons (t := 3) rfl (ai_cons (t := 4) rfl (ai_cons (t := 6) rfl (ai_cons (t := 7) rfl ai_nil))))) ?_
  refine hw_seq ?_
  refine hw_seq ?_
  refine hw_region ?_
  refine hl_v (v_assign rfl) rfl ?_
  refine hl_nil ?_
  refine thenQ_n ?_
  refine hw_sub _ (ai_cons (t := 2) rfl (ai_cons (t := 3) rfl (ai_cons (t := 4) rfl (ai_cons (t := 6) rfl (ai_cons (t := 7) rfl (ai_cons (t := 8) rfl ai_nil)))))) ?_
  refine hw_block ?_
  refine hw_loop (α := Nat) [(2, _), (3, _), (4, _), (6, _), (7, _)] (fun k => [(8, .int .i64 (k : Int))]) (fun k G3 => Ext [] H G3 ∧ Blk G3 H.size (sw s) 31 ∧ Blk G3 H1.size (sw t) 31 ∧ Blk G3 H3.size (sw .zero) 31 ∧ Ow fBool G3 H5.size 4 (.slice (some ⟨H5.size, 0, none⟩) (256 : Int).toNat (256 : Int).toNat) (upto (fun m => byP how (s.has m) (t.has m)) k) ∧ H7.size ≤ G3.size ∧ k ≤ 256) (fun k => 256 - k) 0 (ai_cons (t := 8) rfl (ai_cons (t := 2) rfl (ai_cons (t := 3) rfl (ai_cons (t := 4) rfl (ai_cons (t := 6) rfl (ai_cons (t := 7) rfl ai_nil)))))) ?_ ?_
  · exact ⟨hx0, n2b, n4b, n6b, (n8o.congr (upto_none fun m hm => absurd hm (Nat.not_lt_zero _))), Nat.le_refl _, Nat.zero_le _⟩
  · intro k G3 hI
    obtain ⟨hx0, n2b, n4b, n6b, n8o, hz, hk⟩ := hI
    have hx0z := hx0.size
    have htl := upto_len (fun m => byP how (s.has m) (t.has m)) k
    refine hw_seq ?_
    refine hw_seq ?_
    refine hw_region ?_
    refine hl_v (v_move rfl) rfl ?_
    refine hl_v (v_lss rfl rfl) rfl ?_
    refine hl_nil ?_
    refine thenQ_n ?_
    refine hw_sub _ (ai_cons (t := 2) rfl (ai_cons (t := 3) rfl (ai_cons (t := 4) rfl (ai_cons (t := 6) rfl (ai_cons (t := 7) rfl (ai_cons (t := 8) rfl (ai_cons (t := 13) rfl ai_nil))))))) ?_
    refine hw_cond rfl (fun hc9 => ?_) (fun hc9 => ?_)
    · try simp only [decide_eq_true_eq, decide_eq_false_iff_not, Bool.and_eq_true, Bool.and_eq_false_iff, Bool.or_eq_true, Bool.or_eq_false_iff, Bool.not_eq_true', Bool.not_eq_false', Bool.not_eq_true, Bool.not_eq_false, beq_iff_eq, Int.not_lt, Int.not_le] at hc9
      refine hw_skip ?_
      refine thenQ_n ?_
      refine hw_seq ?_
      refine hw_block ?_
      refine hw_seq ?_
      refine hw_region ?_
      refine hl_v (v_loadS Try.isAgg31 Try.sizeOf31 rfl (by first | exact n2b | assumption)) rfl ?_
      refine hl_v (v_move rfl) rfl ?_
      refine hl_h (h_call Try.call23 (evs_cons rfl (evs_cons rfl evs_nil)) (rHas_spec (by first | omega | assumption | (simp only [Int.toNat_natCast]; omega) | (simp; done) | (simp at *; omega)))) rfl ?_
      rintro _ H10 ⟨rfl, n11⟩
      have n11s := n11.size
      replace hx0 := Ext.trans hx0 n11
      replace n2b := Ext.blk n11 n2b (by simp)
      replace n4b := Ext.blk n11 n4b (by simp)
      replace n6b := Ext.blk n11 n6b (by simp)
      replace n8o := Ow.ext0 n8o n11
      refine hl_v (v_assign rfl) rfl ?_
      refine hl_nil ?_
      refine thenQ_n ?_
      refine hw_sub _ (ai_cons (t := 2) rfl (ai_cons (t := 3) rfl (ai_cons (t := 4) rfl (ai_cons (t := 6) rfl (ai_cons (t := 7) rfl (ai_cons (t := 8) rfl (ai_cons (t := 9) rfl ai_nil))))))) ?_
      refine hw_seq ?_
      refine hw_region ?_
      refine hl_v (v_loadS Try.isAgg31 Try.sizeOf31 rfl (by first | exact n4b | assumption)) rfl ?_
      refine hl_v (v_move rfl) rfl ?_
      refine hl_h (h_call Try.call23 (evs_cons rfl (evs_cons rfl evs_nil)) (rHas_spec (by first | omega | assumption | (simp only [Int.toNat_natCast]; omega) | (simp; done) | (simp at *; omega)))) rfl ?_
      rintro _ H12 ⟨rfl, n13⟩
      have n13s := n13.size
      replace hx0 := Ext.trans hx0 n13
      replace n2b := Ext.blk n13 n2b (by simp)
      replace n4b := Ext.blk n13 n4b (by simp)
      replace n6b := Ext.blk n13 n6b (by simp)
      replace n8o := Ow.ext0 n8o n13
      refine hl_v (v_assign rfl) rfl ?_
      refine hl_nil ?_
      refine thenQ_n ?_
      refine hw_sub _ (ai_cons (t := 2) rfl (ai_cons (t := 3) rfl (ai_cons (t := 4) rfl (ai_cons (t := 6) rfl (ai_cons (t := 7) rfl (ai_cons (t := 8) rfl (ai_cons (t := 9) rfl (ai_cons (t := 10) rfl ai_nil)))))))) ?_
      refine hw_region ?_
      refine hl_v (v_move rfl) rfl ?_
      refine hl_v (v_move rfl) rfl ?_
      refine hl_v (v_move rfl) rfl ?_
      refine hl_v (v_eql rfl rfl) rfl ?_
      refine hl_v (v_move rfl) rfl ?_
      refine hl_g rfl rfl (fun hg => (v_move rfl)) rfl ?_
      refine hl_v (v_and rfl rfl) rfl ?_
      refine hl_v (v_move rfl) rfl ?_
      refine hl_g rfl rfl (fun hg => (v_move rfl)) rfl ?_
      refine hl_v (v_and rfl rfl) rfl ?_
      refine hl_v (v_move rfl) rfl ?_
      refine hl_g rfl rfl (fun hg => (v_move rfl)) rfl ?_
      refine hl_g rfl rfl (fun hg => (v_eql (gv_ok rfl hg) rfl)) rfl ?_
      refine hl_g rfl rfl (fun hg => (v_move (gv_ok rfl hg))) rfl ?_
      refine hl_g rfl rfl (fun hg => (v_move rfl)) rfl ?_
      refine hl_g rfl rfl (fun hg => (v_move (gv_ok rfl hg))) rfl ?_
      refine hl_g rfl rfl (fun hg => (v_move rfl)) rfl ?_
      refine hl_g rfl rfl (fun hg => (v_or (gv_ok rfl hg) (gvgb_ok rfl hg))) rfl ?_
      refine hl_g rfl rfl (fun hg => (v_and (gv_ok rfl hg) (gvgb_ok rfl hg))) rfl ?_
      refine hl_v (v_or rfl rfl) rfl ?_
      refine hl_v (v_move rfl) rfl ?_
      refine hl_g rfl rfl (fun hg => (v_move rfl)) rfl ?_
      refine hl_g rfl rfl (fun hg => (v_eql (gv_ok rfl hg) rfl)) rfl ?_
      refine hl_g rfl rfl (fun hg => (v_move (gv_ok rfl hg))) rfl ?_
      refine hl_g rfl rfl (fun hg => (v_move rfl)) rfl ?_
      refine hl_g rfl rfl (fun hg => (v_and (gv_ok rfl hg) (gvgb_ok rfl hg))) rfl ?_
      refine hl_g rfl rfl (fun hg => (v_move (gv_ok rfl hg))) rfl ?_
      refine hl_g rfl rfl (fun hg => (v_move rfl)) rfl ?_
      refine hl_g rfl rfl (fun hg => (v_not (gv_ok rfl hg))) rfl ?_
      refine hl_g rfl rfl (fun hg => (v_and (gv_ok rfl hg) (gvgb_ok rfl hg))) rfl ?_
      refine hl_v (v_or rfl rfl) rfl ?_
      refine hl_v (v_move rfl) rfl ?_
      refine hl_g rfl rfl (fun hg => (v_move rfl)) rfl ?_
      refine hl_g rfl rfl (fun hg => (v_eql (gv_ok rfl hg) rfl)) rfl ?_
      refine hl_g rfl rfl (fun hg => (v_move (gv_ok rfl hg))) rfl ?_
      refine hl_g rfl rfl (fun hg => (v_move rfl)) rfl ?_
      refine hl_g rfl rfl (fun hg => (v_not (gv_ok rfl hg))) rfl ?_
      refine hl_g rfl rfl (fun hg => (v_and (gv_ok rfl hg) (gvgb_ok rfl hg))) rfl ?_
      refine hl_v (v_or rfl rfl) rfl ?_
      refine hl_v (v_ixL Try.underlying71 Try.sizeOf4 rfl rfl (by first | assumption | exact Ow.sl0 (by assumption)) (by first | omega | assumption | (simp only [Int.toNat_natCast]; omega) | (simp; done) | (simp at *; omega))) rfl ?_
      refine hl_s (h_storeOw1 Try.sizeOf4 rfl rfl rfl rfl n8o (by first | omega | assumption | (simp only [Int.toNat_natCast]; omega) | (simp; done) | (simp at *; omega)) rfl rfl) ?_
      rintro _ H14 p15
      have p15s := p15.size
      replace hx0 := Ext.fresh hx0 p15.ext (by intro b hb; exact Or.inl (Nat.le_trans (by omega) (Ow.lt n8o b hb).1))
      replace n2b := Ext.blk p15.ext n2b (by intro hm; have hlt := Ow.lt n8o _ hm; (try simp only [mb, List.mem_singleton] at hb); (try simp only [mb, List.mem_singleton] at hm); omega)
      replace n4b := Ext.blk p15.ext n4b (by intro hm; have hlt := Ow.lt n8o _ hm; (try simp only [mb, List.mem_singleton] at hb); (try simp only [mb, List.mem_singleton] at hm); omega)
      replace n6b := Ext.blk p15.ext n6b (by intro hm; have hlt := Ow.lt n8o _ hm; (try simp only [mb, List.mem_singleton] at hb); (try simp only [mb, List.mem_singleton] at hm); omega)
      replace n8o := p15.ow
      refine hl_nil ?_
      refine blockQ_n ?_
      refine thenQ_n ?_
      refine hw_region ?_
      refine hl_v (v_move rfl) rfl ?_
      refine hl_v (v_add rfl rfl (by first | omega | assumption | (simp only [Int.toNat_natCast]; omega) | (simp; done) | (simp at *; omega))) rfl ?_
      refine hl_v (v_assign rfl) rfl ?_
      refine hl_nil ?_
      refine thenQ_n ?_
      refine ⟨k + 1, (ai_cons (t := 8) rfl (ai_cons (t := 2) rfl (ai_cons (t := 3) rfl (ai_cons (t := 4) rfl (ai_cons (t := 6) rfl (ai_cons (t := 7) rfl ai_nil)))))), ?_, ?_⟩
      · skip
        exact ⟨hx0, n2b, n4b, n6b, (n8o.congr (upto_set (fun m => byP how (s.has m) (t.has m)) rfl)), (by omega), by omega⟩
      · omega
    · try simp only [decide_eq_true_eq, decide_eq_false_iff_not, Bool.and_eq_true, Bool.and_eq_false_iff, Bool.or_eq_true, Bool.or_eq_false_iff, Bool.not_eq_true', Bool.not_eq_false', Bool.not_eq_true, Bool.not_eq_false, beq_iff_eq, Int.not_lt, Int.not_le] at hc9
      refine hw_exit ?_
      refine thenQ_e ?_
      refine thenQ_e ?_
      refine blockQ_hit ?_
      refine thenQ_n ?_
      refine hw_seq ?_
      refine hw_region ?_
      refine hl_v (v_move rfl) rfl ?_
      refine hl_h (h_call Try.call50 (evs_cons rfl evs_nil) (Make_spec (by first | assumption | exact Ow.sl0 (by assumption)) (by first | assumption | exact fun _ h => h | exact fun b hb => (Ow.lt (by assumption) b hb).2 | (intro b hb; have hSb := hS b hb; omega)) (by first | assumption | simp [tab_len]))) rfl ?_
      rintro _ H16 ⟨rfl, n17⟩
      have n17s := n17.size
      replace hx0 := Ext.trans hx0 n17
      replace n2b := Ext.blk n17 n2b (by simp)
      replace n4b := Ext.blk n17 n4b (by simp)
      replace n6b := Ext.blk n17 n6b (by simp)
      replace n8o := Ow.ext0 n8o n17
      refine hl_s (h_storeS Try.sizeOf31 rfl rfl n6b) ?_
      rintro _ H18 p19
      have p19s := p19.size
      replace hx0 := Ext.fresh hx0 p19.ext (by intro b hb; simp at hb; omega)
      replace n2b := Ext.blk p19.ext n2b (by (try simp only [mb, List.mem_singleton] at hb); simp; omega)
      replace n4b := Ext.blk p19.ext n4b (by (try simp only [mb, List.mem_singleton] at hb); simp; omega)
      replace n8o := Ow.ext n8o p19.ext (by intro b hb; have hlb := Ow.lt n8o b hb; (try simp only [mb, List.mem_singleton] at hb); simp; omega)
      replace n6b := p19.blk
      refine hl_nil ?_
      refine thenQ_n ?_
      refine hw_sub _ (ai_cons (t := 6) rfl ai_nil) ?_
      refine hw_ret ?_
      refine ret_i _ (ra_c rfl (fun w hw => run_loadVar_at Try.isAgg31 Try.sizeOf31 (Blk.at0 (by assumption)) rfl w hw) ra_nil) ?_
      obtain rfl : k = 256 := by omega
      refine ⟨congrArg sv ?_, hx0⟩
      rw [BSet.ofFn_upto]
      apply BSet.ofFn_congr _ (Nat.le_refl _)
      intro m hm
      simp [hm]

theorem Pairs_true {v0 v1 : Value} {l m : List (UInt8 × UInt8)} {S S' : Nat → Prop} {H : Heap} (h : l = m) (hs : Sl fPair.rep H S v0 l) (ht : Sl fPair.rep H S' v1 m) : HC Try.prog 42 [v0, v1] H (fun v H' => v = .bool true ∧ H' = H) := by
  have := Pairs_spec hs ht
  rwa [decide_eq_true h] at this
theorem rows_ex : (BSet.ofL [97, 98, 0, 255]).rows = [(0, 0), (97, 98), (255, 255)] := by decide +kernel
theorem has_ex : (BSet.ofL [3]).has 3 = true := by decide +kernel
theorem awake1_spec {H : Heap} : HC Try.prog 17 [] H (fun v H' => v = .bool true ∧ Ext [] H H') := by
  have hx0 : Ext [] H H := Ext.refl _
  refine hc_of_hw (N := 16) (rs := [(.tmp 0)]) Try.func17 rfl rfl rfl rfl ?_
  refine hw_seq ?_
  refine hw_region ?_
  refine hl_v (v_assign rfl) rfl ?_
  refine hl_nil ?_
  refine thenQ_n ?_
  refine hw_sub _ ai_nil ?_
  refine hw_seq ?_
  refine hw_region ?_
  refine hl_h (h_buildSlice (xs := [_, _, _, _]) Try.underlying28 Try.sizeOf5 Try.zeroValue5 rfl (evs_cons rfl (evs_cons rfl (evs_cons rfl (evs_cons rfl evs_nil)))) rfl (by decide) (by decide) (by intro v hv; simp only [List.mem_cons, List.not_mem_nil, or_false] at hv; rcases hv with rfl | rfl | rfl | rfl <;> rfl)) rfl ?_
  rintro _ H1 ⟨rfl, n2⟩
  have n2s := n2.size
  replace hx0 := Ext.trans hx0 n2.ext
  have n2o := Ow.new (g := fByte) (l := [97, 98, 0, 255]) (B := H.size) n2 rfl (by omega) (by simp)
  refine hl_h (h_call Try.call18 (evs_cons rfl evs_nil) (Of_spec (by first | assumption | exact Ow.sl0 (by assumption)) (by first | assumption | exact fun _ h => h | exact fun b hb => (Ow.lt (by assumption) b hb).2 | (intro b hb; have hSb := hS b hb; omega)))) rfl ?_
  rintro _ H3 ⟨rfl, n4⟩
  have n4s := n4.size
  replace hx0 := Ext.trans hx0 n4
  replace n2o := Ow.ext0 n2o n4
  refine hl_h (h_call Try.call24 (evs_cons rfl evs_nil) (Rows_spec)) rfl ?_
  rintro n6v H5 ⟨n6o, n6⟩
  have n6s := n6.size
  replace hx0 := Ext.trans hx0 n6
  replace n2o := Ow.ext0 n2o n6
  refine hl_v (v_assign rfl) rfl ?_
  refine hl_nil ?_
  refine thenQ_n ?_
  refine hw_sub _ (ai_cons (t := 1) rfl ai_nil) ?_
  refine hw_seq ?_
  refine hw_region ?_
  refine hl_v (v_move rfl) rfl ?_
  refine hl_v (v_build2 Try.underlying40 Try.zeroValue40 rfl Try.sizeOf5 (show _ = some (Value.int .u8 (((0 : UInt8).toNat : Nat) : Int)) from rfl) (show _ = some (Value.int .u8 (((0 : UInt8).toNat : Nat) : Int)) from rfl)) rfl ?_
  refine hl_v (v_build2 Try.underlying40 Try.zeroValue40 rfl Try.sizeOf5 (show _ = some (Value.int .u8 (((97 : UInt8).toNat : Nat) : Int)) from rfl) (show _ = some (Value.int .u8 (((98 : UInt8).toNat : Nat) : Int)) from rfl)) rfl ?_
  refine hl_v (v_build2 Try.underlying40 Try.zeroValue40 rfl Try.sizeOf5 (show _ = some (Value.int .u8 (((255 : UInt8).toNat : Nat) : Int)) from rfl) (show _ = some (Value.int .u8 (((255 : UInt8).toNat : Nat) : Int)) from rfl)) rfl ?_
  refine hl_h (h_buildSlice (xs := [.tmp 6, .tmp 7, .tmp 8]) Try.underlying38 Try.sizeOf40 Try.zeroValue40 rfl (evs_cons rfl (evs_cons rfl (evs_cons rfl evs_nil))) rfl (by decide) (by decide) (by intro v hv; simp only [List.mem_cons, List.not_mem_nil, or_false] at hv; rcases hv with rfl | rfl | rfl <;> rfl)) rfl ?_
  rintro _ H7 ⟨rfl, n8⟩
  have n8s := n8.size
  replace hx0 := Ext.trans hx0 n8.ext
  replace n2o := Ow.ext0 n2o n8.ext
  replace n6o := Ow.ext0 n6o n8.ext
  have n8o := Ow.new (g := fPair) (l := [_, _, _]) (B := H5.size) n8 rfl (by omega) (by simp)
  refine hl_v (v_call Try.call42 (evs_cons rfl (evs_cons rfl evs_nil)) (Pairs_true rows_ex (by first | assumption | exact Ow.sl0 (by assumption)) (by first | assumption | exact Ow.sl0 (by assumption)))) rfl ?_
  refine hl_v (v_move rfl) rfl ?_
  refine hl_gh rfl rfl rfl (h_buildSlice (xs := [_]) Try.underlying28 Try.sizeOf5 Try.zeroValue5 rfl (evs_cons rfl evs_nil) rfl (by decide) (by decide) (by intro v hv; simp only [List.mem_cons, List.not_mem_nil, or_false] at hv; rcases hv with rfl <;> rfl)) rfl ?_
  rintro _ H9 ⟨rfl, n10⟩
  have n10s := n10.size
  replace hx0 := Ext.trans hx0 n10.ext
  replace n2o := Ow.ext0 n2o n10.ext
  replace n6o := Ow.ext0 n6o n10.ext
  replace n8o := Ow.ext0 n8o n10.ext
  have n10o := Ow.new (g := fByte) (l := [3]) (B := H7.size) n10 rfl (by omega) (by simp)
  refine hl_gh rfl rfl rfl (h_call Try.call18 (evs_cons rfl evs_nil) (Of_spec (by first | assumption | exact Ow.sl0 (by assumption)) (by first | assumption | exact fun _ h => h | exact fun b hb => (Ow.lt (by assumption) b hb).2 | (intro b hb; have hSb := hS b hb; omega)))) rfl ?_
  rintro _ H11 ⟨rfl, n12⟩
  have n12s := n12.size
  replace hx0 := Ext.trans hx0 n12
  replace n2o := Ow.ext0 n2o n12
  replace n6o := Ow.ext0 n6o n12
  replace n8o := Ow.ext0 n8o n12
  replace n10o := Ow.ext0 n10o n12
  refine hl_gh rfl rfl rfl (h_call Try.call22 (evs_cons rfl (evs_cons (show _ = some (Value.int .u8 (((3 : UInt8).toNat : Nat) : Int)) from rfl) evs_nil)) (Has_spec)) rfl ?_
  rintro _ H13 ⟨rfl, n14⟩
  have n14s := n14.size
  replace hx0 := Ext.trans hx0 n14
  replace n2o := Ow.ext0 n2o n14
  replace n6o := Ow.ext0 n6o n14
  replace n8o := Ow.ext0 n8o n14
  replace n10o := Ow.ext0 n10o n14
  refine hl_v (v_and rfl rfl) rfl ?_
  refine hl_v (v_assign rfl) rfl ?_
  refine hl_nil ?_
  refine thenQ_n ?_
  refine hw_sub _ (ai_cons (t := 0) rfl ai_nil) ?_
  refine hw_ret ?_
  refine ret_i _ (ra_t rfl ra_nil) ?_
  refine ⟨congrArg Value.bool ?_, hx0⟩
  exact has_ex

theorem SetMakes_walk {v0 : Value} {l : List UInt8} {a b : UInt8} {s : BSet} {H : Heap} (hs : Sl fByte.rep H (inH H) v0 l) : HC Try.prog 4 [v0, .int .u8 a.toNat, .int .u8 b.toNat, sv s] H (fun v H' => v = .bool true ∧ Ext [] H H') := by
  have hx0 : Ext [] H H := Ext.refl _
  have ha := a.toNat_lt
  have hcap := hs.cap
  have hS : ∀ b, inH H b → b < H.size := fun _ h => h
  refine hc_of_hw (N := 39) (rs := [(.tmp 8)]) Try.func4 rfl rfl rfl rfl ?_
  refine hw_seq ?_
  refine hw_region ?_
  refine hl_h (h_boxS rfl) rfl ?_
  rintro _ H1 ⟨rfl, n2⟩
  have n2s := n2.size
  replace hx0 := Ext.trans hx0 n2.ext
  replace hs := Sl.ext0 hs n2.ext
  have n2b := n2.blk
  refine hl_v (v_assign rfl) rfl ?_
  refine hl_nil ?_
  refine thenQ_n ?_
  refine hw_sub _ (ai_cons (t := 0) rfl (ai_cons (t := 1) rfl (ai_cons (t := 2) rfl (ai_cons (t := 7) rfl ai_nil)))) ?_
  refine hw_seq ?_
  refine hw_seq ?_
  refine hw_region ?_
  refine hl_v (v_move rfl) rfl ?_
  refine hl_v (v_lenL rfl Try.underlying28 rfl (by first | assumption | exact Ow.sl0 (by assumption))) rfl ?_
  refine hl_v (v_gtr rfl rfl) rfl ?_
  refine hl_nil ?_
  refine thenQ_n ?_
  refine hw_sub _ (ai_cons (t := 0) rfl (ai_cons (t := 1) rfl (ai_cons (t := 2) rfl (ai_cons (t := 7) rfl (ai_cons (t := 11) rfl ai_nil))))) ?_
  refine hw_cond rfl (fun hc3 => ?_) (fun hc3 => ?_)
  · try simp only [decide_eq_true_eq, decide_eq_false_iff_not, Bool.and_eq_true, Bool.and_eq_false_iff, Bool.or_eq_true, Bool.or_eq_false_iff, Bool.not_eq_true', Bool.not_eq_false', Bool.not_eq_true, Bool.not_eq_false, beq_iff_eq, Int.not_lt, Int.not_le] at hc3
    refine hw_seq ?_
    refine hw_region ?_
    refine hl_v (v_assign rfl) rfl ?_
    refine hl_nil ?_
    refine thenQ_n ?_
    refine hw_sub _ (ai_cons (t := 8) rfl ai_nil) ?_
    refine hw_ret ?_
    refine thenQ_r ?_
    refine ret_i _ (ra_t rfl ra_nil) ?_
    exact ⟨rfl, hx0⟩
  · try simp only [decide_eq_true_eq, decide_eq_false_iff_not, Bool.and_eq_true, Bool.and_eq_false_iff, Bool.or_eq_true, Bool.or_eq_false_iff, Bool.not_eq_true', Bool.not_eq_false', Bool.not_eq_true, Bool.not_eq_false, beq_iff_eq, Int.not_lt, Int.not_le] at hc3
    refine hw_skip ?_
    refine thenQ_n ?_
    refine hw_seq ?_
    refine hw_held (fun H' => Ext [] H1 H') (.step 0 true (.step 1 false (.step 2 false (.step 4 false (.step 3 true (.step 5 true (.step 6 false (.step 7 false (.step 8 false (.step 9 false (.step 10 false (.step 12 false (.step 13 false (.step 11 true (.step 14 true (.step 15 false (.step 16 false (.step 17 false (.step 18 false (.step 19 false (.step 21 false (.step 22 false (.step 23 false (.step 20 true (.step 24 true (.step 25 false (.step 26 false (.step 27 false .done)))))))))))))))))))))))))))) Try.mixed (by kernel_rfl) ?_ ?_
    · exact Ext.refl _
    have xr4 : Ext [] H1 H1 := Ext.refl _
    have hsR := hs
    have n2bR := n2b
    refine hd_h (h_call Try.call17 evs_nil (awake1_spec)) (fun _ _ hR => Ext.trans xr4 (hR.2)) rfl ?_
    rintro _ H5 ⟨rfl, n6⟩
    have n6s := n6.size
    replace hx0 := Ext.trans hx0 n6
    replace hs := Sl.ext0 hs n6
    replace n2b := Ext.blk n6 n2b (by simp)
    replace xr4 := Ext.trans xr4 n6
    refine hd_v rfl (fun H' hS => (v_move rfl)) rfl ?_
    refine hd_g rfl rfl rfl (fun hg H' hS => (v_move rfl)) rfl ?_
    refine hd_g rfl rfl rfl (fun hg H' hS => (v_move rfl)) rfl ?_
    refine hd_gh rfl rfl rfl (h_call Try.call18 (evs_cons rfl evs_nil) (Of_spec (by first | assumption | exact Ow.sl0 (by assumption)) (by first | assumption | exact fun _ h => h | exact fun b hb => (Ow.lt (by assumption) b hb).2 | (intro b hb; have hSb := hS b hb; omega)))) (fun _ _ hR => Ext.trans xr4 (hR.2)) rfl ?_
    rintro _ H7 ⟨rfl, n8⟩
    have n8s := n8.size
    replace hx0 := Ext.trans hx0 n8
    replace hs := Sl.ext0 hs n8
    replace n2b := Ext.blk n8 n2b (by simp)
    replace xr4 := Ext.trans xr4 n8
    refine hd_gh rfl rfl rfl (h_call Try.call19 (evs_cons rfl evs_nil) (rOf_spec (by first | assumption | exact Ow.sl0 (by assumption)) (by first | assumption | exact fun _ h => h | exact fun b hb => (Ow.lt (by assumption) b hb).2 | (intro b hb; have hSb := hS b hb; omega)))) (fun _ _ hR => Ext.trans xr4 (hR.2)) rfl ?_
    rintro _ H9 ⟨rfl, n10⟩
    have n10s := n10.size
    replace hx0 := Ext.trans hx0 n10
    replace hs := Sl.ext0 hs n10
    replace n2b := Ext.blk n10 n2b (by simp)
    replace xr4 := Ext.trans xr4 n10
    refine hd_g rfl rfl rfl (fun hg H' hS => (v_eqlSetT Try.underlying31 Try.underlying29 Try.sizeOf29 (by kernel_rfl) (gv_ok rfl hg) (gv_ok rfl hg) rfl)) rfl ?_
    refine hd_v rfl (fun H' hS => (v_and rfl rfl)) rfl ?_
    refine hd_v rfl (fun H' hS => (v_move rfl)) rfl ?_
    refine hd_g rfl rfl rfl (fun hg H' hS => (v_move rfl)) rfl ?_
    refine hd_g rfl rfl rfl (fun hg H' hS => (v_move rfl)) rfl ?_
    refine hd_g rfl rfl rfl (fun hg H' hS => (v_move rfl)) rfl ?_
    refine hd_g rfl rfl rfl (fun hg H' hS => (v_move rfl)) rfl ?_
    refine hd_gh rfl rfl rfl (h_call Try.call20 (evs_cons rfl (evs_cons rfl evs_nil)) (Span_spec)) (fun _ _ hR => Ext.trans xr4 (hR.2)) rfl ?_
    rintro _ H11 ⟨rfl, n12⟩
    have n12s := n12.size
    replace hx0 := Ext.trans hx0 n12
    replace hs := Sl.ext0 hs n12
    replace n2b := Ext.blk n12 n2b (by simp)
    replace xr4 := Ext.trans xr4 n12
    refine hd_gh rfl rfl rfl (h_call Try.call21 (evs_cons rfl (evs_cons rfl evs_nil)) (rSpan_spec)) (fun _ _ hR => Ext.trans xr4 (hR.2)) rfl ?_
    rintro _ H13 ⟨rfl, n14⟩
    have n14s := n14.size
    replace hx0 := Ext.trans hx0 n14
    replace hs := Sl.ext0 hs n14
    replace n2b := Ext.blk n14 n2b (by simp)
    replace xr4 := Ext.trans xr4 n14
    refine hd_g rfl rfl rfl (fun hg H' hS => (v_eqlSetT Try.underlying31 Try.underlying29 Try.sizeOf29 (by kernel_rfl) (gv_ok rfl hg) (gv_ok rfl hg) rfl)) rfl ?_
    refine hd_v rfl (fun H' hS => (v_and rfl rfl)) rfl ?_
    refine hd_v rfl (fun H' hS => (v_move rfl)) rfl ?_
    refine hd_g rfl rfl rfl (fun hg H' hS => (v_loadS Try.isAgg31 Try.sizeOf31 rfl (by first | exact Ext.blk hS n2bR (by simp) | exact n2b | exact Ext.blk hS (by first | assumption | exact Ext.blk hS (by assumption) (by simp) | exact Sl.ext0 (by assumption) hS | exact Sl.ext0 (Ow.sl0 (by assumption)) hS) (by simp)))) rfl ?_
    refine hd_g rfl rfl rfl (fun hg H' hS => (v_move rfl)) rfl ?_
    refine hd_g rfl rfl rfl (fun hg H' hS => (v_loadS Try.isAgg31 Try.sizeOf31 rfl (by first | exact Ext.blk hS n2bR (by simp) | exact n2b | exact Ext.blk hS (by first | assumption | exact Ext.blk hS (by assumption) (by simp) | exact Sl.ext0 (by assumption) hS | exact Sl.ext0 (Ow.sl0 (by assumption)) hS) (by simp)))) rfl ?_
    refine hd_g rfl rfl rfl (fun hg H' hS => (v_move rfl)) rfl ?_
    refine hd_g rfl rfl rfl (fun hg H' hS => (v_conv_id (t := 5) (t' := 3) (by rw [Try.underlying5]; rfl) Try.underlying3 (gv_ok rfl hg) (IntWalk.i64_in _ (by first | omega | assumption | (simp only [Int.toNat_natCast]; omega) | (simp; done) | (simp at *; omega))))) rfl ?_
    refine hd_gh rfl rfl rfl (h_call Try.call22 (evs_cons rfl (evs_cons rfl evs_nil)) (Has_spec)) (fun _ _ hR => Ext.trans xr4 (hR.2)) rfl ?_
    rintro _ H15 ⟨rfl, n16⟩
    have n16s := n16.size
    replace hx0 := Ext.trans hx0 n16
    replace hs := Sl.ext0 hs n16
    replace n2b := Ext.blk n16 n2b (by simp)
    replace xr4 := Ext.trans xr4 n16
    refine hd_gh rfl rfl rfl (h_call Try.call23 (evs_cons rfl (evs_cons rfl evs_nil)) (rHas_spec (by first | omega | assumption | (simp only [Int.toNat_natCast]; omega) | (simp; done) | (simp at *; omega)))) (fun _ _ hR => Ext.trans xr4 (hR.2)) rfl ?_
    rintro _ H17 ⟨rfl, n18⟩
    have n18s := n18.size
    replace hx0 := Ext.trans hx0 n18
    replace hs := Sl.ext0 hs n18
    replace n2b := Ext.blk n18 n2b (by simp)
    replace xr4 := Ext.trans xr4 n18
    refine hd_g rfl rfl rfl (fun hg H' hS => (v_eqlb Try.underlying4 (gv_ok rfl hg) (gv_ok rfl hg))) rfl ?_
    refine hd_v rfl (fun H' hS => (v_and rfl rfl)) rfl ?_
    refine hd_v rfl (fun H' hS => (v_assign rfl)) rfl ?_
    refine hd_nil ?_
    refine thenQ_n ?_
    refine hw_sub _ (ai_cons (t := 8) rfl ai_nil) ?_
    refine hw_ret ?_
    refine ret_i _ (ra_t rfl ra_nil) ?_
    refine ⟨congrArg Value.bool ?_, hx0⟩
    simp

end Go.Proofs.Ytbfgjdhdohfacaa
