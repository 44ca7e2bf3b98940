/- Walks of the laws of layer 1 (set). No condition. -/
import Derived.Test.YtbfgjdhdohfacaaL01
import Derived.Test.YtbfgjdhdohfacaaPlain01r
set_option linter.unusedVariables false
set_option linter.unusedSimpArgs false
namespace Go.Proofs.Ytbfgjdhdohfacaa
open Go.Proofs
theorem Ones_spec {x : BitVec 64} {H : Heap} : HC Try.prog 61 [w64 x] H (fun v H' => v = .int .i64 (popc x) ∧ H' = H) := by
  refine hc_of_hw (N := 35) (rs := [(.tmp 2)]) Try.func61 rfl rfl rfl rfl ?_
  refine hw_seq ?_
  refine hw_region ?_
  refine hl_v (v_assign rfl) rfl ?_
  refine hl_nil ?_
  refine thenQ_n ?_
  refine hw_sub _ (ai_cons (t := 0) rfl ai_nil) ?_
  refine hw_seq ?_
  refine hw_region ?_
  refine hl_v (v_move rfl) rfl ?_
  refine hl_v (v_shr64 rfl rfl (by first | omega | assumption | (simp only [Int.toNat_natCast]; omega) | (simp; done) | (simp at *; omega))) rfl ?_
  refine hl_v (v_and64 rfl (show _ = some (w64 6148914691236517205#64) from rfl)) rfl ?_
  refine hl_v (v_move rfl) rfl ?_
  refine hl_v (v_and64 rfl (show _ = some (w64 6148914691236517205#64) from rfl)) rfl ?_
  refine hl_v (v_add64 rfl rfl) rfl ?_
  refine hl_v (v_assign rfl) rfl ?_
  refine hl_nil ?_
  refine thenQ_n ?_
  refine hw_sub _ (ai_cons (t := 0) rfl ai_nil) ?_
  refine hw_seq ?_
  refine hw_region ?_
  refine hl_v (v_move rfl) rfl ?_
  refine hl_v (v_shr64 rfl rfl (by first | omega | assumption | (simp only [Int.toNat_natCast]; omega) | (simp; done) | (simp at *; omega))) rfl ?_
  refine hl_v (v_and64 rfl (show _ = some (w64 3689348814741910323#64) from rfl)) rfl ?_
  refine hl_v (v_move rfl) rfl ?_
  refine hl_v (v_and64 rfl (show _ = some (w64 3689348814741910323#64) from rfl)) rfl ?_
  refine hl_v (v_add64 rfl rfl) rfl ?_
  refine hl_v (v_assign rfl) rfl ?_
  refine hl_nil ?_
  refine thenQ_n ?_
  refine hw_sub _ (ai_cons (t := 0) rfl ai_nil) ?_
  refine hw_seq ?_
  refine hw_region ?_
  refine hl_v (v_move rfl) rfl ?_
  refine hl_v (v_shr64 rfl rfl (by first | omega | assumption | (simp only [Int.toNat_natCast]; omega) | (simp; done) | (simp at *; omega))) rfl ?_
  refine hl_v (v_move rfl) rfl ?_
  refine hl_v (v_add64 rfl rfl) rfl ?_
  refine hl_v (v_and64 rfl (show _ = some (w64 1085102592571150095#64) from rfl)) rfl ?_
  refine hl_v (v_assign rfl) rfl ?_
  refine hl_nil ?_
  refine thenQ_n ?_
  refine hw_sub _ (ai_cons (t := 0) rfl ai_nil) ?_
  refine hw_seq ?_
  refine hw_region ?_
  refine hl_v (v_move rfl) rfl ?_
  refine hl_v (v_move rfl) rfl ?_
  refine hl_v (v_shr64 rfl rfl (by first | omega | assumption | (simp only [Int.toNat_natCast]; omega) | (simp; done) | (simp at *; omega))) rfl ?_
  refine hl_v (v_add64 rfl rfl) rfl ?_
  refine hl_v (v_assign rfl) rfl ?_
  refine hl_nil ?_
  refine thenQ_n ?_
  refine hw_sub _ (ai_cons (t := 0) rfl ai_nil) ?_
  refine hw_seq ?_
  refine hw_region ?_
  refine hl_v (v_move rfl) rfl ?_
  refine hl_v (v_move rfl) rfl ?_
  refine hl_v (v_shr64 rfl rfl (by first | omega | assumption | (simp only [Int.toNat_natCast]; omega) | (simp; done) | (simp at *; omega))) rfl ?_
  refine hl_v (v_add64 rfl rfl) rfl ?_
  refine hl_v (v_assign rfl) rfl ?_
  refine hl_nil ?_
  refine thenQ_n ?_
  refine hw_sub _ (ai_cons (t := 0) rfl ai_nil) ?_
  refine hw_seq ?_
  refine hw_region ?_
  refine hl_v (v_move rfl) rfl ?_
  refine hl_v (v_move rfl) rfl ?_
  refine hl_v (v_shr64 rfl rfl (by first | omega | assumption | (simp only [Int.toNat_natCast]; omega) | (simp; done) | (simp at *; omega))) rfl ?_
  refine hl_v (v_add64 rfl rfl) rfl ?_
  refine hl_v (v_assign rfl) rfl ?_
  refine hl_nil ?_
  refine thenQ_n ?_
  refine hw_sub _ (ai_cons (t := 0) rfl ai_nil) ?_
  refine hw_seq ?_
  refine hw_region ?_
  refine hl_v (v_move rfl) rfl ?_
  refine hl_v (v_conv (by rw [Try.underlying29]; rfl) Try.underlying3 rfl) rfl ?_
  refine hl_v (v_low7 rfl rfl) rfl ?_
  refine hl_v (v_assign rfl) rfl ?_
  refine hl_nil ?_
  refine thenQ_n ?_
  refine hw_sub _ (ai_cons (t := 2) rfl ai_nil) ?_
  refine hw_ret ?_
  refine ret_i _ (ra_t rfl ra_nil) ?_
  have h := pc_all x
  have h2 : ((pc6 (pc5 (pc4 (pc3 (pc2 (pc1 x)))))).toNat : Int) % 128 = (popc x : Int) := by omega
  exact ⟨congrArg (Value.int .i64) h2, rfl⟩

theorem Size_spec {s : BSet} {H : Heap} : HC Try.prog 38 [sv s] H (fun v H' => v = .int .i64 s.size ∧ Ext [] H H') := by
  have hx0 : Ext [] H H := Ext.refl _
  refine hc_of_hw (N := 16) (rs := [(.tmp 2)]) Try.func38 rfl rfl rfl rfl ?_
  refine hw_seq ?_
  refine hw_region ?_
  refine hl_h (h_boxS rfl) rfl ?_
  rintro _ H1 ⟨rfl, n2⟩
  have n2s := n2.size
  replace hx0 := Ext.trans hx0 n2.ext
  have n2b := n2.blk
  refine hl_v (v_assign rfl) rfl ?_
  refine hl_nil ?_
  refine thenQ_n ?_
  refine hw_sub _ (ai_cons (t := 1) rfl ai_nil) ?_
  refine hw_seq ?_
  refine hw_region ?_
  refine hl_v (v_assign rfl) rfl ?_
  refine hl_nil ?_
  refine thenQ_n ?_
  refine hw_sub _ (ai_cons (t := 1) rfl (ai_cons (t := 3) rfl ai_nil)) ?_
  refine hw_seq ?_
  refine hw_seq ?_
  refine hw_region ?_
  refine hl_v (v_loadS Try.isAgg31 Try.sizeOf31 rfl (by assumption)) rfl ?_
  refine hl_v (v_move rfl) rfl ?_
  refine hl_nil ?_
  refine thenQ_n ?_
  refine hw_sub _ (ai_cons (t := 3) rfl (ai_cons (t := 6) rfl (ai_cons (t := 7) rfl ai_nil))) ?_
  refine hw_block ?_
  refine hw_loop (α := Nat) [(6, _)] (fun k => [(3, .int .i64 (s.sizeK k)), (7, .int .i64 (k : Int))]) (fun k G3 => Ext [] H G3 ∧ k ≤ 4) (fun k => 4 - k) 0 (ai_cons (t := 3) rfl (ai_cons (t := 7) rfl (ai_cons (t := 6) rfl ai_nil))) ?_ ?_
  · exact ⟨hx0, Nat.zero_le _⟩
  · intro k G3 hI
    obtain ⟨hx0, hk⟩ := hI
    have hsl := s.sizeK_le k
    have hpl : ∀ x, popc x ≤ 64 := fun x => cntB_le _ _
    have hp := hpl (s.wd k)
    refine hw_seq ?_
    refine hw_region ?_
    refine hl_v (v_lss rfl rfl) rfl ?_
    refine hl_nil ?_
    refine thenQ_n ?_
    refine hw_sub _ (ai_cons (t := 3) rfl (ai_cons (t := 6) rfl (ai_cons (t := 7) rfl (ai_cons (t := 8) rfl ai_nil)))) ?_
    refine hw_seq ?_
    refine hw_cond rfl (fun hc3 => ?_) (fun hc3 => ?_)
    · try simp only [decide_eq_true_eq, decide_eq_false_iff_not, Bool.and_eq_true, Bool.and_eq_false_iff, Bool.or_eq_true, Bool.or_eq_false_iff, Bool.not_eq_true', Bool.not_eq_false', Bool.not_eq_true, Bool.not_eq_false, beq_iff_eq, Int.not_lt, Int.not_le] at hc3
      refine hw_skip ?_
      refine thenQ_n ?_
      refine hw_seq ?_
      refine hw_block ?_
      refine hw_seq ?_
      refine hw_region ?_
      refine hl_v (v_ixVS Try.underlying31 Try.sizeOf29 Try.isAgg29 rfl rfl (by first | omega | assumption | (simp only [Int.toNat_natCast]; omega) | (simp; done) | (simp at *; omega))) rfl ?_
      refine hl_v (v_assign rfl) rfl ?_
      refine hl_nil ?_
      refine thenQ_n ?_
      refine hw_sub _ (ai_cons (t := 3) rfl (ai_cons (t := 5) rfl (ai_cons (t := 6) rfl (ai_cons (t := 7) rfl ai_nil)))) ?_
      refine hw_region ?_
      refine hl_v (v_move rfl) rfl ?_
      refine hl_v (v_move rfl) rfl ?_
      refine hl_v (v_call Try.call61 (evs_cons rfl evs_nil) (Ones_spec)) rfl ?_
      refine hl_v (v_add rfl rfl (by first | omega | assumption | (simp only [Int.toNat_natCast]; omega) | (simp; done) | (simp at *; omega))) rfl ?_
      refine hl_v (v_assign rfl) rfl ?_
      refine hl_nil ?_
      refine blockQ_n ?_
      refine thenQ_n ?_
      refine hw_region ?_
      refine hl_v (v_add rfl rfl (by first | omega | assumption | (simp only [Int.toNat_natCast]; omega) | (simp; done) | (simp at *; omega))) rfl ?_
      refine hl_v (v_move rfl) rfl ?_
      refine hl_nil ?_
      refine thenQ_n ?_
      refine ⟨k + 1, (ai_cons (t := 3) rfl (ai_cons (t := 7) rfl (ai_cons (t := 6) rfl ai_nil))), ?_, ?_⟩
      · skip
        exact ⟨hx0, by omega⟩
      · omega
    · try simp only [decide_eq_true_eq, decide_eq_false_iff_not, Bool.and_eq_true, Bool.and_eq_false_iff, Bool.or_eq_true, Bool.or_eq_false_iff, Bool.not_eq_true', Bool.not_eq_false', Bool.not_eq_true, Bool.not_eq_false, beq_iff_eq, Int.not_lt, Int.not_le] at hc3
      refine hw_exit ?_
      refine thenQ_e ?_
      refine thenQ_e ?_
      refine blockQ_hit ?_
      refine thenQ_n ?_
      refine hw_seq ?_
      refine hw_region ?_
      refine hl_v (v_move rfl) rfl ?_
      refine hl_v (v_assign rfl) rfl ?_
      refine hl_nil ?_
      refine thenQ_n ?_
      refine hw_sub _ (ai_cons (t := 2) rfl ai_nil) ?_
      refine hw_ret ?_
      refine ret_i _ (ra_t rfl ra_nil) ?_
      obtain rfl : k = 4 := by omega
      exact ⟨rfl, hx0⟩

theorem SetLaws_walk {s t : BSet} {H : Heap} : HC Try.prog 10 [sv s, sv t] H (fun v H' => v = .bool true ∧ Ext [] H H') := by
  have hx0 : Ext [] H H := Ext.refl _
  have hz1 := s.size_mem
  have hz2 := s.mem_len
  have hz3 := t.size_mem
  have hz4 := t.mem_len
  have hz5 := (s.band t).size_mem
  have hz6 := (s.band t).mem_len
  have hz7 := (s.bor t).size_mem
  have hz8 := (s.bor t).mem_len
  have hz9 := s.bnot.size_mem
  have hz10 := s.bnot.mem_len
  have hw1 := BSet.size_two s t
  have hw2 := BSet.size_not s
  refine hc_of_hw (N := 64) (rs := [(.tmp 4)]) Try.func10 rfl rfl rfl rfl ?_
  refine hw_seq ?_
  refine hw_region ?_
  refine hl_h (h_boxS rfl) rfl ?_
  rintro _ H1 ⟨rfl, n2⟩
  have n2s := n2.size
  replace hx0 := Ext.trans hx0 n2.ext
  have n2b := n2.blk
  refine hl_h (h_boxS rfl) rfl ?_
  rintro _ H3 ⟨rfl, n4⟩
  have n4s := n4.size
  replace hx0 := Ext.trans hx0 n4.ext
  replace n2b := Ext.blk n4.ext n2b (by simp)
  have n4b := n4.blk
  refine hl_v (v_assign rfl) rfl ?_
  refine hl_nil ?_
  refine thenQ_n ?_
  refine hw_sub _ (ai_cons (t := 2) rfl (ai_cons (t := 3) rfl ai_nil)) ?_
  refine hw_seq ?_
  refine hw_region ?_
  refine hl_v (v_loadS Try.isAgg31 Try.sizeOf31 rfl (by assumption)) rfl ?_
  refine hl_h (h_call Try.call36 (evs_cons rfl evs_nil) (Not_spec)) rfl ?_
  rintro _ H5 ⟨rfl, n6⟩
  have n6s := n6.size
  replace hx0 := Ext.trans hx0 n6
  replace n2b := Ext.blk n6 n2b (by simp)
  replace n4b := Ext.blk n6 n4b (by simp)
  refine hl_h (h_allocS Try.zeroValue31) rfl ?_
  rintro _ H7 ⟨rfl, n8⟩
  have n8s := n8.size
  replace hx0 := Ext.trans hx0 n8.ext
  replace n2b := Ext.blk n8.ext n2b (by simp)
  replace n4b := Ext.blk n8.ext n4b (by simp)
  have n8b := n8.blk
  refine hl_s (h_storeS Try.sizeOf31 rfl rfl n8b) ?_
  rintro _ H9 p10
  have p10s := p10.size
  replace hx0 := Ext.fresh hx0 p10.ext (by intro b hb; simp at hb; omega)
  replace n2b := Ext.blk p10.ext n2b (by simp; omega)
  replace n4b := Ext.blk p10.ext n4b (by simp; omega)
  replace n8b := p10.blk
  refine hl_nil ?_
  refine thenQ_n ?_
  refine hw_sub _ (ai_cons (t := 2) rfl (ai_cons (t := 3) rfl (ai_cons (t := 5) rfl ai_nil))) ?_
  refine hw_seq ?_
  refine hw_region ?_
  refine hl_v (v_loadS Try.isAgg31 Try.sizeOf31 rfl (by assumption)) rfl ?_
  refine hl_h (h_call Try.call36 (evs_cons rfl evs_nil) (Not_spec)) rfl ?_
  rintro _ H11 ⟨rfl, n12⟩
  have n12s := n12.size
  replace hx0 := Ext.trans hx0 n12
  replace n2b := Ext.blk n12 n2b (by simp)
  replace n4b := Ext.blk n12 n4b (by simp)
  replace n8b := Ext.blk n12 n8b (by simp)
  refine hl_h (h_allocS Try.zeroValue31) rfl ?_
  rintro _ H13 ⟨rfl, n14⟩
  have n14s := n14.size
  replace hx0 := Ext.trans hx0 n14.ext
  replace n2b := Ext.blk n14.ext n2b (by simp)
  replace n4b := Ext.blk n14.ext n4b (by simp)
  replace n8b := Ext.blk n14.ext n8b (by simp)
  have n14b := n14.blk
  refine hl_s (h_storeS Try.sizeOf31 rfl rfl n14b) ?_
  rintro _ H15 p16
  have p16s := p16.size
  replace hx0 := Ext.fresh hx0 p16.ext (by intro b hb; simp at hb; omega)
  replace n2b := Ext.blk p16.ext n2b (by simp; omega)
  replace n4b := Ext.blk p16.ext n4b (by simp; omega)
  replace n8b := Ext.blk p16.ext n8b (by simp; omega)
  replace n14b := p16.blk
  refine hl_nil ?_
  refine thenQ_n ?_
  refine hw_sub _ (ai_cons (t := 2) rfl (ai_cons (t := 3) rfl (ai_cons (t := 5) rfl (ai_cons (t := 6) rfl ai_nil)))) ?_
  refine hw_seq ?_
  refine hw_held (fun H' => Ext [] H15 H') [(0, false), (2, false), (1, true), (3, false), (4, false), (5, false), (6, false), (9, false), (10, false), (7, true), (8, true), (11, true), (12, false), (13, false), (14, false), (15, false), (16, false), (18, false), (19, false), (17, true), (20, true), (21, false), (22, false), (23, false)] Try.mixed (by kernel_rfl) ?_ ?_
  · exact Ext.refl _
  have xr17 : Ext [] H15 H15 := Ext.refl _
  have n2bR := n2b
  have n4bR := n4b
  have n8bR := n8b
  have n14bR := n14b
  refine hd_v rfl (fun H' hS => (v_loadS Try.isAgg31 Try.sizeOf31 rfl (by first | assumption | exact Sl.ext0 (by assumption) hS | exact Sl.ext0 (Ow.sl0 (by assumption)) hS | exact Ext.blk hS (by assumption) (by simp)))) rfl ?_
  refine hd_v rfl (fun H' hS => (v_loadS Try.isAgg31 Try.sizeOf31 rfl (by first | assumption | exact Sl.ext0 (by assumption) hS | exact Sl.ext0 (Ow.sl0 (by assumption)) hS | exact Ext.blk hS (by assumption) (by simp)))) rfl ?_
  refine hd_h (h_call Try.call36 (evs_cons rfl evs_nil) (Not_spec)) (fun _ _ hR => Ext.trans xr17 (hR.2)) rfl ?_
  rintro _ H18 ⟨rfl, n19⟩
  have n19s := n19.size
  replace hx0 := Ext.trans hx0 n19
  replace n2b := Ext.blk n19 n2b (by simp)
  replace n4b := Ext.blk n19 n4b (by simp)
  replace n8b := Ext.blk n19 n8b (by simp)
  replace n14b := Ext.blk n19 n14b (by simp)
  replace xr17 := Ext.trans xr17 n19
  refine hd_v rfl (fun H' hS => (v_eqlSetT Try.underlying31 Try.underlying29 Try.sizeOf29 (by kernel_rfl) rfl rfl (BSet.not_not s))) rfl ?_
  refine hd_v rfl (fun H' hS => (v_move rfl)) rfl ?_
  refine hd_g rfl rfl rfl (fun hg H' hS => (v_loadS Try.isAgg31 Try.sizeOf31 rfl (by first | assumption | exact Sl.ext0 (by assumption) hS | exact Sl.ext0 (Ow.sl0 (by assumption)) hS | exact Ext.blk hS (by assumption) (by simp)))) rfl ?_
  refine hd_g rfl rfl rfl (fun hg H' hS => (v_loadS Try.isAgg31 Try.sizeOf31 rfl (by first | assumption | exact Sl.ext0 (by assumption) hS | exact Sl.ext0 (Ow.sl0 (by assumption)) hS | exact Ext.blk hS (by assumption) (by simp)))) rfl ?_
  refine hd_g rfl rfl rfl (fun hg H' hS => (v_loadS Try.isAgg31 Try.sizeOf31 rfl (by first | assumption | exact Sl.ext0 (by assumption) hS | exact Sl.ext0 (Ow.sl0 (by assumption)) hS | exact Ext.blk hS (by assumption) (by simp)))) rfl ?_
  refine hd_g rfl rfl rfl (fun hg H' hS => (v_loadS Try.isAgg31 Try.sizeOf31 rfl (by first | assumption | exact Sl.ext0 (by assumption) hS | exact Sl.ext0 (Ow.sl0 (by assumption)) hS | exact Ext.blk hS (by assumption) (by simp)))) rfl ?_
  refine hd_gh rfl rfl rfl (h_call Try.call25 (evs_cons rfl (evs_cons rfl evs_nil)) (Any_spec)) (fun _ _ hR => Ext.trans xr17 (hR.2)) rfl ?_
  rintro _ H20 ⟨rfl, n21⟩
  have n21s := n21.size
  replace hx0 := Ext.trans hx0 n21
  replace n2b := Ext.blk n21 n2b (by simp)
  replace n4b := Ext.blk n21 n4b (by simp)
  replace n8b := Ext.blk n21 n8b (by simp)
  replace n14b := Ext.blk n21 n14b (by simp)
  replace xr17 := Ext.trans xr17 n21
  refine hd_gh rfl rfl rfl (h_call Try.call36 (evs_cons rfl evs_nil) (Not_spec)) (fun _ _ hR => Ext.trans xr17 (hR.2)) rfl ?_
  rintro _ H22 ⟨rfl, n23⟩
  have n23s := n23.size
  replace hx0 := Ext.trans hx0 n23
  replace n2b := Ext.blk n23 n2b (by simp)
  replace n4b := Ext.blk n23 n4b (by simp)
  replace n8b := Ext.blk n23 n8b (by simp)
  replace n14b := Ext.blk n23 n14b (by simp)
  replace xr17 := Ext.trans xr17 n23
  refine hd_gh rfl rfl rfl (h_call Try.call35 (evs_cons rfl (evs_cons rfl evs_nil)) (Both_spec)) (fun _ _ hR => Ext.trans xr17 (hR.2)) rfl ?_
  rintro _ H24 ⟨rfl, n25⟩
  have n25s := n25.size
  replace hx0 := Ext.trans hx0 n25
  replace n2b := Ext.blk n25 n2b (by simp)
  replace n4b := Ext.blk n25 n4b (by simp)
  replace n8b := Ext.blk n25 n8b (by simp)
  replace n14b := Ext.blk n25 n14b (by simp)
  replace xr17 := Ext.trans xr17 n25
  refine hd_g rfl rfl rfl (fun hg H' hS => (v_eqlSetT Try.underlying31 Try.underlying29 Try.sizeOf29 (by kernel_rfl) (gv_ok rfl hg) (gv_ok rfl hg) (BSet.not_or s t))) rfl ?_
  refine hd_v rfl (fun H' hS => (v_and rfl rfl)) rfl ?_
  refine hd_v rfl (fun H' hS => (v_move rfl)) rfl ?_
  refine hd_g rfl rfl rfl (fun hg H' hS => (v_loadS Try.isAgg31 Try.sizeOf31 rfl (by first | assumption | exact Sl.ext0 (by assumption) hS | exact Sl.ext0 (Ow.sl0 (by assumption)) hS | exact Ext.blk hS (by assumption) (by simp)))) rfl ?_
  refine hd_g rfl rfl rfl (fun hg H' hS => (v_loadS Try.isAgg31 Try.sizeOf31 rfl (by first | assumption | exact Sl.ext0 (by assumption) hS | exact Sl.ext0 (Ow.sl0 (by assumption)) hS | exact Ext.blk hS (by assumption) (by simp)))) rfl ?_
  refine hd_g rfl rfl rfl (fun hg H' hS => (v_loadS Try.isAgg31 Try.sizeOf31 rfl (by first | assumption | exact Sl.ext0 (by assumption) hS | exact Sl.ext0 (Ow.sl0 (by assumption)) hS | exact Ext.blk hS (by assumption) (by simp)))) rfl ?_
  refine hd_g rfl rfl rfl (fun hg H' hS => (v_loadS Try.isAgg31 Try.sizeOf31 rfl (by first | assumption | exact Sl.ext0 (by assumption) hS | exact Sl.ext0 (Ow.sl0 (by assumption)) hS | exact Ext.blk hS (by assumption) (by simp)))) rfl ?_
  refine hd_gh rfl rfl rfl (h_call Try.call37 (evs_cons rfl (evs_cons rfl evs_nil)) (Less_spec)) (fun _ _ hR => Ext.trans xr17 (hR.2)) rfl ?_
  rintro _ H26 ⟨rfl, n27⟩
  have n27s := n27.size
  replace hx0 := Ext.trans hx0 n27
  replace n2b := Ext.blk n27 n2b (by simp)
  replace n4b := Ext.blk n27 n4b (by simp)
  replace n8b := Ext.blk n27 n8b (by simp)
  replace n14b := Ext.blk n27 n14b (by simp)
  replace xr17 := Ext.trans xr17 n27
  refine hd_gh rfl rfl rfl (h_call Try.call35 (evs_cons rfl (evs_cons rfl evs_nil)) (Both_spec)) (fun _ _ hR => Ext.trans xr17 (hR.2)) rfl ?_
  rintro _ H28 ⟨rfl, n29⟩
  have n29s := n29.size
  replace hx0 := Ext.trans hx0 n29
  replace n2b := Ext.blk n29 n2b (by simp)
  replace n4b := Ext.blk n29 n4b (by simp)
  replace n8b := Ext.blk n29 n8b (by simp)
  replace n14b := Ext.blk n29 n14b (by simp)
  replace xr17 := Ext.trans xr17 n29
  refine hd_g rfl rfl rfl (fun hg H' hS => (v_eqlSetT Try.underlying31 Try.underlying29 Try.sizeOf29 (by kernel_rfl) (gv_ok rfl hg) (gv_ok rfl hg) (BSet.less_eq s t))) rfl ?_
  refine hd_v rfl (fun H' hS => (v_and rfl rfl)) rfl ?_
  refine hd_v rfl (fun H' hS => (v_assign rfl)) rfl ?_
  refine hd_nil ?_
  refine thenQ_n ?_
  refine hw_sub _ (ai_cons (t := 2) rfl (ai_cons (t := 3) rfl (ai_cons (t := 5) rfl (ai_cons (t := 7) rfl ai_nil)))) ?_
  refine hw_seq ?_
  refine hw_held (fun H' => Ext [] H28 H') [(0, true), (1, false), (2, false), (3, false), (4, false), (5, false), (6, false), (9, false), (10, false), (14, false), (16, false), (7, true), (8, true), (11, true), (12, true), (13, false), (15, true), (17, true), (18, false), (19, false), (20, false), (21, false), (22, false), (24, false), (23, true), (25, true), (26, false), (27, false), (28, false), (29, false)] Try.mixed (by kernel_rfl) ?_ ?_
  · exact Ext.refl _
  have xr30 : Ext [] H28 H28 := Ext.refl _
  have n2bR := n2b
  have n4bR := n4b
  have n8bR := n8b
  have n14bR := n14b
  refine hd_h (h_call Try.call17 evs_nil (awake1_spec)) (fun _ _ hR => Ext.trans xr30 (hR.2)) rfl ?_
  rintro _ H31 ⟨rfl, n32⟩
  have n32s := n32.size
  replace hx0 := Ext.trans hx0 n32
  replace n2b := Ext.blk n32 n2b (by simp)
  replace n4b := Ext.blk n32 n4b (by simp)
  replace n8b := Ext.blk n32 n8b (by simp)
  replace n14b := Ext.blk n32 n14b (by simp)
  replace xr30 := Ext.trans xr30 n32
  refine hd_v rfl (fun H' hS => (v_move rfl)) rfl ?_
  refine hd_g rfl rfl rfl (fun hg H' hS => (v_move rfl)) rfl ?_
  refine hd_v rfl (fun H' hS => (v_and rfl rfl)) rfl ?_
  refine hd_v rfl (fun H' hS => (v_move rfl)) rfl ?_
  refine hd_g rfl rfl rfl (fun hg H' hS => (v_loadS Try.isAgg31 Try.sizeOf31 rfl (by first | assumption | exact Sl.ext0 (by assumption) hS | exact Sl.ext0 (Ow.sl0 (by assumption)) hS | exact Ext.blk hS (by assumption) (by simp)))) rfl ?_
  refine hd_g rfl rfl rfl (fun hg H' hS => (v_loadS Try.isAgg31 Try.sizeOf31 rfl (by first | assumption | exact Sl.ext0 (by assumption) hS | exact Sl.ext0 (Ow.sl0 (by assumption)) hS | exact Ext.blk hS (by assumption) (by simp)))) rfl ?_
  refine hd_g rfl rfl rfl (fun hg H' hS => (v_loadS Try.isAgg31 Try.sizeOf31 rfl (by first | assumption | exact Sl.ext0 (by assumption) hS | exact Sl.ext0 (Ow.sl0 (by assumption)) hS | exact Ext.blk hS (by assumption) (by simp)))) rfl ?_
  refine hd_g rfl rfl rfl (fun hg H' hS => (v_loadS Try.isAgg31 Try.sizeOf31 rfl (by first | assumption | exact Sl.ext0 (by assumption) hS | exact Sl.ext0 (Ow.sl0 (by assumption)) hS | exact Ext.blk hS (by assumption) (by simp)))) rfl ?_
  refine hd_g rfl rfl rfl (fun hg H' hS => (v_loadS Try.isAgg31 Try.sizeOf31 rfl (by first | assumption | exact Sl.ext0 (by assumption) hS | exact Sl.ext0 (Ow.sl0 (by assumption)) hS | exact Ext.blk hS (by assumption) (by simp)))) rfl ?_
  refine hd_g rfl rfl rfl (fun hg H' hS => (v_loadS Try.isAgg31 Try.sizeOf31 rfl (by first | assumption | exact Sl.ext0 (by assumption) hS | exact Sl.ext0 (Ow.sl0 (by assumption)) hS | exact Ext.blk hS (by assumption) (by simp)))) rfl ?_
  refine hd_gh rfl rfl rfl (h_call Try.call35 (evs_cons rfl (evs_cons rfl evs_nil)) (Both_spec)) (fun _ _ hR => Ext.trans xr30 (hR.2)) rfl ?_
  rintro _ H33 ⟨rfl, n34⟩
  have n34s := n34.size
  replace hx0 := Ext.trans hx0 n34
  replace n2b := Ext.blk n34 n2b (by simp)
  replace n4b := Ext.blk n34 n4b (by simp)
  replace n8b := Ext.blk n34 n8b (by simp)
  replace n14b := Ext.blk n34 n14b (by simp)
  replace xr30 := Ext.trans xr30 n34
  refine hd_gh rfl rfl rfl (h_call Try.call38 (evs_cons rfl evs_nil) (Size_spec)) (fun _ _ hR => Ext.trans xr30 (hR.2)) rfl ?_
  rintro _ H35 ⟨rfl, n36⟩
  have n36s := n36.size
  replace hx0 := Ext.trans hx0 n36
  replace n2b := Ext.blk n36 n2b (by simp)
  replace n4b := Ext.blk n36 n4b (by simp)
  replace n8b := Ext.blk n36 n8b (by simp)
  replace n14b := Ext.blk n36 n14b (by simp)
  replace xr30 := Ext.trans xr30 n36
  refine hd_gh rfl rfl rfl (h_call Try.call25 (evs_cons rfl (evs_cons rfl evs_nil)) (Any_spec)) (fun _ _ hR => Ext.trans xr30 (hR.2)) rfl ?_
  rintro _ H37 ⟨rfl, n38⟩
  have n38s := n38.size
  replace hx0 := Ext.trans hx0 n38
  replace n2b := Ext.blk n38 n2b (by simp)
  replace n4b := Ext.blk n38 n4b (by simp)
  replace n8b := Ext.blk n38 n8b (by simp)
  replace n14b := Ext.blk n38 n14b (by simp)
  replace xr30 := Ext.trans xr30 n38
  refine hd_gh rfl rfl rfl (h_call Try.call38 (evs_cons rfl evs_nil) (Size_spec)) (fun _ _ hR => Ext.trans xr30 (hR.2)) rfl ?_
  rintro _ H39 ⟨rfl, n40⟩
  have n40s := n40.size
  replace hx0 := Ext.trans hx0 n40
  replace n2b := Ext.blk n40 n2b (by simp)
  replace n4b := Ext.blk n40 n4b (by simp)
  replace n8b := Ext.blk n40 n8b (by simp)
  replace n14b := Ext.blk n40 n14b (by simp)
  replace xr30 := Ext.trans xr30 n40
  refine hd_g rfl rfl rfl (fun hg H' hS => (v_add (gv_ok rfl hg) (gv_ok rfl hg) (by simp only [gb_t, gb_f, gb_g, decide_eq_true_eq, decide_eq_false_iff_not, Bool.and_eq_true, Bool.and_eq_false_iff, Bool.or_eq_true, Bool.or_eq_false_iff, Bool.not_eq_true', Bool.not_eq_false', Bool.not_eq_true, Bool.not_eq_false, beq_iff_eq, Int.not_lt, Int.not_le] at hg; (first | omega | assumption | (simp only [Int.toNat_natCast]; omega) | (simp; done) | (simp at *; omega))))) rfl ?_
  refine hd_gh rfl rfl rfl (h_call Try.call38 (evs_cons rfl evs_nil) (Size_spec)) (fun _ _ hR => Ext.trans xr30 (hR.2)) rfl ?_
  rintro _ H41 ⟨rfl, n42⟩
  have n42s := n42.size
  replace hx0 := Ext.trans hx0 n42
  replace n2b := Ext.blk n42 n2b (by simp)
  replace n4b := Ext.blk n42 n4b (by simp)
  replace n8b := Ext.blk n42 n8b (by simp)
  replace n14b := Ext.blk n42 n14b (by simp)
  replace xr30 := Ext.trans xr30 n42
  refine hd_gh rfl rfl rfl (h_call Try.call38 (evs_cons rfl evs_nil) (Size_spec)) (fun _ _ hR => Ext.trans xr30 (hR.2)) rfl ?_
  rintro _ H43 ⟨rfl, n44⟩
  have n44s := n44.size
  replace hx0 := Ext.trans hx0 n44
  replace n2b := Ext.blk n44 n2b (by simp)
  replace n4b := Ext.blk n44 n4b (by simp)
  replace n8b := Ext.blk n44 n8b (by simp)
  replace n14b := Ext.blk n44 n14b (by simp)
  replace xr30 := Ext.trans xr30 n44
  refine hd_g rfl rfl rfl (fun hg H' hS => (v_add (gv_ok rfl hg) (gv_ok rfl hg) (by simp only [gb_t, gb_f, gb_g, decide_eq_true_eq, decide_eq_false_iff_not, Bool.and_eq_true, Bool.and_eq_false_iff, Bool.or_eq_true, Bool.or_eq_false_iff, Bool.not_eq_true', Bool.not_eq_false', Bool.not_eq_true, Bool.not_eq_false, beq_iff_eq, Int.not_lt, Int.not_le] at hg; (first | omega | assumption | (simp only [Int.toNat_natCast]; omega) | (simp; done) | (simp at *; omega))))) rfl ?_
  refine hd_g rfl rfl rfl (fun hg H' hS => (v_eqlT (gv_ok rfl hg) (gv_ok rfl hg) (by omega))) rfl ?_
  refine hd_v rfl (fun H' hS => (v_and rfl rfl)) rfl ?_
  refine hd_v rfl (fun H' hS => (v_move rfl)) rfl ?_
  refine hd_g rfl rfl rfl (fun hg H' hS => (v_loadS Try.isAgg31 Try.sizeOf31 rfl (by first | assumption | exact Sl.ext0 (by assumption) hS | exact Sl.ext0 (Ow.sl0 (by assumption)) hS | exact Ext.blk hS (by assumption) (by simp)))) rfl ?_
  refine hd_g rfl rfl rfl (fun hg H' hS => (v_loadS Try.isAgg31 Try.sizeOf31 rfl (by first | assumption | exact Sl.ext0 (by assumption) hS | exact Sl.ext0 (Ow.sl0 (by assumption)) hS | exact Ext.blk hS (by assumption) (by simp)))) rfl ?_
  refine hd_gh rfl rfl rfl (h_call Try.call38 (evs_cons rfl evs_nil) (Size_spec)) (fun _ _ hR => Ext.trans xr30 (hR.2)) rfl ?_
  rintro _ H45 ⟨rfl, n46⟩
  have n46s := n46.size
  replace hx0 := Ext.trans hx0 n46
  replace n2b := Ext.blk n46 n2b (by simp)
  replace n4b := Ext.blk n46 n4b (by simp)
  replace n8b := Ext.blk n46 n8b (by simp)
  replace n14b := Ext.blk n46 n14b (by simp)
  replace xr30 := Ext.trans xr30 n46
  refine hd_gh rfl rfl rfl (h_call Try.call38 (evs_cons rfl evs_nil) (Size_spec)) (fun _ _ hR => Ext.trans xr30 (hR.2)) rfl ?_
  rintro _ H47 ⟨rfl, n48⟩
  have n48s := n48.size
  replace hx0 := Ext.trans hx0 n48
  replace n2b := Ext.blk n48 n2b (by simp)
  replace n4b := Ext.blk n48 n4b (by simp)
  replace n8b := Ext.blk n48 n8b (by simp)
  replace n14b := Ext.blk n48 n14b (by simp)
  replace xr30 := Ext.trans xr30 n48
  refine hd_g rfl rfl rfl (fun hg H' hS => (v_add (gv_ok rfl hg) (gv_ok rfl hg) (by simp only [gb_t, gb_f, gb_g, decide_eq_true_eq, decide_eq_false_iff_not, Bool.and_eq_true, Bool.and_eq_false_iff, Bool.or_eq_true, Bool.or_eq_false_iff, Bool.not_eq_true', Bool.not_eq_false', Bool.not_eq_true, Bool.not_eq_false, beq_iff_eq, Int.not_lt, Int.not_le] at hg; (first | omega | assumption | (simp only [Int.toNat_natCast]; omega) | (simp; done) | (simp at *; omega))))) rfl ?_
  refine hd_g rfl rfl rfl (fun hg H' hS => (v_eql (gv_ok rfl hg) rfl)) rfl ?_
  refine hd_v rfl (fun H' hS => (v_and rfl rfl)) rfl ?_
  refine hd_v rfl (fun H' hS => (v_assign rfl)) rfl ?_
  refine hd_nil ?_
  refine thenQ_n ?_
  refine hw_sub _ (ai_cons (t := 4) rfl ai_nil) ?_
  refine hw_ret ?_
  refine ret_i _ (ra_t rfl ra_nil) ?_
  refine ⟨congrArg Value.bool ?_, hx0⟩
  simp; omega

theorem SetTurns_walk {s t : BSet} {H : Heap} : HC Try.prog 11 [sv s, sv t] H (fun v H' => v = .bool true ∧ Ext [] H H') := by
  have hx0 : Ext [] H H := Ext.refl _
  have hz1 := s.size_mem
  have hz2 := s.mem_len
  have hbl := s.bytes_len
  refine hc_of_hw (N := 97) (rs := [(.tmp 4)]) Try.func11 rfl rfl rfl rfl ?_
  refine hw_seq ?_
  refine hw_region ?_
  refine hl_h (h_boxS rfl) rfl ?_
  rintro _ H1 ⟨rfl, n2⟩
  have n2s := n2.size
  replace hx0 := Ext.trans hx0 n2.ext
  have n2b := n2.blk
  refine hl_h (h_boxS rfl) rfl ?_
  rintro _ H3 ⟨rfl, n4⟩
  have n4s := n4.size
  replace hx0 := Ext.trans hx0 n4.ext
  replace n2b := Ext.blk n4.ext n2b (by simp)
  have n4b := n4.blk
  refine hl_v (v_assign rfl) rfl ?_
  refine hl_nil ?_
  refine thenQ_n ?_
  refine hw_sub _ (ai_cons (t := 2) rfl (ai_cons (t := 3) rfl ai_nil)) ?_
  refine hw_seq ?_
  refine hw_region ?_
  refine hl_v (v_loadS Try.isAgg31 Try.sizeOf31 rfl (by assumption)) rfl ?_
  refine hl_h (h_call Try.call39 (evs_cons rfl evs_nil) (Bytes_spec)) rfl ?_
  rintro n6v H5 ⟨n6o, n6⟩
  have n6s := n6.size
  replace hx0 := Ext.trans hx0 n6
  replace n2b := Ext.blk n6 n2b (by simp)
  replace n4b := Ext.blk n6 n4b (by simp)
  refine hl_v (v_assign rfl) rfl ?_
  refine hl_nil ?_
  refine thenQ_n ?_
  refine hw_sub _ (ai_cons (t := 2) rfl (ai_cons (t := 3) rfl (ai_cons (t := 5) rfl ai_nil))) ?_
  refine hw_seq ?_
  refine hw_region ?_
  refine hl_v (v_loadS Try.isAgg31 Try.sizeOf31 rfl (by assumption)) rfl ?_
  refine hl_h (h_call Try.call40 (evs_cons rfl evs_nil) (First_spec)) rfl ?_
  rintro _ H7 ⟨rfl, n8⟩
  have n8s := n8.size
  replace hx0 := Ext.trans hx0 n8
  replace n2b := Ext.blk n8 n2b (by simp)
  replace n4b := Ext.blk n8 n4b (by simp)
  replace n6o := Ow.ext0 n6o n8
  refine hl_v (v_move rfl) rfl ?_
  refine hl_v (v_extract rfl rfl) rfl ?_
  refine hl_v (v_extract rfl rfl) rfl ?_
  refine hl_v (v_assign rfl) rfl ?_
  refine hl_v (v_assign rfl) rfl ?_
  refine hl_nil ?_
  refine thenQ_n ?_
  refine hw_sub _ (ai_cons (t := 2) rfl (ai_cons (t := 3) rfl (ai_cons (t := 5) rfl (ai_cons (t := 6) rfl (ai_cons (t := 7) rfl ai_nil))))) ?_
  refine hw_seq ?_
  refine hw_region ?_
  refine hl_v (v_move rfl) rfl ?_
  refine hl_v (v_lenL rfl Try.underlying28 rfl (by first | assumption | exact Ow.sl0 (by assumption))) rfl ?_
  refine hl_v (v_eql rfl rfl) rfl ?_
  refine hl_v (v_move rfl) rfl ?_
  refine hl_g rfl rfl (fun hg => (v_move rfl)) rfl ?_
  refine hl_g rfl rfl (fun hg => (v_eql (gv_ok rfl hg) rfl)) rfl ?_
  refine hl_v (v_and rfl rfl) rfl ?_
  refine hl_v (v_move rfl) rfl ?_
  refine hl_g rfl rfl (fun hg => (v_move rfl)) rfl ?_
  refine hl_g rfl rfl (fun hg => (v_not (gv_ok rfl hg))) rfl ?_
  refine hl_v (v_and rfl rfl) rfl ?_
  refine hl_v (v_move rfl) rfl ?_
  refine hl_g rfl rfl (fun hg => (v_move rfl)) rfl ?_
  refine hl_g rfl rfl (fun hg => (v_lenL rfl Try.underlying28 (gv_ok rfl hg) (by first | assumption | exact Ow.sl0 (by assumption)))) rfl ?_
  refine hl_g rfl rfl (fun hg => (v_gtr (gv_ok rfl hg) rfl)) rfl ?_
  refine hl_g rfl rfl (fun hg => (v_move (gv_ok rfl hg))) rfl ?_
  refine hl_g rfl rfl (fun hg => (v_move rfl)) rfl ?_
  refine hl_g rfl rfl (fun hg => (v_and (gv_ok rfl hg) (gvgb_ok rfl hg))) rfl ?_
  refine hl_g rfl rfl (fun hg => (v_move (gv_ok rfl hg))) rfl ?_
  refine hl_g rfl rfl (fun hg => (v_move rfl)) rfl ?_
  refine hl_g rfl rfl (fun hg => (v_move rfl)) rfl ?_
  refine hl_g rfl rfl (fun hg => (v_ixL Try.underlying28 Try.sizeOf5 (gv_ok rfl hg) rfl (by first | assumption | exact Ow.sl0 (by assumption)) (by simp only [gb_t, gb_f, gb_g, decide_eq_true_eq, decide_eq_false_iff_not, Bool.and_eq_true, Bool.and_eq_false_iff, Bool.or_eq_true, Bool.or_eq_false_iff, Bool.not_eq_true', Bool.not_eq_false', Bool.not_eq_true, Bool.not_eq_false, beq_iff_eq, Int.not_lt, Int.not_le] at hg; (first | omega | assumption | (simp only [Int.toNat_natCast]; omega) | (simp; done) | (simp at *; omega))))) rfl ?_
  refine hl_g rfl rfl (fun hg => (v_loadSc Try.isAgg5 (gv_ok rfl hg) (by first | assumption | exact Ow.sl0 (by assumption)) rfl (by simp only [gb_t, gb_f, gb_g, decide_eq_true_eq, decide_eq_false_iff_not, Bool.and_eq_true, Bool.and_eq_false_iff, Bool.or_eq_true, Bool.or_eq_false_iff, Bool.not_eq_true', Bool.not_eq_false', Bool.not_eq_true, Bool.not_eq_false, beq_iff_eq, Int.not_lt, Int.not_le] at hg; (first | omega | assumption | (simp only [Int.toNat_natCast]; omega) | (simp; done) | (simp at *; omega))) rfl)) rfl ?_
  refine hl_g rfl rfl (fun hg => (v_eql (gv_ok rfl hg) (gv_ok rfl hg))) rfl ?_
  refine hl_g rfl rfl (fun hg => (v_and (gv_ok rfl hg) (gvgb_ok rfl hg))) rfl ?_
  refine hl_v (OpV.val (v_or rfl rfl) (congrArg Value.bool (first_law s))) rfl ?_
  refine hl_v (v_assign rfl) rfl ?_
  refine hl_nil ?_
  refine thenQ_n ?_
  refine hw_sub _ (ai_cons (t := 2) rfl (ai_cons (t := 3) rfl (ai_cons (t := 5) rfl (ai_cons (t := 8) rfl ai_nil)))) ?_
  refine hw_seq ?_
  refine hw_held (fun H' => Ext [] H7 H') [(0, false), (1, false), (3, false), (4, false), (2, true), (5, true), (6, false), (7, false), (8, false), (9, false), (11, false), (12, false), (10, true), (13, true), (14, false), (15, false), (16, false), (17, false), (18, false), (20, false), (21, false), (19, true), (22, true), (23, false), (24, false), (25, false), (26, false), (28, false), (29, false), (27, true), (30, true), (31, false), (32, false), (33, false)] Try.mixed (by kernel_rfl) ?_ ?_
  · exact Ext.refl _
  have xr9 : Ext [] H7 H7 := Ext.refl _
  have n2bR := n2b
  have n4bR := n4b
  have n6oR := n6o
  refine hd_v rfl (fun H' hS => (v_loadS Try.isAgg31 Try.sizeOf31 rfl (by first | assumption | exact Sl.ext0 (by assumption) hS | exact Sl.ext0 (Ow.sl0 (by assumption)) hS | exact Ext.blk hS (by assumption) (by simp)))) rfl ?_
  refine hd_v rfl (fun H' hS => (v_loadS Try.isAgg31 Try.sizeOf31 rfl (by first | assumption | exact Sl.ext0 (by assumption) hS | exact Sl.ext0 (Ow.sl0 (by assumption)) hS | exact Ext.blk hS (by assumption) (by simp)))) rfl ?_
  refine hd_v rfl (fun H' hS => (v_loadS Try.isAgg31 Try.sizeOf31 rfl (by first | assumption | exact Sl.ext0 (by assumption) hS | exact Sl.ext0 (Ow.sl0 (by assumption)) hS | exact Ext.blk hS (by assumption) (by simp)))) rfl ?_
  refine hd_v rfl (fun H' hS => (v_loadS Try.isAgg31 Try.sizeOf31 rfl (by first | assumption | exact Sl.ext0 (by assumption) hS | exact Sl.ext0 (Ow.sl0 (by assumption)) hS | exact Ext.blk hS (by assumption) (by simp)))) rfl ?_
  refine hd_h (h_call Try.call35 (evs_cons rfl (evs_cons rfl evs_nil)) (Both_spec)) (fun _ _ hR => Ext.trans xr9 (hR.2)) rfl ?_
  rintro _ H10 ⟨rfl, n11⟩
  have n11s := n11.size
  replace hx0 := Ext.trans hx0 n11
  replace n2b := Ext.blk n11 n2b (by simp)
  replace n4b := Ext.blk n11 n4b (by simp)
  replace n6o := Ow.ext0 n6o n11
  replace xr9 := Ext.trans xr9 n11
  refine hd_h (h_call Try.call41 (evs_cons rfl (evs_cons rfl (evs_cons rfl evs_nil))) (By_spec)) (fun _ _ hR => Ext.trans xr9 (hR.2)) rfl ?_
  rintro _ H12 ⟨rfl, n13⟩
  have n13s := n13.size
  replace hx0 := Ext.trans hx0 n13
  replace n2b := Ext.blk n13 n2b (by simp)
  replace n4b := Ext.blk n13 n4b (by simp)
  replace n6o := Ow.ext0 n6o n13
  replace xr9 := Ext.trans xr9 n13
  refine hd_v rfl (fun H' hS => (v_eqlSetT Try.underlying31 Try.underlying29 Try.sizeOf29 (by kernel_rfl) rfl rfl (BSet.by0 s t))) rfl ?_
  refine hd_v rfl (fun H' hS => (v_move rfl)) rfl ?_
  refine hd_g rfl rfl rfl (fun hg H' hS => (v_loadS Try.isAgg31 Try.sizeOf31 rfl (by first | assumption | exact Sl.ext0 (by assumption) hS | exact Sl.ext0 (Ow.sl0 (by assumption)) hS | exact Ext.blk hS (by assumption) (by simp)))) rfl ?_
  refine hd_g rfl rfl rfl (fun hg H' hS => (v_loadS Try.isAgg31 Try.sizeOf31 rfl (by first | assumption | exact Sl.ext0 (by assumption) hS | exact Sl.ext0 (Ow.sl0 (by assumption)) hS | exact Ext.blk hS (by assumption) (by simp)))) rfl ?_
  refine hd_g rfl rfl rfl (fun hg H' hS => (v_loadS Try.isAgg31 Try.sizeOf31 rfl (by first | assumption | exact Sl.ext0 (by assumption) hS | exact Sl.ext0 (Ow.sl0 (by assumption)) hS | exact Ext.blk hS (by assumption) (by simp)))) rfl ?_
  refine hd_g rfl rfl rfl (fun hg H' hS => (v_loadS Try.isAgg31 Try.sizeOf31 rfl (by first | assumption | exact Sl.ext0 (by assumption) hS | exact Sl.ext0 (Ow.sl0 (by assumption)) hS | exact Ext.blk hS (by assumption) (by simp)))) rfl ?_
  refine hd_gh rfl rfl rfl (h_call Try.call25 (evs_cons rfl (evs_cons rfl evs_nil)) (Any_spec)) (fun _ _ hR => Ext.trans xr9 (hR.2)) rfl ?_
  rintro _ H14 ⟨rfl, n15⟩
  have n15s := n15.size
  replace hx0 := Ext.trans hx0 n15
  replace n2b := Ext.blk n15 n2b (by simp)
  replace n4b := Ext.blk n15 n4b (by simp)
  replace n6o := Ow.ext0 n6o n15
  replace xr9 := Ext.trans xr9 n15
  refine hd_gh rfl rfl rfl (h_call Try.call41 (evs_cons rfl (evs_cons rfl (evs_cons rfl evs_nil))) (By_spec)) (fun _ _ hR => Ext.trans xr9 (hR.2)) rfl ?_
  rintro _ H16 ⟨rfl, n17⟩
  have n17s := n17.size
  replace hx0 := Ext.trans hx0 n17
  replace n2b := Ext.blk n17 n2b (by simp)
  replace n4b := Ext.blk n17 n4b (by simp)
  replace n6o := Ow.ext0 n6o n17
  replace xr9 := Ext.trans xr9 n17
  refine hd_g rfl rfl rfl (fun hg H' hS => (v_eqlSetT Try.underlying31 Try.underlying29 Try.sizeOf29 (by kernel_rfl) (gv_ok rfl hg) (gv_ok rfl hg) (BSet.by1 s t))) rfl ?_
  refine hd_v rfl (fun H' hS => (v_and rfl rfl)) rfl ?_
  refine hd_v rfl (fun H' hS => (v_move rfl)) rfl ?_
  refine hd_g rfl rfl rfl (fun hg H' hS => (v_loadS Try.isAgg31 Try.sizeOf31 rfl (by first | assumption | exact Sl.ext0 (by assumption) hS | exact Sl.ext0 (Ow.sl0 (by assumption)) hS | exact Ext.blk hS (by assumption) (by simp)))) rfl ?_
  refine hd_g rfl rfl rfl (fun hg H' hS => (v_loadS Try.isAgg31 Try.sizeOf31 rfl (by first | assumption | exact Sl.ext0 (by assumption) hS | exact Sl.ext0 (Ow.sl0 (by assumption)) hS | exact Ext.blk hS (by assumption) (by simp)))) rfl ?_
  refine hd_g rfl rfl rfl (fun hg H' hS => (v_loadS Try.isAgg31 Try.sizeOf31 rfl (by first | assumption | exact Sl.ext0 (by assumption) hS | exact Sl.ext0 (Ow.sl0 (by assumption)) hS | exact Ext.blk hS (by assumption) (by simp)))) rfl ?_
  refine hd_g rfl rfl rfl (fun hg H' hS => (v_loadS Try.isAgg31 Try.sizeOf31 rfl (by first | assumption | exact Sl.ext0 (by assumption) hS | exact Sl.ext0 (Ow.sl0 (by assumption)) hS | exact Ext.blk hS (by assumption) (by simp)))) rfl ?_
  refine hd_gh rfl rfl rfl (h_call Try.call37 (evs_cons rfl (evs_cons rfl evs_nil)) (Less_spec)) (fun _ _ hR => Ext.trans xr9 (hR.2)) rfl ?_
  rintro _ H18 ⟨rfl, n19⟩
  have n19s := n19.size
  replace hx0 := Ext.trans hx0 n19
  replace n2b := Ext.blk n19 n2b (by simp)
  replace n4b := Ext.blk n19 n4b (by simp)
  replace n6o := Ow.ext0 n6o n19
  replace xr9 := Ext.trans xr9 n19
  refine hd_gh rfl rfl rfl (h_call Try.call41 (evs_cons rfl (evs_cons rfl (evs_cons rfl evs_nil))) (By_spec)) (fun _ _ hR => Ext.trans xr9 (hR.2)) rfl ?_
  rintro _ H20 ⟨rfl, n21⟩
  have n21s := n21.size
  replace hx0 := Ext.trans hx0 n21
  replace n2b := Ext.blk n21 n2b (by simp)
  replace n4b := Ext.blk n21 n4b (by simp)
  replace n6o := Ow.ext0 n6o n21
  replace xr9 := Ext.trans xr9 n21
  refine hd_g rfl rfl rfl (fun hg H' hS => (v_eqlSetT Try.underlying31 Try.underlying29 Try.sizeOf29 (by kernel_rfl) (gv_ok rfl hg) (gv_ok rfl hg) (BSet.by2 s t))) rfl ?_
  refine hd_v rfl (fun H' hS => (v_and rfl rfl)) rfl ?_
  refine hd_v rfl (fun H' hS => (v_move rfl)) rfl ?_
  refine hd_g rfl rfl rfl (fun hg H' hS => (v_loadS Try.isAgg31 Try.sizeOf31 rfl (by first | assumption | exact Sl.ext0 (by assumption) hS | exact Sl.ext0 (Ow.sl0 (by assumption)) hS | exact Ext.blk hS (by assumption) (by simp)))) rfl ?_
  refine hd_g rfl rfl rfl (fun hg H' hS => (v_loadS Try.isAgg31 Try.sizeOf31 rfl (by first | assumption | exact Sl.ext0 (by assumption) hS | exact Sl.ext0 (Ow.sl0 (by assumption)) hS | exact Ext.blk hS (by assumption) (by simp)))) rfl ?_
  refine hd_g rfl rfl rfl (fun hg H' hS => (v_loadS Try.isAgg31 Try.sizeOf31 rfl (by first | assumption | exact Sl.ext0 (by assumption) hS | exact Sl.ext0 (Ow.sl0 (by assumption)) hS | exact Ext.blk hS (by assumption) (by simp)))) rfl ?_
  refine hd_gh rfl rfl rfl (h_call Try.call36 (evs_cons rfl evs_nil) (Not_spec)) (fun _ _ hR => Ext.trans xr9 (hR.2)) rfl ?_
  rintro _ H22 ⟨rfl, n23⟩
  have n23s := n23.size
  replace hx0 := Ext.trans hx0 n23
  replace n2b := Ext.blk n23 n2b (by simp)
  replace n4b := Ext.blk n23 n4b (by simp)
  replace n6o := Ow.ext0 n6o n23
  replace xr9 := Ext.trans xr9 n23
  refine hd_gh rfl rfl rfl (h_call Try.call41 (evs_cons rfl (evs_cons rfl (evs_cons rfl evs_nil))) (By_spec)) (fun _ _ hR => Ext.trans xr9 (hR.2)) rfl ?_
  rintro _ H24 ⟨rfl, n25⟩
  have n25s := n25.size
  replace hx0 := Ext.trans hx0 n25
  replace n2b := Ext.blk n25 n2b (by simp)
  replace n4b := Ext.blk n25 n4b (by simp)
  replace n6o := Ow.ext0 n6o n25
  replace xr9 := Ext.trans xr9 n25
  refine hd_g rfl rfl rfl (fun hg H' hS => (v_eqlSetT Try.underlying31 Try.underlying29 Try.sizeOf29 (by kernel_rfl) (gv_ok rfl hg) (gv_ok rfl hg) (BSet.by3 s t))) rfl ?_
  refine hd_v rfl (fun H' hS => (v_and rfl rfl)) rfl ?_
  refine hd_v rfl (fun H' hS => (v_assign rfl)) rfl ?_
  refine hd_nil ?_
  refine thenQ_n ?_
  refine hw_sub _ (ai_cons (t := 2) rfl (ai_cons (t := 5) rfl (ai_cons (t := 8) rfl (ai_cons (t := 9) rfl ai_nil)))) ?_
  refine hw_seq ?_
  refine hw_held (fun H' => Ext [] H24 H') [(0, true), (1, false), (2, false), (3, false), (4, false), (5, false), (7, false), (8, false), (6, true), (9, false), (10, false), (11, false), (12, false), (13, false), (14, false), (15, false), (17, false), (16, true), (18, true), (19, true), (20, false), (21, false)] Try.mixed (by kernel_rfl) ?_ ?_
  · exact Ext.refl _
  have xr26 : Ext [] H24 H24 := Ext.refl _
  have n2bR := n2b
  have n4bR := n4b
  have n6oR := n6o
  refine hd_h (h_call Try.call17 evs_nil (awake1_spec)) (fun _ _ hR => Ext.trans xr26 (hR.2)) rfl ?_
  rintro _ H27 ⟨rfl, n28⟩
  have n28s := n28.size
  replace hx0 := Ext.trans hx0 n28
  replace n2b := Ext.blk n28 n2b (by simp)
  replace n4b := Ext.blk n28 n4b (by simp)
  replace n6o := Ow.ext0 n6o n28
  replace xr26 := Ext.trans xr26 n28
  refine hd_v rfl (fun H' hS => (v_move rfl)) rfl ?_
  refine hd_g rfl rfl rfl (fun hg H' hS => (v_move rfl)) rfl ?_
  refine hd_v rfl (fun H' hS => (v_and rfl rfl)) rfl ?_
  refine hd_v rfl (fun H' hS => (v_move rfl)) rfl ?_
  refine hd_g rfl rfl rfl (fun hg H' hS => (v_loadS Try.isAgg31 Try.sizeOf31 rfl (by first | assumption | exact Sl.ext0 (by assumption) hS | exact Sl.ext0 (Ow.sl0 (by assumption)) hS | exact Ext.blk hS (by assumption) (by simp)))) rfl ?_
  refine hd_g rfl rfl rfl (fun hg H' hS => (v_move rfl)) rfl ?_
  refine hd_g rfl rfl rfl (fun hg H' hS => (v_lenL rfl Try.underlying28 (gv_ok rfl hg) (by first | assumption | exact Ow.sl0 (by assumption) | exact Sl.ext0 (by assumption) hS | exact Sl.ext0 (Ow.sl0 (by assumption)) hS))) rfl ?_
  refine hd_gh rfl rfl rfl (h_call Try.call38 (evs_cons rfl evs_nil) (Size_spec)) (fun _ _ hR => Ext.trans xr26 (hR.2)) rfl ?_
  rintro _ H29 ⟨rfl, n30⟩
  have n30s := n30.size
  replace hx0 := Ext.trans hx0 n30
  replace n2b := Ext.blk n30 n2b (by simp)
  replace n4b := Ext.blk n30 n4b (by simp)
  replace n6o := Ow.ext0 n6o n30
  replace xr26 := Ext.trans xr26 n30
  refine hd_g rfl rfl rfl (fun hg H' hS => (v_eqlT (gv_ok rfl hg) (gv_ok rfl hg) (by omega))) rfl ?_
  refine hd_v rfl (fun H' hS => (v_and rfl rfl)) rfl ?_
  refine hd_v rfl (fun H' hS => (v_move rfl)) rfl ?_
  refine hd_g rfl rfl rfl (fun hg H' hS => (v_move rfl)) rfl ?_
  refine hd_v rfl (fun H' hS => (v_and rfl rfl)) rfl ?_
  refine hd_v rfl (fun H' hS => (v_move rfl)) rfl ?_
  refine hd_g rfl rfl rfl (fun hg H' hS => (v_loadS Try.isAgg31 Try.sizeOf31 rfl (by first | assumption | exact Sl.ext0 (by assumption) hS | exact Sl.ext0 (Ow.sl0 (by assumption)) hS | exact Ext.blk hS (by assumption) (by simp)))) rfl ?_
  refine hd_g rfl rfl rfl (fun hg H' hS => (v_loadS Try.isAgg31 Try.sizeOf31 rfl (by first | assumption | exact Sl.ext0 (by assumption) hS | exact Sl.ext0 (Ow.sl0 (by assumption)) hS | exact Ext.blk hS (by assumption) (by simp)))) rfl ?_
  refine hd_gh rfl rfl rfl (h_call Try.call24 (evs_cons rfl evs_nil) (Rows_spec)) (fun _ _ hR => Ext.trans xr26 (hR.2)) rfl ?_
  rintro n32v H31 ⟨n32o, n32⟩
  have n32s := n32.size
  replace hx0 := Ext.trans hx0 n32
  replace n2b := Ext.blk n32 n2b (by simp)
  replace n4b := Ext.blk n32 n4b (by simp)
  replace n6o := Ow.ext0 n6o n32
  replace xr26 := Ext.trans xr26 n32
  refine hd_gh rfl rfl rfl (h_call Try.call43 (evs_cons rfl evs_nil) (rRows_spec)) (fun _ _ hR => Ext.trans xr26 (hR.2)) rfl ?_
  rintro n34v H33 ⟨n34o, n34⟩
  have n34s := n34.size
  replace hx0 := Ext.trans hx0 n34
  replace n2b := Ext.blk n34 n2b (by simp)
  replace n4b := Ext.blk n34 n4b (by simp)
  replace n6o := Ow.ext0 n6o n34
  replace n32o := Ow.ext0 n32o n34
  replace xr26 := Ext.trans xr26 n34
  refine hd_q xr26 rfl rfl (fun hg => (v_call Try.call42 (evs_cons (gv_ok rfl hg) (evs_cons (gv_ok rfl hg) evs_nil)) (Pairs_spec (by first | assumption | exact Ow.sl0 (by assumption)) (by first | assumption | exact Ow.sl0 (by assumption))))) rfl ?_
  refine hd_v rfl (fun H' hS => (v_and rfl rfl)) rfl ?_
  refine hd_v rfl (fun H' hS => (v_assign rfl)) rfl ?_
  refine hd_nil ?_
  refine thenQ_n ?_
  refine hw_sub _ (ai_cons (t := 4) rfl ai_nil) ?_
  refine hw_ret ?_
  refine ret_i _ (ra_t rfl ra_nil) ?_
  refine ⟨congrArg Value.bool ?_, hx0⟩
  simp

theorem SetRows_walk {s : BSet} {a b : UInt8} {H : Heap} : HC Try.prog 5 [sv s, .int .u8 a.toNat, .int .u8 b.toNat] H (fun v H' => v = .bool true ∧ Ext [] H H') := by
  have hx0 : Ext [] H H := Ext.refl _
  have hrl := rows_len s
  have hsep := rows_sep s
  refine hc_of_hw (N := 102) (rs := [(.tmp 6)]) Try.func5 rfl rfl rfl rfl ?_
  refine hw_seq ?_
  refine hw_region ?_
  refine hl_h (h_boxS rfl) rfl ?_
  rintro _ H1 ⟨rfl, n2⟩
  have n2s := n2.size
  replace hx0 := Ext.trans hx0 n2.ext
  have n2b := n2.blk
  refine hl_v (v_assign rfl) rfl ?_
  refine hl_nil ?_
  refine thenQ_n ?_
  refine hw_sub _ (ai_cons (t := 1) rfl (ai_cons (t := 2) rfl (ai_cons (t := 3) rfl ai_nil))) ?_
  refine hw_seq ?_
  refine hw_region ?_
  refine hl_v (v_loadS Try.isAgg31 Try.sizeOf31 rfl (by assumption)) rfl ?_
  refine hl_h (h_call Try.call24 (evs_cons rfl evs_nil) (Rows_spec)) rfl ?_
  rintro n4v H3 ⟨n4o, n4⟩
  have n4s := n4.size
  replace hx0 := Ext.trans hx0 n4
  replace n2b := Ext.blk n4 n2b (by simp)
  refine hl_v (v_assign rfl) rfl ?_
  refine hl_nil ?_
  refine thenQ_n ?_
  refine hw_sub _ (ai_cons (t := 1) rfl (ai_cons (t := 2) rfl (ai_cons (t := 3) rfl (ai_cons (t := 7) rfl ai_nil)))) ?_
  refine hw_seq ?_
  have n4lt : ∀ b, b ∈ mb n4v → b < H3.size := fun b hb => (Ow.lt n4o b hb).2
  refine hw_region ?_
  refine hl_h (h_allocS Try.zeroValue31) rfl ?_
  rintro _ H5 ⟨rfl, n6⟩
  have n6s := n6.size
  replace hx0 := Ext.trans hx0 n6.ext
  replace n2b := Ext.blk n6.ext n2b (by simp)
  replace n4o := Ow.ext0 n4o n6.ext
  have n6b := n6.blk
  refine hl_nil ?_
  refine thenQ_n ?_
  refine hw_sub _ (ai_cons (t := 1) rfl (ai_cons (t := 2) rfl (ai_cons (t := 3) rfl (ai_cons (t := 7) rfl (ai_cons (t := 8) rfl ai_nil))))) ?_
  refine hw_seq ?_
  refine hw_seq ?_
  refine hw_region ?_
  refine hl_v (v_assign rfl) rfl ?_
  refine hl_nil ?_
  refine thenQ_n ?_
  refine hw_sub _ (ai_cons (t := 1) rfl (ai_cons (t := 2) rfl (ai_cons (t := 3) rfl (ai_cons (t := 7) rfl (ai_cons (t := 8) rfl (ai_cons (t := 9) rfl ai_nil)))))) ?_
  refine hw_block ?_
  refine hw_loop (α := Nat) [(1, _), (2, _), (3, _), (7, _), (8, _)] (fun k => [(9, .int .i64 (k : Int))]) (fun k G4 => Ext [] H G4 ∧ Blk G4 H.size (sw s) 31 ∧ Sl fPair.rep G4 (fun b => b < H3.size) n4v s.rows ∧ Blk G4 H3.size (sw (uni (s.rows.take k))) 31 ∧ H5.size ≤ G4.size ∧ k ≤ s.rows.length) (fun k => s.rows.length - k) 0 (ai_cons (t := 9) rfl (ai_cons (t := 1) rfl (ai_cons (t := 2) rfl (ai_cons (t := 3) rfl (ai_cons (t := 7) rfl (ai_cons (t := 8) rfl ai_nil)))))) ?_ ?_
  · exact ⟨hx0, n2b, (n4o.sl n4lt), n6b, Nat.le_refl _, Nat.zero_le _⟩
  · intro k G4 hI
    obtain ⟨hx0, n2b, n4r, n6b, hz, hk⟩ := hI
    have hq0 := (s.rows.getD (k : Int).toNat default).1.toNat_lt
    have hq1 := (s.rows.getD (((k : Int) - 1).toNat) default).2.toNat_lt
    refine hw_seq ?_
    refine hw_seq ?_
    refine hw_region ?_
    refine hl_v (v_move rfl) rfl ?_
    refine hl_v (v_move rfl) rfl ?_
    refine hl_v (v_lenL rfl Try.underlying38 rfl (by first | assumption | exact Ow.sl0 (by assumption))) rfl ?_
    refine hl_v (v_lss rfl rfl) rfl ?_
    refine hl_nil ?_
    refine thenQ_n ?_
    refine hw_sub _ (ai_cons (t := 1) rfl (ai_cons (t := 2) rfl (ai_cons (t := 3) rfl (ai_cons (t := 7) rfl (ai_cons (t := 8) rfl (ai_cons (t := 9) rfl (ai_cons (t := 16) rfl ai_nil))))))) ?_
    refine hw_cond rfl (fun hc7 => ?_) (fun hc7 => ?_)
    · try simp only [decide_eq_true_eq, decide_eq_false_iff_not, Bool.and_eq_true, Bool.and_eq_false_iff, Bool.or_eq_true, Bool.or_eq_false_iff, Bool.not_eq_true', Bool.not_eq_false', Bool.not_eq_true, Bool.not_eq_false, beq_iff_eq, Int.not_lt, Int.not_le] at hc7
      refine hw_skip ?_
      refine thenQ_n ?_
      refine hw_seq ?_
      refine hw_block ?_
      refine hw_seq ?_
      refine hw_seq ?_
      refine hw_quiet Try.mixed (by kernel_rfl) ?_
      refine hq_v (v_move rfl) rfl ?_
      refine hq_v (v_move rfl) rfl ?_
      refine hq_v (v_ixL Try.underlying38 Try.sizeOf40 rfl rfl (by first | assumption | exact Ow.sl0 (by assumption)) (by first | omega | assumption | (simp only [Int.toNat_natCast]; omega) | (simp; done) | (simp at *; omega))) rfl ?_
      refine hq_v (v_ixA Try.underlying40 Try.sizeOf5 rfl rfl (by first | omega | assumption | (simp only [Int.toNat_natCast]; omega) | (simp; done) | (simp at *; omega))) rfl ?_
      refine hq_v (v_loadSub Try.isAgg5 rfl (by first | assumption | exact Ow.sl0 (by assumption)) rfl (by first | omega | assumption | (simp only [Int.toNat_natCast]; omega) | (simp; done) | (simp at *; omega)) rfl) rfl ?_
      refine hq_v (v_move rfl) rfl ?_
      refine hq_v (v_move rfl) rfl ?_
      refine hq_v (v_ixL Try.underlying38 Try.sizeOf40 rfl rfl (by first | assumption | exact Ow.sl0 (by assumption)) (by first | omega | assumption | (simp only [Int.toNat_natCast]; omega) | (simp; done) | (simp at *; omega))) rfl ?_
      refine hq_v (v_ixA Try.underlying40 Try.sizeOf5 rfl rfl (by first | omega | assumption | (simp only [Int.toNat_natCast]; omega) | (simp; done) | (simp at *; omega))) rfl ?_
      refine hq_v (v_loadSub Try.isAgg5 rfl (by first | assumption | exact Ow.sl0 (by assumption)) rfl (by first | omega | assumption | (simp only [Int.toNat_natCast]; omega) | (simp; done) | (simp at *; omega)) rfl) rfl ?_
      refine hq_v (v_gtr rfl rfl) rfl ?_
      refine hq_v (v_move rfl) rfl ?_
      refine hq_g rfl rfl (fun hg => (v_move rfl)) rfl ?_
      refine hq_g rfl rfl (fun hg => (v_gtr (gv_ok rfl hg) rfl)) rfl ?_
      refine hq_g rfl rfl (fun hg => (v_move (gv_ok rfl hg))) rfl ?_
      refine hq_g rfl rfl (fun hg => (v_move rfl)) rfl ?_
      refine hq_g rfl rfl (fun hg => (v_move rfl)) rfl ?_
      refine hq_g rfl rfl (fun hg => (v_sub (gv_ok rfl hg) rfl (by simp only [gb_t, gb_f, gb_g, decide_eq_true_eq, decide_eq_false_iff_not, Bool.and_eq_true, Bool.and_eq_false_iff, Bool.or_eq_true, Bool.or_eq_false_iff, Bool.not_eq_true', Bool.not_eq_false', Bool.not_eq_true, Bool.not_eq_false, beq_iff_eq, Int.not_lt, Int.not_le] at hg; (first | omega | assumption | (simp only [Int.toNat_natCast]; omega) | (simp; done) | (simp at *; omega))))) rfl ?_
      refine hq_g rfl rfl (fun hg => (v_ixL Try.underlying38 Try.sizeOf40 (gv_ok rfl hg) (gv_ok rfl hg) (by first | assumption | exact Ow.sl0 (by assumption)) (by simp only [gb_t, gb_f, gb_g, decide_eq_true_eq, decide_eq_false_iff_not, Bool.and_eq_true, Bool.and_eq_false_iff, Bool.or_eq_true, Bool.or_eq_false_iff, Bool.not_eq_true', Bool.not_eq_false', Bool.not_eq_true, Bool.not_eq_false, beq_iff_eq, Int.not_lt, Int.not_le] at hg; (first | omega | assumption | (simp only [Int.toNat_natCast]; omega) | (simp; done) | (simp at *; omega))))) rfl ?_
      refine hq_g rfl rfl (fun hg => (v_ixA Try.underlying40 Try.sizeOf5 (gv_ok rfl hg) rfl (by simp only [gb_t, gb_f, gb_g, decide_eq_true_eq, decide_eq_false_iff_not, Bool.and_eq_true, Bool.and_eq_false_iff, Bool.or_eq_true, Bool.or_eq_false_iff, Bool.not_eq_true', Bool.not_eq_false', Bool.not_eq_true, Bool.not_eq_false, beq_iff_eq, Int.not_lt, Int.not_le] at hg; (first | omega | assumption | (simp only [Int.toNat_natCast]; omega) | (simp; done) | (simp at *; omega))))) rfl ?_
      refine hq_g rfl rfl (fun hg => (v_loadSub Try.isAgg5 (gv_ok rfl hg) (by first | assumption | exact Ow.sl0 (by assumption)) rfl (by simp only [gb_t, gb_f, gb_g, decide_eq_true_eq, decide_eq_false_iff_not, Bool.and_eq_true, Bool.and_eq_false_iff, Bool.or_eq_true, Bool.or_eq_false_iff, Bool.not_eq_true', Bool.not_eq_false', Bool.not_eq_true, Bool.not_eq_false, beq_iff_eq, Int.not_lt, Int.not_le] at hg; (first | omega | assumption | (simp only [Int.toNat_natCast]; omega) | (simp; done) | (simp at *; omega))) rfl)) rfl ?_
      refine hq_g rfl rfl (fun hg => (v_conv_id (t := 5) (t' := 3) (by rw [Try.underlying5]; rfl) Try.underlying3 (gv_ok rfl hg) (IntWalk.i64_in _ (by first | omega | assumption | (simp only [Int.toNat_natCast]; omega) | (simp; done) | (simp at *; omega))))) rfl ?_
      refine hq_g rfl rfl (fun hg => (v_add (gv_ok rfl hg) rfl (by simp only [gb_t, gb_f, gb_g, decide_eq_true_eq, decide_eq_false_iff_not, Bool.and_eq_true, Bool.and_eq_false_iff, Bool.or_eq_true, Bool.or_eq_false_iff, Bool.not_eq_true', Bool.not_eq_false', Bool.not_eq_true, Bool.not_eq_false, beq_iff_eq, Int.not_lt, Int.not_le] at hg; (first | omega | assumption | (simp only [Int.toNat_natCast]; omega) | (simp; done) | (simp at *; omega))))) rfl ?_
      refine hq_g rfl rfl (fun hg => (v_move rfl)) rfl ?_
      refine hq_g rfl rfl (fun hg => (v_move rfl)) rfl ?_
      refine hq_g rfl rfl (fun hg => (v_ixL Try.underlying38 Try.sizeOf40 (gv_ok rfl hg) (gv_ok rfl hg) (by first | assumption | exact Ow.sl0 (by assumption)) (by simp only [gb_t, gb_f, gb_g, decide_eq_true_eq, decide_eq_false_iff_not, Bool.and_eq_true, Bool.and_eq_false_iff, Bool.or_eq_true, Bool.or_eq_false_iff, Bool.not_eq_true', Bool.not_eq_false', Bool.not_eq_true, Bool.not_eq_false, beq_iff_eq, Int.not_lt, Int.not_le] at hg; (first | omega | assumption | (simp only [Int.toNat_natCast]; omega) | (simp; done) | (simp at *; omega))))) rfl ?_
      refine hq_g rfl rfl (fun hg => (v_ixA Try.underlying40 Try.sizeOf5 (gv_ok rfl hg) rfl (by simp only [gb_t, gb_f, gb_g, decide_eq_true_eq, decide_eq_false_iff_not, Bool.and_eq_true, Bool.and_eq_false_iff, Bool.or_eq_true, Bool.or_eq_false_iff, Bool.not_eq_true', Bool.not_eq_false', Bool.not_eq_true, Bool.not_eq_false, beq_iff_eq, Int.not_lt, Int.not_le] at hg; (first | omega | assumption | (simp only [Int.toNat_natCast]; omega) | (simp; done) | (simp at *; omega))))) rfl ?_
      refine hq_g rfl rfl (fun hg => (v_loadSub Try.isAgg5 (gv_ok rfl hg) (by first | assumption | exact Ow.sl0 (by assumption)) rfl (by simp only [gb_t, gb_f, gb_g, decide_eq_true_eq, decide_eq_false_iff_not, Bool.and_eq_true, Bool.and_eq_false_iff, Bool.or_eq_true, Bool.or_eq_false_iff, Bool.not_eq_true', Bool.not_eq_false', Bool.not_eq_true, Bool.not_eq_false, beq_iff_eq, Int.not_lt, Int.not_le] at hg; (first | omega | assumption | (simp only [Int.toNat_natCast]; omega) | (simp; done) | (simp at *; omega))) rfl)) rfl ?_
      refine hq_g rfl rfl (fun hg => (v_conv_id (t := 5) (t' := 3) (by rw [Try.underlying5]; rfl) Try.underlying3 (gv_ok rfl hg) (IntWalk.i64_in _ (by first | omega | assumption | (simp only [Int.toNat_natCast]; omega) | (simp; done) | (simp at *; omega))))) rfl ?_
      refine hq_g rfl rfl (fun hg => (v_geq (gv_ok rfl hg) (gv_ok rfl hg))) rfl ?_
      refine hq_g rfl rfl (fun hg => (v_and (gv_ok rfl hg) (gvgb_ok rfl hg))) rfl ?_
      refine hq_v (v_or rfl rfl) rfl ?_
      refine hq_nil ?_
      refine thenQ_n ?_
      refine hw_sub _ (ai_cons (t := 1) rfl (ai_cons (t := 2) rfl (ai_cons (t := 3) rfl (ai_cons (t := 7) rfl (ai_cons (t := 8) rfl (ai_cons (t := 9) rfl (ai_cons (t := 50) rfl ai_nil))))))) ?_
      refine hw_cond rfl (fun hc8 => ?_) (fun hc8 => ?_)
      · try simp only [decide_eq_true_eq, decide_eq_false_iff_not, Bool.and_eq_true, Bool.and_eq_false_iff, Bool.or_eq_true, Bool.or_eq_false_iff, Bool.not_eq_true', Bool.not_eq_false', Bool.not_eq_true, Bool.not_eq_false, beq_iff_eq, Int.not_lt, Int.not_le] at hc8
        exfalso
        have hs1 := hsep k (by omega)
        simp only [Int.toNat_natCast] at hc8
        rcases hc8 with h | ⟨h0, h⟩
        · have h2 := hs1.1; omega
        · have h2 := hs1.2 (by omega); rw [show ((k : Int) - 1).toNat = k - 1 by omega] at h; omega
      · try simp only [decide_eq_true_eq, decide_eq_false_iff_not, Bool.and_eq_true, Bool.and_eq_false_iff, Bool.or_eq_true, Bool.or_eq_false_iff, Bool.not_eq_true', Bool.not_eq_false', Bool.not_eq_true, Bool.not_eq_false, beq_iff_eq, Int.not_lt, Int.not_le] at hc8
        refine hw_skip ?_
        refine thenQ_n ?_
        refine hw_held2 13 (fun H' => Ext [] G4 H') [(0, false), (1, false), (2, false), (3, false), (4, false), (5, false), (6, false), (7, false), (8, false), (9, false), (10, false), (11, true), (12, true)] [(13, true)] Try.mixed (by kernel_rfl) ?_ ?_
        · exact Ext.refl _
        have xr9 : Ext [] G4 G4 := Ext.refl _
        have n2bR := n2b
        have n4rR := n4r
        have n6bR := n6b
        refine hd_v rfl (fun H' hS => (v_loadS Try.isAgg31 Try.sizeOf31 rfl (by first | assumption | exact Sl.ext0 (by assumption) hS | exact Sl.ext0 (Ow.sl0 (by assumption)) hS | exact Ext.blk hS (by assumption) (by simp)))) rfl ?_
        refine hd_v rfl (fun H' hS => (v_move rfl)) rfl ?_
        refine hd_v rfl (fun H' hS => (v_move rfl)) rfl ?_
        refine hd_v rfl (fun H' hS => (v_ixL Try.underlying38 Try.sizeOf40 rfl rfl (by first | assumption | exact Ow.sl0 (by assumption) | exact Sl.ext0 (by assumption) hS | exact Sl.ext0 (Ow.sl0 (by assumption)) hS) (by first | omega | assumption | (simp only [Int.toNat_natCast]; omega) | (simp; done) | (simp at *; omega)))) rfl ?_
        refine hd_v rfl (fun H' hS => (v_ixA Try.underlying40 Try.sizeOf5 rfl rfl (by first | omega | assumption | (simp only [Int.toNat_natCast]; omega) | (simp; done) | (simp at *; omega)))) rfl ?_
        refine hd_v rfl (fun H' hS => (v_loadSub Try.isAgg5 rfl (by first | assumption | exact Ow.sl0 (by assumption) | exact Sl.ext0 (by assumption) hS | exact Sl.ext0 (Ow.sl0 (by assumption)) hS) rfl (by first | omega | assumption | (simp only [Int.toNat_natCast]; omega) | (simp; done) | (simp at *; omega)) rfl)) rfl ?_
        refine hd_v rfl (fun H' hS => (v_move rfl)) rfl ?_
        refine hd_v rfl (fun H' hS => (v_move rfl)) rfl ?_
        refine hd_v rfl (fun H' hS => (v_ixL Try.underlying38 Try.sizeOf40 rfl rfl (by first | assumption | exact Ow.sl0 (by assumption) | exact Sl.ext0 (by assumption) hS | exact Sl.ext0 (Ow.sl0 (by assumption)) hS) (by first | omega | assumption | (simp only [Int.toNat_natCast]; omega) | (simp; done) | (simp at *; omega)))) rfl ?_
        refine hd_v rfl (fun H' hS => (v_ixA Try.underlying40 Try.sizeOf5 rfl rfl (by first | omega | assumption | (simp only [Int.toNat_natCast]; omega) | (simp; done) | (simp at *; omega)))) rfl ?_
        refine hd_v rfl (fun H' hS => (v_loadSub Try.isAgg5 rfl (by first | assumption | exact Ow.sl0 (by assumption) | exact Sl.ext0 (by assumption) hS | exact Sl.ext0 (Ow.sl0 (by assumption)) hS) rfl (by first | omega | assumption | (simp only [Int.toNat_natCast]; omega) | (simp; done) | (simp at *; omega)) rfl)) rfl ?_
        refine hd_h (h_call Try.call20 (evs_cons rfl (evs_cons rfl evs_nil)) (Span_spec)) (fun _ _ hR => Ext.trans xr9 (hR.2)) rfl ?_
        rintro _ H10 ⟨rfl, n11⟩
        have n11s := n11.size
        replace hx0 := Ext.trans hx0 n11
        replace n2b := Ext.blk n11 n2b (by simp)
        replace n4r := Sl.ext0 n4r n11
        replace n6b := Ext.blk n11 n6b (by simp)
        replace xr9 := Ext.trans xr9 n11
        refine hd_h (h_call Try.call25 (evs_cons rfl (evs_cons rfl evs_nil)) (Any_spec)) (fun _ _ hR => Ext.trans xr9 (hR.2)) rfl ?_
        rintro _ H12 ⟨rfl, n13⟩
        have n13s := n13.size
        replace hx0 := Ext.trans hx0 n13
        replace n2b := Ext.blk n13 n2b (by simp)
        replace n4r := Sl.ext0 n4r n13
        replace n6b := Ext.blk n13 n6b (by simp)
        replace xr9 := Ext.trans xr9 n13
        refine hd_nil ?_
        refine hd_s (h_storeS Try.sizeOf31 rfl rfl n6b) (fun _ _ _ => trivial) ?_
        rintro _ H14 p15
        have p15s := p15.size
        replace hx0 := Ext.fresh hx0 p15.ext (by intro b hb; simp at hb; omega)
        replace n2b := Ext.blk p15.ext n2b (by simp; omega)
        replace n4r := Sl.ext n4r p15.ext (by intro b hb; (try have hSb := hS b hb); simp; omega)
        replace n6b := p15.blk
        refine hd_nil ?_
        refine blockQ_n ?_
        refine thenQ_n ?_
        refine hw_region ?_
        refine hl_v (v_move rfl) rfl ?_
        refine hl_v (v_add rfl rfl (by first | omega | assumption | (simp only [Int.toNat_natCast]; omega) | (simp; done) | (simp at *; omega))) rfl ?_
        refine hl_v (v_assign rfl) rfl ?_
        refine hl_nil ?_
        refine thenQ_n ?_
        refine ⟨k + 1, (ai_cons (t := 9) rfl (ai_cons (t := 1) rfl (ai_cons (t := 2) rfl (ai_cons (t := 3) rfl (ai_cons (t := 7) rfl (ai_cons (t := 8) rfl ai_nil)))))), ?_, ?_⟩
        · skip
          exact ⟨hx0, n2b, n4r, (by rw [uni_take_snoc (by omega)]; exact n6b), (by omega), by omega⟩
        · omega
    · try simp only [decide_eq_true_eq, decide_eq_false_iff_not, Bool.and_eq_true, Bool.and_eq_false_iff, Bool.or_eq_true, Bool.or_eq_false_iff, Bool.not_eq_true', Bool.not_eq_false', Bool.not_eq_true, Bool.not_eq_false, beq_iff_eq, Int.not_lt, Int.not_le] at hc7
      refine hw_exit ?_
      refine thenQ_e ?_
      refine thenQ_e ?_
      refine blockQ_hit ?_
      refine thenQ_n ?_
      refine hw_seq ?_
      refine hw_region ?_
      refine hl_v (v_move rfl) rfl ?_
      refine hl_v (v_move rfl) rfl ?_
      refine hl_h (h_call Try.call20 (evs_cons rfl (evs_cons rfl evs_nil)) (Span_spec)) rfl ?_
      rintro _ H16 ⟨rfl, n17⟩
      have n17s := n17.size
      replace hx0 := Ext.trans hx0 n17
      replace n2b := Ext.blk n17 n2b (by simp)
      replace n4r := Sl.ext0 n4r n17
      replace n6b := Ext.blk n17 n6b (by simp)
      refine hl_h (h_call Try.call24 (evs_cons rfl evs_nil) (Rows_spec)) rfl ?_
      rintro n19v H18 ⟨n19o, n19⟩
      have n19s := n19.size
      replace hx0 := Ext.trans hx0 n19
      replace n2b := Ext.blk n19 n2b (by simp)
      replace n4r := Sl.ext0 n4r n19
      replace n6b := Ext.blk n19 n6b (by simp)
      refine hl_v (v_assign rfl) rfl ?_
      refine hl_nil ?_
      refine thenQ_n ?_
      refine hw_sub _ (ai_cons (t := 1) rfl (ai_cons (t := 2) rfl (ai_cons (t := 3) rfl (ai_cons (t := 8) rfl (ai_cons (t := 10) rfl ai_nil))))) ?_
      refine hw_seq ?_
      refine hw_seq ?_
      refine hw_region ?_
      refine hl_v (v_move rfl) rfl ?_
      refine hl_v (v_move rfl) rfl ?_
      refine hl_v (v_gtr rfl rfl) rfl ?_
      refine hl_nil ?_
      refine thenQ_n ?_
      refine hw_sub _ (ai_cons (t := 1) rfl (ai_cons (t := 2) rfl (ai_cons (t := 3) rfl (ai_cons (t := 8) rfl (ai_cons (t := 10) rfl (ai_cons (t := 70) rfl ai_nil)))))) ?_
      refine hw_cond rfl (fun hc20 => ?_) (fun hc20 => ?_)
      · try simp only [decide_eq_true_eq, decide_eq_false_iff_not, Bool.and_eq_true, Bool.and_eq_false_iff, Bool.or_eq_true, Bool.or_eq_false_iff, Bool.not_eq_true', Bool.not_eq_false', Bool.not_eq_true, Bool.not_eq_false, beq_iff_eq, Int.not_lt, Int.not_le] at hc20
        refine hw_seq ?_
        refine hw_region ?_
        refine hl_h (h_call Try.call17 evs_nil (awake1_spec)) rfl ?_
        rintro _ H21 ⟨rfl, n22⟩
        have n22s := n22.size
        replace hx0 := Ext.trans hx0 n22
        replace n2b := Ext.blk n22 n2b (by simp)
        replace n4r := Sl.ext0 n4r n22
        replace n6b := Ext.blk n22 n6b (by simp)
        replace n19o := Ow.ext0 n19o n22
        refine hl_v (v_move rfl) rfl ?_
        refine hl_g rfl rfl (fun hg => (v_loadS Try.isAgg31 Try.sizeOf31 rfl (by assumption))) rfl ?_
        refine hl_g rfl rfl (fun hg => (v_loadS Try.isAgg31 Try.sizeOf31 rfl (by assumption))) rfl ?_
        refine hl_g rfl rfl (fun hg => (v_eqlSet Try.underlying31 Try.underlying29 Try.sizeOf29 (by kernel_rfl) (gv_ok rfl hg) (gv_ok rfl hg))) rfl ?_
        refine hl_v (v_and rfl rfl) rfl ?_
        refine hl_v (v_move rfl) rfl ?_
        refine hl_g rfl rfl (fun hg => (v_move rfl)) rfl ?_
        refine hl_g rfl rfl (fun hg => (v_lenL rfl Try.underlying38 (gv_ok rfl hg) (by first | assumption | exact Ow.sl0 (by assumption)))) rfl ?_
        refine hl_g rfl rfl (fun hg => (v_eql (gv_ok rfl hg) rfl)) rfl ?_
        refine hl_v (v_and rfl rfl) rfl ?_
        refine hl_v (v_assign rfl) rfl ?_
        refine hl_nil ?_
        refine thenQ_n ?_
        refine hw_sub _ (ai_cons (t := 6) rfl ai_nil) ?_
        refine hw_ret ?_
        refine thenQ_r ?_
        refine ret_i _ (ra_t rfl ra_nil) ?_
        refine ⟨congrArg Value.bool ?_, hx0⟩
        have hk9 : k = s.rows.length := by omega
        rw [hk9, List.take_length, uni_rows, rows_span, if_neg (by omega)]
        simp
      · try simp only [decide_eq_true_eq, decide_eq_false_iff_not, Bool.and_eq_true, Bool.and_eq_false_iff, Bool.or_eq_true, Bool.or_eq_false_iff, Bool.not_eq_true', Bool.not_eq_false', Bool.not_eq_true, Bool.not_eq_false, beq_iff_eq, Int.not_lt, Int.not_le] at hc20
        refine hw_skip ?_
        refine thenQ_n ?_
        refine hw_seq ?_
        refine hw_region ?_
        refine hl_h (h_call Try.call17 evs_nil (awake1_spec)) rfl ?_
        rintro _ H23 ⟨rfl, n24⟩
        have n24s := n24.size
        replace hx0 := Ext.trans hx0 n24
        replace n2b := Ext.blk n24 n2b (by simp)
        replace n4r := Sl.ext0 n4r n24
        replace n6b := Ext.blk n24 n6b (by simp)
        replace n19o := Ow.ext0 n19o n24
        refine hl_v (v_move rfl) rfl ?_
        refine hl_g rfl rfl (fun hg => (v_loadS Try.isAgg31 Try.sizeOf31 rfl (by assumption))) rfl ?_
        refine hl_g rfl rfl (fun hg => (v_loadS Try.isAgg31 Try.sizeOf31 rfl (by assumption))) rfl ?_
        refine hl_g rfl rfl (fun hg => (v_eqlSet Try.underlying31 Try.underlying29 Try.sizeOf29 (by kernel_rfl) (gv_ok rfl hg) (gv_ok rfl hg))) rfl ?_
        refine hl_v (v_and rfl rfl) rfl ?_
        refine hl_v (v_move rfl) rfl ?_
        refine hl_g rfl rfl (fun hg => (v_move rfl)) rfl ?_
        refine hl_g rfl rfl (fun hg => (v_lenL rfl Try.underlying38 (gv_ok rfl hg) (by first | assumption | exact Ow.sl0 (by assumption)))) rfl ?_
        refine hl_g rfl rfl (fun hg => (v_eql (gv_ok rfl hg) rfl)) rfl ?_
        refine hl_v (v_and rfl rfl) rfl ?_
        refine hl_v (v_move rfl) rfl ?_
        refine hl_g rfl rfl (fun hg => (v_move rfl)) rfl ?_
        refine hl_g rfl rfl (fun hg => (v_ixL Try.underlying38 Try.sizeOf40 (gv_ok rfl hg) rfl (by first | assumption | exact Ow.sl0 (by assumption)) (by simp only [gb_t, gb_f, gb_g, decide_eq_true_eq, decide_eq_false_iff_not, Bool.and_eq_true, Bool.and_eq_false_iff, Bool.or_eq_true, Bool.or_eq_false_iff, Bool.not_eq_true', Bool.not_eq_false', Bool.not_eq_true, Bool.not_eq_false, beq_iff_eq, Int.not_lt, Int.not_le] at hg; (first | omega | assumption | (simp only [Int.toNat_natCast]; omega) | (simp; done) | (simp at *; omega))))) rfl ?_
        refine hl_g rfl rfl (fun hg => (v_loadFl Try.isAgg40 Try.sizeOf40 (gv_ok rfl hg) (by first | assumption | exact Ow.sl0 (by assumption)) rfl (by simp only [gb_t, gb_f, gb_g, decide_eq_true_eq, decide_eq_false_iff_not, Bool.and_eq_true, Bool.and_eq_false_iff, Bool.or_eq_true, Bool.or_eq_false_iff, Bool.not_eq_true', Bool.not_eq_false', Bool.not_eq_true, Bool.not_eq_false, beq_iff_eq, Int.not_lt, Int.not_le] at hg; (first | omega | assumption | (simp only [Int.toNat_natCast]; omega) | (simp; done) | (simp at *; omega))))) rfl ?_
        refine hl_g rfl rfl (fun hg => (v_move rfl)) rfl ?_
        refine hl_g rfl rfl (fun hg => (v_move rfl)) rfl ?_
        refine hl_g rfl rfl (fun hg => (v_build2 Try.underlying40 Try.zeroValue40 rfl Try.sizeOf5 (gv_ok rfl hg) (gv_ok rfl hg))) rfl ?_
        refine hl_g rfl rfl (fun hg => (v_eqlPair Try.underlying40 Try.underlying5 Try.sizeOf5 (by kernel_rfl) (gv_ok rfl hg) (gv_ok rfl hg))) rfl ?_
        refine hl_v (v_and rfl rfl) rfl ?_
        refine hl_v (v_assign rfl) rfl ?_
        refine hl_nil ?_
        refine thenQ_n ?_
        refine hw_sub _ (ai_cons (t := 6) rfl ai_nil) ?_
        refine hw_ret ?_
        refine ret_i _ (ra_t rfl ra_nil) ?_
        refine ⟨congrArg Value.bool ?_, hx0⟩
        have hk9 : k = s.rows.length := by omega
        rw [hk9, List.take_length, uni_rows, rows_span, if_pos (by omega)]
        simp

end Go.Proofs.Ytbfgjdhdohfacaa
