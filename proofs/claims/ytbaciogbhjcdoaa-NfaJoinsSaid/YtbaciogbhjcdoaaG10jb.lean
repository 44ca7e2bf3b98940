/- Walks: functions do as their plain formulas say. No condition. -/
import Derived.Test.YtbaciogbhjcdoaaG10ja
set_option linter.unusedVariables false
set_option linter.unusedSimpArgs false
set_option maxRecDepth 20000
namespace Go.Proofs.Ytbaciogbhjcdoaa
open Go.Proofs
theorem rCat_ok {a : GNfa} {b : GNfa} {v_1 : Value} {v_3 : Value} {v_5 : Value} {v_7 : Value} {v_9 : Value} {v_11 : Value} {Q : GNfa → Int → Prop} {H : Heap} {Z : Nat → Prop} {L : List As} (h : wp_rCat a b Q) (hO : Own H Z (L)) (hf_2 : Fz fInt.rep L v_1 a.Starts) (hf_4 : Fz fInt.rep L v_3 a.Ends) (hf_6 : Fz fGEdge.rep L v_5 a.Edges) (hf_8 : Fz fInt.rep L v_7 b.Starts) (hf_10 : Fz fInt.rep L v_9 b.Ends) (hf_12 : Fz fGEdge.rep L v_11 b.Edges) : HC Try.prog 19 [.agg [.int .i64 a.States, v_1, v_3, v_5].toArray, .agg [.int .i64 b.States, v_7, v_9, v_11].toArray] H (fun v H' => ∃ (Z' : Nat → Prop) (r0 : GNfa) (r1 : Int) (v_13 : Value) (v_14 : Value) (v_15 : Value), (∀ b, Z b → Z' b) ∧ Q r0 r1 ∧ v = .tuple #[.agg [.int .i64 r0.States, v_13, v_14, v_15].toArray, .int .i64 r1] ∧ Own H' Z' (own fInt 3 v_13 r0.Starts :: own fInt 3 v_14 r0.Ends :: own fGEdge 69 v_15 r0.Edges :: L)) := by
  have hZ : ∀ b, Z b → Z b := fun _ h => h
  replace hO := Fz.item hf_2 hO
  replace hO := Fz.items [_] hf_4 hO
  replace hO := Fz.items [_, _] hf_6 hO
  replace hO := Fz.items [_, _, _] hf_8 hO
  replace hO := Fz.items [_, _, _, _] hf_10 hO
  replace hO := Fz.items [_, _, _, _, _] hf_12 hO
  unfold wp_rCat at h
  refine hc_of_hw (N := 122) (rs := [(.cell 4 25), (.tmp 5)]) Try.func19 rfl rfl rfl rfl ?_
  refine hw_seq ?_
  refine hw_region ?_
  refine hl_h (o_box (cs := [.int .i64 a.States, v_1, v_3, v_5]) hO rfl rfl) rfl ?_
  rintro _ H_16 ⟨b_17, rfl, hO⟩
  replace hO : Own H_16 Z (box b_17 [.int .i64 a.States, v_1, v_3, v_5] 25 :: fz fGEdge.rep v_11 b.Edges :: fz fInt.rep v_9 b.Ends :: fz fInt.rep v_7 b.Starts :: fz fGEdge.rep v_5 a.Edges :: fz fInt.rep v_3 a.Ends :: fz fInt.rep v_1 a.Starts :: L) := hO
  refine hl_h (o_box (cs := [.int .i64 b.States, v_7, v_9, v_11]) hO rfl rfl) rfl ?_
  rintro _ H_18 ⟨b_19, rfl, hO⟩
  replace hO : Own H_18 Z (box b_19 [.int .i64 b.States, v_7, v_9, v_11] 25 :: box b_17 [.int .i64 a.States, v_1, v_3, v_5] 25 :: fz fGEdge.rep v_11 b.Edges :: fz fInt.rep v_9 b.Ends :: fz fInt.rep v_7 b.Starts :: fz fGEdge.rep v_5 a.Edges :: fz fInt.rep v_3 a.Ends :: fz fInt.rep v_1 a.Starts :: L) := hO
  refine hl_h (o_alloc (cs := [.int .i64 (0 : Int), .slice none 0 0, .slice none 0 0, .slice none 0 0]) hO Try.zeroValue25 rfl) rfl ?_
  rintro _ H_20 ⟨b_21, rfl, hO⟩
  replace hO : Own H_20 Z (box b_21 [.int .i64 (0 : Int), .slice none 0 0, .slice none 0 0, .slice none 0 0] 25 :: box b_19 [.int .i64 b.States, v_7, v_9, v_11] 25 :: box b_17 [.int .i64 a.States, v_1, v_3, v_5] 25 :: fz fGEdge.rep v_11 b.Edges :: fz fInt.rep v_9 b.Ends :: fz fInt.rep v_7 b.Starts :: fz fGEdge.rep v_5 a.Edges :: fz fInt.rep v_3 a.Ends :: fz fInt.rep v_1 a.Starts :: L) := hO
  refine hl_v (v_assign rfl) rfl ?_
  refine hl_nil ?_
  refine thenQ_n ?_
  refine hw_sub _ (ai_cons (t := 2) rfl (ai_cons (t := 3) rfl (ai_cons (t := 4) rfl ai_nil))) ?_
  refine hw_seq ?_
  refine hw_seq ?_
  refine hw_region ?_
  refine hl_v (v_loadA Try.isAgg25 Try.sizeOf25 rfl (Blk.at0 (hO.box 2 rfl)) rfl) rfl ?_
  obtain ⟨hs_22, h⟩ := h
  refine hl_h (h_call Try.call39 (evs_cons rfl evs_nil) (rRight_spec (a0 := a) hs_22 hO (Fz.of (i := 8) rfl) (Fz.of (i := 7) rfl) (Fz.of (i := 6) rfl))) rfl ?_
  rintro vv H_23 ⟨Z_24, hz_25, hv, hO⟩
  obtain rfl := hv.symm
  replace hZ := fun b hb => hz_25 b (hZ b hb)
  replace hO : Own H_23 Z_24 (box b_21 [.int .i64 (0 : Int), .slice none 0 0, .slice none 0 0, .slice none 0 0] 25 :: box b_19 [.int .i64 b.States, v_7, v_9, v_11] 25 :: box b_17 [.int .i64 a.States, v_1, v_3, v_5] 25 :: fz fGEdge.rep v_11 b.Edges :: fz fInt.rep v_9 b.Ends :: fz fInt.rep v_7 b.Starts :: fz fGEdge.rep v_5 a.Edges :: fz fInt.rep v_3 a.Ends :: fz fInt.rep v_1 a.Starts :: L) := hO
  refine hl_v (v_not rfl) rfl ?_
  refine hl_v (v_move rfl) rfl ?_
  refine hl_g rfl rfl (fun hg => (v_loadA Try.isAgg25 Try.sizeOf25 rfl (Blk.at0 (hO.box 1 rfl)) rfl)) rfl ?_
  obtain ⟨hs_26, h⟩ := h
  refine hl_gc (v := .bool (nRight b)) (R := fun H' => ∃ Z' : Nat → Prop, (∀ b, Z_24 b → Z' b) ∧ Own H' Z' (box b_21 [.int .i64 (0 : Int), .slice none 0 0, .slice none 0 0, .slice none 0 0] 25 :: box b_19 [.int .i64 b.States, v_7, v_9, v_11] 25 :: box b_17 [.int .i64 a.States, v_1, v_3, v_5] 25 :: fz fGEdge.rep v_11 b.Edges :: fz fInt.rep v_9 b.Ends :: fz fInt.rep v_7 b.Starts :: fz fGEdge.rep v_5 a.Edges :: fz fInt.rep v_3 a.Ends :: fz fInt.rep v_1 a.Starts :: L)) rfl rfl (fun hg => OpH.mono (h_call Try.call39 (evs_cons (gv_ok rfl hg) evs_nil) (rRight_spec (a0 := b) (hs_26 (gb_bool hg)) hO (Fz.of (i := 5) rfl) (Fz.of (i := 4) rfl) (Fz.of (i := 3) rfl))) (by rintro _ H' ⟨Z', hz, rfl, hO⟩; exact ⟨rfl, Z', hz, hO⟩)) ⟨_, fun _ h => h, hO⟩ rfl ?_
  rintro H_27 ⟨Z_28, hz_29, hO⟩
  replace hZ := fun b hb => hz_29 b (hZ b hb)
  replace hO : Own H_27 Z_28 (box b_21 [.int .i64 (0 : Int), .slice none 0 0, .slice none 0 0, .slice none 0 0] 25 :: box b_19 [.int .i64 b.States, v_7, v_9, v_11] 25 :: box b_17 [.int .i64 a.States, v_1, v_3, v_5] 25 :: fz fGEdge.rep v_11 b.Edges :: fz fInt.rep v_9 b.Ends :: fz fInt.rep v_7 b.Starts :: fz fGEdge.rep v_5 a.Edges :: fz fInt.rep v_3 a.Ends :: fz fInt.rep v_1 a.Starts :: L) := hO
  refine hl_g rfl rfl (fun hg => (v_not (gv_ok rfl hg))) rfl ?_
  refine hl_v (v_or rfl rfl) rfl ?_
  refine hl_nil ?_
  refine thenQ_n ?_
  refine hw_sub _ (ai_cons (t := 2) rfl (ai_cons (t := 3) rfl (ai_cons (t := 4) rfl (ai_cons (t := 17) rfl ai_nil)))) ?_
  refine hw_cond rfl (fun hc_30 => ?_) (fun hc_30 => ?_)
  · replace h := ite_t h hc_30
    refine hw_seq ?_
    refine hw_region ?_
    refine hl_v (v_buildF (cs := [.int .i64 (0 : Int), .slice none 0 0, .slice none 0 0, .slice none 0 0]) (xs := []) (is := []) rfl evs_nil (fun w => by show _ = _; kernel_rfl)) rfl ?_
    refine hl_s (o_storeA (us := [.int .i64 (0 : Int), .slice none 0 0, .slice none 0 0, .slice none 0 0]) hO 0 rfl Try.sizeOf25 rfl rfl rfl rfl (by simp only [List.forall_mem_cons]; exact ⟨rfl, rfl, rfl, rfl, by simp⟩)) ?_
    rintro _ H_31 hO
    replace hO : Own H_31 Z_28 (box b_21 [.int .i64 (0 : Int), .slice none 0 0, .slice none 0 0, .slice none 0 0] 25 :: box b_19 [.int .i64 b.States, v_7, v_9, v_11] 25 :: box b_17 [.int .i64 a.States, v_1, v_3, v_5] 25 :: fz fGEdge.rep v_11 b.Edges :: fz fInt.rep v_9 b.Ends :: fz fInt.rep v_7 b.Starts :: fz fGEdge.rep v_5 a.Edges :: fz fInt.rep v_3 a.Ends :: fz fInt.rep v_1 a.Starts :: L) := hO
    refine hl_v (v_assign rfl) rfl ?_
    refine hl_nil ?_
    refine thenQ_n ?_
    refine hw_sub _ (ai_cons (t := 4) rfl (ai_cons (t := 5) rfl ai_nil)) ?_
    refine hw_ret ?_
    refine thenQ_r ?_
    replace hO : Own H_31 Z_28 (own fInt 3 (.slice none 0 0) [] :: box b_21 [.int .i64 (0 : Int), .slice none 0 0, .slice none 0 0, .slice none 0 0] 25 :: box b_19 [.int .i64 b.States, v_7, v_9, v_11] 25 :: box b_17 [.int .i64 a.States, v_1, v_3, v_5] 25 :: fz fGEdge.rep v_11 b.Edges :: fz fInt.rep v_9 b.Ends :: fz fInt.rep v_7 b.Starts :: fz fGEdge.rep v_5 a.Edges :: fz fInt.rep v_3 a.Ends :: fz fInt.rep v_1 a.Starts :: L) := hO.nil fInt 3
    replace hO : Own H_31 Z_28 (own fInt 3 (.slice none 0 0) [] :: own fInt 3 (.slice none 0 0) [] :: box b_21 [.int .i64 (0 : Int), .slice none 0 0, .slice none 0 0, .slice none 0 0] 25 :: box b_19 [.int .i64 b.States, v_7, v_9, v_11] 25 :: box b_17 [.int .i64 a.States, v_1, v_3, v_5] 25 :: fz fGEdge.rep v_11 b.Edges :: fz fInt.rep v_9 b.Ends :: fz fInt.rep v_7 b.Starts :: fz fGEdge.rep v_5 a.Edges :: fz fInt.rep v_3 a.Ends :: fz fInt.rep v_1 a.Starts :: L) := hO.nil fInt 3
    replace hO : Own H_31 Z_28 (own fGEdge 69 (.slice none 0 0) [] :: own fInt 3 (.slice none 0 0) [] :: own fInt 3 (.slice none 0 0) [] :: box b_21 [.int .i64 (0 : Int), .slice none 0 0, .slice none 0 0, .slice none 0 0] 25 :: box b_19 [.int .i64 b.States, v_7, v_9, v_11] 25 :: box b_17 [.int .i64 a.States, v_1, v_3, v_5] 25 :: fz fGEdge.rep v_11 b.Edges :: fz fInt.rep v_9 b.Ends :: fz fInt.rep v_7 b.Starts :: fz fGEdge.rep v_5 a.Edges :: fz fInt.rep v_3 a.Ends :: fz fInt.rep v_1 a.Starts :: L) := hO.nil fGEdge 69
    refine ret_i _ (ra_c rfl (fun w hw => run_loadVar_at (cs := [.int .i64 (0 : Int), .slice none 0 0, .slice none 0 0, .slice none 0 0]) Try.isAgg25 Try.sizeOf25 (Blk.at0 (hO.box 3 rfl)) rfl w hw) (ra_t rfl ra_nil)) ?_
    exact ⟨_, (⟨(0 : Int), [], [], []⟩ : GNfa), 1, .slice none 0 0, .slice none 0 0, .slice none 0 0, hZ, h, rfl, (Own.sel (Ls := [own fGEdge 69 (.slice none 0 0) [], own fInt 3 (.slice none 0 0) [], own fInt 3 (.slice none 0 0) [], box b_21 [.int .i64 (0 : Int), .slice none 0 0, .slice none 0 0, .slice none 0 0] 25, box b_19 [.int .i64 b.States, v_7, v_9, v_11] 25, box b_17 [.int .i64 a.States, v_1, v_3, v_5] 25, fz fGEdge.rep v_11 b.Edges, fz fInt.rep v_9 b.Ends, fz fInt.rep v_7 b.Starts, fz fGEdge.rep v_5 a.Edges, fz fInt.rep v_3 a.Ends, fz fInt.rep v_1 a.Starts]) (L := L) [2, 1, 0] rfl hO)⟩
  · replace h := ite_f h hc_30
    refine hw_skip ?_
    refine thenQ_n ?_
    refine hw_seq ?_
    refine hw_region ?_
    refine hl_v (v_fieldA Try.underlying25 rfl Try.sizeOf22 rfl) rfl ?_
    refine hl_v (v_load1 Try.isAgg22 rfl (Blk.cell (hO.box 1 rfl) rfl)) rfl ?_
    refine hl_v (v_fieldA Try.underlying25 rfl Try.sizeOf3 rfl) rfl ?_
    refine hl_v (v_load1 Try.isAgg3 rfl (Blk.cell (hO.box 2 rfl) rfl)) rfl ?_
    obtain ⟨hs_32, h⟩ := h
    refine hl_h (h_call Try.call50 (evs_cons rfl (evs_cons rfl evs_nil)) (rShift_spec (a0 := b.Starts) (a1 := a.States) hs_32 hO (Rd.of_fz (i := 5) rfl))) rfl ?_
    rintro vv H_34 ⟨Z_35, v_33, hz_36, hv, hO⟩
    obtain rfl := hv.symm
    replace hZ := fun b hb => hz_36 b (hZ b hb)
    replace hO : Own H_34 Z_35 (own fInt 3 v_33 (b.Starts.map (· + a.States)) :: box b_21 [.int .i64 (0 : Int), .slice none 0 0, .slice none 0 0, .slice none 0 0] 25 :: box b_19 [.int .i64 b.States, v_7, v_9, v_11] 25 :: box b_17 [.int .i64 a.States, v_1, v_3, v_5] 25 :: fz fGEdge.rep v_11 b.Edges :: fz fInt.rep v_9 b.Ends :: fz fInt.rep v_7 b.Starts :: fz fGEdge.rep v_5 a.Edges :: fz fInt.rep v_3 a.Ends :: fz fInt.rep v_1 a.Starts :: L) := hO
    refine hl_v (v_assign rfl) rfl ?_
    refine hl_nil ?_
    refine thenQ_n ?_
    refine hw_sub _ (ai_cons (t := 2) rfl (ai_cons (t := 3) rfl (ai_cons (t := 4) rfl (ai_cons (t := 6) rfl ai_nil)))) ?_
    refine hw_seq ?_
    refine hw_hj (fun f' H' => ∃ (v_39 : Value) (v_44 : Value) (b_51 : Nat) (Z' : Nat → Prop), AllIn f' [(2, ptr b_17 0), (3, ptr b_19 0), (4, ptr b_21 0), (6, v_33), (7, ptr b_51 0)] ∧ (∀ b, Z b → Z' b) ∧ Own H' Z' (box b_51 [.int .i64 (a.States + b.States), v_39, v_44, .slice none 0 0] 25 :: own fInt 3 v_44 (b.Ends.map (· + a.States)) :: own fInt 3 v_39 (a.Starts ++ ([] : List Int)) :: own fInt 3 v_33 (b.Starts.map (· + a.States)) :: box b_21 [.int .i64 (0 : Int), .slice none 0 0, .slice none 0 0, .slice none 0 0] 25 :: box b_19 [.int .i64 b.States, v_7, v_9, v_11] 25 :: box b_17 [.int .i64 a.States, v_1, v_3, v_5] 25 :: fz fGEdge.rep v_11 b.Edges :: fz fInt.rep v_9 b.Ends :: fz fInt.rep v_7 b.Starts :: fz fGEdge.rep v_5 a.Edges :: fz fInt.rep v_3 a.Ends :: fz fInt.rep v_1 a.Starts :: L)) ?_ ?_
    · skip
      refine hw_held2 15 (fun H' => ∃ Z' : Nat → Prop, Own H' Z' (own fInt 3 v_33 (b.Starts.map (· + a.States)) :: box b_21 [.int .i64 (0 : Int), .slice none 0 0, .slice none 0 0, .slice none 0 0] 25 :: box b_19 [.int .i64 b.States, v_7, v_9, v_11] 25 :: box b_17 [.int .i64 a.States, v_1, v_3, v_5] 25 :: fz fGEdge.rep v_11 b.Edges :: fz fInt.rep v_9 b.Ends :: fz fInt.rep v_7 b.Starts :: fz fGEdge.rep v_5 a.Edges :: fz fInt.rep v_3 a.Ends :: fz fInt.rep v_1 a.Starts :: L)) (.step 0 false (.step 1 false (.step 2 false (.step 3 false (.step 4 false (.step 5 false (.step 6 false (.step 8 false (.step 9 false (.step 10 false (.step 11 false (.two 7 14 (.two 12 14 (.step 13 false (.step 14 true .done)) (.step 12 true (.step 13 false .done))) (.step 7 true (.step 12 true (.step 13 false .done))))))))))))))) (.step 15 true .done) Try.mixed (by kernel_rfl) ⟨_, hO⟩ ?_
      refine hd_v rfl (fun _ _ => (v_fieldA Try.underlying25 rfl Try.sizeOf3 rfl)) rfl ?_
      refine hd_v rfl (fun H' hS => by obtain ⟨Z', hO⟩ := hS; exact (v_load1 Try.isAgg3 rfl (Blk.cell (hO.box 3 rfl) rfl))) rfl ?_
      refine hd_v rfl (fun _ _ => (v_fieldA Try.underlying25 rfl Try.sizeOf3 rfl)) rfl ?_
      refine hd_v rfl (fun H' hS => by obtain ⟨Z', hO⟩ := hS; exact (v_load1 Try.isAgg3 rfl (Blk.cell (hO.box 2 rfl) rfl))) rfl ?_
      obtain ⟨hs_37, h⟩ := h
      refine hd_v rfl (fun _ _ => (v_add rfl rfl hs_37)) rfl ?_
      refine hd_v rfl (fun _ _ => (v_fieldA Try.underlying25 rfl Try.sizeOf22 rfl)) rfl ?_
      refine hd_v rfl (fun H' hS => by obtain ⟨Z', hO⟩ := hS; exact (v_load1 Try.isAgg22 rfl (Blk.cell (hO.box 3 rfl) rfl))) rfl ?_
      refine hd_v rfl (fun _ _ => (v_fieldA Try.underlying25 rfl Try.sizeOf22 rfl)) rfl ?_
      refine hd_v rfl (fun H' hS => by obtain ⟨Z', hO⟩ := hS; exact (v_load1 Try.isAgg22 rfl (Blk.cell (hO.box 2 rfl) rfl))) rfl ?_
      refine hd_v rfl (fun _ _ => (v_fieldA Try.underlying25 rfl Try.sizeOf3 rfl)) rfl ?_
      refine hd_v rfl (fun H' hS => by obtain ⟨Z', hO⟩ := hS; exact (v_load1 Try.isAgg3 rfl (Blk.cell (hO.box 3 rfl) rfl))) rfl ?_
      refine hd_two ?_ ?_
      · skip
        obtain ⟨hs_38, h⟩ := h
        refine hd_h (h_call Try.call51 (evs_cons rfl (evs_cons (show _ = some (.slice none 0 0) from rfl) evs_nil)) (rBoth_spec (a0 := a.Starts) (a1 := ([] : List Int)) hs_38 hO (Rd.of_fz (i := 9) rfl) Rd.nil)) (by rintro vv H_40 ⟨Z_41, v_39, hz_42, hv, hO⟩; obtain rfl := hv.symm; replace hZ := fun b hb => hz_42 b (hZ b hb); exact ⟨_, (Own.sel (Ls := [own fInt 3 v_39 (a.Starts ++ ([] : List Int)), own fInt 3 v_33 (b.Starts.map (· + a.States)), box b_21 [.int .i64 (0 : Int), .slice none 0 0, .slice none 0 0, .slice none 0 0] 25, box b_19 [.int .i64 b.States, v_7, v_9, v_11] 25, box b_17 [.int .i64 a.States, v_1, v_3, v_5] 25, fz fGEdge.rep v_11 b.Edges, fz fInt.rep v_9 b.Ends, fz fInt.rep v_7 b.Starts, fz fGEdge.rep v_5 a.Edges, fz fInt.rep v_3 a.Ends, fz fInt.rep v_1 a.Starts]) (L := L) [1, 2, 3, 4, 5, 6, 7, 8, 9, 10] rfl hO)⟩) rfl ?_
        rintro vv H_40 ⟨Z_41, v_39, hz_42, hv, hO⟩
        obtain rfl := hv.symm
        replace hZ := fun b hb => hz_42 b (hZ b hb)
        replace hO : Own H_40 Z_41 (own fInt 3 v_39 (a.Starts ++ ([] : List Int)) :: own fInt 3 v_33 (b.Starts.map (· + a.States)) :: box b_21 [.int .i64 (0 : Int), .slice none 0 0, .slice none 0 0, .slice none 0 0] 25 :: box b_19 [.int .i64 b.States, v_7, v_9, v_11] 25 :: box b_17 [.int .i64 a.States, v_1, v_3, v_5] 25 :: fz fGEdge.rep v_11 b.Edges :: fz fInt.rep v_9 b.Ends :: fz fInt.rep v_7 b.Starts :: fz fGEdge.rep v_5 a.Edges :: fz fInt.rep v_3 a.Ends :: fz fInt.rep v_1 a.Starts :: L) := hO
        refine hd_two ?_ ?_
        · skip
          obtain ⟨hs_43, h⟩ := h
          refine hd_h (h_call Try.call50 (evs_cons rfl (evs_cons rfl evs_nil)) (rShift_spec (a0 := b.Ends) (a1 := a.States) hs_43 hO (Rd.of_fz (i := 6) rfl))) (by rintro vv H_45 ⟨Z_46, v_44, hz_47, hv, hO⟩; obtain rfl := hv.symm; replace hZ := fun b hb => hz_47 b (hZ b hb); exact ⟨_, (Own.sel (Ls := [own fInt 3 v_44 (b.Ends.map (· + a.States)), own fInt 3 v_39 (a.Starts ++ ([] : List Int)), own fInt 3 v_33 (b.Starts.map (· + a.States)), box b_21 [.int .i64 (0 : Int), .slice none 0 0, .slice none 0 0, .slice none 0 0] 25, box b_19 [.int .i64 b.States, v_7, v_9, v_11] 25, box b_17 [.int .i64 a.States, v_1, v_3, v_5] 25, fz fGEdge.rep v_11 b.Edges, fz fInt.rep v_9 b.Ends, fz fInt.rep v_7 b.Starts, fz fGEdge.rep v_5 a.Edges, fz fInt.rep v_3 a.Ends, fz fInt.rep v_1 a.Starts]) (L := L) [2, 3, 4, 5, 6, 7, 8, 9, 10, 11] rfl hO)⟩) rfl ?_
          rintro vv H_45 ⟨Z_46, v_44, hz_47, hv, hO⟩
          obtain rfl := hv.symm
          replace hZ := fun b hb => hz_47 b (hZ b hb)
          replace hO : Own H_45 Z_46 (own fInt 3 v_44 (b.Ends.map (· + a.States)) :: own fInt 3 v_39 (a.Starts ++ ([] : List Int)) :: own fInt 3 v_33 (b.Starts.map (· + a.States)) :: box b_21 [.int .i64 (0 : Int), .slice none 0 0, .slice none 0 0, .slice none 0 0] 25 :: box b_19 [.int .i64 b.States, v_7, v_9, v_11] 25 :: box b_17 [.int .i64 a.States, v_1, v_3, v_5] 25 :: fz fGEdge.rep v_11 b.Edges :: fz fInt.rep v_9 b.Ends :: fz fInt.rep v_7 b.Starts :: fz fGEdge.rep v_5 a.Edges :: fz fInt.rep v_3 a.Ends :: fz fInt.rep v_1 a.Starts :: L) := hO
          have hsh_48 := Sl.sh (hO.osl 1 rfl)
          have hsh_49 := Sl.sh (hO.osl 0 rfl)
          refine hd_v rfl (fun _ _ => (v_buildF (cs := [.int .i64 (a.States + b.States), v_39, v_44, .slice none 0 0]) (xs := [.tmp 28, .tmp 31, .tmp 36]) (is := [0, 1, 2]) rfl (evs_cons rfl (evs_cons rfl (evs_cons rfl evs_nil))) (fun w => by obtain ⟨_, _, _, hw⟩ := hsh_48; (try subst hw); obtain ⟨_, _, _, hw⟩ := hsh_49; (try subst hw); show _ = _; kernel_rfl))) rfl ?_
          refine hd_h (o_alloc (cs := [.int .i64 (0 : Int), .slice none 0 0, .slice none 0 0, .slice none 0 0]) hO Try.zeroValue25 rfl) (by rintro _ H_50 ⟨b_51, rfl, hO⟩; exact ⟨_, (Own.sel (Ls := [box b_51 [.int .i64 (0 : Int), .slice none 0 0, .slice none 0 0, .slice none 0 0] 25, own fInt 3 v_44 (b.Ends.map (· + a.States)), own fInt 3 v_39 (a.Starts ++ ([] : List Int)), own fInt 3 v_33 (b.Starts.map (· + a.States)), box b_21 [.int .i64 (0 : Int), .slice none 0 0, .slice none 0 0, .slice none 0 0] 25, box b_19 [.int .i64 b.States, v_7, v_9, v_11] 25, box b_17 [.int .i64 a.States, v_1, v_3, v_5] 25, fz fGEdge.rep v_11 b.Edges, fz fInt.rep v_9 b.Ends, fz fInt.rep v_7 b.Starts, fz fGEdge.rep v_5 a.Edges, fz fInt.rep v_3 a.Ends, fz fInt.rep v_1 a.Starts]) (L := L) [3, 4, 5, 6, 7, 8, 9, 10, 11, 12] rfl hO)⟩) rfl ?_
          rintro _ H_50 ⟨b_51, rfl, hO⟩
          replace hO : Own H_50 Z_46 (box b_51 [.int .i64 (0 : Int), .slice none 0 0, .slice none 0 0, .slice none 0 0] 25 :: own fInt 3 v_44 (b.Ends.map (· + a.States)) :: own fInt 3 v_39 (a.Starts ++ ([] : List Int)) :: own fInt 3 v_33 (b.Starts.map (· + a.States)) :: box b_21 [.int .i64 (0 : Int), .slice none 0 0, .slice none 0 0, .slice none 0 0] 25 :: box b_19 [.int .i64 b.States, v_7, v_9, v_11] 25 :: box b_17 [.int .i64 a.States, v_1, v_3, v_5] 25 :: fz fGEdge.rep v_11 b.Edges :: fz fInt.rep v_9 b.Ends :: fz fInt.rep v_7 b.Starts :: fz fGEdge.rep v_5 a.Edges :: fz fInt.rep v_3 a.Ends :: fz fInt.rep v_1 a.Starts :: L) := hO
          refine hd_nil ?_
          refine hd_s (o_storeA (us := [.int .i64 (a.States + b.States), v_39, v_44, .slice none 0 0]) hO 0 rfl Try.sizeOf25 rfl rfl rfl rfl (by simp only [List.forall_mem_cons]; exact ⟨rfl, (Sl.one (hO.osl 2 rfl)), (Sl.one (hO.osl 1 rfl)), rfl, by simp⟩)) (fun _ _ _ => trivial) ?_
          rintro _ H_52 hO
          replace hO : Own H_52 Z_46 (box b_51 [.int .i64 (a.States + b.States), v_39, v_44, .slice none 0 0] 25 :: own fInt 3 v_44 (b.Ends.map (· + a.States)) :: own fInt 3 v_39 (a.Starts ++ ([] : List Int)) :: own fInt 3 v_33 (b.Starts.map (· + a.States)) :: box b_21 [.int .i64 (0 : Int), .slice none 0 0, .slice none 0 0, .slice none 0 0] 25 :: box b_19 [.int .i64 b.States, v_7, v_9, v_11] 25 :: box b_17 [.int .i64 a.States, v_1, v_3, v_5] 25 :: fz fGEdge.rep v_11 b.Edges :: fz fInt.rep v_9 b.Ends :: fz fInt.rep v_7 b.Starts :: fz fGEdge.rep v_5 a.Edges :: fz fInt.rep v_3 a.Ends :: fz fInt.rep v_1 a.Starts :: L) := hO
          refine hd_nil ?_
          exact ⟨rfl, v_39, v_44, b_51, _, (ai_cons (t := 2) rfl (ai_cons (t := 3) rfl (ai_cons (t := 4) rfl (ai_cons (t := 6) rfl (ai_cons (t := 7) rfl ai_nil))))), hZ, hO⟩
        · skip
          refine hd_h (o_alloc (cs := [.int .i64 (0 : Int), .slice none 0 0, .slice none 0 0, .slice none 0 0]) hO Try.zeroValue25 rfl) (by rintro _ H_53 ⟨b_54, rfl, hO⟩; exact ⟨_, (Own.sel (Ls := [box b_54 [.int .i64 (0 : Int), .slice none 0 0, .slice none 0 0, .slice none 0 0] 25, own fInt 3 v_39 (a.Starts ++ ([] : List Int)), own fInt 3 v_33 (b.Starts.map (· + a.States)), box b_21 [.int .i64 (0 : Int), .slice none 0 0, .slice none 0 0, .slice none 0 0] 25, box b_19 [.int .i64 b.States, v_7, v_9, v_11] 25, box b_17 [.int .i64 a.States, v_1, v_3, v_5] 25, fz fGEdge.rep v_11 b.Edges, fz fInt.rep v_9 b.Ends, fz fInt.rep v_7 b.Starts, fz fGEdge.rep v_5 a.Edges, fz fInt.rep v_3 a.Ends, fz fInt.rep v_1 a.Starts]) (L := L) [2, 3, 4, 5, 6, 7, 8, 9, 10, 11] rfl hO)⟩) rfl ?_
          rintro _ H_53 ⟨b_54, rfl, hO⟩
          replace hO : Own H_53 Z_41 (box b_54 [.int .i64 (0 : Int), .slice none 0 0, .slice none 0 0, .slice none 0 0] 25 :: own fInt 3 v_39 (a.Starts ++ ([] : List Int)) :: own fInt 3 v_33 (b.Starts.map (· + a.States)) :: box b_21 [.int .i64 (0 : Int), .slice none 0 0, .slice none 0 0, .slice none 0 0] 25 :: box b_19 [.int .i64 b.States, v_7, v_9, v_11] 25 :: box b_17 [.int .i64 a.States, v_1, v_3, v_5] 25 :: fz fGEdge.rep v_11 b.Edges :: fz fInt.rep v_9 b.Ends :: fz fInt.rep v_7 b.Starts :: fz fGEdge.rep v_5 a.Edges :: fz fInt.rep v_3 a.Ends :: fz fInt.rep v_1 a.Starts :: L) := hO
          obtain ⟨hs_55, h⟩ := h
          refine hd_h (h_call Try.call50 (evs_cons rfl (evs_cons rfl evs_nil)) (rShift_spec (a0 := b.Ends) (a1 := a.States) hs_55 hO (Rd.of_fz (i := 7) rfl))) (by rintro vv H_57 ⟨Z_58, v_56, hz_59, hv, hO⟩; obtain rfl := hv.symm; replace hZ := fun b hb => hz_59 b (hZ b hb); exact ⟨_, (Own.sel (Ls := [own fInt 3 v_56 (b.Ends.map (· + a.States)), box b_54 [.int .i64 (0 : Int), .slice none 0 0, .slice none 0 0, .slice none 0 0] 25, own fInt 3 v_39 (a.Starts ++ ([] : List Int)), own fInt 3 v_33 (b.Starts.map (· + a.States)), box b_21 [.int .i64 (0 : Int), .slice none 0 0, .slice none 0 0, .slice none 0 0] 25, box b_19 [.int .i64 b.States, v_7, v_9, v_11] 25, box b_17 [.int .i64 a.States, v_1, v_3, v_5] 25, fz fGEdge.rep v_11 b.Edges, fz fInt.rep v_9 b.Ends, fz fInt.rep v_7 b.Starts, fz fGEdge.rep v_5 a.Edges, fz fInt.rep v_3 a.Ends, fz fInt.rep v_1 a.Starts]) (L := L) [3, 4, 5, 6, 7, 8, 9, 10, 11, 12] rfl hO)⟩) rfl ?_
          rintro vv H_57 ⟨Z_58, v_56, hz_59, hv, hO⟩
          obtain rfl := hv.symm
          replace hZ := fun b hb => hz_59 b (hZ b hb)
          replace hO : Own H_57 Z_58 (own fInt 3 v_56 (b.Ends.map (· + a.States)) :: box b_54 [.int .i64 (0 : Int), .slice none 0 0, .slice none 0 0, .slice none 0 0] 25 :: own fInt 3 v_39 (a.Starts ++ ([] : List Int)) :: own fInt 3 v_33 (b.Starts.map (· + a.States)) :: box b_21 [.int .i64 (0 : Int), .slice none 0 0, .slice none 0 0, .slice none 0 0] 25 :: box b_19 [.int .i64 b.States, v_7, v_9, v_11] 25 :: box b_17 [.int .i64 a.States, v_1, v_3, v_5] 25 :: fz fGEdge.rep v_11 b.Edges :: fz fInt.rep v_9 b.Ends :: fz fInt.rep v_7 b.Starts :: fz fGEdge.rep v_5 a.Edges :: fz fInt.rep v_3 a.Ends :: fz fInt.rep v_1 a.Starts :: L) := hO
          have hsh_60 := Sl.sh (hO.osl 2 rfl)
          have hsh_61 := Sl.sh (hO.osl 0 rfl)
          refine hd_v rfl (fun _ _ => (v_buildF (cs := [.int .i64 (a.States + b.States), v_39, v_56, .slice none 0 0]) (xs := [.tmp 28, .tmp 31, .tmp 36]) (is := [0, 1, 2]) rfl (evs_cons rfl (evs_cons rfl (evs_cons rfl evs_nil))) (fun w => by obtain ⟨_, _, _, hw⟩ := hsh_60; (try subst hw); obtain ⟨_, _, _, hw⟩ := hsh_61; (try subst hw); show _ = _; kernel_rfl))) rfl ?_
          refine hd_nil ?_
          refine hd_s (o_storeA (us := [.int .i64 (a.States + b.States), v_39, v_56, .slice none 0 0]) hO 1 rfl Try.sizeOf25 rfl rfl rfl rfl (by simp only [List.forall_mem_cons]; exact ⟨rfl, (Sl.one (hO.osl 2 rfl)), (Sl.one (hO.osl 0 rfl)), rfl, by simp⟩)) (fun _ _ _ => trivial) ?_
          rintro _ H_62 hO
          replace hO : Own H_62 Z_58 (own fInt 3 v_56 (b.Ends.map (· + a.States)) :: box b_54 [.int .i64 (a.States + b.States), v_39, v_56, .slice none 0 0] 25 :: own fInt 3 v_39 (a.Starts ++ ([] : List Int)) :: own fInt 3 v_33 (b.Starts.map (· + a.States)) :: box b_21 [.int .i64 (0 : Int), .slice none 0 0, .slice none 0 0, .slice none 0 0] 25 :: box b_19 [.int .i64 b.States, v_7, v_9, v_11] 25 :: box b_17 [.int .i64 a.States, v_1, v_3, v_5] 25 :: fz fGEdge.rep v_11 b.Edges :: fz fInt.rep v_9 b.Ends :: fz fInt.rep v_7 b.Starts :: fz fGEdge.rep v_5 a.Edges :: fz fInt.rep v_3 a.Ends :: fz fInt.rep v_1 a.Starts :: L) := hO
          refine hd_nil ?_
          exact ⟨rfl, v_39, v_56, b_54, _, (ai_cons (t := 2) rfl (ai_cons (t := 3) rfl (ai_cons (t := 4) rfl (ai_cons (t := 6) rfl (ai_cons (t := 7) rfl ai_nil))))), hZ, (Own.sel (Ls := [own fInt 3 v_56 (b.Ends.map (· + a.States)), box b_54 [.int .i64 (a.States + b.States), v_39, v_56, .slice none 0 0] 25, own fInt 3 v_39 (a.Starts ++ ([] : List Int)), own fInt 3 v_33 (b.Starts.map (· + a.States)), box b_21 [.int .i64 (0 : Int), .slice none 0 0, .slice none 0 0, .slice none 0 0] 25, box b_19 [.int .i64 b.States, v_7, v_9, v_11] 25, box b_17 [.int .i64 a.States, v_1, v_3, v_5] 25, fz fGEdge.rep v_11 b.Edges, fz fInt.rep v_9 b.Ends, fz fInt.rep v_7 b.Starts, fz fGEdge.rep v_5 a.Edges, fz fInt.rep v_3 a.Ends, fz fInt.rep v_1 a.Starts]) (L := L) [1, 0, 2, 3, 4, 5, 6, 7, 8, 9, 10, 11, 12] rfl hO)⟩
      · skip
        refine hd_h (o_alloc (cs := [.int .i64 (0 : Int), .slice none 0 0, .slice none 0 0, .slice none 0 0]) hO Try.zeroValue25 rfl) (by rintro _ H_63 ⟨b_64, rfl, hO⟩; exact ⟨_, (Own.sel (Ls := [box b_64 [.int .i64 (0 : Int), .slice none 0 0, .slice none 0 0, .slice none 0 0] 25, own fInt 3 v_33 (b.Starts.map (· + a.States)), box b_21 [.int .i64 (0 : Int), .slice none 0 0, .slice none 0 0, .slice none 0 0] 25, box b_19 [.int .i64 b.States, v_7, v_9, v_11] 25, box b_17 [.int .i64 a.States, v_1, v_3, v_5] 25, fz fGEdge.rep v_11 b.Edges, fz fInt.rep v_9 b.Ends, fz fInt.rep v_7 b.Starts, fz fGEdge.rep v_5 a.Edges, fz fInt.rep v_3 a.Ends, fz fInt.rep v_1 a.Starts]) (L := L) [1, 2, 3, 4, 5, 6, 7, 8, 9, 10] rfl hO)⟩) rfl ?_
        rintro _ H_63 ⟨b_64, rfl, hO⟩
        replace hO : Own H_63 Z_35 (box b_64 [.int .i64 (0 : Int), .slice none 0 0, .slice none 0 0, .slice none 0 0] 25 :: own fInt 3 v_33 (b.Starts.map (· + a.States)) :: box b_21 [.int .i64 (0 : Int), .slice none 0 0, .slice none 0 0, .slice none 0 0] 25 :: box b_19 [.int .i64 b.States, v_7, v_9, v_11] 25 :: box b_17 [.int .i64 a.States, v_1, v_3, v_5] 25 :: fz fGEdge.rep v_11 b.Edges :: fz fInt.rep v_9 b.Ends :: fz fInt.rep v_7 b.Starts :: fz fGEdge.rep v_5 a.Edges :: fz fInt.rep v_3 a.Ends :: fz fInt.rep v_1 a.Starts :: L) := hO
        obtain ⟨hs_65, h⟩ := h
        refine hd_h (h_call Try.call51 (evs_cons rfl (evs_cons (show _ = some (.slice none 0 0) from rfl) evs_nil)) (rBoth_spec (a0 := a.Starts) (a1 := ([] : List Int)) hs_65 hO (Rd.of_fz (i := 10) rfl) Rd.nil)) (by rintro vv H_67 ⟨Z_68, v_66, hz_69, hv, hO⟩; obtain rfl := hv.symm; replace hZ := fun b hb => hz_69 b (hZ b hb); exact ⟨_, (Own.sel (Ls := [own fInt 3 v_66 (a.Starts ++ ([] : List Int)), box b_64 [.int .i64 (0 : Int), .slice none 0 0, .slice none 0 0, .slice none 0 0] 25, own fInt 3 v_33 (b.Starts.map (· + a.States)), box b_21 [.int .i64 (0 : Int), .slice none 0 0, .slice none 0 0, .slice none 0 0] 25, box b_19 [.int .i64 b.States, v_7, v_9, v_11] 25, box b_17 [.int .i64 a.States, v_1, v_3, v_5] 25, fz fGEdge.rep v_11 b.Edges, fz fInt.rep v_9 b.Ends, fz fInt.rep v_7 b.Starts, fz fGEdge.rep v_5 a.Edges, fz fInt.rep v_3 a.Ends, fz fInt.rep v_1 a.Starts]) (L := L) [2, 3, 4, 5, 6, 7, 8, 9, 10, 11] rfl hO)⟩) rfl ?_
        rintro vv H_67 ⟨Z_68, v_66, hz_69, hv, hO⟩
        obtain rfl := hv.symm
        replace hZ := fun b hb => hz_69 b (hZ b hb)
        replace hO : Own H_67 Z_68 (own fInt 3 v_66 (a.Starts ++ ([] : List Int)) :: box b_64 [.int .i64 (0 : Int), .slice none 0 0, .slice none 0 0, .slice none 0 0] 25 :: own fInt 3 v_33 (b.Starts.map (· + a.States)) :: box b_21 [.int .i64 (0 : Int), .slice none 0 0, .slice none 0 0, .slice none 0 0] 25 :: box b_19 [.int .i64 b.States, v_7, v_9, v_11] 25 :: box b_17 [.int .i64 a.States, v_1, v_3, v_5] 25 :: fz fGEdge.rep v_11 b.Edges :: fz fInt.rep v_9 b.Ends :: fz fInt.rep v_7 b.Starts :: fz fGEdge.rep v_5 a.Edges :: fz fInt.rep v_3 a.Ends :: fz fInt.rep v_1 a.Starts :: L) := hO
        obtain ⟨hs_70, h⟩ := h
        refine hd_h (h_call Try.call50 (evs_cons rfl (evs_cons rfl evs_nil)) (rShift_spec (a0 := b.Ends) (a1 := a.States) hs_70 hO (Rd.of_fz (i := 7) rfl))) (by rintro vv H_72 ⟨Z_73, v_71, hz_74, hv, hO⟩; obtain rfl := hv.symm; replace hZ := fun b hb => hz_74 b (hZ b hb); exact ⟨_, (Own.sel (Ls := [own fInt 3 v_71 (b.Ends.map (· + a.States)), own fInt 3 v_66 (a.Starts ++ ([] : List Int)), box b_64 [.int .i64 (0 : Int), .slice none 0 0, .slice none 0 0, .slice none 0 0] 25, own fInt 3 v_33 (b.Starts.map (· + a.States)), box b_21 [.int .i64 (0 : Int), .slice none 0 0, .slice none 0 0, .slice none 0 0] 25, box b_19 [.int .i64 b.States, v_7, v_9, v_11] 25, box b_17 [.int .i64 a.States, v_1, v_3, v_5] 25, fz fGEdge.rep v_11 b.Edges, fz fInt.rep v_9 b.Ends, fz fInt.rep v_7 b.Starts, fz fGEdge.rep v_5 a.Edges, fz fInt.rep v_3 a.Ends, fz fInt.rep v_1 a.Starts]) (L := L) [3, 4, 5, 6, 7, 8, 9, 10, 11, 12] rfl hO)⟩) rfl ?_
        rintro vv H_72 ⟨Z_73, v_71, hz_74, hv, hO⟩
        obtain rfl := hv.symm
        replace hZ := fun b hb => hz_74 b (hZ b hb)
        replace hO : Own H_72 Z_73 (own fInt 3 v_71 (b.Ends.map (· + a.States)) :: own fInt 3 v_66 (a.Starts ++ ([] : List Int)) :: box b_64 [.int .i64 (0 : Int), .slice none 0 0, .slice none 0 0, .slice none 0 0] 25 :: own fInt 3 v_33 (b.Starts.map (· + a.States)) :: box b_21 [.int .i64 (0 : Int), .slice none 0 0, .slice none 0 0, .slice none 0 0] 25 :: box b_19 [.int .i64 b.States, v_7, v_9, v_11] 25 :: box b_17 [.int .i64 a.States, v_1, v_3, v_5] 25 :: fz fGEdge.rep v_11 b.Edges :: fz fInt.rep v_9 b.Ends :: fz fInt.rep v_7 b.Starts :: fz fGEdge.rep v_5 a.Edges :: fz fInt.rep v_3 a.Ends :: fz fInt.rep v_1 a.Starts :: L) := hO
        have hsh_75 := Sl.sh (hO.osl 1 rfl)
        have hsh_76 := Sl.sh (hO.osl 0 rfl)
        refine hd_v rfl (fun _ _ => (v_buildF (cs := [.int .i64 (a.States + b.States), v_66, v_71, .slice none 0 0]) (xs := [.tmp 28, .tmp 31, .tmp 36]) (is := [0, 1, 2]) rfl (evs_cons rfl (evs_cons rfl (evs_cons rfl evs_nil))) (fun w => by obtain ⟨_, _, _, hw⟩ := hsh_75; (try subst hw); obtain ⟨_, _, _, hw⟩ := hsh_76; (try subst hw); show _ = _; kernel_rfl))) rfl ?_
        refine hd_nil ?_
        refine hd_s (o_storeA (us := [.int .i64 (a.States + b.States), v_66, v_71, .slice none 0 0]) hO 2 rfl Try.sizeOf25 rfl rfl rfl rfl (by simp only [List.forall_mem_cons]; exact ⟨rfl, (Sl.one (hO.osl 1 rfl)), (Sl.one (hO.osl 0 rfl)), rfl, by simp⟩)) (fun _ _ _ => trivial) ?_
        rintro _ H_77 hO
        replace hO : Own H_77 Z_73 (own fInt 3 v_71 (b.Ends.map (· + a.States)) :: own fInt 3 v_66 (a.Starts ++ ([] : List Int)) :: box b_64 [.int .i64 (a.States + b.States), v_66, v_71, .slice none 0 0] 25 :: own fInt 3 v_33 (b.Starts.map (· + a.States)) :: box b_21 [.int .i64 (0 : Int), .slice none 0 0, .slice none 0 0, .slice none 0 0] 25 :: box b_19 [.int .i64 b.States, v_7, v_9, v_11] 25 :: box b_17 [.int .i64 a.States, v_1, v_3, v_5] 25 :: fz fGEdge.rep v_11 b.Edges :: fz fInt.rep v_9 b.Ends :: fz fInt.rep v_7 b.Starts :: fz fGEdge.rep v_5 a.Edges :: fz fInt.rep v_3 a.Ends :: fz fInt.rep v_1 a.Starts :: L) := hO
        refine hd_nil ?_
        exact ⟨rfl, v_66, v_71, b_64, _, (ai_cons (t := 2) rfl (ai_cons (t := 3) rfl (ai_cons (t := 4) rfl (ai_cons (t := 6) rfl (ai_cons (t := 7) rfl ai_nil))))), hZ, (Own.sel (Ls := [own fInt 3 v_71 (b.Ends.map (· + a.States)), own fInt 3 v_66 (a.Starts ++ ([] : List Int)), box b_64 [.int .i64 (a.States + b.States), v_66, v_71, .slice none 0 0] 25, own fInt 3 v_33 (b.Starts.map (· + a.States)), box b_21 [.int .i64 (0 : Int), .slice none 0 0, .slice none 0 0, .slice none 0 0] 25, box b_19 [.int .i64 b.States, v_7, v_9, v_11] 25, box b_17 [.int .i64 a.States, v_1, v_3, v_5] 25, fz fGEdge.rep v_11 b.Edges, fz fInt.rep v_9 b.Ends, fz fInt.rep v_7 b.Starts, fz fGEdge.rep v_5 a.Edges, fz fInt.rep v_3 a.Ends, fz fInt.rep v_1 a.Starts]) (L := L) [2, 0, 1, 3, 4, 5, 6, 7, 8, 9, 10, 11, 12] rfl hO)⟩
    · rintro _ H_78 ⟨v_39, v_44, b_51, Z_79, hai, hZ, hO⟩
      obtain ⟨hs_37, h⟩ := h
      obtain ⟨hs_38, h⟩ := h
      obtain ⟨hs_43, h⟩ := h
      refine thenQ_n ?_
      refine hw_sub _ hai ?_
      obtain ⟨K_83, h, hk_86⟩ := h
      refine hw_jn (fun g' H' => ∃ (n : GNfa) (v_80 : Value) (v_81 : Value) (v_82 : Value) (Z' : Nat → Prop), g' = [(2, ptr b_17 0), (3, ptr b_19 0), (4, ptr b_21 0), (6, v_33), (7, ptr b_51 0)] ∧ (∀ b, Z b → Z' b) ∧ K_83 n ∧ Own H' Z' (own fGEdge 69 v_82 n.Edges :: own fInt 3 v_80 n.Starts :: box b_51 [.int .i64 n.States, v_80, v_81, v_82] 25 :: own fInt 3 v_81 n.Ends :: own fInt 3 v_33 (b.Starts.map (· + a.States)) :: box b_21 [.int .i64 (0 : Int), .slice none 0 0, .slice none 0 0, .slice none 0 0] 25 :: box b_19 [.int .i64 b.States, v_7, v_9, v_11] 25 :: box b_17 [.int .i64 a.States, v_1, v_3, v_5] 25 :: fz fGEdge.rep v_11 b.Edges :: fz fInt.rep v_9 b.Ends :: fz fInt.rep v_7 b.Starts :: fz fGEdge.rep v_5 a.Edges :: fz fInt.rep v_3 a.Ends :: fz fInt.rep v_1 a.Starts :: L)) ?_ ?_
      · skip
        refine hw_seq ?_
        refine hw_region ?_
        refine hl_v (v_loadA Try.isAgg25 Try.sizeOf25 rfl (Blk.at0 (hO.box 6 rfl)) rfl) rfl ?_
        refine hl_h (h_call Try.call52 (evs_cons rfl evs_nil) (rEmpty_spec (a0 := a) hO (Fz.of (i := 12) rfl) (Fz.of (i := 11) rfl) (Fz.of (i := 10) rfl))) rfl ?_
        rintro vv H_87 ⟨Z_88, hz_89, hv, hO⟩
        obtain rfl := hv.symm
        replace hZ := fun b hb => hz_89 b (hZ b hb)
        replace hO : Own H_87 Z_88 (box b_51 [.int .i64 (a.States + b.States), v_39, v_44, .slice none 0 0] 25 :: own fInt 3 v_44 (b.Ends.map (· + a.States)) :: own fInt 3 v_39 (a.Starts ++ ([] : List Int)) :: own fInt 3 v_33 (b.Starts.map (· + a.States)) :: box b_21 [.int .i64 (0 : Int), .slice none 0 0, .slice none 0 0, .slice none 0 0] 25 :: box b_19 [.int .i64 b.States, v_7, v_9, v_11] 25 :: box b_17 [.int .i64 a.States, v_1, v_3, v_5] 25 :: fz fGEdge.rep v_11 b.Edges :: fz fInt.rep v_9 b.Ends :: fz fInt.rep v_7 b.Starts :: fz fGEdge.rep v_5 a.Edges :: fz fInt.rep v_3 a.Ends :: fz fInt.rep v_1 a.Starts :: L) := hO
        refine hl_nil ?_
        refine thenQ_n ?_
        refine hw_sub _ (ai_cons (t := 2) rfl (ai_cons (t := 3) rfl (ai_cons (t := 4) rfl (ai_cons (t := 6) rfl (ai_cons (t := 7) rfl (ai_cons (t := 39) rfl ai_nil)))))) ?_
        refine hw_cond rfl (fun hc_90 => ?_) (fun hc_90 => ?_)
        · replace h := ite_t h hc_90
          refine hw_region ?_
          refine hl_v (v_fieldA Try.underlying25 rfl Try.sizeOf22 rfl) rfl ?_
          refine hl_v (v_load1 Try.isAgg22 rfl (Blk.cell (hO.box 6 rfl) rfl)) rfl ?_
          refine hl_v (v_move rfl) rfl ?_
          obtain ⟨hs_91, h⟩ := h
          refine hl_h (h_call Try.call51 (evs_cons rfl (evs_cons rfl evs_nil)) (rBoth_spec (a0 := a.Starts) (a1 := (b.Starts.map (· + a.States))) hs_91 hO (Rd.of_fz (i := 12) rfl) (Rd.of_own (i := 3) rfl))) rfl ?_
          rintro vv H_93 ⟨Z_94, v_92, hz_95, hv, hO⟩
          obtain rfl := hv.symm
          replace hZ := fun b hb => hz_95 b (hZ b hb)
          replace hO : Own H_93 Z_94 (own fInt 3 v_92 (a.Starts ++ (b.Starts.map (· + a.States))) :: box b_51 [.int .i64 (a.States + b.States), v_39, v_44, .slice none 0 0] 25 :: own fInt 3 v_44 (b.Ends.map (· + a.States)) :: own fInt 3 v_39 (a.Starts ++ ([] : List Int)) :: own fInt 3 v_33 (b.Starts.map (· + a.States)) :: box b_21 [.int .i64 (0 : Int), .slice none 0 0, .slice none 0 0, .slice none 0 0] 25 :: box b_19 [.int .i64 b.States, v_7, v_9, v_11] 25 :: box b_17 [.int .i64 a.States, v_1, v_3, v_5] 25 :: fz fGEdge.rep v_11 b.Edges :: fz fInt.rep v_9 b.Ends :: fz fInt.rep v_7 b.Starts :: fz fGEdge.rep v_5 a.Edges :: fz fInt.rep v_3 a.Ends :: fz fInt.rep v_1 a.Starts :: L) := hO
          refine hl_v (v_fieldA Try.underlying25 rfl Try.sizeOf22 rfl) rfl ?_
          refine hl_s (o_store1 hO 1 rfl Try.sizeOf22 rfl rfl rfl (Sl.one (hO.osl 0 rfl))) ?_
          rintro _ H_96 hO
          replace hO : Own H_96 Z_94 (own fInt 3 v_92 (a.Starts ++ (b.Starts.map (· + a.States))) :: box b_51 [.int .i64 (a.States + b.States), v_92, v_44, .slice none 0 0] 25 :: own fInt 3 v_44 (b.Ends.map (· + a.States)) :: own fInt 3 v_39 (a.Starts ++ ([] : List Int)) :: own fInt 3 v_33 (b.Starts.map (· + a.States)) :: box b_21 [.int .i64 (0 : Int), .slice none 0 0, .slice none 0 0, .slice none 0 0] 25 :: box b_19 [.int .i64 b.States, v_7, v_9, v_11] 25 :: box b_17 [.int .i64 a.States, v_1, v_3, v_5] 25 :: fz fGEdge.rep v_11 b.Edges :: fz fInt.rep v_9 b.Ends :: fz fInt.rep v_7 b.Starts :: fz fGEdge.rep v_5 a.Edges :: fz fInt.rep v_3 a.Ends :: fz fInt.rep v_1 a.Starts :: L) := hO
          refine hl_nil ?_
          refine thenQ_n ?_
          replace hO : Own H_96 Z_94 (own fGEdge 69 (.slice none 0 0) [] :: own fInt 3 v_92 (a.Starts ++ (b.Starts.map (· + a.States))) :: box b_51 [.int .i64 (a.States + b.States), v_92, v_44, .slice none 0 0] 25 :: own fInt 3 v_44 (b.Ends.map (· + a.States)) :: own fInt 3 v_39 (a.Starts ++ ([] : List Int)) :: own fInt 3 v_33 (b.Starts.map (· + a.States)) :: box b_21 [.int .i64 (0 : Int), .slice none 0 0, .slice none 0 0, .slice none 0 0] 25 :: box b_19 [.int .i64 b.States, v_7, v_9, v_11] 25 :: box b_17 [.int .i64 a.States, v_1, v_3, v_5] 25 :: fz fGEdge.rep v_11 b.Edges :: fz fInt.rep v_9 b.Ends :: fz fInt.rep v_7 b.Starts :: fz fGEdge.rep v_5 a.Edges :: fz fInt.rep v_3 a.Ends :: fz fInt.rep v_1 a.Starts :: L) := hO.nil fGEdge 69
          refine ⟨_, (ai_cons (t := 2) rfl (ai_cons (t := 3) rfl (ai_cons (t := 4) rfl (ai_cons (t := 6) rfl (ai_cons (t := 7) rfl ai_nil))))), ⟨(⟨(a.States + b.States), (a.Starts ++ (b.Starts.map (· + a.States))), (b.Ends.map (· + a.States)), []⟩ : GNfa), v_92, v_44, .slice none 0 0, _, rfl, hZ, h, (Own.sel (Ls := [own fGEdge 69 (.slice none 0 0) [], own fInt 3 v_92 (a.Starts ++ (b.Starts.map (· + a.States))), box b_51 [.int .i64 (a.States + b.States), v_92, v_44, .slice none 0 0] 25, own fInt 3 v_44 (b.Ends.map (· + a.States)), own fInt 3 v_39 (a.Starts ++ ([] : List Int)), own fInt 3 v_33 (b.Starts.map (· + a.States)), box b_21 [.int .i64 (0 : Int), .slice none 0 0, .slice none 0 0, .slice none 0 0] 25, box b_19 [.int .i64 b.States, v_7, v_9, v_11] 25, box b_17 [.int .i64 a.States, v_1, v_3, v_5] 25, fz fGEdge.rep v_11 b.Edges, fz fInt.rep v_9 b.Ends, fz fInt.rep v_7 b.Starts, fz fGEdge.rep v_5 a.Edges, fz fInt.rep v_3 a.Ends, fz fInt.rep v_1 a.Starts]) (L := L) [0, 1, 2, 3, 5, 6, 7, 8, 9, 10, 11, 12, 13, 14] rfl hO)⟩⟩
        · replace h := ite_f h hc_90
          refine hw_skip ?_
          refine thenQ_n ?_
          replace hO : Own H_87 Z_88 (own fGEdge 69 (.slice none 0 0) [] :: box b_51 [.int .i64 (a.States + b.States), v_39, v_44, .slice none 0 0] 25 :: own fInt 3 v_44 (b.Ends.map (· + a.States)) :: own fInt 3 v_39 (a.Starts ++ ([] : List Int)) :: own fInt 3 v_33 (b.Starts.map (· + a.States)) :: box b_21 [.int .i64 (0 : Int), .slice none 0 0, .slice none 0 0, .slice none 0 0] 25 :: box b_19 [.int .i64 b.States, v_7, v_9, v_11] 25 :: box b_17 [.int .i64 a.States, v_1, v_3, v_5] 25 :: fz fGEdge.rep v_11 b.Edges :: fz fInt.rep v_9 b.Ends :: fz fInt.rep v_7 b.Starts :: fz fGEdge.rep v_5 a.Edges :: fz fInt.rep v_3 a.Ends :: fz fInt.rep v_1 a.Starts :: L) := hO.nil fGEdge 69
          refine ⟨_, (ai_cons (t := 2) rfl (ai_cons (t := 3) rfl (ai_cons (t := 4) rfl (ai_cons (t := 6) rfl (ai_cons (t := 7) rfl ai_nil))))), ⟨(⟨(a.States + b.States), (a.Starts ++ ([] : List Int)), (b.Ends.map (· + a.States)), []⟩ : GNfa), v_39, v_44, .slice none 0 0, _, rfl, hZ, h, (Own.sel (Ls := [own fGEdge 69 (.slice none 0 0) [], box b_51 [.int .i64 (a.States + b.States), v_39, v_44, .slice none 0 0] 25, own fInt 3 v_44 (b.Ends.map (· + a.States)), own fInt 3 v_39 (a.Starts ++ ([] : List Int)), own fInt 3 v_33 (b.Starts.map (· + a.States)), box b_21 [.int .i64 (0 : Int), .slice none 0 0, .slice none 0 0, .slice none 0 0] 25, box b_19 [.int .i64 b.States, v_7, v_9, v_11] 25, box b_17 [.int .i64 a.States, v_1, v_3, v_5] 25, fz fGEdge.rep v_11 b.Edges, fz fInt.rep v_9 b.Ends, fz fInt.rep v_7 b.Starts, fz fGEdge.rep v_5 a.Edges, fz fInt.rep v_3 a.Ends, fz fInt.rep v_1 a.Starts]) (L := L) [0, 3, 1, 2, 4, 5, 6, 7, 8, 9, 10, 11, 12, 13] rfl hO)⟩⟩
      · rintro _ H_84 ⟨n, v_80, v_81, v_82, Z_85, rfl, hZ, h, hO⟩
        replace h := hk_86 n h
        obtain ⟨K_100, h, hk_103⟩ := h
        refine hw_jn (fun g' H' => ∃ (n2 : GNfa) (v_97 : Value) (v_98 : Value) (v_99 : Value) (Z' : Nat → Prop), g' = [(2, ptr b_17 0), (3, ptr b_19 0), (4, ptr b_21 0), (6, v_33), (7, ptr b_51 0)] ∧ (∀ b, Z b → Z' b) ∧ K_100 n2 ∧ Own H' Z' (own fInt 3 v_98 n2.Ends :: own fGEdge 69 v_99 n2.Edges :: own fInt 3 v_97 n2.Starts :: box b_51 [.int .i64 n2.States, v_97, v_98, v_99] 25 :: own fInt 3 v_33 (b.Starts.map (· + a.States)) :: box b_21 [.int .i64 (0 : Int), .slice none 0 0, .slice none 0 0, .slice none 0 0] 25 :: box b_19 [.int .i64 b.States, v_7, v_9, v_11] 25 :: box b_17 [.int .i64 a.States, v_1, v_3, v_5] 25 :: fz fGEdge.rep v_11 b.Edges :: fz fInt.rep v_9 b.Ends :: fz fInt.rep v_7 b.Starts :: fz fGEdge.rep v_5 a.Edges :: fz fInt.rep v_3 a.Ends :: fz fInt.rep v_1 a.Starts :: L)) ?_ ?_
        · skip
          refine hw_seq ?_
          refine hw_region ?_
          refine hl_v (v_loadA Try.isAgg25 Try.sizeOf25 rfl (Blk.at0 (hO.box 6 rfl)) rfl) rfl ?_
          refine hl_h (h_call Try.call52 (evs_cons rfl evs_nil) (rEmpty_spec (a0 := b) hO (Fz.of (i := 10) rfl) (Fz.of (i := 9) rfl) (Fz.of (i := 8) rfl))) rfl ?_
          rintro vv H_104 ⟨Z_105, hz_106, hv, hO⟩
          obtain rfl := hv.symm
          replace hZ := fun b hb => hz_106 b (hZ b hb)
          replace hO : Own H_104 Z_105 (own fGEdge 69 v_82 n.Edges :: own fInt 3 v_80 n.Starts :: box b_51 [.int .i64 n.States, v_80, v_81, v_82] 25 :: own fInt 3 v_81 n.Ends :: own fInt 3 v_33 (b.Starts.map (· + a.States)) :: box b_21 [.int .i64 (0 : Int), .slice none 0 0, .slice none 0 0, .slice none 0 0] 25 :: box b_19 [.int .i64 b.States, v_7, v_9, v_11] 25 :: box b_17 [.int .i64 a.States, v_1, v_3, v_5] 25 :: fz fGEdge.rep v_11 b.Edges :: fz fInt.rep v_9 b.Ends :: fz fInt.rep v_7 b.Starts :: fz fGEdge.rep v_5 a.Edges :: fz fInt.rep v_3 a.Ends :: fz fInt.rep v_1 a.Starts :: L) := hO
          refine hl_nil ?_
          refine thenQ_n ?_
          refine hw_sub _ (ai_cons (t := 2) rfl (ai_cons (t := 3) rfl (ai_cons (t := 4) rfl (ai_cons (t := 6) rfl (ai_cons (t := 7) rfl (ai_cons (t := 46) rfl ai_nil)))))) ?_
          refine hw_cond rfl (fun hc_107 => ?_) (fun hc_107 => ?_)
          · replace h := ite_t h hc_107
            refine hw_region ?_
            refine hl_v (v_fieldA Try.underlying25 rfl Try.sizeOf22 rfl) rfl ?_
            refine hl_v (v_load1 Try.isAgg22 rfl (Blk.cell (hO.box 7 rfl) rfl)) rfl ?_
            refine hl_v (v_fieldA Try.underlying25 rfl Try.sizeOf22 rfl) rfl ?_
            refine hl_v (v_load1 Try.isAgg22 rfl (Blk.cell (hO.box 2 rfl) rfl)) rfl ?_
            obtain ⟨hs_108, h⟩ := h
            refine hl_h (h_call Try.call51 (evs_cons rfl (evs_cons rfl evs_nil)) (rBoth_spec (a0 := a.Ends) (a1 := n.Ends) hs_108 hO (Rd.of_fz (i := 12) rfl) (Rd.of_own (i := 3) rfl))) rfl ?_
            rintro vv H_110 ⟨Z_111, v_109, hz_112, hv, hO⟩
            obtain rfl := hv.symm
            replace hZ := fun b hb => hz_112 b (hZ b hb)
            replace hO : Own H_110 Z_111 (own fInt 3 v_109 (a.Ends ++ n.Ends) :: own fGEdge 69 v_82 n.Edges :: own fInt 3 v_80 n.Starts :: box b_51 [.int .i64 n.States, v_80, v_81, v_82] 25 :: own fInt 3 v_81 n.Ends :: own fInt 3 v_33 (b.Starts.map (· + a.States)) :: box b_21 [.int .i64 (0 : Int), .slice none 0 0, .slice none 0 0, .slice none 0 0] 25 :: box b_19 [.int .i64 b.States, v_7, v_9, v_11] 25 :: box b_17 [.int .i64 a.States, v_1, v_3, v_5] 25 :: fz fGEdge.rep v_11 b.Edges :: fz fInt.rep v_9 b.Ends :: fz fInt.rep v_7 b.Starts :: fz fGEdge.rep v_5 a.Edges :: fz fInt.rep v_3 a.Ends :: fz fInt.rep v_1 a.Starts :: L) := hO
            refine hl_v (v_fieldA Try.underlying25 rfl Try.sizeOf22 rfl) rfl ?_
            refine hl_s (o_store1 hO 3 rfl Try.sizeOf22 rfl rfl rfl (Sl.one (hO.osl 0 rfl))) ?_
            rintro _ H_113 hO
            replace hO : Own H_113 Z_111 (own fInt 3 v_109 (a.Ends ++ n.Ends) :: own fGEdge 69 v_82 n.Edges :: own fInt 3 v_80 n.Starts :: box b_51 [.int .i64 n.States, v_80, v_109, v_82] 25 :: own fInt 3 v_81 n.Ends :: own fInt 3 v_33 (b.Starts.map (· + a.States)) :: box b_21 [.int .i64 (0 : Int), .slice none 0 0, .slice none 0 0, .slice none 0 0] 25 :: box b_19 [.int .i64 b.States, v_7, v_9, v_11] 25 :: box b_17 [.int .i64 a.States, v_1, v_3, v_5] 25 :: fz fGEdge.rep v_11 b.Edges :: fz fInt.rep v_9 b.Ends :: fz fInt.rep v_7 b.Starts :: fz fGEdge.rep v_5 a.Edges :: fz fInt.rep v_3 a.Ends :: fz fInt.rep v_1 a.Starts :: L) := hO
            refine hl_nil ?_
            refine thenQ_n ?_
            refine ⟨_, (ai_cons (t := 2) rfl (ai_cons (t := 3) rfl (ai_cons (t := 4) rfl (ai_cons (t := 6) rfl (ai_cons (t := 7) rfl ai_nil))))), ⟨(⟨n.States, n.Starts, (a.Ends ++ n.Ends), n.Edges⟩ : GNfa), v_80, v_109, v_82, _, rfl, hZ, h, (Own.sel (Ls := [own fInt 3 v_109 (a.Ends ++ n.Ends), own fGEdge 69 v_82 n.Edges, own fInt 3 v_80 n.Starts, box b_51 [.int .i64 n.States, v_80, v_109, v_82] 25, own fInt 3 v_81 n.Ends, own fInt 3 v_33 (b.Starts.map (· + a.States)), box b_21 [.int .i64 (0 : Int), .slice none 0 0, .slice none 0 0, .slice none 0 0] 25, box b_19 [.int .i64 b.States, v_7, v_9, v_11] 25, box b_17 [.int .i64 a.States, v_1, v_3, v_5] 25, fz fGEdge.rep v_11 b.Edges, fz fInt.rep v_9 b.Ends, fz fInt.rep v_7 b.Starts, fz fGEdge.rep v_5 a.Edges, fz fInt.rep v_3 a.Ends, fz fInt.rep v_1 a.Starts]) (L := L) [0, 1, 2, 3, 5, 6, 7, 8, 9, 10, 11, 12, 13, 14] rfl hO)⟩⟩
          · replace h := ite_f h hc_107
            refine hw_skip ?_
            refine thenQ_n ?_
            refine ⟨_, (ai_cons (t := 2) rfl (ai_cons (t := 3) rfl (ai_cons (t := 4) rfl (ai_cons (t := 6) rfl (ai_cons (t := 7) rfl ai_nil))))), ⟨n, v_80, v_81, v_82, _, rfl, hZ, h, (Own.sel (Ls := [own fGEdge 69 v_82 n.Edges, own fInt 3 v_80 n.Starts, box b_51 [.int .i64 n.States, v_80, v_81, v_82] 25, own fInt 3 v_81 n.Ends, own fInt 3 v_33 (b.Starts.map (· + a.States)), box b_21 [.int .i64 (0 : Int), .slice none 0 0, .slice none 0 0, .slice none 0 0] 25, box b_19 [.int .i64 b.States, v_7, v_9, v_11] 25, box b_17 [.int .i64 a.States, v_1, v_3, v_5] 25, fz fGEdge.rep v_11 b.Edges, fz fInt.rep v_9 b.Ends, fz fInt.rep v_7 b.Starts, fz fGEdge.rep v_5 a.Edges, fz fInt.rep v_3 a.Ends, fz fInt.rep v_1 a.Starts]) (L := L) [3, 0, 1, 2, 4, 5, 6, 7, 8, 9, 10, 11, 12, 13] rfl hO)⟩⟩
        · rintro _ H_101 ⟨n2, v_97, v_98, v_99, Z_102, rfl, hZ, h, hO⟩
          replace h := hk_103 n2 h
          refine hw_seq ?_
          refine hw_region ?_
          refine hl_v (v_fieldA Try.underlying25 rfl Try.sizeOf23 rfl) rfl ?_
          refine hl_v (v_load1 Try.isAgg23 rfl (Blk.cell (hO.box 3 rfl) rfl)) rfl ?_
          refine hl_v (v_fieldA Try.underlying25 rfl Try.sizeOf23 rfl) rfl ?_
          refine hl_v (v_load1 Try.isAgg23 rfl (Blk.cell (hO.box 7 rfl) rfl)) rfl ?_
          obtain ⟨hs_116, h⟩ := h
          refine hl_h (o_append (l2 := a.Edges) hO 1 rfl rfl Try.underlying23 Try.type69 rfl rfl rfl rfl rfl rfl rfl (hO.fsl 11 rfl) hs_116 (le63 hs_116 rfl)) rfl ?_
          rintro v_115 H_114 hO
          replace hO : Own H_114 Z_102 (own fInt 3 v_98 n2.Ends :: own fGEdge 69 v_115 (n2.Edges ++ a.Edges) :: own fInt 3 v_97 n2.Starts :: box b_51 [.int .i64 n2.States, v_97, v_98, v_99] 25 :: own fInt 3 v_33 (b.Starts.map (· + a.States)) :: box b_21 [.int .i64 (0 : Int), .slice none 0 0, .slice none 0 0, .slice none 0 0] 25 :: box b_19 [.int .i64 b.States, v_7, v_9, v_11] 25 :: box b_17 [.int .i64 a.States, v_1, v_3, v_5] 25 :: fz fGEdge.rep v_11 b.Edges :: fz fInt.rep v_9 b.Ends :: fz fInt.rep v_7 b.Starts :: fz fGEdge.rep v_5 a.Edges :: fz fInt.rep v_3 a.Ends :: fz fInt.rep v_1 a.Starts :: L) := hO
          refine hl_v (v_fieldA Try.underlying25 rfl Try.sizeOf23 rfl) rfl ?_
          refine hl_s (o_store1 hO 3 rfl Try.sizeOf23 rfl rfl rfl (Sl.one (hO.osl 1 rfl))) ?_
          rintro _ H_117 hO
          replace hO : Own H_117 Z_102 (own fInt 3 v_98 n2.Ends :: own fGEdge 69 v_115 (n2.Edges ++ a.Edges) :: own fInt 3 v_97 n2.Starts :: box b_51 [.int .i64 n2.States, v_97, v_98, v_115] 25 :: own fInt 3 v_33 (b.Starts.map (· + a.States)) :: box b_21 [.int .i64 (0 : Int), .slice none 0 0, .slice none 0 0, .slice none 0 0] 25 :: box b_19 [.int .i64 b.States, v_7, v_9, v_11] 25 :: box b_17 [.int .i64 a.States, v_1, v_3, v_5] 25 :: fz fGEdge.rep v_11 b.Edges :: fz fInt.rep v_9 b.Ends :: fz fInt.rep v_7 b.Starts :: fz fGEdge.rep v_5 a.Edges :: fz fInt.rep v_3 a.Ends :: fz fInt.rep v_1 a.Starts :: L) := hO
          refine hl_nil ?_
          refine thenQ_n ?_
          refine hw_sub _ (ai_cons (t := 2) rfl (ai_cons (t := 3) rfl (ai_cons (t := 4) rfl (ai_cons (t := 6) rfl (ai_cons (t := 7) rfl ai_nil))))) ?_
          refine hw_seq ?_
          refine hw_held2 8 (fun H' => ∃ Z' : Nat → Prop, Own H' Z' (own fInt 3 v_98 n2.Ends :: own fInt 3 v_97 n2.Starts :: box b_51 [.int .i64 n2.States, v_97, v_98, v_115] 25 :: own fInt 3 v_33 (b.Starts.map (· + a.States)) :: box b_21 [.int .i64 (0 : Int), .slice none 0 0, .slice none 0 0, .slice none 0 0] 25 :: box b_19 [.int .i64 b.States, v_7, v_9, v_11] 25 :: box b_17 [.int .i64 a.States, v_1, v_3, v_5] 25 :: fz fGEdge.rep v_11 b.Edges :: fz fInt.rep v_9 b.Ends :: fz fInt.rep v_7 b.Starts :: fz fGEdge.rep v_5 a.Edges :: fz fInt.rep v_3 a.Ends :: fz fInt.rep v_1 a.Starts :: L)) (.step 0 false (.step 1 false (.step 2 false (.step 3 false (.step 4 false (.step 5 false (.step 6 true (.step 7 true .done)))))))) (.step 8 true (.step 9 true .done)) Try.mixed (by kernel_rfl) ⟨_, (Own.sel (Ls := [own fInt 3 v_98 n2.Ends, own fGEdge 69 v_115 (n2.Edges ++ a.Edges), own fInt 3 v_97 n2.Starts, box b_51 [.int .i64 n2.States, v_97, v_98, v_115] 25, own fInt 3 v_33 (b.Starts.map (· + a.States)), box b_21 [.int .i64 (0 : Int), .slice none 0 0, .slice none 0 0, .slice none 0 0] 25, box b_19 [.int .i64 b.States, v_7, v_9, v_11] 25, box b_17 [.int .i64 a.States, v_1, v_3, v_5] 25, fz fGEdge.rep v_11 b.Edges, fz fInt.rep v_9 b.Ends, fz fInt.rep v_7 b.Starts, fz fGEdge.rep v_5 a.Edges, fz fInt.rep v_3 a.Ends, fz fInt.rep v_1 a.Starts]) (L := L) [0, 2, 3, 4, 5, 6, 7, 8, 9, 10, 11, 12, 13] rfl hO)⟩ ?_
          refine hd_v rfl (fun _ _ => (v_fieldA Try.underlying25 rfl Try.sizeOf23 rfl)) rfl ?_
          refine hd_v rfl (fun H' hS => by obtain ⟨Z', hO⟩ := hS; exact (v_load1 Try.isAgg23 rfl (Blk.cell (hO.box 2 rfl) rfl))) rfl ?_
          refine hd_v rfl (fun _ _ => (v_fieldA Try.underlying25 rfl Try.sizeOf23 rfl)) rfl ?_
          refine hd_v rfl (fun H' hS => by obtain ⟨Z', hO⟩ := hS; exact (v_load1 Try.isAgg23 rfl (Blk.cell (hO.box 5 rfl) rfl))) rfl ?_
          refine hd_v rfl (fun _ _ => (v_fieldA Try.underlying25 rfl Try.sizeOf3 rfl)) rfl ?_
          refine hd_v rfl (fun H' hS => by obtain ⟨Z', hO⟩ := hS; exact (v_load1 Try.isAgg3 rfl (Blk.cell (hO.box 6 rfl) rfl))) rfl ?_
          obtain ⟨hs_118, h⟩ := h
          refine hd_h (h_call Try.call53 (evs_cons rfl (evs_cons rfl evs_nil)) (rShifted_spec (a0 := b.Edges) (a1 := a.States) hs_118 hO (Rd.of_fz (i := 8) rfl))) (by rintro vv H_120 ⟨Z_121, v_119, hz_122, hv, hO⟩; obtain rfl := hv.symm; replace hZ := fun b hb => hz_122 b (hZ b hb); exact ⟨_, (Own.sel (Ls := [own fGEdge 69 v_119 (b.Edges.map (eBy a.States)), own fInt 3 v_98 n2.Ends, own fGEdge 69 v_115 (n2.Edges ++ a.Edges), own fInt 3 v_97 n2.Starts, box b_51 [.int .i64 n2.States, v_97, v_98, v_115] 25, own fInt 3 v_33 (b.Starts.map (· + a.States)), box b_21 [.int .i64 (0 : Int), .slice none 0 0, .slice none 0 0, .slice none 0 0] 25, box b_19 [.int .i64 b.States, v_7, v_9, v_11] 25, box b_17 [.int .i64 a.States, v_1, v_3, v_5] 25, fz fGEdge.rep v_11 b.Edges, fz fInt.rep v_9 b.Ends, fz fInt.rep v_7 b.Starts, fz fGEdge.rep v_5 a.Edges, fz fInt.rep v_3 a.Ends, fz fInt.rep v_1 a.Starts]) (L := L) [1, 3, 4, 5, 6, 7, 8, 9, 10, 11, 12, 13, 14] rfl hO)⟩) rfl ?_
          rintro vv H_120 ⟨Z_121, v_119, hz_122, hv, hO⟩
          obtain rfl := hv.symm
          replace hZ := fun b hb => hz_122 b (hZ b hb)
          replace hO : Own H_120 Z_121 (own fGEdge 69 v_119 (b.Edges.map (eBy a.States)) :: own fInt 3 v_98 n2.Ends :: own fGEdge 69 v_115 (n2.Edges ++ a.Edges) :: own fInt 3 v_97 n2.Starts :: box b_51 [.int .i64 n2.States, v_97, v_98, v_115] 25 :: own fInt 3 v_33 (b.Starts.map (· + a.States)) :: box b_21 [.int .i64 (0 : Int), .slice none 0 0, .slice none 0 0, .slice none 0 0] 25 :: box b_19 [.int .i64 b.States, v_7, v_9, v_11] 25 :: box b_17 [.int .i64 a.States, v_1, v_3, v_5] 25 :: fz fGEdge.rep v_11 b.Edges :: fz fInt.rep v_9 b.Ends :: fz fInt.rep v_7 b.Starts :: fz fGEdge.rep v_5 a.Edges :: fz fInt.rep v_3 a.Ends :: fz fInt.rep v_1 a.Starts :: L) := hO
          obtain ⟨hs_125, h⟩ := h
          refine hd_h (o_append (l2 := (b.Edges.map (eBy a.States))) hO 2 rfl rfl Try.underlying23 Try.type69 rfl rfl rfl rfl rfl rfl rfl (hO.osl 0 rfl) hs_125 (le63 hs_125 rfl)) (by rintro v_124 H_123 hO; exact ⟨_, (Own.sel (Ls := [own fGEdge 69 v_119 (b.Edges.map (eBy a.States)), own fInt 3 v_98 n2.Ends, own fGEdge 69 v_124 ((n2.Edges ++ a.Edges) ++ (b.Edges.map (eBy a.States))), own fInt 3 v_97 n2.Starts, box b_51 [.int .i64 n2.States, v_97, v_98, v_115] 25, own fInt 3 v_33 (b.Starts.map (· + a.States)), box b_21 [.int .i64 (0 : Int), .slice none 0 0, .slice none 0 0, .slice none 0 0] 25, box b_19 [.int .i64 b.States, v_7, v_9, v_11] 25, box b_17 [.int .i64 a.States, v_1, v_3, v_5] 25, fz fGEdge.rep v_11 b.Edges, fz fInt.rep v_9 b.Ends, fz fInt.rep v_7 b.Starts, fz fGEdge.rep v_5 a.Edges, fz fInt.rep v_3 a.Ends, fz fInt.rep v_1 a.Starts]) (L := L) [1, 3, 4, 5, 6, 7, 8, 9, 10, 11, 12, 13, 14] rfl hO)⟩) rfl ?_
          rintro v_124 H_123 hO
          replace hO : Own H_123 Z_121 (own fGEdge 69 v_119 (b.Edges.map (eBy a.States)) :: own fInt 3 v_98 n2.Ends :: own fGEdge 69 v_124 ((n2.Edges ++ a.Edges) ++ (b.Edges.map (eBy a.States))) :: own fInt 3 v_97 n2.Starts :: box b_51 [.int .i64 n2.States, v_97, v_98, v_115] 25 :: own fInt 3 v_33 (b.Starts.map (· + a.States)) :: box b_21 [.int .i64 (0 : Int), .slice none 0 0, .slice none 0 0, .slice none 0 0] 25 :: box b_19 [.int .i64 b.States, v_7, v_9, v_11] 25 :: box b_17 [.int .i64 a.States, v_1, v_3, v_5] 25 :: fz fGEdge.rep v_11 b.Edges :: fz fInt.rep v_9 b.Ends :: fz fInt.rep v_7 b.Starts :: fz fGEdge.rep v_5 a.Edges :: fz fInt.rep v_3 a.Ends :: fz fInt.rep v_1 a.Starts :: L) := hO
          refine hd_nil ?_
          refine hd_h (OpV.toH (v_fieldA Try.underlying25 rfl Try.sizeOf23 rfl)) (fun _ _ hR => trivial) rfl ?_
          rintro vv HH ⟨hvv, hHH⟩
          obtain rfl := hvv.symm
          obtain rfl := hHH.symm
          refine hd_s (o_store1 hO 4 rfl Try.sizeOf23 rfl rfl rfl (Sl.one (hO.osl 2 rfl))) (fun _ _ _ => trivial) ?_
          rintro _ H_126 hO
          replace hO : Own H_126 Z_121 (own fGEdge 69 v_119 (b.Edges.map (eBy a.States)) :: own fInt 3 v_98 n2.Ends :: own fGEdge 69 v_124 ((n2.Edges ++ a.Edges) ++ (b.Edges.map (eBy a.States))) :: own fInt 3 v_97 n2.Starts :: box b_51 [.int .i64 n2.States, v_97, v_98, v_124] 25 :: own fInt 3 v_33 (b.Starts.map (· + a.States)) :: box b_21 [.int .i64 (0 : Int), .slice none 0 0, .slice none 0 0, .slice none 0 0] 25 :: box b_19 [.int .i64 b.States, v_7, v_9, v_11] 25 :: box b_17 [.int .i64 a.States, v_1, v_3, v_5] 25 :: fz fGEdge.rep v_11 b.Edges :: fz fInt.rep v_9 b.Ends :: fz fInt.rep v_7 b.Starts :: fz fGEdge.rep v_5 a.Edges :: fz fInt.rep v_3 a.Ends :: fz fInt.rep v_1 a.Starts :: L) := hO
          refine hd_nil ?_
          refine thenQ_n ?_
          refine hw_sub _ (ai_cons (t := 2) rfl (ai_cons (t := 4) rfl (ai_cons (t := 6) rfl (ai_cons (t := 7) rfl ai_nil)))) ?_
          refine hw_seq ?_
          refine hw_seq ?_
          refine hw_region ?_
          refine hl_v (v_assign rfl) rfl ?_
          refine hl_nil ?_
          refine thenQ_n ?_
          refine hw_sub _ (ai_cons (t := 2) rfl (ai_cons (t := 4) rfl (ai_cons (t := 6) rfl (ai_cons (t := 7) rfl (ai_cons (t := 8) rfl ai_nil))))) ?_
          refine hw_block ?_
          obtain ⟨I_130, μ_131, h, hI_132⟩ := h
          refine hw_lp (fun n' g' H' => ∃ (n3 : GNfa) (i : Int) (v_127 : Value) (v_128 : Value) (v_129 : Value) (Z' : Nat → Prop), n' = μ_131 n3 i ∧ g' = [(2, ptr b_17 0), (4, ptr b_21 0), (6, v_33), (7, ptr b_51 0), (8, .int .i64 i)] ∧ (∀ b, Z b → Z' b) ∧ I_130 n3 i ∧ Own H' Z' (own fInt 3 v_128 n3.Ends :: own fGEdge 69 v_129 n3.Edges :: own fInt 3 v_127 n3.Starts :: box b_51 [.int .i64 n3.States, v_127, v_128, v_129] 25 :: own fInt 3 v_33 (b.Starts.map (· + a.States)) :: box b_21 [.int .i64 (0 : Int), .slice none 0 0, .slice none 0 0, .slice none 0 0] 25 :: box b_17 [.int .i64 a.States, v_1, v_3, v_5] 25 :: fz fGEdge.rep v_5 a.Edges :: fz fInt.rep v_3 a.Ends :: fz fInt.rep v_1 a.Starts :: L)) _ _ (ai_cons (t := 2) rfl (ai_cons (t := 4) rfl (ai_cons (t := 6) rfl (ai_cons (t := 7) rfl (ai_cons (t := 8) rfl ai_nil))))) ⟨(⟨n2.States, n2.Starts, n2.Ends, ((n2.Edges ++ a.Edges) ++ (b.Edges.map (eBy a.States)))⟩ : GNfa), 0, v_97, v_98, v_124, _, rfl, rfl, hZ, h, (Own.sel (Ls := [own fGEdge 69 v_119 (b.Edges.map (eBy a.States)), own fInt 3 v_98 n2.Ends, own fGEdge 69 v_124 ((n2.Edges ++ a.Edges) ++ (b.Edges.map (eBy a.States))), own fInt 3 v_97 n2.Starts, box b_51 [.int .i64 n2.States, v_97, v_98, v_124] 25, own fInt 3 v_33 (b.Starts.map (· + a.States)), box b_21 [.int .i64 (0 : Int), .slice none 0 0, .slice none 0 0, .slice none 0 0] 25, box b_19 [.int .i64 b.States, v_7, v_9, v_11] 25, box b_17 [.int .i64 a.States, v_1, v_3, v_5] 25, fz fGEdge.rep v_11 b.Edges, fz fInt.rep v_9 b.Ends, fz fInt.rep v_7 b.Starts, fz fGEdge.rep v_5 a.Edges, fz fInt.rep v_3 a.Ends, fz fInt.rep v_1 a.Starts]) (L := L) [1, 2, 3, 4, 5, 6, 8, 12, 13, 14] rfl hO)⟩ ?_
          rintro _ _ H_133 ⟨n3, i, v_127, v_128, v_129, Z_134, rfl, rfl, hZ, h, hO⟩
          replace h := hI_132 n3 i h
          refine hw_seq ?_
          refine hw_seq ?_
          refine hw_region ?_
          refine hl_v (v_move rfl) rfl ?_
          refine hl_v (v_fieldA Try.underlying25 rfl Try.sizeOf23 rfl) rfl ?_
          refine hl_v (v_load1 Try.isAgg23 rfl (Blk.cell (hO.box 6 rfl) rfl)) rfl ?_
          have hln_136 := Sl.cap (hO.fsl 7 rfl)
          refine hl_v (v_lenL rfl Try.underlying23 rfl (hO.fsl 7 rfl)) rfl ?_
          refine hl_v (v_lss rfl rfl) rfl ?_
          refine hl_v (v_move rfl) rfl ?_
          refine hl_g rfl rfl (fun hg => (v_fieldA Try.underlying25 rfl Try.sizeOf23 rfl)) rfl ?_
          refine hl_g rfl rfl (fun hg => (v_load1 Try.isAgg23 (gv_ok rfl hg) (Blk.cell (hO.box 3 rfl) rfl))) rfl ?_
          have hln_137 := Sl.cap (hO.osl 1 rfl)
          refine hl_g rfl rfl (fun hg => (v_lenL rfl Try.underlying23 (gv_ok rfl hg) (hO.osl 1 rfl))) rfl ?_
          refine hl_g rfl rfl (fun hg => (v_leq (gv_ok rfl hg) rfl)) rfl ?_
          refine hl_v (v_and rfl rfl) rfl ?_
          refine hl_nil ?_
          refine thenQ_n ?_
          refine hw_sub _ (ai_cons (t := 2) rfl (ai_cons (t := 4) rfl (ai_cons (t := 6) rfl (ai_cons (t := 7) rfl (ai_cons (t := 8) rfl (ai_cons (t := 78) rfl ai_nil)))))) ?_
          refine hw_cond rfl (fun hc_138 => ?_) (fun hc_138 => ?_)
          · replace h := ite_t h hc_138
            refine hw_skip ?_
            refine thenQ_n ?_
            refine hw_seq ?_
            refine hw_block ?_
            refine hw_seq ?_
            refine hw_quiet Try.mixed (by kernel_rfl) ?_
            refine hq_v (v_fieldA Try.underlying25 rfl Try.sizeOf23 rfl) rfl ?_
            refine hq_v (v_load1 Try.isAgg23 rfl (Blk.cell (hO.box 6 rfl) rfl)) rfl ?_
            refine hq_v (v_move rfl) rfl ?_
            obtain ⟨hs_139, h⟩ := h
            refine hq_v (v_ixL Try.underlying23 Try.sizeOf69 rfl rfl (hO.fsl 7 rfl) hs_139) rfl ?_
            refine hq_v (v_fieldA Try.underlying69 rfl Try.sizeOf3 rfl) rfl ?_
            refine hq_v (v_loadSub (j := 1) Try.isAgg3 rfl (hO.fsl 7 rfl) rfl hs_139 rfl) rfl ?_
            refine hq_v (v_fieldA Try.underlying25 rfl Try.sizeOf22 rfl) rfl ?_
            refine hq_v (v_load1 Try.isAgg22 rfl (Blk.cell (hO.box 6 rfl) rfl)) rfl ?_
            refine hq_v (v_call Try.call41 (evs_cons rfl (evs_cons rfl evs_nil)) (rIn_spec (a0 := (a.Edges.getD i.toNat default).To) (a1 := a.Ends) hO (Rd.of_fz (i := 8) rfl))) rfl ?_
            refine hq_nil ?_
            refine thenQ_n ?_
            refine hw_sub _ (ai_cons (t := 2) rfl (ai_cons (t := 4) rfl (ai_cons (t := 6) rfl (ai_cons (t := 7) rfl (ai_cons (t := 8) rfl (ai_cons (t := 89) rfl ai_nil)))))) ?_
            refine hw_cond rfl (fun hc_140 => ?_) (fun hc_140 => ?_)
            · replace h := ite_t h hc_140
              refine hw_seq ?_
              refine hw_region ?_
              refine hl_v (v_assign rfl) rfl ?_
              refine hl_nil ?_
              refine thenQ_n ?_
              refine hw_sub _ (ai_cons (t := 2) rfl (ai_cons (t := 4) rfl (ai_cons (t := 6) rfl (ai_cons (t := 7) rfl (ai_cons (t := 8) rfl (ai_cons (t := 9) rfl ai_nil)))))) ?_
              refine hw_block ?_
              obtain ⟨I_144, h, hI_146⟩ := h
              refine hw_lp (fun n' g' H' => ∃ (n4 : GNfa) (k : Nat) (v_141 : Value) (v_142 : Value) (v_143 : Value) (Z' : Nat → Prop), n' = (b.Starts.map (· + a.States)).length - k ∧ g' = [(2, ptr b_17 0), (4, ptr b_21 0), (6, v_33), (7, ptr b_51 0), (8, .int .i64 i), (9, .int .i64 (k : Int))] ∧ (∀ b, Z b → Z' b) ∧ I_144 n4 k ∧ k ≤ (b.Starts.map (· + a.States)).length ∧ Own H' Z' (own fInt 3 v_142 n4.Ends :: own fGEdge 69 v_143 n4.Edges :: own fInt 3 v_141 n4.Starts :: box b_51 [.int .i64 n4.States, v_141, v_142, v_143] 25 :: own fInt 3 v_33 (b.Starts.map (· + a.States)) :: box b_21 [.int .i64 (0 : Int), .slice none 0 0, .slice none 0 0, .slice none 0 0] 25 :: box b_17 [.int .i64 a.States, v_1, v_3, v_5] 25 :: fz fGEdge.rep v_5 a.Edges :: fz fInt.rep v_3 a.Ends :: fz fInt.rep v_1 a.Starts :: L)) _ _ (ai_cons (t := 2) rfl (ai_cons (t := 4) rfl (ai_cons (t := 6) rfl (ai_cons (t := 7) rfl (ai_cons (t := 8) rfl (ai_cons (t := 9) rfl ai_nil)))))) ⟨n3, 0, v_127, v_128, v_129, _, rfl, rfl, hZ, h, by omega, hO⟩ ?_
              rintro _ _ H_147 ⟨n4, k, v_141, v_142, v_143, Z_148, rfl, rfl, hZ, h, hb_149, hO⟩
              replace h := hI_146 n4 k h hb_149
              refine hw_seq ?_
              refine hw_seq ?_
              refine hw_region ?_
              refine hl_v (v_move rfl) rfl ?_
              refine hl_v (v_move rfl) rfl ?_
              have hln_150 := Sl.cap (hO.osl 4 rfl)
              refine hl_v (v_lenL rfl Try.underlying22 rfl (hO.osl 4 rfl)) rfl ?_
              refine hl_v (v_lss rfl rfl) rfl ?_
              refine hl_nil ?_
              refine thenQ_n ?_
              refine hw_sub _ (ai_cons (t := 2) rfl (ai_cons (t := 4) rfl (ai_cons (t := 6) rfl (ai_cons (t := 7) rfl (ai_cons (t := 8) rfl (ai_cons (t := 9) rfl (ai_cons (t := 93) rfl ai_nil))))))) ?_
              refine hw_cond rfl (fun hc_151 => ?_) (fun hc_151 => ?_)
              · replace h := ite_t h hc_151
                refine hw_skip ?_
                refine thenQ_n ?_
                refine hw_seq ?_
                refine hw_block ?_
                refine hw_held2 21 (fun H' => ∃ Z' : Nat → Prop, Own H' Z' (own fInt 3 v_142 n4.Ends :: own fInt 3 v_141 n4.Starts :: box b_51 [.int .i64 n4.States, v_141, v_142, v_143] 25 :: own fInt 3 v_33 (b.Starts.map (· + a.States)) :: box b_21 [.int .i64 (0 : Int), .slice none 0 0, .slice none 0 0, .slice none 0 0] 25 :: box b_17 [.int .i64 a.States, v_1, v_3, v_5] 25 :: fz fGEdge.rep v_5 a.Edges :: fz fInt.rep v_3 a.Ends :: fz fInt.rep v_1 a.Starts :: L)) (.step 0 false (.step 1 false (.step 2 false (.step 3 false (.step 4 false (.step 5 false (.step 6 false (.step 7 false (.step 8 false (.step 9 false (.step 10 false (.step 11 false (.step 12 false (.step 13 false (.step 14 false (.step 15 false (.step 16 false (.step 17 false (.step 18 false (.step 19 true (.step 20 true .done))))))))))))))))))))) (.step 21 true (.step 22 true .done)) Try.mixed (by kernel_rfl) ⟨_, (Own.sel (Ls := [own fInt 3 v_142 n4.Ends, own fGEdge 69 v_143 n4.Edges, own fInt 3 v_141 n4.Starts, box b_51 [.int .i64 n4.States, v_141, v_142, v_143] 25, own fInt 3 v_33 (b.Starts.map (· + a.States)), box b_21 [.int .i64 (0 : Int), .slice none 0 0, .slice none 0 0, .slice none 0 0] 25, box b_17 [.int .i64 a.States, v_1, v_3, v_5] 25, fz fGEdge.rep v_5 a.Edges, fz fInt.rep v_3 a.Ends, fz fInt.rep v_1 a.Starts]) (L := L) [0, 2, 3, 4, 5, 6, 7, 8, 9] rfl hO)⟩ ?_
                refine hd_v rfl (fun _ _ => (v_fieldA Try.underlying25 rfl Try.sizeOf23 rfl)) rfl ?_
                refine hd_v rfl (fun H' hS => by obtain ⟨Z', hO⟩ := hS; exact (v_load1 Try.isAgg23 rfl (Blk.cell (hO.box 2 rfl) rfl))) rfl ?_
                refine hd_v rfl (fun _ _ => (v_fieldA Try.underlying25 rfl Try.sizeOf23 rfl)) rfl ?_
                refine hd_v rfl (fun H' hS => by obtain ⟨Z', hO⟩ := hS; exact (v_load1 Try.isAgg23 rfl (Blk.cell (hO.box 5 rfl) rfl))) rfl ?_
                refine hd_v rfl (fun _ _ => (v_move rfl)) rfl ?_
                refine hd_v rfl (fun H' hS => by obtain ⟨Z', hO⟩ := hS; exact (v_ixL Try.underlying23 Try.sizeOf69 rfl rfl (hO.fsl 6 rfl) hs_139)) rfl ?_
                refine hd_v rfl (fun _ _ => (v_fieldA Try.underlying69 rfl Try.sizeOf3 rfl)) rfl ?_
                refine hd_v rfl (fun H' hS => by obtain ⟨Z', hO⟩ := hS; exact (v_loadSub (j := 0) Try.isAgg3 rfl (hO.fsl 6 rfl) rfl hs_139 rfl)) rfl ?_
                refine hd_v rfl (fun _ _ => (v_move rfl)) rfl ?_
                refine hd_v rfl (fun _ _ => (v_move rfl)) rfl ?_
                refine hd_v rfl (fun H' hS => by obtain ⟨Z', hO⟩ := hS; exact (v_ixL Try.underlying22 Try.sizeOf3 rfl rfl (hO.osl 3 rfl) (by exact ⟨Int.natCast_nonneg _, of_decide_eq_true hc_151⟩))) rfl ?_
                refine hd_v rfl (fun H' hS => by obtain ⟨Z', hO⟩ := hS; exact (v_loadSc Try.isAgg3 rfl (hO.osl 3 rfl) rfl (by exact ⟨Int.natCast_nonneg _, of_decide_eq_true hc_151⟩) rfl)) rfl ?_
                refine hd_v rfl (fun _ _ => (v_fieldA Try.underlying25 rfl Try.sizeOf23 rfl)) rfl ?_
                refine hd_v rfl (fun H' hS => by obtain ⟨Z', hO⟩ := hS; exact (v_load1 Try.isAgg23 rfl (Blk.cell (hO.box 5 rfl) rfl))) rfl ?_
                refine hd_v rfl (fun _ _ => (v_move rfl)) rfl ?_
                refine hd_v rfl (fun H' hS => by obtain ⟨Z', hO⟩ := hS; exact (v_ixL Try.underlying23 Try.sizeOf69 rfl rfl (hO.fsl 6 rfl) hs_139)) rfl ?_
                refine hd_v rfl (fun _ _ => (v_fieldA Try.underlying69 rfl Try.sizeOf34 rfl)) rfl ?_
                refine hd_v rfl (fun H' hS => by obtain ⟨Z', hO⟩ := hS; exact (v_loadSubA (o := 2) Try.isAgg34 Try.sizeOf34 rfl (hO.fsl 6 rfl) rfl hs_139 rfl)) rfl ?_
                refine hd_v rfl (fun _ _ => (v_buildF (cs := (fGEdge.enc (⟨(a.Edges.getD i.toNat default).From, ((b.Starts.map (· + a.States)).getD k default), (a.Edges.getD i.toNat default).Set⟩ : GEdge))) (xs := [.tmp 103, .tmp 107, .tmp 113]) (is := [0, 1, 2]) rfl (evs_cons rfl (evs_cons rfl (evs_cons rfl evs_nil))) (fun w => by show _ = _; kernel_rfl))) rfl ?_
                refine hd_h (o_lit (g := fGEdge) (l := [(⟨(a.Edges.getD i.toNat default).From, ((b.Starts.map (· + a.States)).getD k default), (a.Edges.getD i.toNat default).Set⟩ : GEdge)]) (xs := [.tmp 114]) hO Try.underlying23 Try.sizeOf69 Try.zeroValue69 rfl (evs_cons rfl evs_nil) rfl rfl rfl rfl rfl) (by rintro v_153 H_152 hO; exact ⟨_, (Own.sel (Ls := [own fGEdge 69 v_153 [(⟨(a.Edges.getD i.toNat default).From, ((b.Starts.map (· + a.States)).getD k default), (a.Edges.getD i.toNat default).Set⟩ : GEdge)], own fInt 3 v_142 n4.Ends, own fGEdge 69 v_143 n4.Edges, own fInt 3 v_141 n4.Starts, box b_51 [.int .i64 n4.States, v_141, v_142, v_143] 25, own fInt 3 v_33 (b.Starts.map (· + a.States)), box b_21 [.int .i64 (0 : Int), .slice none 0 0, .slice none 0 0, .slice none 0 0] 25, box b_17 [.int .i64 a.States, v_1, v_3, v_5] 25, fz fGEdge.rep v_5 a.Edges, fz fInt.rep v_3 a.Ends, fz fInt.rep v_1 a.Starts]) (L := L) [1, 3, 4, 5, 6, 7, 8, 9, 10] rfl hO)⟩) rfl ?_
                rintro v_153 H_152 hO
                replace hO : Own H_152 Z_148 (own fGEdge 69 v_153 [(⟨(a.Edges.getD i.toNat default).From, ((b.Starts.map (· + a.States)).getD k default), (a.Edges.getD i.toNat default).Set⟩ : GEdge)] :: own fInt 3 v_142 n4.Ends :: own fGEdge 69 v_143 n4.Edges :: own fInt 3 v_141 n4.Starts :: box b_51 [.int .i64 n4.States, v_141, v_142, v_143] 25 :: own fInt 3 v_33 (b.Starts.map (· + a.States)) :: box b_21 [.int .i64 (0 : Int), .slice none 0 0, .slice none 0 0, .slice none 0 0] 25 :: box b_17 [.int .i64 a.States, v_1, v_3, v_5] 25 :: fz fGEdge.rep v_5 a.Edges :: fz fInt.rep v_3 a.Ends :: fz fInt.rep v_1 a.Starts :: L) := hO
                obtain ⟨hs_156, h⟩ := h
                refine hd_h (o_append (l2 := [(⟨(a.Edges.getD i.toNat default).From, ((b.Starts.map (· + a.States)).getD k default), (a.Edges.getD i.toNat default).Set⟩ : GEdge)]) hO 2 rfl rfl Try.underlying23 Try.type69 rfl rfl rfl rfl rfl rfl rfl (hO.osl 0 rfl) hs_156 (le63 hs_156 rfl)) (by rintro v_155 H_154 hO; exact ⟨_, (Own.sel (Ls := [own fGEdge 69 v_153 [(⟨(a.Edges.getD i.toNat default).From, ((b.Starts.map (· + a.States)).getD k default), (a.Edges.getD i.toNat default).Set⟩ : GEdge)], own fInt 3 v_142 n4.Ends, own fGEdge 69 v_155 (n4.Edges ++ [(⟨(a.Edges.getD i.toNat default).From, ((b.Starts.map (· + a.States)).getD k default), (a.Edges.getD i.toNat default).Set⟩ : GEdge)]), own fInt 3 v_141 n4.Starts, box b_51 [.int .i64 n4.States, v_141, v_142, v_143] 25, own fInt 3 v_33 (b.Starts.map (· + a.States)), box b_21 [.int .i64 (0 : Int), .slice none 0 0, .slice none 0 0, .slice none 0 0] 25, box b_17 [.int .i64 a.States, v_1, v_3, v_5] 25, fz fGEdge.rep v_5 a.Edges, fz fInt.rep v_3 a.Ends, fz fInt.rep v_1 a.Starts]) (L := L) [1, 3, 4, 5, 6, 7, 8, 9, 10] rfl hO)⟩) rfl ?_
                rintro v_155 H_154 hO
                replace hO : Own H_154 Z_148 (own fGEdge 69 v_153 [(⟨(a.Edges.getD i.toNat default).From, ((b.Starts.map (· + a.States)).getD k default), (a.Edges.getD i.toNat default).Set⟩ : GEdge)] :: own fInt 3 v_142 n4.Ends :: own fGEdge 69 v_155 (n4.Edges ++ [(⟨(a.Edges.getD i.toNat default).From, ((b.Starts.map (· + a.States)).getD k default), (a.Edges.getD i.toNat default).Set⟩ : GEdge)]) :: own fInt 3 v_141 n4.Starts :: box b_51 [.int .i64 n4.States, v_141, v_142, v_143] 25 :: own fInt 3 v_33 (b.Starts.map (· + a.States)) :: box b_21 [.int .i64 (0 : Int), .slice none 0 0, .slice none 0 0, .slice none 0 0] 25 :: box b_17 [.int .i64 a.States, v_1, v_3, v_5] 25 :: fz fGEdge.rep v_5 a.Edges :: fz fInt.rep v_3 a.Ends :: fz fInt.rep v_1 a.Starts :: L) := hO
                refine hd_nil ?_
                refine hd_h (OpV.toH (v_fieldA Try.underlying25 rfl Try.sizeOf23 rfl)) (fun _ _ hR => trivial) rfl ?_
                rintro vv HH ⟨hvv, hHH⟩
                obtain rfl := hvv.symm
                obtain rfl := hHH.symm
                refine hd_s (o_store1 hO 4 rfl Try.sizeOf23 rfl rfl rfl (Sl.one (hO.osl 2 rfl))) (fun _ _ _ => trivial) ?_
                rintro _ H_157 hO
                replace hO : Own H_157 Z_148 (own fGEdge 69 v_153 [(⟨(a.Edges.getD i.toNat default).From, ((b.Starts.map (· + a.States)).getD k default), (a.Edges.getD i.toNat default).Set⟩ : GEdge)] :: own fInt 3 v_142 n4.Ends :: own fGEdge 69 v_155 (n4.Edges ++ [(⟨(a.Edges.getD i.toNat default).From, ((b.Starts.map (· + a.States)).getD k default), (a.Edges.getD i.toNat default).Set⟩ : GEdge)]) :: own fInt 3 v_141 n4.Starts :: box b_51 [.int .i64 n4.States, v_141, v_142, v_155] 25 :: own fInt 3 v_33 (b.Starts.map (· + a.States)) :: box b_21 [.int .i64 (0 : Int), .slice none 0 0, .slice none 0 0, .slice none 0 0] 25 :: box b_17 [.int .i64 a.States, v_1, v_3, v_5] 25 :: fz fGEdge.rep v_5 a.Edges :: fz fInt.rep v_3 a.Ends :: fz fInt.rep v_1 a.Starts :: L) := hO
                refine hd_nil ?_
                refine blockQ_n ?_
                refine thenQ_n ?_
                refine hw_region ?_
                refine hl_v (v_move rfl) rfl ?_
                refine hl_v (v_add rfl rfl (by have hq := of_decide_eq_true hc_151; have hm := hln_150; constructor <;> omega)) rfl ?_
                refine hl_v (v_assign rfl) rfl ?_
                refine hl_nil ?_
                refine thenQ_n ?_
                exact ⟨_, _, (ai_cons (t := 2) rfl (ai_cons (t := 4) rfl (ai_cons (t := 6) rfl (ai_cons (t := 7) rfl (ai_cons (t := 8) rfl (ai_cons (t := 9) rfl ai_nil)))))), ⟨(⟨n4.States, n4.Starts, n4.Ends, (n4.Edges ++ [(⟨(a.Edges.getD i.toNat default).From, ((b.Starts.map (· + a.States)).getD k default), (a.Edges.getD i.toNat default).Set⟩ : GEdge)])⟩ : GNfa), k + 1, v_141, v_142, v_155, _, rfl, rfl, hZ, h, (by have hq := of_decide_eq_true hc_151; omega), (Own.sel (Ls := [own fGEdge 69 v_153 [(⟨(a.Edges.getD i.toNat default).From, ((b.Starts.map (· + a.States)).getD k default), (a.Edges.getD i.toNat default).Set⟩ : GEdge)], own fInt 3 v_142 n4.Ends, own fGEdge 69 v_155 (n4.Edges ++ [(⟨(a.Edges.getD i.toNat default).From, ((b.Starts.map (· + a.States)).getD k default), (a.Edges.getD i.toNat default).Set⟩ : GEdge)]), own fInt 3 v_141 n4.Starts, box b_51 [.int .i64 n4.States, v_141, v_142, v_155] 25, own fInt 3 v_33 (b.Starts.map (· + a.States)), box b_21 [.int .i64 (0 : Int), .slice none 0 0, .slice none 0 0, .slice none 0 0] 25, box b_17 [.int .i64 a.States, v_1, v_3, v_5] 25, fz fGEdge.rep v_5 a.Edges, fz fInt.rep v_3 a.Ends, fz fInt.rep v_1 a.Starts]) (L := L) [1, 2, 3, 4, 5, 6, 7, 8, 9, 10] rfl hO)⟩, (by have hq := of_decide_eq_true hc_151; omega)⟩
              · replace h := ite_f h hc_151
                refine hw_exit ?_
                refine thenQ_e ?_
                refine thenQ_e ?_
                refine blockQ_hit ?_
                refine blockQ_n ?_
                refine thenQ_n ?_
                refine hw_region ?_
                refine hl_v (v_move rfl) rfl ?_
                obtain ⟨hs_158, h⟩ := h
                refine hl_v (v_add rfl rfl hs_158) rfl ?_
                refine hl_v (v_assign rfl) rfl ?_
                refine hl_nil ?_
                refine thenQ_n ?_
                exact ⟨_, _, (ai_cons (t := 2) rfl (ai_cons (t := 4) rfl (ai_cons (t := 6) rfl (ai_cons (t := 7) rfl (ai_cons (t := 8) rfl ai_nil))))), ⟨n4, (i + 1), v_141, v_142, v_143, _, rfl, rfl, hZ, h.1, hO⟩, h.2⟩
            · replace h := ite_f h hc_140
              refine hw_skip ?_
              refine blockQ_n ?_
              refine thenQ_n ?_
              refine hw_region ?_
              refine hl_v (v_move rfl) rfl ?_
              obtain ⟨hs_159, h⟩ := h
              refine hl_v (v_add rfl rfl hs_159) rfl ?_
              refine hl_v (v_assign rfl) rfl ?_
              refine hl_nil ?_
              refine thenQ_n ?_
              exact ⟨_, _, (ai_cons (t := 2) rfl (ai_cons (t := 4) rfl (ai_cons (t := 6) rfl (ai_cons (t := 7) rfl (ai_cons (t := 8) rfl ai_nil))))), ⟨n3, (i + 1), v_127, v_128, v_129, _, rfl, rfl, hZ, h.1, hO⟩, h.2⟩
          · replace h := ite_f h hc_138
            refine hw_exit ?_
            refine thenQ_e ?_
            refine thenQ_e ?_
            refine blockQ_hit ?_
            refine thenQ_n ?_
            refine hw_seq ?_
            refine hw_region ?_
            refine hl_v (v_loadA Try.isAgg25 Try.sizeOf25 rfl (Blk.at0 (hO.box 3 rfl)) rfl) rfl ?_
            refine hl_h (h_call Try.call54 (evs_cons rfl evs_nil) (rEnd_spec (a0 := n3) (L := box b_51 [.int .i64 n3.States, v_127, v_128, v_129] 25 :: own fInt 3 v_33 (b.Starts.map (· + a.States)) :: box b_21 [.int .i64 (0 : Int), .slice none 0 0, .slice none 0 0, .slice none 0 0] 25 :: box b_17 [.int .i64 a.States, v_1, v_3, v_5] 25 :: fz fGEdge.rep v_5 a.Edges :: fz fInt.rep v_3 a.Ends :: fz fInt.rep v_1 a.Starts :: L) (Own.sel (Ls := [own fInt 3 v_128 n3.Ends, own fGEdge 69 v_129 n3.Edges, own fInt 3 v_127 n3.Starts, box b_51 [.int .i64 n3.States, v_127, v_128, v_129] 25, own fInt 3 v_33 (b.Starts.map (· + a.States)), box b_21 [.int .i64 (0 : Int), .slice none 0 0, .slice none 0 0, .slice none 0 0] 25, box b_17 [.int .i64 a.States, v_1, v_3, v_5] 25, fz fGEdge.rep v_5 a.Edges, fz fInt.rep v_3 a.Ends, fz fInt.rep v_1 a.Starts]) (L := L) [2, 0, 1, 3, 4, 5, 6, 7, 8, 9] rfl hO))) rfl ?_
            rintro vv H_163 ⟨Z_164, v_160, v_161, v_162, hz_165, hv, hO⟩
            obtain rfl := hv.symm
            replace hZ := fun b hb => hz_165 b (hZ b hb)
            replace hO : Own H_163 Z_164 (own fInt 3 v_160 (((nEnd n3).1).Starts) :: own fInt 3 v_161 (((nEnd n3).1).Ends) :: own fGEdge 69 v_162 (((nEnd n3).1).Edges) :: box b_51 [.int .i64 n3.States, v_127, v_128, v_129] 25 :: own fInt 3 v_33 (b.Starts.map (· + a.States)) :: box b_21 [.int .i64 (0 : Int), .slice none 0 0, .slice none 0 0, .slice none 0 0] 25 :: box b_17 [.int .i64 a.States, v_1, v_3, v_5] 25 :: fz fGEdge.rep v_5 a.Edges :: fz fInt.rep v_3 a.Ends :: fz fInt.rep v_1 a.Starts :: L) := hO
            refine hl_v (v_extract rfl rfl) rfl ?_
            refine hl_v (v_extract rfl rfl) rfl ?_
            refine hl_s (o_storeA (us := [.int .i64 (((nEnd n3).1).States), v_160, v_161, v_162]) hO 5 rfl Try.sizeOf25 rfl rfl rfl rfl (by simp only [List.forall_mem_cons]; exact ⟨rfl, (Sl.one (hO.osl 0 rfl)), (Sl.one (hO.osl 1 rfl)), (Sl.one (hO.osl 2 rfl)), by simp⟩)) ?_
            rintro _ H_166 hO
            replace hO : Own H_166 Z_164 (own fInt 3 v_160 (((nEnd n3).1).Starts) :: own fInt 3 v_161 (((nEnd n3).1).Ends) :: own fGEdge 69 v_162 (((nEnd n3).1).Edges) :: box b_51 [.int .i64 n3.States, v_127, v_128, v_129] 25 :: own fInt 3 v_33 (b.Starts.map (· + a.States)) :: box b_21 [.int .i64 (((nEnd n3).1).States), v_160, v_161, v_162] 25 :: box b_17 [.int .i64 a.States, v_1, v_3, v_5] 25 :: fz fGEdge.rep v_5 a.Edges :: fz fInt.rep v_3 a.Ends :: fz fInt.rep v_1 a.Starts :: L) := hO
            refine hl_v (v_assign rfl) rfl ?_
            refine hl_nil ?_
            refine thenQ_n ?_
            refine hw_sub _ (ai_cons (t := 4) rfl (ai_cons (t := 5) rfl ai_nil)) ?_
            refine hw_ret ?_
            refine ret_i _ (ra_c rfl (fun w hw => run_loadVar_at (cs := [.int .i64 (((nEnd n3).1).States), v_160, v_161, v_162]) Try.isAgg25 Try.sizeOf25 (Blk.at0 (hO.box 5 rfl)) rfl w hw) (ra_t rfl ra_nil)) ?_
            exact ⟨_, ((nEnd n3).1), (nEnd n3).2, v_160, v_161, v_162, hZ, h, rfl, (Own.sel (Ls := [own fInt 3 v_160 (((nEnd n3).1).Starts), own fInt 3 v_161 (((nEnd n3).1).Ends), own fGEdge 69 v_162 (((nEnd n3).1).Edges), box b_51 [.int .i64 n3.States, v_127, v_128, v_129] 25, own fInt 3 v_33 (b.Starts.map (· + a.States)), box b_21 [.int .i64 (((nEnd n3).1).States), v_160, v_161, v_162] 25, box b_17 [.int .i64 a.States, v_1, v_3, v_5] 25, fz fGEdge.rep v_5 a.Edges, fz fInt.rep v_3 a.Ends, fz fInt.rep v_1 a.Starts]) (L := L) [0, 1, 2] rfl hO)⟩
theorem rCat_spec {a0 : GNfa} {a1 : GNfa} {v_1 : Value} {v_3 : Value} {v_5 : Value} {v_7 : Value} {v_9 : Value} {v_11 : Value} {L : List As} (hp : (a0.Starts.length ≤ 17592186044416 ∧ a0.Ends.length ≤ 17592186044416) ∧ (a1.Starts.length ≤ 17592186044416 ∧ a1.Ends.length ≤ 17592186044416)) {H : Heap} {Z : Nat → Prop} (hO : Own H Z (L)) (hf_2 : Fz fInt.rep L v_1 a0.Starts) (hf_4 : Fz fInt.rep L v_3 a0.Ends) (hf_6 : Fz fGEdge.rep L v_5 a0.Edges) (hf_8 : Fz fInt.rep L v_7 a1.Starts) (hf_10 : Fz fInt.rep L v_9 a1.Ends) (hf_12 : Fz fGEdge.rep L v_11 a1.Edges) : HC Try.prog 19 [.agg [.int .i64 a0.States, v_1, v_3, v_5].toArray, .agg [.int .i64 a1.States, v_7, v_9, v_11].toArray] H (fun v H' => ∃ (Z' : Nat → Prop) (v_13 : Value) (v_14 : Value) (v_15 : Value), (∀ a1, Z a1 → Z' a1) ∧ v = .tuple #[.agg [.int .i64 ((nCat a0 a1).1).States, v_13, v_14, v_15].toArray, .int .i64 ((nCat a0 a1).2)] ∧ Own H' Z' (own fInt 3 v_13 ((nCat a0 a1).1).Starts :: own fInt 3 v_14 ((nCat a0 a1).1).Ends :: own fGEdge 69 v_15 ((nCat a0 a1).1).Edges :: L)) := by
  refine (rCat_ok (a := a0) (b := a1) (@rCat_wp a0 a1 hp) hO hf_2 hf_4 hf_6 hf_8 hf_10 hf_12).mono ?_
  rintro v H' ⟨Z', r0, r1, v_13, v_14, v_15, hz, hq, hv, hO'⟩
  obtain ⟨rfl, rfl⟩ := hq
  exact ⟨Z', v_13, v_14, v_15, hz, hv, hO'⟩

theorem rStar_ok {a : GNfa} {v_1 : Value} {v_3 : Value} {v_5 : Value} {Q : GNfa → Int → Prop} {H : Heap} {Z : Nat → Prop} {L : List As} (h : wp_rStar a Q) (hO : Own H Z (L)) (hf_2 : Fz fInt.rep L v_1 a.Starts) (hf_4 : Fz fInt.rep L v_3 a.Ends) (hf_6 : Fz fGEdge.rep L v_5 a.Edges) : HC Try.prog 23 [.agg [.int .i64 a.States, v_1, v_3, v_5].toArray] H (fun v H' => ∃ (Z' : Nat → Prop) (r0 : GNfa) (r1 : Int) (v_7 : Value) (v_8 : Value) (v_9 : Value), (∀ b, Z b → Z' b) ∧ Q r0 r1 ∧ v = .tuple #[.agg [.int .i64 r0.States, v_7, v_8, v_9].toArray, .int .i64 r1] ∧ Own H' Z' (own fInt 3 v_7 r0.Starts :: own fInt 3 v_8 r0.Ends :: own fGEdge 69 v_9 r0.Edges :: L)) := by
  have hZ : ∀ b, Z b → Z b := fun _ h => h
  replace hO := Fz.item hf_2 hO
  replace hO := Fz.items [_] hf_4 hO
  replace hO := Fz.items [_, _] hf_6 hO
  unfold wp_rStar at h
  refine hc_of_hw (N := 93) (rs := [(.cell 2 25), (.tmp 3)]) Try.func23 rfl rfl rfl rfl ?_
  refine hw_seq ?_
  refine hw_region ?_
  refine hl_h (o_box (cs := [.int .i64 a.States, v_1, v_3, v_5]) hO rfl rfl) rfl ?_
  rintro _ H_10 ⟨b_11, rfl, hO⟩
  replace hO : Own H_10 Z (box b_11 [.int .i64 a.States, v_1, v_3, v_5] 25 :: fz fGEdge.rep v_5 a.Edges :: fz fInt.rep v_3 a.Ends :: fz fInt.rep v_1 a.Starts :: L) := hO
  refine hl_h (o_alloc (cs := [.int .i64 (0 : Int), .slice none 0 0, .slice none 0 0, .slice none 0 0]) hO Try.zeroValue25 rfl) rfl ?_
  rintro _ H_12 ⟨b_13, rfl, hO⟩
  replace hO : Own H_12 Z (box b_13 [.int .i64 (0 : Int), .slice none 0 0, .slice none 0 0, .slice none 0 0] 25 :: box b_11 [.int .i64 a.States, v_1, v_3, v_5] 25 :: fz fGEdge.rep v_5 a.Edges :: fz fInt.rep v_3 a.Ends :: fz fInt.rep v_1 a.Starts :: L) := hO
  refine hl_v (v_assign rfl) rfl ?_
  refine hl_nil ?_
  refine thenQ_n ?_
  refine hw_sub _ (ai_cons (t := 1) rfl (ai_cons (t := 2) rfl ai_nil)) ?_
  refine hw_seq ?_
  refine hw_seq ?_
  refine hw_region ?_
  refine hl_v (v_loadA Try.isAgg25 Try.sizeOf25 rfl (Blk.at0 (hO.box 1 rfl)) rfl) rfl ?_
  obtain ⟨hs_14, h⟩ := h
  refine hl_h (h_call Try.call39 (evs_cons rfl evs_nil) (rRight_spec (a0 := a) hs_14 hO (Fz.of (i := 4) rfl) (Fz.of (i := 3) rfl) (Fz.of (i := 2) rfl))) rfl ?_
  rintro vv H_15 ⟨Z_16, hz_17, hv, hO⟩
  obtain rfl := hv.symm
  replace hZ := fun b hb => hz_17 b (hZ b hb)
  replace hO : Own H_15 Z_16 (box b_13 [.int .i64 (0 : Int), .slice none 0 0, .slice none 0 0, .slice none 0 0] 25 :: box b_11 [.int .i64 a.States, v_1, v_3, v_5] 25 :: fz fGEdge.rep v_5 a.Edges :: fz fInt.rep v_3 a.Ends :: fz fInt.rep v_1 a.Starts :: L) := hO
  refine hl_v (v_not rfl) rfl ?_
  refine hl_nil ?_
  refine thenQ_n ?_
  refine hw_sub _ (ai_cons (t := 1) rfl (ai_cons (t := 2) rfl (ai_cons (t := 12) rfl ai_nil))) ?_
  refine hw_cond rfl (fun hc_18 => ?_) (fun hc_18 => ?_)
  · replace h := ite_t h hc_18
    refine hw_seq ?_
    refine hw_region ?_
    refine hl_v (v_buildF (cs := [.int .i64 (0 : Int), .slice none 0 0, .slice none 0 0, .slice none 0 0]) (xs := []) (is := []) rfl evs_nil (fun w => by show _ = _; kernel_rfl)) rfl ?_
    refine hl_s (o_storeA (us := [.int .i64 (0 : Int), .slice none 0 0, .slice none 0 0, .slice none 0 0]) hO 0 rfl Try.sizeOf25 rfl rfl rfl rfl (by simp only [List.forall_mem_cons]; exact ⟨rfl, rfl, rfl, rfl, by simp⟩)) ?_
    rintro _ H_19 hO
    replace hO : Own H_19 Z_16 (box b_13 [.int .i64 (0 : Int), .slice none 0 0, .slice none 0 0, .slice none 0 0] 25 :: box b_11 [.int .i64 a.States, v_1, v_3, v_5] 25 :: fz fGEdge.rep v_5 a.Edges :: fz fInt.rep v_3 a.Ends :: fz fInt.rep v_1 a.Starts :: L) := hO
    refine hl_v (v_assign rfl) rfl ?_
    refine hl_nil ?_
    refine thenQ_n ?_
    refine hw_sub _ (ai_cons (t := 2) rfl (ai_cons (t := 3) rfl ai_nil)) ?_
    refine hw_ret ?_
    refine thenQ_r ?_
    replace hO : Own H_19 Z_16 (own fInt 3 (.slice none 0 0) [] :: box b_13 [.int .i64 (0 : Int), .slice none 0 0, .slice none 0 0, .slice none 0 0] 25 :: box b_11 [.int .i64 a.States, v_1, v_3, v_5] 25 :: fz fGEdge.rep v_5 a.Edges :: fz fInt.rep v_3 a.Ends :: fz fInt.rep v_1 a.Starts :: L) := hO.nil fInt 3
    replace hO : Own H_19 Z_16 (own fInt 3 (.slice none 0 0) [] :: own fInt 3 (.slice none 0 0) [] :: box b_13 [.int .i64 (0 : Int), .slice none 0 0, .slice none 0 0, .slice none 0 0] 25 :: box b_11 [.int .i64 a.States, v_1, v_3, v_5] 25 :: fz fGEdge.rep v_5 a.Edges :: fz fInt.rep v_3 a.Ends :: fz fInt.rep v_1 a.Starts :: L) := hO.nil fInt 3
    replace hO : Own H_19 Z_16 (own fGEdge 69 (.slice none 0 0) [] :: own fInt 3 (.slice none 0 0) [] :: own fInt 3 (.slice none 0 0) [] :: box b_13 [.int .i64 (0 : Int), .slice none 0 0, .slice none 0 0, .slice none 0 0] 25 :: box b_11 [.int .i64 a.States, v_1, v_3, v_5] 25 :: fz fGEdge.rep v_5 a.Edges :: fz fInt.rep v_3 a.Ends :: fz fInt.rep v_1 a.Starts :: L) := hO.nil fGEdge 69
    refine ret_i _ (ra_c rfl (fun w hw => run_loadVar_at (cs := [.int .i64 (0 : Int), .slice none 0 0, .slice none 0 0, .slice none 0 0]) Try.isAgg25 Try.sizeOf25 (Blk.at0 (hO.box 3 rfl)) rfl w hw) (ra_t rfl ra_nil)) ?_
    exact ⟨_, (⟨(0 : Int), [], [], []⟩ : GNfa), 1, .slice none 0 0, .slice none 0 0, .slice none 0 0, hZ, h, rfl, (Own.sel (Ls := [own fGEdge 69 (.slice none 0 0) [], own fInt 3 (.slice none 0 0) [], own fInt 3 (.slice none 0 0) [], box b_13 [.int .i64 (0 : Int), .slice none 0 0, .slice none 0 0, .slice none 0 0] 25, box b_11 [.int .i64 a.States, v_1, v_3, v_5] 25, fz fGEdge.rep v_5 a.Edges, fz fInt.rep v_3 a.Ends, fz fInt.rep v_1 a.Starts]) (L := L) [2, 1, 0] rfl hO)⟩
  · replace h := ite_f h hc_18
    refine hw_skip ?_
    refine thenQ_n ?_
    refine hw_seq ?_
    refine hw_region ?_
    refine hl_v (v_fieldA Try.underlying25 rfl Try.sizeOf3 rfl) rfl ?_
    refine hl_v (v_load1 Try.isAgg3 rfl (Blk.cell (hO.box 1 rfl) rfl)) rfl ?_
    refine hl_v (v_assign rfl) rfl ?_
    refine hl_nil ?_
    refine thenQ_n ?_
    refine hw_sub _ (ai_cons (t := 1) rfl (ai_cons (t := 2) rfl (ai_cons (t := 4) rfl ai_nil))) ?_
    refine hw_seq ?_
    refine hw_region ?_
    refine hl_v (v_move rfl) rfl ?_
    obtain ⟨hs_20, h⟩ := h
    refine hl_v (v_add rfl rfl hs_20) rfl ?_
    refine hl_v (v_move rfl) rfl ?_
    refine hl_h (o_lit (g := fInt) (l := [a.States]) (xs := [.tmp 18]) hO Try.underlying22 Try.sizeOf3 Try.zeroValue3 rfl (evs_cons rfl evs_nil) rfl rfl rfl rfl rfl) rfl ?_
    rintro v_22 H_21 hO
    replace hO : Own H_21 Z_16 (own fInt 3 v_22 [a.States] :: box b_13 [.int .i64 (0 : Int), .slice none 0 0, .slice none 0 0, .slice none 0 0] 25 :: box b_11 [.int .i64 a.States, v_1, v_3, v_5] 25 :: fz fGEdge.rep v_5 a.Edges :: fz fInt.rep v_3 a.Ends :: fz fInt.rep v_1 a.Starts :: L) := hO
    refine hl_v (v_move rfl) rfl ?_
    refine hl_h (o_lit (g := fInt) (l := [a.States]) (xs := [.tmp 20]) hO Try.underlying22 Try.sizeOf3 Try.zeroValue3 rfl (evs_cons rfl evs_nil) rfl rfl rfl rfl rfl) rfl ?_
    rintro v_24 H_23 hO
    replace hO : Own H_23 Z_16 (own fInt 3 v_24 [a.States] :: own fInt 3 v_22 [a.States] :: box b_13 [.int .i64 (0 : Int), .slice none 0 0, .slice none 0 0, .slice none 0 0] 25 :: box b_11 [.int .i64 a.States, v_1, v_3, v_5] 25 :: fz fGEdge.rep v_5 a.Edges :: fz fInt.rep v_3 a.Ends :: fz fInt.rep v_1 a.Starts :: L) := hO
    have hsh_25 := Sl.sh (hO.osl 1 rfl)
    have hsh_26 := Sl.sh (hO.osl 0 rfl)
    refine hl_v (v_buildF (cs := [.int .i64 (a.States + 1), v_22, v_24, .slice none 0 0]) (xs := [.tmp 17, .tmp 19, .tmp 21]) (is := [0, 1, 2]) rfl (evs_cons rfl (evs_cons rfl (evs_cons rfl evs_nil))) (fun w => by obtain ⟨_, _, _, hw⟩ := hsh_25; (try subst hw); obtain ⟨_, _, _, hw⟩ := hsh_26; (try subst hw); show _ = _; kernel_rfl)) rfl ?_
    refine hl_h (o_alloc (cs := [.int .i64 (0 : Int), .slice none 0 0, .slice none 0 0, .slice none 0 0]) hO Try.zeroValue25 rfl) rfl ?_
    rintro _ H_27 ⟨b_28, rfl, hO⟩
    replace hO : Own H_27 Z_16 (box b_28 [.int .i64 (0 : Int), .slice none 0 0, .slice none 0 0, .slice none 0 0] 25 :: own fInt 3 v_24 [a.States] :: own fInt 3 v_22 [a.States] :: box b_13 [.int .i64 (0 : Int), .slice none 0 0, .slice none 0 0, .slice none 0 0] 25 :: box b_11 [.int .i64 a.States, v_1, v_3, v_5] 25 :: fz fGEdge.rep v_5 a.Edges :: fz fInt.rep v_3 a.Ends :: fz fInt.rep v_1 a.Starts :: L) := hO
    refine hl_s (o_storeA (us := [.int .i64 (a.States + 1), v_22, v_24, .slice none 0 0]) hO 0 rfl Try.sizeOf25 rfl rfl rfl rfl (by simp only [List.forall_mem_cons]; exact ⟨rfl, (Sl.one (hO.osl 2 rfl)), (Sl.one (hO.osl 1 rfl)), rfl, by simp⟩)) ?_
    rintro _ H_29 hO
    replace hO : Own H_29 Z_16 (box b_28 [.int .i64 (a.States + 1), v_22, v_24, .slice none 0 0] 25 :: own fInt 3 v_24 [a.States] :: own fInt 3 v_22 [a.States] :: box b_13 [.int .i64 (0 : Int), .slice none 0 0, .slice none 0 0, .slice none 0 0] 25 :: box b_11 [.int .i64 a.States, v_1, v_3, v_5] 25 :: fz fGEdge.rep v_5 a.Edges :: fz fInt.rep v_3 a.Ends :: fz fInt.rep v_1 a.Starts :: L) := hO
    refine hl_nil ?_
    refine thenQ_n ?_
    refine hw_sub _ (ai_cons (t := 1) rfl (ai_cons (t := 2) rfl (ai_cons (t := 4) rfl (ai_cons (t := 5) rfl ai_nil)))) ?_
    refine hw_seq ?_
    refine hw_region ?_
    refine hl_v (v_fieldA Try.underlying25 rfl Try.sizeOf23 rfl) rfl ?_
    refine hl_v (v_load1 Try.isAgg23 rfl (Blk.cell (hO.box 0 rfl) rfl)) rfl ?_
    refine hl_v (v_fieldA Try.underlying25 rfl Try.sizeOf23 rfl) rfl ?_
    refine hl_v (v_load1 Try.isAgg23 rfl (Blk.cell (hO.box 4 rfl) rfl)) rfl ?_
    replace hO : Own H_29 Z_16 (own fGEdge 69 (.slice none 0 0) [] :: box b_28 [.int .i64 (a.States + 1), v_22, v_24, .slice none 0 0] 25 :: own fInt 3 v_24 [a.States] :: own fInt 3 v_22 [a.States] :: box b_13 [.int .i64 (0 : Int), .slice none 0 0, .slice none 0 0, .slice none 0 0] 25 :: box b_11 [.int .i64 a.States, v_1, v_3, v_5] 25 :: fz fGEdge.rep v_5 a.Edges :: fz fInt.rep v_3 a.Ends :: fz fInt.rep v_1 a.Starts :: L) := hO.nil fGEdge 69
    obtain ⟨hs_32, h⟩ := h
    refine hl_h (o_append (l2 := a.Edges) hO 0 rfl rfl Try.underlying23 Try.type69 rfl rfl rfl rfl rfl rfl rfl (hO.fsl 6 rfl) hs_32 (le63 hs_32 rfl)) rfl ?_
    rintro v_31 H_30 hO
    replace hO : Own H_30 Z_16 (own fGEdge 69 v_31 ([] ++ a.Edges) :: box b_28 [.int .i64 (a.States + 1), v_22, v_24, .slice none 0 0] 25 :: own fInt 3 v_24 [a.States] :: own fInt 3 v_22 [a.States] :: box b_13 [.int .i64 (0 : Int), .slice none 0 0, .slice none 0 0, .slice none 0 0] 25 :: box b_11 [.int .i64 a.States, v_1, v_3, v_5] 25 :: fz fGEdge.rep v_5 a.Edges :: fz fInt.rep v_3 a.Ends :: fz fInt.rep v_1 a.Starts :: L) := hO
    refine hl_v (v_fieldA Try.underlying25 rfl Try.sizeOf23 rfl) rfl ?_
    refine hl_s (o_store1 hO 1 rfl Try.sizeOf23 rfl rfl rfl (Sl.one (hO.osl 0 rfl))) ?_
    rintro _ H_33 hO
    replace hO : Own H_33 Z_16 (own fGEdge 69 v_31 ([] ++ a.Edges) :: box b_28 [.int .i64 (a.States + 1), v_22, v_24, v_31] 25 :: own fInt 3 v_24 [a.States] :: own fInt 3 v_22 [a.States] :: box b_13 [.int .i64 (0 : Int), .slice none 0 0, .slice none 0 0, .slice none 0 0] 25 :: box b_11 [.int .i64 a.States, v_1, v_3, v_5] 25 :: fz fGEdge.rep v_5 a.Edges :: fz fInt.rep v_3 a.Ends :: fz fInt.rep v_1 a.Starts :: L) := hO
    refine hl_nil ?_
    refine thenQ_n ?_
    refine hw_sub _ (ai_cons (t := 1) rfl (ai_cons (t := 2) rfl (ai_cons (t := 4) rfl (ai_cons (t := 5) rfl ai_nil)))) ?_
    refine hw_seq ?_
    refine hw_seq ?_
    refine hw_region ?_
    refine hl_v (v_assign rfl) rfl ?_
    refine hl_nil ?_
    refine thenQ_n ?_
    refine hw_sub _ (ai_cons (t := 1) rfl (ai_cons (t := 2) rfl (ai_cons (t := 4) rfl (ai_cons (t := 5) rfl (ai_cons (t := 6) rfl ai_nil))))) ?_
    refine hw_block ?_
    obtain ⟨I_37, h, hI_39⟩ := h
    refine hw_lp (fun n' g' H' => ∃ (n : GNfa) (i : Nat) (v_34 : Value) (v_35 : Value) (v_36 : Value) (Z' : Nat → Prop), n' = a.Edges.length - i ∧ g' = [(1, ptr b_11 0), (2, ptr b_13 0), (4, .int .i64 a.States), (5, ptr b_28 0), (6, .int .i64 (i : Int))] ∧ (∀ b, Z b → Z' b) ∧ I_37 n i ∧ i ≤ a.Edges.length ∧ Own H' Z' (own fGEdge 69 v_36 n.Edges :: box b_28 [.int .i64 n.States, v_34, v_35, v_36] 25 :: own fInt 3 v_35 n.Ends :: own fInt 3 v_34 n.Starts :: box b_13 [.int .i64 (0 : Int), .slice none 0 0, .slice none 0 0, .slice none 0 0] 25 :: box b_11 [.int .i64 a.States, v_1, v_3, v_5] 25 :: fz fGEdge.rep v_5 a.Edges :: fz fInt.rep v_3 a.Ends :: fz fInt.rep v_1 a.Starts :: L)) _ _ (ai_cons (t := 1) rfl (ai_cons (t := 2) rfl (ai_cons (t := 4) rfl (ai_cons (t := 5) rfl (ai_cons (t := 6) rfl ai_nil))))) ⟨(⟨(a.States + 1), [a.States], [a.States], ([] ++ a.Edges)⟩ : GNfa), 0, v_22, v_24, v_31, _, rfl, rfl, hZ, h, by omega, hO⟩ ?_
    rintro _ _ H_40 ⟨n, i, v_34, v_35, v_36, Z_41, rfl, rfl, hZ, h, hb_42, hO⟩
    replace h := hI_39 n i h hb_42
    refine hw_seq ?_
    refine hw_seq ?_
    refine hw_region ?_
    refine hl_v (v_move rfl) rfl ?_
    refine hl_v (v_fieldA Try.underlying25 rfl Try.sizeOf23 rfl) rfl ?_
    refine hl_v (v_load1 Try.isAgg23 rfl (Blk.cell (hO.box 5 rfl) rfl)) rfl ?_
    have hln_43 := Sl.cap (hO.fsl 6 rfl)
    refine hl_v (v_lenL rfl Try.underlying23 rfl (hO.fsl 6 rfl)) rfl ?_
    refine hl_v (v_lss rfl rfl) rfl ?_
    refine hl_nil ?_
    refine thenQ_n ?_
    refine hw_sub _ (ai_cons (t := 1) rfl (ai_cons (t := 2) rfl (ai_cons (t := 4) rfl (ai_cons (t := 5) rfl (ai_cons (t := 6) rfl (ai_cons (t := 33) rfl ai_nil)))))) ?_
    refine hw_cond rfl (fun hc_44 => ?_) (fun hc_44 => ?_)
    · replace h := ite_t h hc_44
      refine hw_skip ?_
      refine thenQ_n ?_
      refine hw_seq ?_
      refine hw_block ?_
      refine hw_seq ?_
      refine hw_region ?_
      refine hl_v (v_fieldA Try.underlying25 rfl Try.sizeOf23 rfl) rfl ?_
      refine hl_v (v_load1 Try.isAgg23 rfl (Blk.cell (hO.box 5 rfl) rfl)) rfl ?_
      refine hl_v (v_move rfl) rfl ?_
      refine hl_v (v_ixL Try.underlying23 Try.sizeOf69 rfl rfl (hO.fsl 6 rfl) (by exact ⟨Int.natCast_nonneg _, of_decide_eq_true hc_44⟩)) rfl ?_
      refine hl_v (v_loadFl Try.isAgg69 Try.sizeOf69 rfl (hO.fsl 6 rfl) rfl (by exact ⟨Int.natCast_nonneg _, of_decide_eq_true hc_44⟩)) rfl ?_
      refine hl_h (o_alloc (cs := (fGEdge.enc (⟨(0 : Int), (0 : Int), BSet.zero⟩ : GEdge))) hO Try.zeroValue69 rfl) rfl ?_
      rintro _ H_45 ⟨b_46, rfl, hO⟩
      replace hO : Own H_45 Z_41 (box b_46 (fGEdge.enc (⟨(0 : Int), (0 : Int), BSet.zero⟩ : GEdge)) 69 :: own fGEdge 69 v_36 n.Edges :: box b_28 [.int .i64 n.States, v_34, v_35, v_36] 25 :: own fInt 3 v_35 n.Ends :: own fInt 3 v_34 n.Starts :: box b_13 [.int .i64 (0 : Int), .slice none 0 0, .slice none 0 0, .slice none 0 0] 25 :: box b_11 [.int .i64 a.States, v_1, v_3, v_5] 25 :: fz fGEdge.rep v_5 a.Edges :: fz fInt.rep v_3 a.Ends :: fz fInt.rep v_1 a.Starts :: L) := hO
      refine hl_s (o_storeA (us := (fGEdge.enc (a.Edges.getD i default))) hO 0 rfl Try.sizeOf69 rfl rfl rfl rfl (by intro u hu; exact (fGEdge).one _ u hu)) ?_
      rintro _ H_47 hO
      replace hO : Own H_47 Z_41 (box b_46 (fGEdge.enc (a.Edges.getD i default)) 69 :: own fGEdge 69 v_36 n.Edges :: box b_28 [.int .i64 n.States, v_34, v_35, v_36] 25 :: own fInt 3 v_35 n.Ends :: own fInt 3 v_34 n.Starts :: box b_13 [.int .i64 (0 : Int), .slice none 0 0, .slice none 0 0, .slice none 0 0] 25 :: box b_11 [.int .i64 a.States, v_1, v_3, v_5] 25 :: fz fGEdge.rep v_5 a.Edges :: fz fInt.rep v_3 a.Ends :: fz fInt.rep v_1 a.Starts :: L) := hO
      refine hl_nil ?_
      refine thenQ_n ?_
      refine hw_sub _ (ai_cons (t := 1) rfl (ai_cons (t := 2) rfl (ai_cons (t := 4) rfl (ai_cons (t := 5) rfl (ai_cons (t := 6) rfl (ai_cons (t := 7) rfl ai_nil)))))) ?_
      refine hw_seq ?_
      refine hw_region ?_
      refine hl_v (v_fieldA Try.underlying69 rfl Try.sizeOf3 rfl) rfl ?_
      refine hl_v (v_load1 Try.isAgg3 rfl (Blk.cell (hO.box 0 rfl) rfl)) rfl ?_
      refine hl_v (v_fieldA Try.underlying25 rfl Try.sizeOf22 rfl) rfl ?_
      refine hl_v (v_load1 Try.isAgg22 rfl (Blk.cell (hO.box 6 rfl) rfl)) rfl ?_
      refine hl_v (v_call Try.call41 (evs_cons rfl (evs_cons rfl evs_nil)) (rIn_spec (a0 := (a.Edges.getD i default).From) (a1 := a.Starts) hO (Rd.of_fz (i := 9) rfl))) rfl ?_
      refine hl_v (v_assign rfl) rfl ?_
      refine hl_nil ?_
      refine thenQ_n ?_
      refine hw_sub _ (ai_cons (t := 1) rfl (ai_cons (t := 2) rfl (ai_cons (t := 4) rfl (ai_cons (t := 5) rfl (ai_cons (t := 6) rfl (ai_cons (t := 7) rfl (ai_cons (t := 8) rfl ai_nil))))))) ?_
      refine hw_seq ?_
      refine hw_region ?_
      refine hl_v (v_fieldA Try.underlying69 rfl Try.sizeOf3 rfl) rfl ?_
      refine hl_v (v_load1 Try.isAgg3 rfl (Blk.cell (hO.box 0 rfl) rfl)) rfl ?_
      refine hl_v (v_fieldA Try.underlying25 rfl Try.sizeOf22 rfl) rfl ?_
      refine hl_v (v_load1 Try.isAgg22 rfl (Blk.cell (hO.box 6 rfl) rfl)) rfl ?_
      refine hl_v (v_call Try.call41 (evs_cons rfl (evs_cons rfl evs_nil)) (rIn_spec (a0 := (a.Edges.getD i default).To) (a1 := a.Ends) hO (Rd.of_fz (i := 8) rfl))) rfl ?_
      refine hl_v (v_assign rfl) rfl ?_
      refine hl_nil ?_
      refine thenQ_n ?_
      refine hw_sub _ (ai_cons (t := 1) rfl (ai_cons (t := 2) rfl (ai_cons (t := 4) rfl (ai_cons (t := 5) rfl (ai_cons (t := 6) rfl (ai_cons (t := 7) rfl (ai_cons (t := 8) rfl (ai_cons (t := 9) rfl ai_nil)))))))) ?_
      obtain ⟨K_51, h, hk_54⟩ := h
      refine hw_jn (fun g' H' => ∃ (n2 : GNfa) (v_48 : Value) (v_49 : Value) (v_50 : Value) (Z' : Nat → Prop), g' = [(1, ptr b_11 0), (2, ptr b_13 0), (4, .int .i64 a.States), (5, ptr b_28 0), (6, .int .i64 (i : Int)), (7, ptr b_46 0), (8, .bool (a.Starts.contains ((a.Edges.getD i default).From))), (9, .bool (a.Ends.contains ((a.Edges.getD i default).To)))] ∧ (∀ b, Z b → Z' b) ∧ K_51 n2 ∧ Own H' Z' (box b_46 (fGEdge.enc (a.Edges.getD i default)) 69 :: own fGEdge 69 v_50 n2.Edges :: box b_28 [.int .i64 n2.States, v_48, v_49, v_50] 25 :: own fInt 3 v_49 n2.Ends :: own fInt 3 v_48 n2.Starts :: box b_13 [.int .i64 (0 : Int), .slice none 0 0, .slice none 0 0, .slice none 0 0] 25 :: box b_11 [.int .i64 a.States, v_1, v_3, v_5] 25 :: fz fGEdge.rep v_5 a.Edges :: fz fInt.rep v_3 a.Ends :: fz fInt.rep v_1 a.Starts :: L)) ?_ ?_
      · skip
        refine hw_seq ?_
        refine hw_region ?_
        refine hl_v (v_move rfl) rfl ?_
        refine hl_nil ?_
        refine thenQ_n ?_
        refine hw_sub _ (ai_cons (t := 1) rfl (ai_cons (t := 2) rfl (ai_cons (t := 4) rfl (ai_cons (t := 5) rfl (ai_cons (t := 6) rfl (ai_cons (t := 7) rfl (ai_cons (t := 8) rfl (ai_cons (t := 9) rfl (ai_cons (t := 51) rfl ai_nil))))))))) ?_
        refine hw_cond rfl (fun hc_55 => ?_) (fun hc_55 => ?_)
        · replace h := ite_t h hc_55
          refine hw_region ?_
          refine hl_v (v_fieldA Try.underlying25 rfl Try.sizeOf23 rfl) rfl ?_
          refine hl_v (v_load1 Try.isAgg23 rfl (Blk.cell (hO.box 2 rfl) rfl)) rfl ?_
          refine hl_v (v_move rfl) rfl ?_
          refine hl_v (v_fieldA Try.underlying69 rfl Try.sizeOf3 rfl) rfl ?_
          refine hl_v (v_load1 Try.isAgg3 rfl (Blk.cell (hO.box 0 rfl) rfl)) rfl ?_
          refine hl_v (v_fieldA Try.underlying69 rfl Try.sizeOf34 rfl) rfl ?_
          refine hl_v (v_loadA (cs := (sw ((a.Edges.getD i default).Set))) Try.isAgg34 Try.sizeOf34 rfl (Blk.sub (n := 4) (hO.box 0 rfl) rfl) rfl) rfl ?_
          refine hl_v (v_buildF (cs := (fGEdge.enc (⟨a.States, (a.Edges.getD i default).To, (a.Edges.getD i default).Set⟩ : GEdge))) (xs := [.tmp 54, .tmp 56, .tmp 58]) (is := [0, 1, 2]) rfl (evs_cons rfl (evs_cons rfl (evs_cons rfl evs_nil))) (fun w => by show _ = _; kernel_rfl)) rfl ?_
          refine hl_h (o_lit (g := fGEdge) (l := [(⟨a.States, (a.Edges.getD i default).To, (a.Edges.getD i default).Set⟩ : GEdge)]) (xs := [.tmp 59]) hO Try.underlying23 Try.sizeOf69 Try.zeroValue69 rfl (evs_cons rfl evs_nil) rfl rfl rfl rfl rfl) rfl ?_
          rintro v_57 H_56 hO
          replace hO : Own H_56 Z_41 (own fGEdge 69 v_57 [(⟨a.States, (a.Edges.getD i default).To, (a.Edges.getD i default).Set⟩ : GEdge)] :: box b_46 (fGEdge.enc (a.Edges.getD i default)) 69 :: own fGEdge 69 v_36 n.Edges :: box b_28 [.int .i64 n.States, v_34, v_35, v_36] 25 :: own fInt 3 v_35 n.Ends :: own fInt 3 v_34 n.Starts :: box b_13 [.int .i64 (0 : Int), .slice none 0 0, .slice none 0 0, .slice none 0 0] 25 :: box b_11 [.int .i64 a.States, v_1, v_3, v_5] 25 :: fz fGEdge.rep v_5 a.Edges :: fz fInt.rep v_3 a.Ends :: fz fInt.rep v_1 a.Starts :: L) := hO
          obtain ⟨hs_60, h⟩ := h
          refine hl_h (o_append (l2 := [(⟨a.States, (a.Edges.getD i default).To, (a.Edges.getD i default).Set⟩ : GEdge)]) hO 2 rfl rfl Try.underlying23 Try.type69 rfl rfl rfl rfl rfl rfl rfl (hO.osl 0 rfl) hs_60 (le63 hs_60 rfl)) rfl ?_
          rintro v_59 H_58 hO
          replace hO : Own H_58 Z_41 (own fGEdge 69 v_57 [(⟨a.States, (a.Edges.getD i default).To, (a.Edges.getD i default).Set⟩ : GEdge)] :: box b_46 (fGEdge.enc (a.Edges.getD i default)) 69 :: own fGEdge 69 v_59 (n.Edges ++ [(⟨a.States, (a.Edges.getD i default).To, (a.Edges.getD i default).Set⟩ : GEdge)]) :: box b_28 [.int .i64 n.States, v_34, v_35, v_36] 25 :: own fInt 3 v_35 n.Ends :: own fInt 3 v_34 n.Starts :: box b_13 [.int .i64 (0 : Int), .slice none 0 0, .slice none 0 0, .slice none 0 0] 25 :: box b_11 [.int .i64 a.States, v_1, v_3, v_5] 25 :: fz fGEdge.rep v_5 a.Edges :: fz fInt.rep v_3 a.Ends :: fz fInt.rep v_1 a.Starts :: L) := hO
          refine hl_v (v_fieldA Try.underlying25 rfl Try.sizeOf23 rfl) rfl ?_
          refine hl_s (o_store1 hO 3 rfl Try.sizeOf23 rfl rfl rfl (Sl.one (hO.osl 2 rfl))) ?_
          rintro _ H_61 hO
          replace hO : Own H_61 Z_41 (own fGEdge 69 v_57 [(⟨a.States, (a.Edges.getD i default).To, (a.Edges.getD i default).Set⟩ : GEdge)] :: box b_46 (fGEdge.enc (a.Edges.getD i default)) 69 :: own fGEdge 69 v_59 (n.Edges ++ [(⟨a.States, (a.Edges.getD i default).To, (a.Edges.getD i default).Set⟩ : GEdge)]) :: box b_28 [.int .i64 n.States, v_34, v_35, v_59] 25 :: own fInt 3 v_35 n.Ends :: own fInt 3 v_34 n.Starts :: box b_13 [.int .i64 (0 : Int), .slice none 0 0, .slice none 0 0, .slice none 0 0] 25 :: box b_11 [.int .i64 a.States, v_1, v_3, v_5] 25 :: fz fGEdge.rep v_5 a.Edges :: fz fInt.rep v_3 a.Ends :: fz fInt.rep v_1 a.Starts :: L) := hO
          refine hl_nil ?_
          refine thenQ_n ?_
          refine ⟨_, (ai_cons (t := 1) rfl (ai_cons (t := 2) rfl (ai_cons (t := 4) rfl (ai_cons (t := 5) rfl (ai_cons (t := 6) rfl (ai_cons (t := 7) rfl (ai_cons (t := 8) rfl (ai_cons (t := 9) rfl ai_nil)))))))), ⟨(⟨n.States, n.Starts, n.Ends, (n.Edges ++ [(⟨a.States, (a.Edges.getD i default).To, (a.Edges.getD i default).Set⟩ : GEdge)])⟩ : GNfa), v_34, v_35, v_59, _, rfl, hZ, h, (Own.sel (Ls := [own fGEdge 69 v_57 [(⟨a.States, (a.Edges.getD i default).To, (a.Edges.getD i default).Set⟩ : GEdge)], box b_46 (fGEdge.enc (a.Edges.getD i default)) 69, own fGEdge 69 v_59 (n.Edges ++ [(⟨a.States, (a.Edges.getD i default).To, (a.Edges.getD i default).Set⟩ : GEdge)]), box b_28 [.int .i64 n.States, v_34, v_35, v_59] 25, own fInt 3 v_35 n.Ends, own fInt 3 v_34 n.Starts, box b_13 [.int .i64 (0 : Int), .slice none 0 0, .slice none 0 0, .slice none 0 0] 25, box b_11 [.int .i64 a.States, v_1, v_3, v_5] 25, fz fGEdge.rep v_5 a.Edges, fz fInt.rep v_3 a.Ends, fz fInt.rep v_1 a.Starts]) (L := L) [1, 2, 3, 4, 5, 6, 7, 8, 9, 10] rfl hO)⟩⟩
        · replace h := ite_f h hc_55
          refine hw_skip ?_
          refine thenQ_n ?_
          refine ⟨_, (ai_cons (t := 1) rfl (ai_cons (t := 2) rfl (ai_cons (t := 4) rfl (ai_cons (t := 5) rfl (ai_cons (t := 6) rfl (ai_cons (t := 7) rfl (ai_cons (t := 8) rfl (ai_cons (t := 9) rfl ai_nil)))))))), ⟨n, v_34, v_35, v_36, _, rfl, hZ, h, hO⟩⟩
      · rintro _ H_52 ⟨n2, v_48, v_49, v_50, Z_53, rfl, hZ, h, hO⟩
        replace h := hk_54 n2 h
        obtain ⟨K_65, h, hk_68⟩ := h
        refine hw_jn (fun g' H' => ∃ (n3 : GNfa) (v_62 : Value) (v_63 : Value) (v_64 : Value) (Z' : Nat → Prop), g' = [(1, ptr b_11 0), (2, ptr b_13 0), (4, .int .i64 a.States), (5, ptr b_28 0), (6, .int .i64 (i : Int)), (7, ptr b_46 0), (8, .bool (a.Starts.contains ((a.Edges.getD i default).From))), (9, .bool (a.Ends.contains ((a.Edges.getD i default).To)))] ∧ (∀ b, Z b → Z' b) ∧ K_65 n3 ∧ Own H' Z' (box b_46 (fGEdge.enc (a.Edges.getD i default)) 69 :: own fGEdge 69 v_64 n3.Edges :: box b_28 [.int .i64 n3.States, v_62, v_63, v_64] 25 :: own fInt 3 v_63 n3.Ends :: own fInt 3 v_62 n3.Starts :: box b_13 [.int .i64 (0 : Int), .slice none 0 0, .slice none 0 0, .slice none 0 0] 25 :: box b_11 [.int .i64 a.States, v_1, v_3, v_5] 25 :: fz fGEdge.rep v_5 a.Edges :: fz fInt.rep v_3 a.Ends :: fz fInt.rep v_1 a.Starts :: L)) ?_ ?_
        · skip
          refine hw_seq ?_
          refine hw_region ?_
          refine hl_v (v_move rfl) rfl ?_
          refine hl_nil ?_
          refine thenQ_n ?_
          refine hw_sub _ (ai_cons (t := 1) rfl (ai_cons (t := 2) rfl (ai_cons (t := 4) rfl (ai_cons (t := 5) rfl (ai_cons (t := 6) rfl (ai_cons (t := 7) rfl (ai_cons (t := 8) rfl (ai_cons (t := 9) rfl (ai_cons (t := 63) rfl ai_nil))))))))) ?_
          refine hw_cond rfl (fun hc_69 => ?_) (fun hc_69 => ?_)
          · replace h := ite_t h hc_69
            refine hw_region ?_
            refine hl_v (v_fieldA Try.underlying25 rfl Try.sizeOf23 rfl) rfl ?_
            refine hl_v (v_load1 Try.isAgg23 rfl (Blk.cell (hO.box 2 rfl) rfl)) rfl ?_
            refine hl_v (v_fieldA Try.underlying69 rfl Try.sizeOf3 rfl) rfl ?_
            refine hl_v (v_load1 Try.isAgg3 rfl (Blk.cell (hO.box 0 rfl) rfl)) rfl ?_
            refine hl_v (v_move rfl) rfl ?_
            refine hl_v (v_fieldA Try.underlying69 rfl Try.sizeOf34 rfl) rfl ?_
            refine hl_v (v_loadA (cs := (sw ((a.Edges.getD i default).Set))) Try.isAgg34 Try.sizeOf34 rfl (Blk.sub (n := 4) (hO.box 0 rfl) rfl) rfl) rfl ?_
            refine hl_v (v_buildF (cs := (fGEdge.enc (⟨(a.Edges.getD i default).From, a.States, (a.Edges.getD i default).Set⟩ : GEdge))) (xs := [.tmp 67, .tmp 68, .tmp 70]) (is := [0, 1, 2]) rfl (evs_cons rfl (evs_cons rfl (evs_cons rfl evs_nil))) (fun w => by show _ = _; kernel_rfl)) rfl ?_
            refine hl_h (o_lit (g := fGEdge) (l := [(⟨(a.Edges.getD i default).From, a.States, (a.Edges.getD i default).Set⟩ : GEdge)]) (xs := [.tmp 71]) hO Try.underlying23 Try.sizeOf69 Try.zeroValue69 rfl (evs_cons rfl evs_nil) rfl rfl rfl rfl rfl) rfl ?_
            rintro v_71 H_70 hO
            replace hO : Own H_70 Z_53 (own fGEdge 69 v_71 [(⟨(a.Edges.getD i default).From, a.States, (a.Edges.getD i default).Set⟩ : GEdge)] :: box b_46 (fGEdge.enc (a.Edges.getD i default)) 69 :: own fGEdge 69 v_50 n2.Edges :: box b_28 [.int .i64 n2.States, v_48, v_49, v_50] 25 :: own fInt 3 v_49 n2.Ends :: own fInt 3 v_48 n2.Starts :: box b_13 [.int .i64 (0 : Int), .slice none 0 0, .slice none 0 0, .slice none 0 0] 25 :: box b_11 [.int .i64 a.States, v_1, v_3, v_5] 25 :: fz fGEdge.rep v_5 a.Edges :: fz fInt.rep v_3 a.Ends :: fz fInt.rep v_1 a.Starts :: L) := hO
            obtain ⟨hs_74, h⟩ := h
            refine hl_h (o_append (l2 := [(⟨(a.Edges.getD i default).From, a.States, (a.Edges.getD i default).Set⟩ : GEdge)]) hO 2 rfl rfl Try.underlying23 Try.type69 rfl rfl rfl rfl rfl rfl rfl (hO.osl 0 rfl) hs_74 (le63 hs_74 rfl)) rfl ?_
            rintro v_73 H_72 hO
            replace hO : Own H_72 Z_53 (own fGEdge 69 v_71 [(⟨(a.Edges.getD i default).From, a.States, (a.Edges.getD i default).Set⟩ : GEdge)] :: box b_46 (fGEdge.enc (a.Edges.getD i default)) 69 :: own fGEdge 69 v_73 (n2.Edges ++ [(⟨(a.Edges.getD i default).From, a.States, (a.Edges.getD i default).Set⟩ : GEdge)]) :: box b_28 [.int .i64 n2.States, v_48, v_49, v_50] 25 :: own fInt 3 v_49 n2.Ends :: own fInt 3 v_48 n2.Starts :: box b_13 [.int .i64 (0 : Int), .slice none 0 0, .slice none 0 0, .slice none 0 0] 25 :: box b_11 [.int .i64 a.States, v_1, v_3, v_5] 25 :: fz fGEdge.rep v_5 a.Edges :: fz fInt.rep v_3 a.Ends :: fz fInt.rep v_1 a.Starts :: L) := hO
            refine hl_v (v_fieldA Try.underlying25 rfl Try.sizeOf23 rfl) rfl ?_
            refine hl_s (o_store1 hO 3 rfl Try.sizeOf23 rfl rfl rfl (Sl.one (hO.osl 2 rfl))) ?_
            rintro _ H_75 hO
            replace hO : Own H_75 Z_53 (own fGEdge 69 v_71 [(⟨(a.Edges.getD i default).From, a.States, (a.Edges.getD i default).Set⟩ : GEdge)] :: box b_46 (fGEdge.enc (a.Edges.getD i default)) 69 :: own fGEdge 69 v_73 (n2.Edges ++ [(⟨(a.Edges.getD i default).From, a.States, (a.Edges.getD i default).Set⟩ : GEdge)]) :: box b_28 [.int .i64 n2.States, v_48, v_49, v_73] 25 :: own fInt 3 v_49 n2.Ends :: own fInt 3 v_48 n2.Starts :: box b_13 [.int .i64 (0 : Int), .slice none 0 0, .slice none 0 0, .slice none 0 0] 25 :: box b_11 [.int .i64 a.States, v_1, v_3, v_5] 25 :: fz fGEdge.rep v_5 a.Edges :: fz fInt.rep v_3 a.Ends :: fz fInt.rep v_1 a.Starts :: L) := hO
            refine hl_nil ?_
            refine thenQ_n ?_
            refine ⟨_, (ai_cons (t := 1) rfl (ai_cons (t := 2) rfl (ai_cons (t := 4) rfl (ai_cons (t := 5) rfl (ai_cons (t := 6) rfl (ai_cons (t := 7) rfl (ai_cons (t := 8) rfl (ai_cons (t := 9) rfl ai_nil)))))))), ⟨(⟨n2.States, n2.Starts, n2.Ends, (n2.Edges ++ [(⟨(a.Edges.getD i default).From, a.States, (a.Edges.getD i default).Set⟩ : GEdge)])⟩ : GNfa), v_48, v_49, v_73, _, rfl, hZ, h, (Own.sel (Ls := [own fGEdge 69 v_71 [(⟨(a.Edges.getD i default).From, a.States, (a.Edges.getD i default).Set⟩ : GEdge)], box b_46 (fGEdge.enc (a.Edges.getD i default)) 69, own fGEdge 69 v_73 (n2.Edges ++ [(⟨(a.Edges.getD i default).From, a.States, (a.Edges.getD i default).Set⟩ : GEdge)]), box b_28 [.int .i64 n2.States, v_48, v_49, v_73] 25, own fInt 3 v_49 n2.Ends, own fInt 3 v_48 n2.Starts, box b_13 [.int .i64 (0 : Int), .slice none 0 0, .slice none 0 0, .slice none 0 0] 25, box b_11 [.int .i64 a.States, v_1, v_3, v_5] 25, fz fGEdge.rep v_5 a.Edges, fz fInt.rep v_3 a.Ends, fz fInt.rep v_1 a.Starts]) (L := L) [1, 2, 3, 4, 5, 6, 7, 8, 9, 10] rfl hO)⟩⟩
          · replace h := ite_f h hc_69
            refine hw_skip ?_
            refine thenQ_n ?_
            refine ⟨_, (ai_cons (t := 1) rfl (ai_cons (t := 2) rfl (ai_cons (t := 4) rfl (ai_cons (t := 5) rfl (ai_cons (t := 6) rfl (ai_cons (t := 7) rfl (ai_cons (t := 8) rfl (ai_cons (t := 9) rfl ai_nil)))))))), ⟨n2, v_48, v_49, v_50, _, rfl, hZ, h, hO⟩⟩
        · rintro _ H_66 ⟨n3, v_62, v_63, v_64, Z_67, rfl, hZ, h, hO⟩
          replace h := hk_68 n3 h
          refine hw_seq ?_
          refine hw_region ?_
          refine hl_v (v_move rfl) rfl ?_
          refine hl_v (v_move rfl) rfl ?_
          refine hl_g rfl rfl (fun hg => (v_move rfl)) rfl ?_
          refine hl_v (v_and rfl rfl) rfl ?_
          refine hl_nil ?_
          refine thenQ_n ?_
          refine hw_sub _ (ai_cons (t := 1) rfl (ai_cons (t := 2) rfl (ai_cons (t := 4) rfl (ai_cons (t := 5) rfl (ai_cons (t := 6) rfl (ai_cons (t := 7) rfl (ai_cons (t := 78) rfl ai_nil))))))) ?_
          refine hw_cond rfl (fun hc_76 => ?_) (fun hc_76 => ?_)
          · replace h := ite_t h hc_76
            refine hw_region ?_
            refine hl_v (v_fieldA Try.underlying25 rfl Try.sizeOf23 rfl) rfl ?_
            refine hl_v (v_load1 Try.isAgg23 rfl (Blk.cell (hO.box 2 rfl) rfl)) rfl ?_
            refine hl_v (v_move rfl) rfl ?_
            refine hl_v (v_move rfl) rfl ?_
            refine hl_v (v_fieldA Try.underlying69 rfl Try.sizeOf34 rfl) rfl ?_
            refine hl_v (v_loadA (cs := (sw ((a.Edges.getD i default).Set))) Try.isAgg34 Try.sizeOf34 rfl (Blk.sub (n := 4) (hO.box 0 rfl) rfl) rfl) rfl ?_
            refine hl_v (v_buildF (cs := (fGEdge.enc (⟨a.States, a.States, (a.Edges.getD i default).Set⟩ : GEdge))) (xs := [.tmp 81, .tmp 82, .tmp 84]) (is := [0, 1, 2]) rfl (evs_cons rfl (evs_cons rfl (evs_cons rfl evs_nil))) (fun w => by show _ = _; kernel_rfl)) rfl ?_
            refine hl_h (o_lit (g := fGEdge) (l := [(⟨a.States, a.States, (a.Edges.getD i default).Set⟩ : GEdge)]) (xs := [.tmp 85]) hO Try.underlying23 Try.sizeOf69 Try.zeroValue69 rfl (evs_cons rfl evs_nil) rfl rfl rfl rfl rfl) rfl ?_
            rintro v_78 H_77 hO
            replace hO : Own H_77 Z_67 (own fGEdge 69 v_78 [(⟨a.States, a.States, (a.Edges.getD i default).Set⟩ : GEdge)] :: box b_46 (fGEdge.enc (a.Edges.getD i default)) 69 :: own fGEdge 69 v_64 n3.Edges :: box b_28 [.int .i64 n3.States, v_62, v_63, v_64] 25 :: own fInt 3 v_63 n3.Ends :: own fInt 3 v_62 n3.Starts :: box b_13 [.int .i64 (0 : Int), .slice none 0 0, .slice none 0 0, .slice none 0 0] 25 :: box b_11 [.int .i64 a.States, v_1, v_3, v_5] 25 :: fz fGEdge.rep v_5 a.Edges :: fz fInt.rep v_3 a.Ends :: fz fInt.rep v_1 a.Starts :: L) := hO
            obtain ⟨hs_81, h⟩ := h
            refine hl_h (o_append (l2 := [(⟨a.States, a.States, (a.Edges.getD i default).Set⟩ : GEdge)]) hO 2 rfl rfl Try.underlying23 Try.type69 rfl rfl rfl rfl rfl rfl rfl (hO.osl 0 rfl) hs_81 (le63 hs_81 rfl)) rfl ?_
            rintro v_80 H_79 hO
            replace hO : Own H_79 Z_67 (own fGEdge 69 v_78 [(⟨a.States, a.States, (a.Edges.getD i default).Set⟩ : GEdge)] :: box b_46 (fGEdge.enc (a.Edges.getD i default)) 69 :: own fGEdge 69 v_80 (n3.Edges ++ [(⟨a.States, a.States, (a.Edges.getD i default).Set⟩ : GEdge)]) :: box b_28 [.int .i64 n3.States, v_62, v_63, v_64] 25 :: own fInt 3 v_63 n3.Ends :: own fInt 3 v_62 n3.Starts :: box b_13 [.int .i64 (0 : Int), .slice none 0 0, .slice none 0 0, .slice none 0 0] 25 :: box b_11 [.int .i64 a.States, v_1, v_3, v_5] 25 :: fz fGEdge.rep v_5 a.Edges :: fz fInt.rep v_3 a.Ends :: fz fInt.rep v_1 a.Starts :: L) := hO
            refine hl_v (v_fieldA Try.underlying25 rfl Try.sizeOf23 rfl) rfl ?_
            refine hl_s (o_store1 hO 3 rfl Try.sizeOf23 rfl rfl rfl (Sl.one (hO.osl 2 rfl))) ?_
            rintro _ H_82 hO
            replace hO : Own H_82 Z_67 (own fGEdge 69 v_78 [(⟨a.States, a.States, (a.Edges.getD i default).Set⟩ : GEdge)] :: box b_46 (fGEdge.enc (a.Edges.getD i default)) 69 :: own fGEdge 69 v_80 (n3.Edges ++ [(⟨a.States, a.States, (a.Edges.getD i default).Set⟩ : GEdge)]) :: box b_28 [.int .i64 n3.States, v_62, v_63, v_80] 25 :: own fInt 3 v_63 n3.Ends :: own fInt 3 v_62 n3.Starts :: box b_13 [.int .i64 (0 : Int), .slice none 0 0, .slice none 0 0, .slice none 0 0] 25 :: box b_11 [.int .i64 a.States, v_1, v_3, v_5] 25 :: fz fGEdge.rep v_5 a.Edges :: fz fInt.rep v_3 a.Ends :: fz fInt.rep v_1 a.Starts :: L) := hO
            refine hl_nil ?_
            refine blockQ_n ?_
            refine thenQ_n ?_
            refine hw_region ?_
            refine hl_v (v_move rfl) rfl ?_
            refine hl_v (v_add rfl rfl (by have hq := of_decide_eq_true hc_44; have hm := hln_43; constructor <;> omega)) rfl ?_
            refine hl_v (v_assign rfl) rfl ?_
            refine hl_nil ?_
            refine thenQ_n ?_
            exact ⟨_, _, (ai_cons (t := 1) rfl (ai_cons (t := 2) rfl (ai_cons (t := 4) rfl (ai_cons (t := 5) rfl (ai_cons (t := 6) rfl ai_nil))))), ⟨(⟨n3.States, n3.Starts, n3.Ends, (n3.Edges ++ [(⟨a.States, a.States, (a.Edges.getD i default).Set⟩ : GEdge)])⟩ : GNfa), i + 1, v_62, v_63, v_80, _, rfl, rfl, hZ, h, (by have hq := of_decide_eq_true hc_44; omega), (Own.sel (Ls := [own fGEdge 69 v_78 [(⟨a.States, a.States, (a.Edges.getD i default).Set⟩ : GEdge)], box b_46 (fGEdge.enc (a.Edges.getD i default)) 69, own fGEdge 69 v_80 (n3.Edges ++ [(⟨a.States, a.States, (a.Edges.getD i default).Set⟩ : GEdge)]), box b_28 [.int .i64 n3.States, v_62, v_63, v_80] 25, own fInt 3 v_63 n3.Ends, own fInt 3 v_62 n3.Starts, box b_13 [.int .i64 (0 : Int), .slice none 0 0, .slice none 0 0, .slice none 0 0] 25, box b_11 [.int .i64 a.States, v_1, v_3, v_5] 25, fz fGEdge.rep v_5 a.Edges, fz fInt.rep v_3 a.Ends, fz fInt.rep v_1 a.Starts]) (L := L) [2, 3, 4, 5, 6, 7, 8, 9, 10] rfl hO)⟩, (by have hq := of_decide_eq_true hc_44; omega)⟩
          · replace h := ite_f h hc_76
            refine hw_skip ?_
            refine blockQ_n ?_
            refine thenQ_n ?_
            refine hw_region ?_
            refine hl_v (v_move rfl) rfl ?_
            refine hl_v (v_add rfl rfl (by have hq := of_decide_eq_true hc_44; have hm := hln_43; constructor <;> omega)) rfl ?_
            refine hl_v (v_assign rfl) rfl ?_
            refine hl_nil ?_
            refine thenQ_n ?_
            exact ⟨_, _, (ai_cons (t := 1) rfl (ai_cons (t := 2) rfl (ai_cons (t := 4) rfl (ai_cons (t := 5) rfl (ai_cons (t := 6) rfl ai_nil))))), ⟨n3, i + 1, v_62, v_63, v_64, _, rfl, rfl, hZ, h, (by have hq := of_decide_eq_true hc_44; omega), (Own.sel (Ls := [box b_46 (fGEdge.enc (a.Edges.getD i default)) 69, own fGEdge 69 v_64 n3.Edges, box b_28 [.int .i64 n3.States, v_62, v_63, v_64] 25, own fInt 3 v_63 n3.Ends, own fInt 3 v_62 n3.Starts, box b_13 [.int .i64 (0 : Int), .slice none 0 0, .slice none 0 0, .slice none 0 0] 25, box b_11 [.int .i64 a.States, v_1, v_3, v_5] 25, fz fGEdge.rep v_5 a.Edges, fz fInt.rep v_3 a.Ends, fz fInt.rep v_1 a.Starts]) (L := L) [1, 2, 3, 4, 5, 6, 7, 8, 9] rfl hO)⟩, (by have hq := of_decide_eq_true hc_44; omega)⟩
    · replace h := ite_f h hc_44
      refine hw_exit ?_
      refine thenQ_e ?_
      refine thenQ_e ?_
      refine blockQ_hit ?_
      refine thenQ_n ?_
      refine hw_seq ?_
      refine hw_region ?_
      refine hl_v (v_loadA Try.isAgg25 Try.sizeOf25 rfl (Blk.at0 (hO.box 1 rfl)) rfl) rfl ?_
      refine hl_h (h_call Try.call54 (evs_cons rfl evs_nil) (rEnd_spec (a0 := n) (L := box b_28 [.int .i64 n.States, v_34, v_35, v_36] 25 :: box b_13 [.int .i64 (0 : Int), .slice none 0 0, .slice none 0 0, .slice none 0 0] 25 :: box b_11 [.int .i64 a.States, v_1, v_3, v_5] 25 :: fz fGEdge.rep v_5 a.Edges :: fz fInt.rep v_3 a.Ends :: fz fInt.rep v_1 a.Starts :: L) (Own.sel (Ls := [own fGEdge 69 v_36 n.Edges, box b_28 [.int .i64 n.States, v_34, v_35, v_36] 25, own fInt 3 v_35 n.Ends, own fInt 3 v_34 n.Starts, box b_13 [.int .i64 (0 : Int), .slice none 0 0, .slice none 0 0, .slice none 0 0] 25, box b_11 [.int .i64 a.States, v_1, v_3, v_5] 25, fz fGEdge.rep v_5 a.Edges, fz fInt.rep v_3 a.Ends, fz fInt.rep v_1 a.Starts]) (L := L) [3, 2, 0, 1, 4, 5, 6, 7, 8] rfl hO))) rfl ?_
      rintro vv H_86 ⟨Z_87, v_83, v_84, v_85, hz_88, hv, hO⟩
      obtain rfl := hv.symm
      replace hZ := fun b hb => hz_88 b (hZ b hb)
      replace hO : Own H_86 Z_87 (own fInt 3 v_83 (((nEnd n).1).Starts) :: own fInt 3 v_84 (((nEnd n).1).Ends) :: own fGEdge 69 v_85 (((nEnd n).1).Edges) :: box b_28 [.int .i64 n.States, v_34, v_35, v_36] 25 :: box b_13 [.int .i64 (0 : Int), .slice none 0 0, .slice none 0 0, .slice none 0 0] 25 :: box b_11 [.int .i64 a.States, v_1, v_3, v_5] 25 :: fz fGEdge.rep v_5 a.Edges :: fz fInt.rep v_3 a.Ends :: fz fInt.rep v_1 a.Starts :: L) := hO
      refine hl_v (v_extract rfl rfl) rfl ?_
      refine hl_v (v_extract rfl rfl) rfl ?_
      refine hl_s (o_storeA (us := [.int .i64 (((nEnd n).1).States), v_83, v_84, v_85]) hO 4 rfl Try.sizeOf25 rfl rfl rfl rfl (by simp only [List.forall_mem_cons]; exact ⟨rfl, (Sl.one (hO.osl 0 rfl)), (Sl.one (hO.osl 1 rfl)), (Sl.one (hO.osl 2 rfl)), by simp⟩)) ?_
      rintro _ H_89 hO
      replace hO : Own H_89 Z_87 (own fInt 3 v_83 (((nEnd n).1).Starts) :: own fInt 3 v_84 (((nEnd n).1).Ends) :: own fGEdge 69 v_85 (((nEnd n).1).Edges) :: box b_28 [.int .i64 n.States, v_34, v_35, v_36] 25 :: box b_13 [.int .i64 (((nEnd n).1).States), v_83, v_84, v_85] 25 :: box b_11 [.int .i64 a.States, v_1, v_3, v_5] 25 :: fz fGEdge.rep v_5 a.Edges :: fz fInt.rep v_3 a.Ends :: fz fInt.rep v_1 a.Starts :: L) := hO
      refine hl_v (v_assign rfl) rfl ?_
      refine hl_nil ?_
      refine thenQ_n ?_
      refine hw_sub _ (ai_cons (t := 2) rfl (ai_cons (t := 3) rfl ai_nil)) ?_
      refine hw_ret ?_
      refine ret_i _ (ra_c rfl (fun w hw => run_loadVar_at (cs := [.int .i64 (((nEnd n).1).States), v_83, v_84, v_85]) Try.isAgg25 Try.sizeOf25 (Blk.at0 (hO.box 4 rfl)) rfl w hw) (ra_t rfl ra_nil)) ?_
      exact ⟨_, ((nEnd n).1), (nEnd n).2, v_83, v_84, v_85, hZ, h, rfl, (Own.sel (Ls := [own fInt 3 v_83 (((nEnd n).1).Starts), own fInt 3 v_84 (((nEnd n).1).Ends), own fGEdge 69 v_85 (((nEnd n).1).Edges), box b_28 [.int .i64 n.States, v_34, v_35, v_36] 25, box b_13 [.int .i64 (((nEnd n).1).States), v_83, v_84, v_85] 25, box b_11 [.int .i64 a.States, v_1, v_3, v_5] 25, fz fGEdge.rep v_5 a.Edges, fz fInt.rep v_3 a.Ends, fz fInt.rep v_1 a.Starts]) (L := L) [0, 1, 2] rfl hO)⟩
theorem rStar_spec {a0 : GNfa} {v_1 : Value} {v_3 : Value} {v_5 : Value} {L : List As} (hp : (a0.Starts.length ≤ 17592186044416 ∧ a0.Ends.length ≤ 17592186044416)) {H : Heap} {Z : Nat → Prop} (hO : Own H Z (L)) (hf_2 : Fz fInt.rep L v_1 a0.Starts) (hf_4 : Fz fInt.rep L v_3 a0.Ends) (hf_6 : Fz fGEdge.rep L v_5 a0.Edges) : HC Try.prog 23 [.agg [.int .i64 a0.States, v_1, v_3, v_5].toArray] H (fun v H' => ∃ (Z' : Nat → Prop) (v_7 : Value) (v_8 : Value) (v_9 : Value), (∀ b, Z b → Z' b) ∧ v = .tuple #[.agg [.int .i64 ((nStar a0).1).States, v_7, v_8, v_9].toArray, .int .i64 ((nStar a0).2)] ∧ Own H' Z' (own fInt 3 v_7 ((nStar a0).1).Starts :: own fInt 3 v_8 ((nStar a0).1).Ends :: own fGEdge 69 v_9 ((nStar a0).1).Edges :: L)) := by
  refine (rStar_ok (a := a0) (@rStar_wp a0 hp) hO hf_2 hf_4 hf_6).mono ?_
  rintro v H' ⟨Z', r0, r1, v_7, v_8, v_9, hz, hq, hv, hO'⟩
  obtain ⟨rfl, rfl⟩ := hq
  exact ⟨Z', v_7, v_8, v_9, hz, hv, hO'⟩

theorem rTimes_ok {least : Int} {most : Int}  {Q : Bool → Prop} {H : Heap} {Z : Nat → Prop} {L : List As} (h : wp_rTimes least most Q) (hO : Own H Z (L))  : HC Try.prog 57 [.int .i64 least, .int .i64 most] H (fun v H' => ∃ (r0 : Bool) , Q r0 ∧ v = .bool r0 ∧ H' = H) := by
  have hZ : ∀ b, Z b → Z b := fun _ h => h
  unfold wp_rTimes at h
  refine hc_of_hw (N := 28) (rs := [(.tmp 4)]) Try.func57 rfl rfl rfl rfl ?_
  refine hw_seq ?_
  refine hw_region ?_
  refine hl_v (v_assign rfl) rfl ?_
  refine hl_nil ?_
  refine thenQ_n ?_
  refine hw_sub _ (ai_cons (t := 0) rfl (ai_cons (t := 1) rfl ai_nil)) ?_
  refine hw_seq ?_
  refine hw_region ?_
  refine hl_v (v_move rfl) rfl ?_
  refine hl_v (v_geq rfl rfl) rfl ?_
  refine hl_v (v_move rfl) rfl ?_
  refine hl_g rfl rfl (fun hg => (v_move rfl)) rfl ?_
  refine hl_g rfl rfl (fun hg => (v_leq (gv_ok rfl hg) rfl)) rfl ?_
  refine hl_v (v_and rfl rfl) rfl ?_
  refine hl_v (v_move rfl) rfl ?_
  refine hl_g rfl rfl (fun hg => (v_move rfl)) rfl ?_
  refine hl_g rfl rfl (fun hg => (v_eql (gv_ok rfl hg) rfl)) rfl ?_
  refine hl_g rfl rfl (fun hg => (v_move (gv_ok rfl hg))) rfl ?_
  refine hl_g rfl rfl (fun hg => (v_move rfl)) rfl ?_
  refine hl_g rfl rfl (fun hg => (v_leq (gv_ok rfl hg) rfl)) rfl ?_
  refine hl_g rfl rfl (fun hg => (v_and (gv_ok rfl hg) (gvgb_ok rfl hg))) rfl ?_
  refine hl_g rfl rfl (fun hg => (v_move (gv_ok rfl hg))) rfl ?_
  refine hl_g rfl rfl (fun hg => (v_move rfl)) rfl ?_
  refine hl_g rfl rfl (fun hg => (v_move rfl)) rfl ?_
  refine hl_g rfl rfl (fun hg => (v_geq (gv_ok rfl hg) (gv_ok rfl hg))) rfl ?_
  refine hl_g rfl rfl (fun hg => (v_move (gv_ok rfl hg))) rfl ?_
  refine hl_g rfl rfl (fun hg => (v_move rfl)) rfl ?_
  refine hl_g rfl rfl (fun hg => (v_leq (gv_ok rfl hg) rfl)) rfl ?_
  refine hl_g rfl rfl (fun hg => (v_and (gv_ok rfl hg) (gvgb_ok rfl hg))) rfl ?_
  refine hl_g rfl rfl (fun hg => (v_or (gv_ok rfl hg) (gvgb_ok rfl hg))) rfl ?_
  refine hl_v (v_and rfl rfl) rfl ?_
  refine hl_v (v_assign rfl) rfl ?_
  refine hl_nil ?_
  refine thenQ_n ?_
  refine hw_sub _ (ai_cons (t := 4) rfl ai_nil) ?_
  refine hw_ret ?_
  refine ret_i _ (ra_t rfl ra_nil) ?_
  exact ⟨((decide (0 ≤ least) && decide (least ≤ 64)) && ((decide (most = (-1)) && decide (least ≤ 1)) || (decide (least ≤ most) && decide (most ≤ 64)))), h, rfl, rfl⟩
theorem rTimes_spec {a0 : Int} {a1 : Int}  {L : List As} {H : Heap} {Z : Nat → Prop} (hO : Own H Z (L))  : HC Try.prog 57 [.int .i64 a0, .int .i64 a1] H (fun v H' => v = .bool (rTimes a0 a1) ∧ H' = H) := by
  refine (rTimes_ok (least := a0) (most := a1) (@rTimes_wp a0 a1) hO).mono ?_
  rintro v H' ⟨r0, hq, hv, hH⟩
  obtain rfl := hq
  exact ⟨hv, hH⟩

end Go.Proofs.Ytbaciogbhjcdoaa
