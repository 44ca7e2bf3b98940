/- Walks: functions do as their plain formulas say. No condition. -/
import Derived.Test.YtbaciogbhjcdoaaG10a
set_option linter.unusedVariables false
set_option linter.unusedSimpArgs false
set_option maxRecDepth 20000
namespace Go.Proofs.Ytbaciogbhjcdoaa
open Go.Proofs
theorem nfaAlt_ok {a : GNfa} {b : GNfa} {v_1 : Value} {v_3 : Value} {v_5 : Value} {v_7 : Value} {v_9 : Value} {v_11 : Value} {Q : GNfa → Int → Prop} {H : Heap} {Z : Nat → Prop} {L : List As} (h : wp_nfaAlt a b Q) (hO : Own H Z (L)) (hf_2 : Fz fInt.rep L v_1 a.Starts) (hf_4 : Fz fInt.rep L v_3 a.Ends) (hf_6 : Fz fGEdge.rep L v_5 a.Edges) (hf_8 : Fz fInt.rep L v_7 b.Starts) (hf_10 : Fz fInt.rep L v_9 b.Ends) (hf_12 : Fz fGEdge.rep L v_11 b.Edges) : HC Try.prog 18 [.agg [.int .i64 a.States, v_1, v_3, v_5].toArray, .agg [.int .i64 b.States, v_7, v_9, v_11].toArray] H (fun v H' => ∃ (Z' : Nat → Prop) (r0 : GNfa) (r1 : Int) (v_13 : Value) (v_14 : Value) (v_15 : Value), (∀ b, Z b → Z' b) ∧ Q r0 r1 ∧ v = .tuple #[.agg [.int .i64 r0.States, v_13, v_14, v_15].toArray, .int .i64 r1] ∧ Own H' Z' (own fInt 3 v_13 r0.Starts :: own fInt 3 v_14 r0.Ends :: own fGEdge 69 v_15 r0.Edges :: L)) := by
  have hZ : ∀ b, Z b → Z b := fun _ h => h
  replace hO := Fz.item hf_2 hO
  replace hO := Fz.items [_] hf_4 hO
  replace hO := Fz.items [_, _] hf_6 hO
  replace hO := Fz.items [_, _, _] hf_8 hO
  replace hO := Fz.items [_, _, _, _] hf_10 hO
  replace hO := Fz.items [_, _, _, _, _] hf_12 hO
  unfold wp_nfaAlt at h
  refine hc_of_hw (N := 49) (rs := [(.cell 4 25), (.tmp 5)]) Try.func18 rfl rfl rfl rfl ?_
  refine hw_seq ?_
  refine hw_region ?_
  refine hl_h (o_box (cs := [.int .i64 a.States, v_1, v_3, v_5]) hO rfl rfl) rfl ?_
  rintro _ H_16 ⟨b_17, rfl, hO⟩
  replace hO : Own H_16 Z (box b_17 [.int .i64 a.States, v_1, v_3, v_5] 25 :: fz fGEdge.rep v_11 b.Edges :: fz fInt.rep v_9 b.Ends :: fz fInt.rep v_7 b.Starts :: fz fGEdge.rep v_5 a.Edges :: fz fInt.rep v_3 a.Ends :: fz fInt.rep v_1 a.Starts :: L) := hO
  refine hl_h (o_box (cs := [.int .i64 b.States, v_7, v_9, v_11]) hO rfl rfl) rfl ?_
  rintro _ H_18 ⟨b_19, rfl, hO⟩
  replace hO : Own H_18 Z (box b_19 [.int .i64 b.States, v_7, v_9, v_11] 25 :: box b_17 [.int .i64 a.States, v_1, v_3, v_5] 25 :: fz fGEdge.rep v_11 b.Edges :: fz fInt.rep v_9 b.Ends :: fz fInt.rep v_7 b.Starts :: fz fGEdge.rep v_5 a.Edges :: fz fInt.rep v_3 a.Ends :: fz fInt.rep v_1 a.Starts :: L) := hO
  refine hl_h (o_alloc (cs := [.int .i64 (0 : Int), .slice none 0 0, .slice none 0 0, .slice none 0 0]) hO Try.zeroValue25 rfl) rfl ?_
  rintro _ H_20 ⟨b_21, rfl, hO⟩
  replace hO : Own H_20 Z (box b_21 [.int .i64 (0 : Int), .slice none 0 0, .slice none 0 0, .slice none 0 0] 25 :: box b_19 [.int .i64 b.States, v_7, v_9, v_11] 25 :: box b_17 [.int .i64 a.States, v_1, v_3, v_5] 25 :: fz fGEdge.rep v_11 b.Edges :: fz fInt.rep v_9 b.Ends :: fz fInt.rep v_7 b.Starts :: fz fGEdge.rep v_5 a.Edges :: fz fInt.rep v_3 a.Ends :: fz fInt.rep v_1 a.Starts :: L) := hO
  refine hl_v (v_assign rfl) rfl ?_
  refine hl_nil ?_
  refine thenQ_n ?_
  refine hw_sub _ (ai_cons (t := 2) rfl (ai_cons (t := 3) rfl (ai_cons (t := 4) rfl ai_nil))) ?_
  refine hw_seq ?_
  refine hw_seq ?_
  refine hw_region ?_
  refine hl_v (v_loadA Try.isAgg25 Try.sizeOf25 rfl (Blk.at0 (hO.box 2 rfl)) rfl) rfl ?_
  refine hl_v (v_loadA Try.isAgg25 Try.sizeOf25 rfl (Blk.at0 (hO.box 1 rfl)) rfl) rfl ?_
  have hsh_24 := Sl.sh (hO.fsl 8 rfl)
  have hsh_25 := Sl.sh (hO.fsl 7 rfl)
  have hsh_26 := Sl.sh (hO.fsl 6 rfl)
  have hsh_27 := Sl.sh (hO.fsl 5 rfl)
  have hsh_28 := Sl.sh (hO.fsl 4 rfl)
  have hsh_29 := Sl.sh (hO.fsl 3 rfl)
  refine hl_h (o_litR (r := rGNfa) (l := [a, b]) (xs := [.tmp 8, .tmp 9]) (css := [[.int .i64 a.States, v_1, v_3, v_5], [.int .i64 b.States, v_7, v_9, v_11]]) hO Try.underlying87 Try.sizeOf25 Try.zeroValue25 rfl (evs_cons rfl (evs_cons rfl evs_nil)) rfl rfl rfl (by obtain ⟨_, _, _, hw⟩ := hsh_24; (try subst hw); obtain ⟨_, _, _, hw⟩ := hsh_25; (try subst hw); obtain ⟨_, _, _, hw⟩ := hsh_26; (try subst hw); obtain ⟨_, _, _, hw⟩ := hsh_27; (try subst hw); obtain ⟨_, _, _, hw⟩ := hsh_28; (try subst hw); obtain ⟨_, _, _, hw⟩ := hsh_29; (try subst hw); rfl) rfl (relAll_cons ⟨_, _, _, rfl, (hO.fsl 8 rfl), (hO.fsl 7 rfl), (hO.fsl 6 rfl)⟩ (relAll_cons ⟨_, _, _, rfl, (hO.fsl 5 rfl), (hO.fsl 4 rfl), (hO.fsl 3 rfl)⟩ relAll_nil))) rfl ?_
  rintro v_23 H_22 hO
  replace hO : Own H_22 Z (ownR rGNfa 25 v_23 [a, b] :: box b_21 [.int .i64 (0 : Int), .slice none 0 0, .slice none 0 0, .slice none 0 0] 25 :: box b_19 [.int .i64 b.States, v_7, v_9, v_11] 25 :: box b_17 [.int .i64 a.States, v_1, v_3, v_5] 25 :: fz fGEdge.rep v_11 b.Edges :: fz fInt.rep v_9 b.Ends :: fz fInt.rep v_7 b.Starts :: fz fGEdge.rep v_5 a.Edges :: fz fInt.rep v_3 a.Ends :: fz fInt.rep v_1 a.Starts :: L) := hO
  obtain ⟨Z_31, hz_30, hO⟩ := hO.freezeR (i := 0) rfl
  replace hZ := fun b hb => hz_30 b (hZ b hb)
  replace hO : Own H_22 Z_31 (fz rGNfa v_23 [a, b] :: box b_21 [.int .i64 (0 : Int), .slice none 0 0, .slice none 0 0, .slice none 0 0] 25 :: box b_19 [.int .i64 b.States, v_7, v_9, v_11] 25 :: box b_17 [.int .i64 a.States, v_1, v_3, v_5] 25 :: fz fGEdge.rep v_11 b.Edges :: fz fInt.rep v_9 b.Ends :: fz fInt.rep v_7 b.Starts :: fz fGEdge.rep v_5 a.Edges :: fz fInt.rep v_3 a.Ends :: fz fInt.rep v_1 a.Starts :: L) := hO
  refine hl_h (h_call Try.call35 (evs_cons rfl evs_nil) (nfaWrong_spec (a0 := [a, b]) hO (Fz.of (i := 0) rfl))) rfl ?_
  rintro vv H_32 ⟨Z_33, hz_34, hv, hO⟩
  obtain rfl := hv.symm
  replace hZ := fun b hb => hz_34 b (hZ b hb)
  replace hO : Own H_32 Z_33 (fz rGNfa v_23 [a, b] :: box b_21 [.int .i64 (0 : Int), .slice none 0 0, .slice none 0 0, .slice none 0 0] 25 :: box b_19 [.int .i64 b.States, v_7, v_9, v_11] 25 :: box b_17 [.int .i64 a.States, v_1, v_3, v_5] 25 :: fz fGEdge.rep v_11 b.Edges :: fz fInt.rep v_9 b.Ends :: fz fInt.rep v_7 b.Starts :: fz fGEdge.rep v_5 a.Edges :: fz fInt.rep v_3 a.Ends :: fz fInt.rep v_1 a.Starts :: L) := hO
  refine hl_nil ?_
  refine thenQ_n ?_
  refine hw_sub _ (ai_cons (t := 2) rfl (ai_cons (t := 3) rfl (ai_cons (t := 4) rfl (ai_cons (t := 11) rfl ai_nil)))) ?_
  refine hw_cond rfl (fun hc_35 => ?_) (fun hc_35 => ?_)
  · replace h := ite_t h hc_35
    refine hw_seq ?_
    refine hw_region ?_
    refine hl_v (v_buildF (cs := [.int .i64 (0 : Int), .slice none 0 0, .slice none 0 0, .slice none 0 0]) (xs := []) (is := []) rfl evs_nil (fun w => by show _ = _; kernel_rfl)) rfl ?_
    refine hl_s (o_storeA (us := [.int .i64 (0 : Int), .slice none 0 0, .slice none 0 0, .slice none 0 0]) hO 1 rfl Try.sizeOf25 rfl rfl rfl rfl (by simp only [List.forall_mem_cons]; exact ⟨rfl, rfl, rfl, rfl, by simp⟩)) ?_
    rintro _ H_36 hO
    replace hO : Own H_36 Z_33 (fz rGNfa v_23 [a, b] :: box b_21 [.int .i64 (0 : Int), .slice none 0 0, .slice none 0 0, .slice none 0 0] 25 :: box b_19 [.int .i64 b.States, v_7, v_9, v_11] 25 :: box b_17 [.int .i64 a.States, v_1, v_3, v_5] 25 :: fz fGEdge.rep v_11 b.Edges :: fz fInt.rep v_9 b.Ends :: fz fInt.rep v_7 b.Starts :: fz fGEdge.rep v_5 a.Edges :: fz fInt.rep v_3 a.Ends :: fz fInt.rep v_1 a.Starts :: L) := hO
    refine hl_v (v_assign rfl) rfl ?_
    refine hl_nil ?_
    refine thenQ_n ?_
    refine hw_sub _ (ai_cons (t := 4) rfl (ai_cons (t := 5) rfl ai_nil)) ?_
    refine hw_ret ?_
    refine thenQ_r ?_
    replace hO : Own H_36 Z_33 (own fInt 3 (.slice none 0 0) [] :: fz rGNfa v_23 [a, b] :: box b_21 [.int .i64 (0 : Int), .slice none 0 0, .slice none 0 0, .slice none 0 0] 25 :: box b_19 [.int .i64 b.States, v_7, v_9, v_11] 25 :: box b_17 [.int .i64 a.States, v_1, v_3, v_5] 25 :: fz fGEdge.rep v_11 b.Edges :: fz fInt.rep v_9 b.Ends :: fz fInt.rep v_7 b.Starts :: fz fGEdge.rep v_5 a.Edges :: fz fInt.rep v_3 a.Ends :: fz fInt.rep v_1 a.Starts :: L) := hO.nil fInt 3
    replace hO : Own H_36 Z_33 (own fInt 3 (.slice none 0 0) [] :: own fInt 3 (.slice none 0 0) [] :: fz rGNfa v_23 [a, b] :: box b_21 [.int .i64 (0 : Int), .slice none 0 0, .slice none 0 0, .slice none 0 0] 25 :: box b_19 [.int .i64 b.States, v_7, v_9, v_11] 25 :: box b_17 [.int .i64 a.States, v_1, v_3, v_5] 25 :: fz fGEdge.rep v_11 b.Edges :: fz fInt.rep v_9 b.Ends :: fz fInt.rep v_7 b.Starts :: fz fGEdge.rep v_5 a.Edges :: fz fInt.rep v_3 a.Ends :: fz fInt.rep v_1 a.Starts :: L) := hO.nil fInt 3
    replace hO : Own H_36 Z_33 (own fGEdge 69 (.slice none 0 0) [] :: own fInt 3 (.slice none 0 0) [] :: own fInt 3 (.slice none 0 0) [] :: fz rGNfa v_23 [a, b] :: box b_21 [.int .i64 (0 : Int), .slice none 0 0, .slice none 0 0, .slice none 0 0] 25 :: box b_19 [.int .i64 b.States, v_7, v_9, v_11] 25 :: box b_17 [.int .i64 a.States, v_1, v_3, v_5] 25 :: fz fGEdge.rep v_11 b.Edges :: fz fInt.rep v_9 b.Ends :: fz fInt.rep v_7 b.Starts :: fz fGEdge.rep v_5 a.Edges :: fz fInt.rep v_3 a.Ends :: fz fInt.rep v_1 a.Starts :: L) := hO.nil fGEdge 69
    refine ret_i _ (ra_c rfl (fun w hw => run_loadVar_at (cs := [.int .i64 (0 : Int), .slice none 0 0, .slice none 0 0, .slice none 0 0]) Try.isAgg25 Try.sizeOf25 (Blk.at0 (hO.box 4 rfl)) rfl w hw) (ra_t rfl ra_nil)) ?_
    exact ⟨_, (⟨(0 : Int), [], [], []⟩ : GNfa), 1, .slice none 0 0, .slice none 0 0, .slice none 0 0, hZ, h, rfl, (Own.sel (Ls := [own fGEdge 69 (.slice none 0 0) [], own fInt 3 (.slice none 0 0) [], own fInt 3 (.slice none 0 0) [], fz rGNfa v_23 [a, b], box b_21 [.int .i64 (0 : Int), .slice none 0 0, .slice none 0 0, .slice none 0 0] 25, box b_19 [.int .i64 b.States, v_7, v_9, v_11] 25, box b_17 [.int .i64 a.States, v_1, v_3, v_5] 25, fz fGEdge.rep v_11 b.Edges, fz fInt.rep v_9 b.Ends, fz fInt.rep v_7 b.Starts, fz fGEdge.rep v_5 a.Edges, fz fInt.rep v_3 a.Ends, fz fInt.rep v_1 a.Starts]) (L := L) [2, 1, 0] rfl hO)⟩
  · replace h := ite_f h hc_35
    refine hw_skip ?_
    refine thenQ_n ?_
    refine hw_seq ?_
    refine hw_region ?_
    refine hl_v (v_fieldA Try.underlying25 rfl Try.sizeOf3 rfl) rfl ?_
    refine hl_v (v_load1 Try.isAgg3 rfl (Blk.cell (hO.box 3 rfl) rfl)) rfl ?_
    refine hl_v (v_assign rfl) rfl ?_
    refine hl_nil ?_
    refine thenQ_n ?_
    refine hw_sub _ (ai_cons (t := 2) rfl (ai_cons (t := 3) rfl (ai_cons (t := 4) rfl (ai_cons (t := 6) rfl ai_nil)))) ?_
    refine hw_seq ?_
    refine hw_held2 23 (fun H' => ∃ Z' : Nat → Prop, Own H' Z' (fz rGNfa v_23 [a, b] :: box b_21 [.int .i64 (0 : Int), .slice none 0 0, .slice none 0 0, .slice none 0 0] 25 :: box b_19 [.int .i64 b.States, v_7, v_9, v_11] 25 :: box b_17 [.int .i64 a.States, v_1, v_3, v_5] 25 :: fz fGEdge.rep v_11 b.Edges :: fz fInt.rep v_9 b.Ends :: fz fInt.rep v_7 b.Starts :: fz fGEdge.rep v_5 a.Edges :: fz fInt.rep v_3 a.Ends :: fz fInt.rep v_1 a.Starts :: L)) (.step 0 false (.step 1 false (.step 2 false (.step 3 false (.step 4 false (.step 5 false (.step 6 false (.step 7 false (.step 8 false (.step 12 false (.step 13 false (.step 14 false (.step 15 false (.step 16 false (.step 9 true (.step 10 true (.step 11 true (.step 17 true (.step 18 true (.step 19 true (.step 20 false (.step 21 false (.step 22 true .done))))))))))))))))))))))) (.step 23 true .done) Try.mixed (by kernel_rfl) ⟨_, hO⟩ ?_
    refine hd_v rfl (fun _ _ => (v_move rfl)) rfl ?_
    refine hd_v rfl (fun _ _ => (v_fieldA Try.underlying25 rfl Try.sizeOf3 rfl)) rfl ?_
    refine hd_v rfl (fun H' hS => by obtain ⟨Z', hO⟩ := hS; exact (v_load1 Try.isAgg3 rfl (Blk.cell (hO.box 2 rfl) rfl))) rfl ?_
    obtain ⟨hs_37, h⟩ := h
    refine hd_v rfl (fun _ _ => (v_add rfl rfl hs_37)) rfl ?_
    refine hd_v rfl (fun _ _ => (v_fieldA Try.underlying25 rfl Try.sizeOf22 rfl)) rfl ?_
    refine hd_v rfl (fun H' hS => by obtain ⟨Z', hO⟩ := hS; exact (v_load1 Try.isAgg22 rfl (Blk.cell (hO.box 3 rfl) rfl))) rfl ?_
    refine hd_v rfl (fun _ _ => (v_fieldA Try.underlying25 rfl Try.sizeOf22 rfl)) rfl ?_
    refine hd_v rfl (fun H' hS => by obtain ⟨Z', hO⟩ := hS; exact (v_load1 Try.isAgg22 rfl (Blk.cell (hO.box 2 rfl) rfl))) rfl ?_
    refine hd_v rfl (fun _ _ => (v_move rfl)) rfl ?_
    refine hd_v rfl (fun _ _ => (v_fieldA Try.underlying25 rfl Try.sizeOf22 rfl)) rfl ?_
    refine hd_v rfl (fun H' hS => by obtain ⟨Z', hO⟩ := hS; exact (v_load1 Try.isAgg22 rfl (Blk.cell (hO.box 3 rfl) rfl))) rfl ?_
    refine hd_v rfl (fun _ _ => (v_fieldA Try.underlying25 rfl Try.sizeOf22 rfl)) rfl ?_
    refine hd_v rfl (fun H' hS => by obtain ⟨Z', hO⟩ := hS; exact (v_load1 Try.isAgg22 rfl (Blk.cell (hO.box 2 rfl) rfl))) rfl ?_
    refine hd_v rfl (fun _ _ => (v_move rfl)) rfl ?_
    obtain ⟨hs_38, h⟩ := h
    refine hd_h (h_call Try.call45 (evs_cons rfl (evs_cons rfl evs_nil)) (nfaMore_spec (a0 := b.Starts) (a1 := a.States) hs_38 hO (Rd.of_fz (i := 6) rfl))) (by rintro vv H_40 ⟨Z_41, v_39, hz_42, hv, hO⟩; obtain rfl := hv.symm; replace hZ := fun b hb => hz_42 b (hZ b hb); exact ⟨_, (Own.sel (Ls := [own fInt 3 v_39 (b.Starts.map (· + a.States)), fz rGNfa v_23 [a, b], box b_21 [.int .i64 (0 : Int), .slice none 0 0, .slice none 0 0, .slice none 0 0] 25, box b_19 [.int .i64 b.States, v_7, v_9, v_11] 25, box b_17 [.int .i64 a.States, v_1, v_3, v_5] 25, fz fGEdge.rep v_11 b.Edges, fz fInt.rep v_9 b.Ends, fz fInt.rep v_7 b.Starts, fz fGEdge.rep v_5 a.Edges, fz fInt.rep v_3 a.Ends, fz fInt.rep v_1 a.Starts]) (L := L) [1, 2, 3, 4, 5, 6, 7, 8, 9, 10] rfl hO)⟩) rfl ?_
    rintro vv H_40 ⟨Z_41, v_39, hz_42, hv, hO⟩
    obtain rfl := hv.symm
    replace hZ := fun b hb => hz_42 b (hZ b hb)
    replace hO : Own H_40 Z_41 (own fInt 3 v_39 (b.Starts.map (· + a.States)) :: fz rGNfa v_23 [a, b] :: box b_21 [.int .i64 (0 : Int), .slice none 0 0, .slice none 0 0, .slice none 0 0] 25 :: box b_19 [.int .i64 b.States, v_7, v_9, v_11] 25 :: box b_17 [.int .i64 a.States, v_1, v_3, v_5] 25 :: fz fGEdge.rep v_11 b.Edges :: fz fInt.rep v_9 b.Ends :: fz fInt.rep v_7 b.Starts :: fz fGEdge.rep v_5 a.Edges :: fz fInt.rep v_3 a.Ends :: fz fInt.rep v_1 a.Starts :: L) := hO
    obtain ⟨Z_46, hz_45, hO⟩ := hO.freeze (i := 0) rfl
    replace hZ := fun b hb => hz_45 b (hZ b hb)
    replace hO : Own H_40 Z_46 (fz fInt.rep v_39 (b.Starts.map (· + a.States)) :: fz rGNfa v_23 [a, b] :: box b_21 [.int .i64 (0 : Int), .slice none 0 0, .slice none 0 0, .slice none 0 0] 25 :: box b_19 [.int .i64 b.States, v_7, v_9, v_11] 25 :: box b_17 [.int .i64 a.States, v_1, v_3, v_5] 25 :: fz fGEdge.rep v_11 b.Edges :: fz fInt.rep v_9 b.Ends :: fz fInt.rep v_7 b.Starts :: fz fGEdge.rep v_5 a.Edges :: fz fInt.rep v_3 a.Ends :: fz fInt.rep v_1 a.Starts :: L) := hO
    have hsh_47 := Sl.sh (hO.fsl 10 rfl)
    have hsh_48 := Sl.sh (hO.fsl 0 rfl)
    refine hd_h (o_litR (r := (Rep.sl fInt.rep)) (l := [a.Starts, (b.Starts.map (· + a.States))]) (xs := [.tmp 20, .tmp 24]) (css := [[v_1], [v_39]]) hO Try.underlying111 Try.sizeOf22 Try.zeroValue22 rfl (evs_cons rfl (evs_cons rfl evs_nil)) rfl rfl rfl (by obtain ⟨_, _, _, hw⟩ := hsh_47; (try subst hw); obtain ⟨_, _, _, hw⟩ := hsh_48; (try subst hw); rfl) rfl (relAll_cons ⟨_, rfl, (hO.fsl 10 rfl)⟩ (relAll_cons ⟨_, rfl, (hO.fsl 0 rfl)⟩ relAll_nil))) (by rintro v_44 H_43 hO; exact ⟨_, (Own.sel (Ls := [ownR (Rep.sl fInt.rep) 22 v_44 [a.Starts, (b.Starts.map (· + a.States))], fz fInt.rep v_39 (b.Starts.map (· + a.States)), fz rGNfa v_23 [a, b], box b_21 [.int .i64 (0 : Int), .slice none 0 0, .slice none 0 0, .slice none 0 0] 25, box b_19 [.int .i64 b.States, v_7, v_9, v_11] 25, box b_17 [.int .i64 a.States, v_1, v_3, v_5] 25, fz fGEdge.rep v_11 b.Edges, fz fInt.rep v_9 b.Ends, fz fInt.rep v_7 b.Starts, fz fGEdge.rep v_5 a.Edges, fz fInt.rep v_3 a.Ends, fz fInt.rep v_1 a.Starts]) (L := L) [2, 3, 4, 5, 6, 7, 8, 9, 10, 11] rfl hO)⟩) rfl ?_
    rintro v_44 H_43 hO
    replace hO : Own H_43 Z_46 (ownR (Rep.sl fInt.rep) 22 v_44 [a.Starts, (b.Starts.map (· + a.States))] :: fz fInt.rep v_39 (b.Starts.map (· + a.States)) :: fz rGNfa v_23 [a, b] :: box b_21 [.int .i64 (0 : Int), .slice none 0 0, .slice none 0 0, .slice none 0 0] 25 :: box b_19 [.int .i64 b.States, v_7, v_9, v_11] 25 :: box b_17 [.int .i64 a.States, v_1, v_3, v_5] 25 :: fz fGEdge.rep v_11 b.Edges :: fz fInt.rep v_9 b.Ends :: fz fInt.rep v_7 b.Starts :: fz fGEdge.rep v_5 a.Edges :: fz fInt.rep v_3 a.Ends :: fz fInt.rep v_1 a.Starts :: L) := hO
    obtain ⟨Z_50, hz_49, hO⟩ := hO.freezeR (i := 0) rfl
    replace hZ := fun b hb => hz_49 b (hZ b hb)
    replace hO : Own H_43 Z_50 (fz (Rep.sl fInt.rep) v_44 [a.Starts, (b.Starts.map (· + a.States))] :: fz fInt.rep v_39 (b.Starts.map (· + a.States)) :: fz rGNfa v_23 [a, b] :: box b_21 [.int .i64 (0 : Int), .slice none 0 0, .slice none 0 0, .slice none 0 0] 25 :: box b_19 [.int .i64 b.States, v_7, v_9, v_11] 25 :: box b_17 [.int .i64 a.States, v_1, v_3, v_5] 25 :: fz fGEdge.rep v_11 b.Edges :: fz fInt.rep v_9 b.Ends :: fz fInt.rep v_7 b.Starts :: fz fGEdge.rep v_5 a.Edges :: fz fInt.rep v_3 a.Ends :: fz fInt.rep v_1 a.Starts :: L) := hO
    obtain ⟨hs_51, h⟩ := h
    refine hd_h (h_call Try.call48 (evs_cons rfl evs_nil) (concatInt_spec (a0 := [a.Starts, (b.Starts.map (· + a.States))]) hs_51 hO (Fz.of (i := 0) rfl))) (by rintro vv H_53 ⟨Z_54, v_52, hz_55, hv, hO⟩; obtain rfl := hv.symm; replace hZ := fun b hb => hz_55 b (hZ b hb); exact ⟨_, (Own.sel (Ls := [own fInt 3 v_52 ([a.Starts, (b.Starts.map (· + a.States))].flatten), fz (Rep.sl fInt.rep) v_44 [a.Starts, (b.Starts.map (· + a.States))], fz fInt.rep v_39 (b.Starts.map (· + a.States)), fz rGNfa v_23 [a, b], box b_21 [.int .i64 (0 : Int), .slice none 0 0, .slice none 0 0, .slice none 0 0] 25, box b_19 [.int .i64 b.States, v_7, v_9, v_11] 25, box b_17 [.int .i64 a.States, v_1, v_3, v_5] 25, fz fGEdge.rep v_11 b.Edges, fz fInt.rep v_9 b.Ends, fz fInt.rep v_7 b.Starts, fz fGEdge.rep v_5 a.Edges, fz fInt.rep v_3 a.Ends, fz fInt.rep v_1 a.Starts]) (L := L) [3, 4, 5, 6, 7, 8, 9, 10, 11, 12] rfl hO)⟩) rfl ?_
    rintro vv H_53 ⟨Z_54, v_52, hz_55, hv, hO⟩
    obtain rfl := hv.symm
    replace hZ := fun b hb => hz_55 b (hZ b hb)
    replace hO : Own H_53 Z_54 (own fInt 3 v_52 ([a.Starts, (b.Starts.map (· + a.States))].flatten) :: fz (Rep.sl fInt.rep) v_44 [a.Starts, (b.Starts.map (· + a.States))] :: fz fInt.rep v_39 (b.Starts.map (· + a.States)) :: fz rGNfa v_23 [a, b] :: box b_21 [.int .i64 (0 : Int), .slice none 0 0, .slice none 0 0, .slice none 0 0] 25 :: box b_19 [.int .i64 b.States, v_7, v_9, v_11] 25 :: box b_17 [.int .i64 a.States, v_1, v_3, v_5] 25 :: fz fGEdge.rep v_11 b.Edges :: fz fInt.rep v_9 b.Ends :: fz fInt.rep v_7 b.Starts :: fz fGEdge.rep v_5 a.Edges :: fz fInt.rep v_3 a.Ends :: fz fInt.rep v_1 a.Starts :: L) := hO
    obtain ⟨hs_56, h⟩ := h
    refine hd_h (h_call Try.call45 (evs_cons rfl (evs_cons rfl evs_nil)) (nfaMore_spec (a0 := b.Ends) (a1 := a.States) hs_56 hO (Rd.of_fz (i := 8) rfl))) (by rintro vv H_58 ⟨Z_59, v_57, hz_60, hv, hO⟩; obtain rfl := hv.symm; replace hZ := fun b hb => hz_60 b (hZ b hb); exact ⟨_, (Own.sel (Ls := [own fInt 3 v_57 (b.Ends.map (· + a.States)), own fInt 3 v_52 ([a.Starts, (b.Starts.map (· + a.States))].flatten), fz (Rep.sl fInt.rep) v_44 [a.Starts, (b.Starts.map (· + a.States))], fz fInt.rep v_39 (b.Starts.map (· + a.States)), fz rGNfa v_23 [a, b], box b_21 [.int .i64 (0 : Int), .slice none 0 0, .slice none 0 0, .slice none 0 0] 25, box b_19 [.int .i64 b.States, v_7, v_9, v_11] 25, box b_17 [.int .i64 a.States, v_1, v_3, v_5] 25, fz fGEdge.rep v_11 b.Edges, fz fInt.rep v_9 b.Ends, fz fInt.rep v_7 b.Starts, fz fGEdge.rep v_5 a.Edges, fz fInt.rep v_3 a.Ends, fz fInt.rep v_1 a.Starts]) (L := L) [4, 5, 6, 7, 8, 9, 10, 11, 12, 13] rfl hO)⟩) rfl ?_
    rintro vv H_58 ⟨Z_59, v_57, hz_60, hv, hO⟩
    obtain rfl := hv.symm
    replace hZ := fun b hb => hz_60 b (hZ b hb)
    replace hO : Own H_58 Z_59 (own fInt 3 v_57 (b.Ends.map (· + a.States)) :: own fInt 3 v_52 ([a.Starts, (b.Starts.map (· + a.States))].flatten) :: fz (Rep.sl fInt.rep) v_44 [a.Starts, (b.Starts.map (· + a.States))] :: fz fInt.rep v_39 (b.Starts.map (· + a.States)) :: fz rGNfa v_23 [a, b] :: box b_21 [.int .i64 (0 : Int), .slice none 0 0, .slice none 0 0, .slice none 0 0] 25 :: box b_19 [.int .i64 b.States, v_7, v_9, v_11] 25 :: box b_17 [.int .i64 a.States, v_1, v_3, v_5] 25 :: fz fGEdge.rep v_11 b.Edges :: fz fInt.rep v_9 b.Ends :: fz fInt.rep v_7 b.Starts :: fz fGEdge.rep v_5 a.Edges :: fz fInt.rep v_3 a.Ends :: fz fInt.rep v_1 a.Starts :: L) := hO
    obtain ⟨Z_64, hz_63, hO⟩ := hO.freeze (i := 0) rfl
    replace hZ := fun b hb => hz_63 b (hZ b hb)
    replace hO : Own H_58 Z_64 (fz fInt.rep v_57 (b.Ends.map (· + a.States)) :: own fInt 3 v_52 ([a.Starts, (b.Starts.map (· + a.States))].flatten) :: fz (Rep.sl fInt.rep) v_44 [a.Starts, (b.Starts.map (· + a.States))] :: fz fInt.rep v_39 (b.Starts.map (· + a.States)) :: fz rGNfa v_23 [a, b] :: box b_21 [.int .i64 (0 : Int), .slice none 0 0, .slice none 0 0, .slice none 0 0] 25 :: box b_19 [.int .i64 b.States, v_7, v_9, v_11] 25 :: box b_17 [.int .i64 a.States, v_1, v_3, v_5] 25 :: fz fGEdge.rep v_11 b.Edges :: fz fInt.rep v_9 b.Ends :: fz fInt.rep v_7 b.Starts :: fz fGEdge.rep v_5 a.Edges :: fz fInt.rep v_3 a.Ends :: fz fInt.rep v_1 a.Starts :: L) := hO
    have hsh_65 := Sl.sh (hO.fsl 12 rfl)
    have hsh_66 := Sl.sh (hO.fsl 0 rfl)
    refine hd_h (o_litR (r := (Rep.sl fInt.rep)) (l := [a.Ends, (b.Ends.map (· + a.States))]) (xs := [.tmp 28, .tmp 32]) (css := [[v_3], [v_57]]) hO Try.underlying111 Try.sizeOf22 Try.zeroValue22 rfl (evs_cons rfl (evs_cons rfl evs_nil)) rfl rfl rfl (by obtain ⟨_, _, _, hw⟩ := hsh_65; (try subst hw); obtain ⟨_, _, _, hw⟩ := hsh_66; (try subst hw); rfl) rfl (relAll_cons ⟨_, rfl, (hO.fsl 12 rfl)⟩ (relAll_cons ⟨_, rfl, (hO.fsl 0 rfl)⟩ relAll_nil))) (by rintro v_62 H_61 hO; exact ⟨_, (Own.sel (Ls := [ownR (Rep.sl fInt.rep) 22 v_62 [a.Ends, (b.Ends.map (· + a.States))], fz fInt.rep v_57 (b.Ends.map (· + a.States)), own fInt 3 v_52 ([a.Starts, (b.Starts.map (· + a.States))].flatten), fz (Rep.sl fInt.rep) v_44 [a.Starts, (b.Starts.map (· + a.States))], fz fInt.rep v_39 (b.Starts.map (· + a.States)), fz rGNfa v_23 [a, b], box b_21 [.int .i64 (0 : Int), .slice none 0 0, .slice none 0 0, .slice none 0 0] 25, box b_19 [.int .i64 b.States, v_7, v_9, v_11] 25, box b_17 [.int .i64 a.States, v_1, v_3, v_5] 25, fz fGEdge.rep v_11 b.Edges, fz fInt.rep v_9 b.Ends, fz fInt.rep v_7 b.Starts, fz fGEdge.rep v_5 a.Edges, fz fInt.rep v_3 a.Ends, fz fInt.rep v_1 a.Starts]) (L := L) [5, 6, 7, 8, 9, 10, 11, 12, 13, 14] rfl hO)⟩) rfl ?_
    rintro v_62 H_61 hO
    replace hO : Own H_61 Z_64 (ownR (Rep.sl fInt.rep) 22 v_62 [a.Ends, (b.Ends.map (· + a.States))] :: fz fInt.rep v_57 (b.Ends.map (· + a.States)) :: own fInt 3 v_52 ([a.Starts, (b.Starts.map (· + a.States))].flatten) :: fz (Rep.sl fInt.rep) v_44 [a.Starts, (b.Starts.map (· + a.States))] :: fz fInt.rep v_39 (b.Starts.map (· + a.States)) :: fz rGNfa v_23 [a, b] :: box b_21 [.int .i64 (0 : Int), .slice none 0 0, .slice none 0 0, .slice none 0 0] 25 :: box b_19 [.int .i64 b.States, v_7, v_9, v_11] 25 :: box b_17 [.int .i64 a.States, v_1, v_3, v_5] 25 :: fz fGEdge.rep v_11 b.Edges :: fz fInt.rep v_9 b.Ends :: fz fInt.rep v_7 b.Starts :: fz fGEdge.rep v_5 a.Edges :: fz fInt.rep v_3 a.Ends :: fz fInt.rep v_1 a.Starts :: L) := hO
    obtain ⟨Z_68, hz_67, hO⟩ := hO.freezeR (i := 0) rfl
    replace hZ := fun b hb => hz_67 b (hZ b hb)
    replace hO : Own H_61 Z_68 (fz (Rep.sl fInt.rep) v_62 [a.Ends, (b.Ends.map (· + a.States))] :: fz fInt.rep v_57 (b.Ends.map (· + a.States)) :: own fInt 3 v_52 ([a.Starts, (b.Starts.map (· + a.States))].flatten) :: fz (Rep.sl fInt.rep) v_44 [a.Starts, (b.Starts.map (· + a.States))] :: fz fInt.rep v_39 (b.Starts.map (· + a.States)) :: fz rGNfa v_23 [a, b] :: box b_21 [.int .i64 (0 : Int), .slice none 0 0, .slice none 0 0, .slice none 0 0] 25 :: box b_19 [.int .i64 b.States, v_7, v_9, v_11] 25 :: box b_17 [.int .i64 a.States, v_1, v_3, v_5] 25 :: fz fGEdge.rep v_11 b.Edges :: fz fInt.rep v_9 b.Ends :: fz fInt.rep v_7 b.Starts :: fz fGEdge.rep v_5 a.Edges :: fz fInt.rep v_3 a.Ends :: fz fInt.rep v_1 a.Starts :: L) := hO
    obtain ⟨hs_69, h⟩ := h
    refine hd_h (h_call Try.call48 (evs_cons rfl evs_nil) (concatInt_spec (a0 := [a.Ends, (b.Ends.map (· + a.States))]) hs_69 hO (Fz.of (i := 0) rfl))) (by rintro vv H_71 ⟨Z_72, v_70, hz_73, hv, hO⟩; obtain rfl := hv.symm; replace hZ := fun b hb => hz_73 b (hZ b hb); exact ⟨_, (Own.sel (Ls := [own fInt 3 v_70 ([a.Ends, (b.Ends.map (· + a.States))].flatten), fz (Rep.sl fInt.rep) v_62 [a.Ends, (b.Ends.map (· + a.States))], fz fInt.rep v_57 (b.Ends.map (· + a.States)), own fInt 3 v_52 ([a.Starts, (b.Starts.map (· + a.States))].flatten), fz (Rep.sl fInt.rep) v_44 [a.Starts, (b.Starts.map (· + a.States))], fz fInt.rep v_39 (b.Starts.map (· + a.States)), fz rGNfa v_23 [a, b], box b_21 [.int .i64 (0 : Int), .slice none 0 0, .slice none 0 0, .slice none 0 0] 25, box b_19 [.int .i64 b.States, v_7, v_9, v_11] 25, box b_17 [.int .i64 a.States, v_1, v_3, v_5] 25, fz fGEdge.rep v_11 b.Edges, fz fInt.rep v_9 b.Ends, fz fInt.rep v_7 b.Starts, fz fGEdge.rep v_5 a.Edges, fz fInt.rep v_3 a.Ends, fz fInt.rep v_1 a.Starts]) (L := L) [6, 7, 8, 9, 10, 11, 12, 13, 14, 15] rfl hO)⟩) rfl ?_
    rintro vv H_71 ⟨Z_72, v_70, hz_73, hv, hO⟩
    obtain rfl := hv.symm
    replace hZ := fun b hb => hz_73 b (hZ b hb)
    replace hO : Own H_71 Z_72 (own fInt 3 v_70 ([a.Ends, (b.Ends.map (· + a.States))].flatten) :: fz (Rep.sl fInt.rep) v_62 [a.Ends, (b.Ends.map (· + a.States))] :: fz fInt.rep v_57 (b.Ends.map (· + a.States)) :: own fInt 3 v_52 ([a.Starts, (b.Starts.map (· + a.States))].flatten) :: fz (Rep.sl fInt.rep) v_44 [a.Starts, (b.Starts.map (· + a.States))] :: fz fInt.rep v_39 (b.Starts.map (· + a.States)) :: fz rGNfa v_23 [a, b] :: box b_21 [.int .i64 (0 : Int), .slice none 0 0, .slice none 0 0, .slice none 0 0] 25 :: box b_19 [.int .i64 b.States, v_7, v_9, v_11] 25 :: box b_17 [.int .i64 a.States, v_1, v_3, v_5] 25 :: fz fGEdge.rep v_11 b.Edges :: fz fInt.rep v_9 b.Ends :: fz fInt.rep v_7 b.Starts :: fz fGEdge.rep v_5 a.Edges :: fz fInt.rep v_3 a.Ends :: fz fInt.rep v_1 a.Starts :: L) := hO
    have hsh_74 := Sl.sh (hO.osl 3 rfl)
    have hsh_75 := Sl.sh (hO.osl 0 rfl)
    refine hd_v rfl (fun _ _ => (v_buildF (cs := [.int .i64 (a.States + b.States), v_52, v_70, .slice none 0 0]) (xs := [.tmp 18, .tmp 26, .tmp 34]) (is := [0, 1, 2]) rfl (evs_cons rfl (evs_cons rfl (evs_cons rfl evs_nil))) (fun w => by obtain ⟨_, _, _, hw⟩ := hsh_74; (try subst hw); obtain ⟨_, _, _, hw⟩ := hsh_75; (try subst hw); show _ = _; kernel_rfl))) rfl ?_
    have hsh_76 := Sl.sh (hO.osl 3 rfl)
    have hsh_77 := Sl.sh (hO.osl 0 rfl)
    refine hd_v rfl (fun _ _ => (v_buildF (cs := [.int .i64 (a.States + b.States), v_52, v_70, .slice none 0 0, .bool false]) (xs := [.tmp 35]) (is := [0]) rfl (evs_cons rfl evs_nil) (fun w => by obtain ⟨_, _, _, hw⟩ := hsh_76; (try subst hw); obtain ⟨_, _, _, hw⟩ := hsh_77; (try subst hw); show _ = _; kernel_rfl))) rfl ?_
    refine hd_h (o_box (cs := [.int .i64 (a.States + b.States), v_52, v_70, .slice none 0 0, .bool false]) hO rfl rfl) (by rintro _ H_78 ⟨b_79, rfl, hO⟩; exact ⟨_, (Own.sel (Ls := [box b_79 [.int .i64 (a.States + b.States), v_52, v_70, .slice none 0 0, .bool false] 77, own fInt 3 v_70 ([a.Ends, (b.Ends.map (· + a.States))].flatten), fz (Rep.sl fInt.rep) v_62 [a.Ends, (b.Ends.map (· + a.States))], fz fInt.rep v_57 (b.Ends.map (· + a.States)), own fInt 3 v_52 ([a.Starts, (b.Starts.map (· + a.States))].flatten), fz (Rep.sl fInt.rep) v_44 [a.Starts, (b.Starts.map (· + a.States))], fz fInt.rep v_39 (b.Starts.map (· + a.States)), fz rGNfa v_23 [a, b], box b_21 [.int .i64 (0 : Int), .slice none 0 0, .slice none 0 0, .slice none 0 0] 25, box b_19 [.int .i64 b.States, v_7, v_9, v_11] 25, box b_17 [.int .i64 a.States, v_1, v_3, v_5] 25, fz fGEdge.rep v_11 b.Edges, fz fInt.rep v_9 b.Ends, fz fInt.rep v_7 b.Starts, fz fGEdge.rep v_5 a.Edges, fz fInt.rep v_3 a.Ends, fz fInt.rep v_1 a.Starts]) (L := L) [7, 8, 9, 10, 11, 12, 13, 14, 15, 16] rfl hO)⟩) rfl ?_
    rintro _ H_78 ⟨b_79, rfl, hO⟩
    replace hO : Own H_78 Z_72 (box b_79 [.int .i64 (a.States + b.States), v_52, v_70, .slice none 0 0, .bool false] 77 :: own fInt 3 v_70 ([a.Ends, (b.Ends.map (· + a.States))].flatten) :: fz (Rep.sl fInt.rep) v_62 [a.Ends, (b.Ends.map (· + a.States))] :: fz fInt.rep v_57 (b.Ends.map (· + a.States)) :: own fInt 3 v_52 ([a.Starts, (b.Starts.map (· + a.States))].flatten) :: fz (Rep.sl fInt.rep) v_44 [a.Starts, (b.Starts.map (· + a.States))] :: fz fInt.rep v_39 (b.Starts.map (· + a.States)) :: fz rGNfa v_23 [a, b] :: box b_21 [.int .i64 (0 : Int), .slice none 0 0, .slice none 0 0, .slice none 0 0] 25 :: box b_19 [.int .i64 b.States, v_7, v_9, v_11] 25 :: box b_17 [.int .i64 a.States, v_1, v_3, v_5] 25 :: fz fGEdge.rep v_11 b.Edges :: fz fInt.rep v_9 b.Ends :: fz fInt.rep v_7 b.Starts :: fz fGEdge.rep v_5 a.Edges :: fz fInt.rep v_3 a.Ends :: fz fInt.rep v_1 a.Starts :: L) := hO
    refine hd_nil ?_
    refine hd_h (OpV.toH (v_assign rfl)) (fun _ _ hR => trivial) rfl ?_
    rintro vv HH ⟨hvv, hHH⟩
    obtain rfl := hvv.symm
    obtain rfl := hHH.symm
    refine hd_nil ?_
    refine thenQ_n ?_
    refine hw_sub _ (ai_cons (t := 2) rfl (ai_cons (t := 3) rfl (ai_cons (t := 4) rfl (ai_cons (t := 6) rfl (ai_cons (t := 7) rfl ai_nil))))) ?_
    refine hw_seq ?_
    refine hw_region ?_
    refine hl_v (v_move rfl) rfl ?_
    refine hl_v (v_loadA Try.isAgg25 Try.sizeOf25 rfl (Blk.at0 (hO.box 10 rfl)) rfl) rfl ?_
    replace hO : Own H_78 Z_72 (own fGEdge 69 (.slice none 0 0) [] :: box b_79 [.int .i64 (a.States + b.States), v_52, v_70, .slice none 0 0, .bool false] 77 :: own fInt 3 v_70 ([a.Ends, (b.Ends.map (· + a.States))].flatten) :: fz (Rep.sl fInt.rep) v_62 [a.Ends, (b.Ends.map (· + a.States))] :: fz fInt.rep v_57 (b.Ends.map (· + a.States)) :: own fInt 3 v_52 ([a.Starts, (b.Starts.map (· + a.States))].flatten) :: fz (Rep.sl fInt.rep) v_44 [a.Starts, (b.Starts.map (· + a.States))] :: fz fInt.rep v_39 (b.Starts.map (· + a.States)) :: fz rGNfa v_23 [a, b] :: box b_21 [.int .i64 (0 : Int), .slice none 0 0, .slice none 0 0, .slice none 0 0] 25 :: box b_19 [.int .i64 b.States, v_7, v_9, v_11] 25 :: box b_17 [.int .i64 a.States, v_1, v_3, v_5] 25 :: fz fGEdge.rep v_11 b.Edges :: fz fInt.rep v_9 b.Ends :: fz fInt.rep v_7 b.Starts :: fz fGEdge.rep v_5 a.Edges :: fz fInt.rep v_3 a.Ends :: fz fInt.rep v_1 a.Starts :: L) := hO.nil fGEdge 69
    obtain ⟨hs_80, h⟩ := h
    refine hl_h (h_call Try.call49 (evs_cons rfl (evs_cons rfl (evs_cons (show _ = some (.int .i64 0) from rfl) evs_nil))) (nbPut_spec (a0 := (⟨(⟨(a.States + b.States), [a.Starts, (b.Starts.map (· + a.States))].flatten, [a.Ends, (b.Ends.map (· + a.States))].flatten, []⟩ : GNfa), false⟩ : Gnfa_builder)) (a1 := a) (a2 := 0) (L := fz (Rep.sl fInt.rep) v_62 [a.Ends, (b.Ends.map (· + a.States))] :: fz fInt.rep v_57 (b.Ends.map (· + a.States)) :: fz (Rep.sl fInt.rep) v_44 [a.Starts, (b.Starts.map (· + a.States))] :: fz fInt.rep v_39 (b.Starts.map (· + a.States)) :: fz rGNfa v_23 [a, b] :: box b_21 [.int .i64 (0 : Int), .slice none 0 0, .slice none 0 0, .slice none 0 0] 25 :: box b_19 [.int .i64 b.States, v_7, v_9, v_11] 25 :: box b_17 [.int .i64 a.States, v_1, v_3, v_5] 25 :: fz fGEdge.rep v_11 b.Edges :: fz fInt.rep v_9 b.Ends :: fz fInt.rep v_7 b.Starts :: fz fGEdge.rep v_5 a.Edges :: fz fInt.rep v_3 a.Ends :: fz fInt.rep v_1 a.Starts :: L) hs_80 (Own.sel (Ls := [own fGEdge 69 (.slice none 0 0) [], box b_79 [.int .i64 (a.States + b.States), v_52, v_70, .slice none 0 0, .bool false] 77, own fInt 3 v_70 ([a.Ends, (b.Ends.map (· + a.States))].flatten), fz (Rep.sl fInt.rep) v_62 [a.Ends, (b.Ends.map (· + a.States))], fz fInt.rep v_57 (b.Ends.map (· + a.States)), own fInt 3 v_52 ([a.Starts, (b.Starts.map (· + a.States))].flatten), fz (Rep.sl fInt.rep) v_44 [a.Starts, (b.Starts.map (· + a.States))], fz fInt.rep v_39 (b.Starts.map (· + a.States)), fz rGNfa v_23 [a, b], box b_21 [.int .i64 (0 : Int), .slice none 0 0, .slice none 0 0, .slice none 0 0] 25, box b_19 [.int .i64 b.States, v_7, v_9, v_11] 25, box b_17 [.int .i64 a.States, v_1, v_3, v_5] 25, fz fGEdge.rep v_11 b.Edges, fz fInt.rep v_9 b.Ends, fz fInt.rep v_7 b.Starts, fz fGEdge.rep v_5 a.Edges, fz fInt.rep v_3 a.Ends, fz fInt.rep v_1 a.Starts]) (L := L) [1, 5, 2, 0, 3, 4, 6, 7, 8, 9, 10, 11, 12, 13, 14, 15, 16, 17] rfl hO) (Fz.of (i := 13) rfl) (Fz.of (i := 12) rfl) (Fz.of (i := 11) rfl))) rfl ?_
    rintro vv H_81 ⟨Z_82, v_84, v_85, v_86, hz_83, hv, hO⟩
    obtain rfl := hv.symm
    replace hZ := fun b hb => hz_83 b (hZ b hb)
    replace hO : Own H_81 Z_82 (box b_79 [.int .i64 (((nbPut (⟨(⟨(a.States + b.States), [a.Starts, (b.Starts.map (· + a.States))].flatten, [a.Ends, (b.Ends.map (· + a.States))].flatten, []⟩ : GNfa), false⟩ : Gnfa_builder) a 0).Nfa).States), v_84, v_85, v_86, .bool ((nbPut (⟨(⟨(a.States + b.States), [a.Starts, (b.Starts.map (· + a.States))].flatten, [a.Ends, (b.Ends.map (· + a.States))].flatten, []⟩ : GNfa), false⟩ : Gnfa_builder) a 0).full)] 77 :: own fInt 3 v_84 (((nbPut (⟨(⟨(a.States + b.States), [a.Starts, (b.Starts.map (· + a.States))].flatten, [a.Ends, (b.Ends.map (· + a.States))].flatten, []⟩ : GNfa), false⟩ : Gnfa_builder) a 0).Nfa).Starts) :: own fInt 3 v_85 (((nbPut (⟨(⟨(a.States + b.States), [a.Starts, (b.Starts.map (· + a.States))].flatten, [a.Ends, (b.Ends.map (· + a.States))].flatten, []⟩ : GNfa), false⟩ : Gnfa_builder) a 0).Nfa).Ends) :: own fGEdge 69 v_86 (((nbPut (⟨(⟨(a.States + b.States), [a.Starts, (b.Starts.map (· + a.States))].flatten, [a.Ends, (b.Ends.map (· + a.States))].flatten, []⟩ : GNfa), false⟩ : Gnfa_builder) a 0).Nfa).Edges) :: fz (Rep.sl fInt.rep) v_62 [a.Ends, (b.Ends.map (· + a.States))] :: fz fInt.rep v_57 (b.Ends.map (· + a.States)) :: fz (Rep.sl fInt.rep) v_44 [a.Starts, (b.Starts.map (· + a.States))] :: fz fInt.rep v_39 (b.Starts.map (· + a.States)) :: fz rGNfa v_23 [a, b] :: box b_21 [.int .i64 (0 : Int), .slice none 0 0, .slice none 0 0, .slice none 0 0] 25 :: box b_19 [.int .i64 b.States, v_7, v_9, v_11] 25 :: box b_17 [.int .i64 a.States, v_1, v_3, v_5] 25 :: fz fGEdge.rep v_11 b.Edges :: fz fInt.rep v_9 b.Ends :: fz fInt.rep v_7 b.Starts :: fz fGEdge.rep v_5 a.Edges :: fz fInt.rep v_3 a.Ends :: fz fInt.rep v_1 a.Starts :: L) := hO
    refine hl_nil ?_
    refine thenQ_n ?_
    refine hw_sub _ (ai_cons (t := 3) rfl (ai_cons (t := 4) rfl (ai_cons (t := 6) rfl (ai_cons (t := 7) rfl ai_nil)))) ?_
    refine hw_seq ?_
    refine hw_region ?_
    refine hl_v (v_move rfl) rfl ?_
    refine hl_v (v_loadA Try.isAgg25 Try.sizeOf25 rfl (Blk.at0 (hO.box 10 rfl)) rfl) rfl ?_
    refine hl_v (v_move rfl) rfl ?_
    obtain ⟨hs_87, h⟩ := h
    refine hl_h (h_call Try.call49 (evs_cons rfl (evs_cons rfl (evs_cons rfl evs_nil))) (nbPut_spec (a0 := (nbPut (⟨(⟨(a.States + b.States), [a.Starts, (b.Starts.map (· + a.States))].flatten, [a.Ends, (b.Ends.map (· + a.States))].flatten, []⟩ : GNfa), false⟩ : Gnfa_builder) a 0)) (a1 := b) (a2 := a.States) (L := fz (Rep.sl fInt.rep) v_62 [a.Ends, (b.Ends.map (· + a.States))] :: fz fInt.rep v_57 (b.Ends.map (· + a.States)) :: fz (Rep.sl fInt.rep) v_44 [a.Starts, (b.Starts.map (· + a.States))] :: fz fInt.rep v_39 (b.Starts.map (· + a.States)) :: fz rGNfa v_23 [a, b] :: box b_21 [.int .i64 (0 : Int), .slice none 0 0, .slice none 0 0, .slice none 0 0] 25 :: box b_19 [.int .i64 b.States, v_7, v_9, v_11] 25 :: box b_17 [.int .i64 a.States, v_1, v_3, v_5] 25 :: fz fGEdge.rep v_11 b.Edges :: fz fInt.rep v_9 b.Ends :: fz fInt.rep v_7 b.Starts :: fz fGEdge.rep v_5 a.Edges :: fz fInt.rep v_3 a.Ends :: fz fInt.rep v_1 a.Starts :: L) hs_87 (Own.sel (Ls := [box b_79 [.int .i64 (((nbPut (⟨(⟨(a.States + b.States), [a.Starts, (b.Starts.map (· + a.States))].flatten, [a.Ends, (b.Ends.map (· + a.States))].flatten, []⟩ : GNfa), false⟩ : Gnfa_builder) a 0).Nfa).States), v_84, v_85, v_86, .bool ((nbPut (⟨(⟨(a.States + b.States), [a.Starts, (b.Starts.map (· + a.States))].flatten, [a.Ends, (b.Ends.map (· + a.States))].flatten, []⟩ : GNfa), false⟩ : Gnfa_builder) a 0).full)] 77, own fInt 3 v_84 (((nbPut (⟨(⟨(a.States + b.States), [a.Starts, (b.Starts.map (· + a.States))].flatten, [a.Ends, (b.Ends.map (· + a.States))].flatten, []⟩ : GNfa), false⟩ : Gnfa_builder) a 0).Nfa).Starts), own fInt 3 v_85 (((nbPut (⟨(⟨(a.States + b.States), [a.Starts, (b.Starts.map (· + a.States))].flatten, [a.Ends, (b.Ends.map (· + a.States))].flatten, []⟩ : GNfa), false⟩ : Gnfa_builder) a 0).Nfa).Ends), own fGEdge 69 v_86 (((nbPut (⟨(⟨(a.States + b.States), [a.Starts, (b.Starts.map (· + a.States))].flatten, [a.Ends, (b.Ends.map (· + a.States))].flatten, []⟩ : GNfa), false⟩ : Gnfa_builder) a 0).Nfa).Edges), fz (Rep.sl fInt.rep) v_62 [a.Ends, (b.Ends.map (· + a.States))], fz fInt.rep v_57 (b.Ends.map (· + a.States)), fz (Rep.sl fInt.rep) v_44 [a.Starts, (b.Starts.map (· + a.States))], fz fInt.rep v_39 (b.Starts.map (· + a.States)), fz rGNfa v_23 [a, b], box b_21 [.int .i64 (0 : Int), .slice none 0 0, .slice none 0 0, .slice none 0 0] 25, box b_19 [.int .i64 b.States, v_7, v_9, v_11] 25, box b_17 [.int .i64 a.States, v_1, v_3, v_5] 25, fz fGEdge.rep v_11 b.Edges, fz fInt.rep v_9 b.Ends, fz fInt.rep v_7 b.Starts, fz fGEdge.rep v_5 a.Edges, fz fInt.rep v_3 a.Ends, fz fInt.rep v_1 a.Starts]) (L := L) [0, 1, 2, 3, 4, 5, 6, 7, 8, 9, 10, 11, 12, 13, 14, 15, 16, 17] rfl hO) (Fz.of (i := 10) rfl) (Fz.of (i := 9) rfl) (Fz.of (i := 8) rfl))) rfl ?_
    rintro vv H_88 ⟨Z_89, v_91, v_92, v_93, hz_90, hv, hO⟩
    obtain rfl := hv.symm
    replace hZ := fun b hb => hz_90 b (hZ b hb)
    replace hO : Own H_88 Z_89 (box b_79 [.int .i64 (((nbPut (nbPut (⟨(⟨(a.States + b.States), [a.Starts, (b.Starts.map (· + a.States))].flatten, [a.Ends, (b.Ends.map (· + a.States))].flatten, []⟩ : GNfa), false⟩ : Gnfa_builder) a 0) b a.States).Nfa).States), v_91, v_92, v_93, .bool ((nbPut (nbPut (⟨(⟨(a.States + b.States), [a.Starts, (b.Starts.map (· + a.States))].flatten, [a.Ends, (b.Ends.map (· + a.States))].flatten, []⟩ : GNfa), false⟩ : Gnfa_builder) a 0) b a.States).full)] 77 :: own fInt 3 v_91 (((nbPut (nbPut (⟨(⟨(a.States + b.States), [a.Starts, (b.Starts.map (· + a.States))].flatten, [a.Ends, (b.Ends.map (· + a.States))].flatten, []⟩ : GNfa), false⟩ : Gnfa_builder) a 0) b a.States).Nfa).Starts) :: own fInt 3 v_92 (((nbPut (nbPut (⟨(⟨(a.States + b.States), [a.Starts, (b.Starts.map (· + a.States))].flatten, [a.Ends, (b.Ends.map (· + a.States))].flatten, []⟩ : GNfa), false⟩ : Gnfa_builder) a 0) b a.States).Nfa).Ends) :: own fGEdge 69 v_93 (((nbPut (nbPut (⟨(⟨(a.States + b.States), [a.Starts, (b.Starts.map (· + a.States))].flatten, [a.Ends, (b.Ends.map (· + a.States))].flatten, []⟩ : GNfa), false⟩ : Gnfa_builder) a 0) b a.States).Nfa).Edges) :: fz (Rep.sl fInt.rep) v_62 [a.Ends, (b.Ends.map (· + a.States))] :: fz fInt.rep v_57 (b.Ends.map (· + a.States)) :: fz (Rep.sl fInt.rep) v_44 [a.Starts, (b.Starts.map (· + a.States))] :: fz fInt.rep v_39 (b.Starts.map (· + a.States)) :: fz rGNfa v_23 [a, b] :: box b_21 [.int .i64 (0 : Int), .slice none 0 0, .slice none 0 0, .slice none 0 0] 25 :: box b_19 [.int .i64 b.States, v_7, v_9, v_11] 25 :: box b_17 [.int .i64 a.States, v_1, v_3, v_5] 25 :: fz fGEdge.rep v_11 b.Edges :: fz fInt.rep v_9 b.Ends :: fz fInt.rep v_7 b.Starts :: fz fGEdge.rep v_5 a.Edges :: fz fInt.rep v_3 a.Ends :: fz fInt.rep v_1 a.Starts :: L) := hO
    refine hl_nil ?_
    refine thenQ_n ?_
    refine hw_sub _ (ai_cons (t := 4) rfl (ai_cons (t := 7) rfl ai_nil)) ?_
    refine hw_seq ?_
    refine hw_region ?_
    refine hl_v (v_move rfl) rfl ?_
    refine hl_h (h_call Try.call44 (evs_cons rfl evs_nil) (nbEnd_spec (a0 := (nbPut (nbPut (⟨(⟨(a.States + b.States), [a.Starts, (b.Starts.map (· + a.States))].flatten, [a.Ends, (b.Ends.map (· + a.States))].flatten, []⟩ : GNfa), false⟩ : Gnfa_builder) a 0) b a.States)) (L := fz (Rep.sl fInt.rep) v_62 [a.Ends, (b.Ends.map (· + a.States))] :: fz fInt.rep v_57 (b.Ends.map (· + a.States)) :: fz (Rep.sl fInt.rep) v_44 [a.Starts, (b.Starts.map (· + a.States))] :: fz fInt.rep v_39 (b.Starts.map (· + a.States)) :: fz rGNfa v_23 [a, b] :: box b_21 [.int .i64 (0 : Int), .slice none 0 0, .slice none 0 0, .slice none 0 0] 25 :: box b_19 [.int .i64 b.States, v_7, v_9, v_11] 25 :: box b_17 [.int .i64 a.States, v_1, v_3, v_5] 25 :: fz fGEdge.rep v_11 b.Edges :: fz fInt.rep v_9 b.Ends :: fz fInt.rep v_7 b.Starts :: fz fGEdge.rep v_5 a.Edges :: fz fInt.rep v_3 a.Ends :: fz fInt.rep v_1 a.Starts :: L) (Own.sel (Ls := [box b_79 [.int .i64 (((nbPut (nbPut (⟨(⟨(a.States + b.States), [a.Starts, (b.Starts.map (· + a.States))].flatten, [a.Ends, (b.Ends.map (· + a.States))].flatten, []⟩ : GNfa), false⟩ : Gnfa_builder) a 0) b a.States).Nfa).States), v_91, v_92, v_93, .bool ((nbPut (nbPut (⟨(⟨(a.States + b.States), [a.Starts, (b.Starts.map (· + a.States))].flatten, [a.Ends, (b.Ends.map (· + a.States))].flatten, []⟩ : GNfa), false⟩ : Gnfa_builder) a 0) b a.States).full)] 77, own fInt 3 v_91 (((nbPut (nbPut (⟨(⟨(a.States + b.States), [a.Starts, (b.Starts.map (· + a.States))].flatten, [a.Ends, (b.Ends.map (· + a.States))].flatten, []⟩ : GNfa), false⟩ : Gnfa_builder) a 0) b a.States).Nfa).Starts), own fInt 3 v_92 (((nbPut (nbPut (⟨(⟨(a.States + b.States), [a.Starts, (b.Starts.map (· + a.States))].flatten, [a.Ends, (b.Ends.map (· + a.States))].flatten, []⟩ : GNfa), false⟩ : Gnfa_builder) a 0) b a.States).Nfa).Ends), own fGEdge 69 v_93 (((nbPut (nbPut (⟨(⟨(a.States + b.States), [a.Starts, (b.Starts.map (· + a.States))].flatten, [a.Ends, (b.Ends.map (· + a.States))].flatten, []⟩ : GNfa), false⟩ : Gnfa_builder) a 0) b a.States).Nfa).Edges), fz (Rep.sl fInt.rep) v_62 [a.Ends, (b.Ends.map (· + a.States))], fz fInt.rep v_57 (b.Ends.map (· + a.States)), fz (Rep.sl fInt.rep) v_44 [a.Starts, (b.Starts.map (· + a.States))], fz fInt.rep v_39 (b.Starts.map (· + a.States)), fz rGNfa v_23 [a, b], box b_21 [.int .i64 (0 : Int), .slice none 0 0, .slice none 0 0, .slice none 0 0] 25, box b_19 [.int .i64 b.States, v_7, v_9, v_11] 25, box b_17 [.int .i64 a.States, v_1, v_3, v_5] 25, fz fGEdge.rep v_11 b.Edges, fz fInt.rep v_9 b.Ends, fz fInt.rep v_7 b.Starts, fz fGEdge.rep v_5 a.Edges, fz fInt.rep v_3 a.Ends, fz fInt.rep v_1 a.Starts]) (L := L) [0, 1, 2, 3, 4, 5, 6, 7, 8, 9, 10, 11, 12, 13, 14, 15, 16, 17] rfl hO))) rfl ?_
    rintro vv H_97 ⟨Z_98, v_94, v_95, v_96, hz_99, hv, hO⟩
    obtain rfl := hv.symm
    replace hZ := fun b hb => hz_99 b (hZ b hb)
    replace hO : Own H_97 Z_98 (own fInt 3 v_94 (((nbEnd (nbPut (nbPut (⟨(⟨(a.States + b.States), [a.Starts, (b.Starts.map (· + a.States))].flatten, [a.Ends, (b.Ends.map (· + a.States))].flatten, []⟩ : GNfa), false⟩ : Gnfa_builder) a 0) b a.States)).1).Starts) :: own fInt 3 v_95 (((nbEnd (nbPut (nbPut (⟨(⟨(a.States + b.States), [a.Starts, (b.Starts.map (· + a.States))].flatten, [a.Ends, (b.Ends.map (· + a.States))].flatten, []⟩ : GNfa), false⟩ : Gnfa_builder) a 0) b a.States)).1).Ends) :: own fGEdge 69 v_96 (((nbEnd (nbPut (nbPut (⟨(⟨(a.States + b.States), [a.Starts, (b.Starts.map (· + a.States))].flatten, [a.Ends, (b.Ends.map (· + a.States))].flatten, []⟩ : GNfa), false⟩ : Gnfa_builder) a 0) b a.States)).1).Edges) :: fz (Rep.sl fInt.rep) v_62 [a.Ends, (b.Ends.map (· + a.States))] :: fz fInt.rep v_57 (b.Ends.map (· + a.States)) :: fz (Rep.sl fInt.rep) v_44 [a.Starts, (b.Starts.map (· + a.States))] :: fz fInt.rep v_39 (b.Starts.map (· + a.States)) :: fz rGNfa v_23 [a, b] :: box b_21 [.int .i64 (0 : Int), .slice none 0 0, .slice none 0 0, .slice none 0 0] 25 :: box b_19 [.int .i64 b.States, v_7, v_9, v_11] 25 :: box b_17 [.int .i64 a.States, v_1, v_3, v_5] 25 :: fz fGEdge.rep v_11 b.Edges :: fz fInt.rep v_9 b.Ends :: fz fInt.rep v_7 b.Starts :: fz fGEdge.rep v_5 a.Edges :: fz fInt.rep v_3 a.Ends :: fz fInt.rep v_1 a.Starts :: L) := hO
    refine hl_v (v_extract rfl rfl) rfl ?_
    refine hl_v (v_extract rfl rfl) rfl ?_
    refine hl_s (o_storeA (us := [.int .i64 (((nbEnd (nbPut (nbPut (⟨(⟨(a.States + b.States), [a.Starts, (b.Starts.map (· + a.States))].flatten, [a.Ends, (b.Ends.map (· + a.States))].flatten, []⟩ : GNfa), false⟩ : Gnfa_builder) a 0) b a.States)).1).States), v_94, v_95, v_96]) hO 8 rfl Try.sizeOf25 rfl rfl rfl rfl (by simp only [List.forall_mem_cons]; exact ⟨rfl, (Sl.one (hO.osl 0 rfl)), (Sl.one (hO.osl 1 rfl)), (Sl.one (hO.osl 2 rfl)), by simp⟩)) ?_
    rintro _ H_100 hO
    replace hO : Own H_100 Z_98 (own fInt 3 v_94 (((nbEnd (nbPut (nbPut (⟨(⟨(a.States + b.States), [a.Starts, (b.Starts.map (· + a.States))].flatten, [a.Ends, (b.Ends.map (· + a.States))].flatten, []⟩ : GNfa), false⟩ : Gnfa_builder) a 0) b a.States)).1).Starts) :: own fInt 3 v_95 (((nbEnd (nbPut (nbPut (⟨(⟨(a.States + b.States), [a.Starts, (b.Starts.map (· + a.States))].flatten, [a.Ends, (b.Ends.map (· + a.States))].flatten, []⟩ : GNfa), false⟩ : Gnfa_builder) a 0) b a.States)).1).Ends) :: own fGEdge 69 v_96 (((nbEnd (nbPut (nbPut (⟨(⟨(a.States + b.States), [a.Starts, (b.Starts.map (· + a.States))].flatten, [a.Ends, (b.Ends.map (· + a.States))].flatten, []⟩ : GNfa), false⟩ : Gnfa_builder) a 0) b a.States)).1).Edges) :: fz (Rep.sl fInt.rep) v_62 [a.Ends, (b.Ends.map (· + a.States))] :: fz fInt.rep v_57 (b.Ends.map (· + a.States)) :: fz (Rep.sl fInt.rep) v_44 [a.Starts, (b.Starts.map (· + a.States))] :: fz fInt.rep v_39 (b.Starts.map (· + a.States)) :: fz rGNfa v_23 [a, b] :: box b_21 [.int .i64 (((nbEnd (nbPut (nbPut (⟨(⟨(a.States + b.States), [a.Starts, (b.Starts.map (· + a.States))].flatten, [a.Ends, (b.Ends.map (· + a.States))].flatten, []⟩ : GNfa), false⟩ : Gnfa_builder) a 0) b a.States)).1).States), v_94, v_95, v_96] 25 :: box b_19 [.int .i64 b.States, v_7, v_9, v_11] 25 :: box b_17 [.int .i64 a.States, v_1, v_3, v_5] 25 :: fz fGEdge.rep v_11 b.Edges :: fz fInt.rep v_9 b.Ends :: fz fInt.rep v_7 b.Starts :: fz fGEdge.rep v_5 a.Edges :: fz fInt.rep v_3 a.Ends :: fz fInt.rep v_1 a.Starts :: L) := hO
    refine hl_v (v_assign rfl) rfl ?_
    refine hl_nil ?_
    refine thenQ_n ?_
    refine hw_sub _ (ai_cons (t := 4) rfl (ai_cons (t := 5) rfl ai_nil)) ?_
    refine hw_ret ?_
    refine ret_i _ (ra_c rfl (fun w hw => run_loadVar_at (cs := [.int .i64 (((nbEnd (nbPut (nbPut (⟨(⟨(a.States + b.States), [a.Starts, (b.Starts.map (· + a.States))].flatten, [a.Ends, (b.Ends.map (· + a.States))].flatten, []⟩ : GNfa), false⟩ : Gnfa_builder) a 0) b a.States)).1).States), v_94, v_95, v_96]) Try.isAgg25 Try.sizeOf25 (Blk.at0 (hO.box 8 rfl)) rfl w hw) (ra_t rfl ra_nil)) ?_
    exact ⟨_, ((nbEnd (nbPut (nbPut (⟨(⟨(a.States + b.States), [a.Starts, (b.Starts.map (· + a.States))].flatten, [a.Ends, (b.Ends.map (· + a.States))].flatten, []⟩ : GNfa), false⟩ : Gnfa_builder) a 0) b a.States)).1), (nbEnd (nbPut (nbPut (⟨(⟨(a.States + b.States), [a.Starts, (b.Starts.map (· + a.States))].flatten, [a.Ends, (b.Ends.map (· + a.States))].flatten, []⟩ : GNfa), false⟩ : Gnfa_builder) a 0) b a.States)).2, v_94, v_95, v_96, hZ, h, rfl, (Own.sel (Ls := [own fInt 3 v_94 (((nbEnd (nbPut (nbPut (⟨(⟨(a.States + b.States), [a.Starts, (b.Starts.map (· + a.States))].flatten, [a.Ends, (b.Ends.map (· + a.States))].flatten, []⟩ : GNfa), false⟩ : Gnfa_builder) a 0) b a.States)).1).Starts), own fInt 3 v_95 (((nbEnd (nbPut (nbPut (⟨(⟨(a.States + b.States), [a.Starts, (b.Starts.map (· + a.States))].flatten, [a.Ends, (b.Ends.map (· + a.States))].flatten, []⟩ : GNfa), false⟩ : Gnfa_builder) a 0) b a.States)).1).Ends), own fGEdge 69 v_96 (((nbEnd (nbPut (nbPut (⟨(⟨(a.States + b.States), [a.Starts, (b.Starts.map (· + a.States))].flatten, [a.Ends, (b.Ends.map (· + a.States))].flatten, []⟩ : GNfa), false⟩ : Gnfa_builder) a 0) b a.States)).1).Edges), fz (Rep.sl fInt.rep) v_62 [a.Ends, (b.Ends.map (· + a.States))], fz fInt.rep v_57 (b.Ends.map (· + a.States)), fz (Rep.sl fInt.rep) v_44 [a.Starts, (b.Starts.map (· + a.States))], fz fInt.rep v_39 (b.Starts.map (· + a.States)), fz rGNfa v_23 [a, b], box b_21 [.int .i64 (((nbEnd (nbPut (nbPut (⟨(⟨(a.States + b.States), [a.Starts, (b.Starts.map (· + a.States))].flatten, [a.Ends, (b.Ends.map (· + a.States))].flatten, []⟩ : GNfa), false⟩ : Gnfa_builder) a 0) b a.States)).1).States), v_94, v_95, v_96] 25, box b_19 [.int .i64 b.States, v_7, v_9, v_11] 25, box b_17 [.int .i64 a.States, v_1, v_3, v_5] 25, fz fGEdge.rep v_11 b.Edges, fz fInt.rep v_9 b.Ends, fz fInt.rep v_7 b.Starts, fz fGEdge.rep v_5 a.Edges, fz fInt.rep v_3 a.Ends, fz fInt.rep v_1 a.Starts]) (L := L) [0, 1, 2] rfl hO)⟩
theorem nfaAlt_spec {a0 : GNfa} {a1 : GNfa} {v_1 : Value} {v_3 : Value} {v_5 : Value} {v_7 : Value} {v_9 : Value} {v_11 : Value} {L : List As} {H : Heap} {Z : Nat → Prop} (hO : Own H Z (L)) (hf_2 : Fz fInt.rep L v_1 a0.Starts) (hf_4 : Fz fInt.rep L v_3 a0.Ends) (hf_6 : Fz fGEdge.rep L v_5 a0.Edges) (hf_8 : Fz fInt.rep L v_7 a1.Starts) (hf_10 : Fz fInt.rep L v_9 a1.Ends) (hf_12 : Fz fGEdge.rep L v_11 a1.Edges) : HC Try.prog 18 [.agg [.int .i64 a0.States, v_1, v_3, v_5].toArray, .agg [.int .i64 a1.States, v_7, v_9, v_11].toArray] H (fun v H' => ∃ (Z' : Nat → Prop) (v_13 : Value) (v_14 : Value) (v_15 : Value), (∀ a1, Z a1 → Z' a1) ∧ v = .tuple #[.agg [.int .i64 ((nAlt a0 a1).1).States, v_13, v_14, v_15].toArray, .int .i64 ((nAlt a0 a1).2)] ∧ Own H' Z' (own fInt 3 v_13 ((nAlt a0 a1).1).Starts :: own fInt 3 v_14 ((nAlt a0 a1).1).Ends :: own fGEdge 69 v_15 ((nAlt a0 a1).1).Edges :: L)) := by
  refine (nfaAlt_ok (a := a0) (b := a1) (@nfaAlt_wp a0 a1) hO hf_2 hf_4 hf_6 hf_8 hf_10 hf_12).mono ?_
  rintro v H' ⟨Z', r0, r1, v_13, v_14, v_15, hz, hq, hv, hO'⟩
  obtain ⟨rfl, rfl⟩ := hq
  exact ⟨Z', v_13, v_14, v_15, hz, hv, hO'⟩

theorem nfaCat_ok {a : GNfa} {b : GNfa} {v_1 : Value} {v_3 : Value} {v_5 : Value} {v_7 : Value} {v_9 : Value} {v_11 : Value} {Q : GNfa → Int → Prop} {H : Heap} {Z : Nat → Prop} {L : List As} (h : wp_nfaCat a b Q) (hO : Own H Z (L)) (hf_2 : Fz fInt.rep L v_1 a.Starts) (hf_4 : Fz fInt.rep L v_3 a.Ends) (hf_6 : Fz fGEdge.rep L v_5 a.Edges) (hf_8 : Fz fInt.rep L v_7 b.Starts) (hf_10 : Fz fInt.rep L v_9 b.Ends) (hf_12 : Fz fGEdge.rep L v_11 b.Edges) : HC Try.prog 17 [.agg [.int .i64 a.States, v_1, v_3, v_5].toArray, .agg [.int .i64 b.States, v_7, v_9, v_11].toArray] H (fun v H' => ∃ (Z' : Nat → Prop) (r0 : GNfa) (r1 : Int) (v_13 : Value) (v_14 : Value) (v_15 : Value), (∀ b, Z b → Z' b) ∧ Q r0 r1 ∧ v = .tuple #[.agg [.int .i64 r0.States, v_13, v_14, v_15].toArray, .int .i64 r1] ∧ Own H' Z' (own fInt 3 v_13 r0.Starts :: own fInt 3 v_14 r0.Ends :: own fGEdge 69 v_15 r0.Edges :: L)) := by
  have hZ : ∀ b, Z b → Z b := fun _ h => h
  replace hO := Fz.item hf_2 hO
  replace hO := Fz.items [_] hf_4 hO
  replace hO := Fz.items [_, _] hf_6 hO
  replace hO := Fz.items [_, _, _] hf_8 hO
  replace hO := Fz.items [_, _, _, _] hf_10 hO
  replace hO := Fz.items [_, _, _, _, _] hf_12 hO
  unfold wp_nfaCat at h
  refine hc_of_hw (N := 112) (rs := [(.cell 4 25), (.tmp 5)]) Try.func17 rfl rfl rfl rfl ?_
  refine hw_seq ?_
  refine hw_region ?_
  refine hl_h (o_box (cs := [.int .i64 a.States, v_1, v_3, v_5]) hO rfl rfl) rfl ?_
  rintro _ H_16 ⟨b_17, rfl, hO⟩
  replace hO : Own H_16 Z (box b_17 [.int .i64 a.States, v_1, v_3, v_5] 25 :: fz fGEdge.rep v_11 b.Edges :: fz fInt.rep v_9 b.Ends :: fz fInt.rep v_7 b.Starts :: fz fGEdge.rep v_5 a.Edges :: fz fInt.rep v_3 a.Ends :: fz fInt.rep v_1 a.Starts :: L) := hO
  refine hl_h (o_box (cs := [.int .i64 b.States, v_7, v_9, v_11]) hO rfl rfl) rfl ?_
  rintro _ H_18 ⟨b_19, rfl, hO⟩
  replace hO : Own H_18 Z (box b_19 [.int .i64 b.States, v_7, v_9, v_11] 25 :: box b_17 [.int .i64 a.States, v_1, v_3, v_5] 25 :: fz fGEdge.rep v_11 b.Edges :: fz fInt.rep v_9 b.Ends :: fz fInt.rep v_7 b.Starts :: fz fGEdge.rep v_5 a.Edges :: fz fInt.rep v_3 a.Ends :: fz fInt.rep v_1 a.Starts :: L) := hO
  refine hl_h (o_alloc (cs := [.int .i64 (0 : Int), .slice none 0 0, .slice none 0 0, .slice none 0 0]) hO Try.zeroValue25 rfl) rfl ?_
  rintro _ H_20 ⟨b_21, rfl, hO⟩
  replace hO : Own H_20 Z (box b_21 [.int .i64 (0 : Int), .slice none 0 0, .slice none 0 0, .slice none 0 0] 25 :: box b_19 [.int .i64 b.States, v_7, v_9, v_11] 25 :: box b_17 [.int .i64 a.States, v_1, v_3, v_5] 25 :: fz fGEdge.rep v_11 b.Edges :: fz fInt.rep v_9 b.Ends :: fz fInt.rep v_7 b.Starts :: fz fGEdge.rep v_5 a.Edges :: fz fInt.rep v_3 a.Ends :: fz fInt.rep v_1 a.Starts :: L) := hO
  refine hl_v (v_assign rfl) rfl ?_
  refine hl_nil ?_
  refine thenQ_n ?_
  refine hw_sub _ (ai_cons (t := 2) rfl (ai_cons (t := 3) rfl (ai_cons (t := 4) rfl ai_nil))) ?_
  refine hw_scope ?_
  refine hw_seq ?_
  refine hw_seq ?_
  refine hw_region ?_
  refine hl_v (v_loadA Try.isAgg25 Try.sizeOf25 rfl (Blk.at0 (hO.box 2 rfl)) rfl) rfl ?_
  refine hl_v (v_loadA Try.isAgg25 Try.sizeOf25 rfl (Blk.at0 (hO.box 1 rfl)) rfl) rfl ?_
  have hsh_24 := Sl.sh (hO.fsl 8 rfl)
  have hsh_25 := Sl.sh (hO.fsl 7 rfl)
  have hsh_26 := Sl.sh (hO.fsl 6 rfl)
  have hsh_27 := Sl.sh (hO.fsl 5 rfl)
  have hsh_28 := Sl.sh (hO.fsl 4 rfl)
  have hsh_29 := Sl.sh (hO.fsl 3 rfl)
  refine hl_h (o_litR (r := rGNfa) (l := [a, b]) (xs := [.tmp 14, .tmp 15]) (css := [[.int .i64 a.States, v_1, v_3, v_5], [.int .i64 b.States, v_7, v_9, v_11]]) hO Try.underlying87 Try.sizeOf25 Try.zeroValue25 rfl (evs_cons rfl (evs_cons rfl evs_nil)) rfl rfl rfl (by obtain ⟨_, _, _, hw⟩ := hsh_24; (try subst hw); obtain ⟨_, _, _, hw⟩ := hsh_25; (try subst hw); obtain ⟨_, _, _, hw⟩ := hsh_26; (try subst hw); obtain ⟨_, _, _, hw⟩ := hsh_27; (try subst hw); obtain ⟨_, _, _, hw⟩ := hsh_28; (try subst hw); obtain ⟨_, _, _, hw⟩ := hsh_29; (try subst hw); rfl) rfl (relAll_cons ⟨_, _, _, rfl, (hO.fsl 8 rfl), (hO.fsl 7 rfl), (hO.fsl 6 rfl)⟩ (relAll_cons ⟨_, _, _, rfl, (hO.fsl 5 rfl), (hO.fsl 4 rfl), (hO.fsl 3 rfl)⟩ relAll_nil))) rfl ?_
  rintro v_23 H_22 hO
  replace hO : Own H_22 Z (ownR rGNfa 25 v_23 [a, b] :: box b_21 [.int .i64 (0 : Int), .slice none 0 0, .slice none 0 0, .slice none 0 0] 25 :: box b_19 [.int .i64 b.States, v_7, v_9, v_11] 25 :: box b_17 [.int .i64 a.States, v_1, v_3, v_5] 25 :: fz fGEdge.rep v_11 b.Edges :: fz fInt.rep v_9 b.Ends :: fz fInt.rep v_7 b.Starts :: fz fGEdge.rep v_5 a.Edges :: fz fInt.rep v_3 a.Ends :: fz fInt.rep v_1 a.Starts :: L) := hO
  obtain ⟨Z_31, hz_30, hO⟩ := hO.freezeR (i := 0) rfl
  replace hZ := fun b hb => hz_30 b (hZ b hb)
  replace hO : Own H_22 Z_31 (fz rGNfa v_23 [a, b] :: box b_21 [.int .i64 (0 : Int), .slice none 0 0, .slice none 0 0, .slice none 0 0] 25 :: box b_19 [.int .i64 b.States, v_7, v_9, v_11] 25 :: box b_17 [.int .i64 a.States, v_1, v_3, v_5] 25 :: fz fGEdge.rep v_11 b.Edges :: fz fInt.rep v_9 b.Ends :: fz fInt.rep v_7 b.Starts :: fz fGEdge.rep v_5 a.Edges :: fz fInt.rep v_3 a.Ends :: fz fInt.rep v_1 a.Starts :: L) := hO
  refine hl_h (h_call Try.call35 (evs_cons rfl evs_nil) (nfaWrong_spec (a0 := [a, b]) hO (Fz.of (i := 0) rfl))) rfl ?_
  rintro vv H_32 ⟨Z_33, hz_34, hv, hO⟩
  obtain rfl := hv.symm
  replace hZ := fun b hb => hz_34 b (hZ b hb)
  replace hO : Own H_32 Z_33 (fz rGNfa v_23 [a, b] :: box b_21 [.int .i64 (0 : Int), .slice none 0 0, .slice none 0 0, .slice none 0 0] 25 :: box b_19 [.int .i64 b.States, v_7, v_9, v_11] 25 :: box b_17 [.int .i64 a.States, v_1, v_3, v_5] 25 :: fz fGEdge.rep v_11 b.Edges :: fz fInt.rep v_9 b.Ends :: fz fInt.rep v_7 b.Starts :: fz fGEdge.rep v_5 a.Edges :: fz fInt.rep v_3 a.Ends :: fz fInt.rep v_1 a.Starts :: L) := hO
  refine hl_nil ?_
  refine thenQ_n ?_
  refine hw_sub _ (ai_cons (t := 2) rfl (ai_cons (t := 3) rfl (ai_cons (t := 4) rfl (ai_cons (t := 17) rfl ai_nil)))) ?_
  refine hw_cond rfl (fun hc_35 => ?_) (fun hc_35 => ?_)
  · replace h := ite_t h hc_35
    refine hw_seq ?_
    refine hw_region ?_
    refine hl_v (v_buildF (cs := [.int .i64 (0 : Int), .slice none 0 0, .slice none 0 0, .slice none 0 0]) (xs := []) (is := []) rfl evs_nil (fun w => by show _ = _; kernel_rfl)) rfl ?_
    refine hl_s (o_storeA (us := [.int .i64 (0 : Int), .slice none 0 0, .slice none 0 0, .slice none 0 0]) hO 1 rfl Try.sizeOf25 rfl rfl rfl rfl (by simp only [List.forall_mem_cons]; exact ⟨rfl, rfl, rfl, rfl, by simp⟩)) ?_
    rintro _ H_36 hO
    replace hO : Own H_36 Z_33 (fz rGNfa v_23 [a, b] :: box b_21 [.int .i64 (0 : Int), .slice none 0 0, .slice none 0 0, .slice none 0 0] 25 :: box b_19 [.int .i64 b.States, v_7, v_9, v_11] 25 :: box b_17 [.int .i64 a.States, v_1, v_3, v_5] 25 :: fz fGEdge.rep v_11 b.Edges :: fz fInt.rep v_9 b.Ends :: fz fInt.rep v_7 b.Starts :: fz fGEdge.rep v_5 a.Edges :: fz fInt.rep v_3 a.Ends :: fz fInt.rep v_1 a.Starts :: L) := hO
    refine hl_v (v_assign rfl) rfl ?_
    refine hl_nil ?_
    refine thenQ_n ?_
    refine hw_sub _ (ai_cons (t := 4) rfl (ai_cons (t := 5) rfl ai_nil)) ?_
    refine hw_ret ?_
    refine thenQ_r ?_
    refine scopeQ_r ?_
    replace hO : Own H_36 Z_33 (own fInt 3 (.slice none 0 0) [] :: fz rGNfa v_23 [a, b] :: box b_21 [.int .i64 (0 : Int), .slice none 0 0, .slice none 0 0, .slice none 0 0] 25 :: box b_19 [.int .i64 b.States, v_7, v_9, v_11] 25 :: box b_17 [.int .i64 a.States, v_1, v_3, v_5] 25 :: fz fGEdge.rep v_11 b.Edges :: fz fInt.rep v_9 b.Ends :: fz fInt.rep v_7 b.Starts :: fz fGEdge.rep v_5 a.Edges :: fz fInt.rep v_3 a.Ends :: fz fInt.rep v_1 a.Starts :: L) := hO.nil fInt 3
    replace hO : Own H_36 Z_33 (own fInt 3 (.slice none 0 0) [] :: own fInt 3 (.slice none 0 0) [] :: fz rGNfa v_23 [a, b] :: box b_21 [.int .i64 (0 : Int), .slice none 0 0, .slice none 0 0, .slice none 0 0] 25 :: box b_19 [.int .i64 b.States, v_7, v_9, v_11] 25 :: box b_17 [.int .i64 a.States, v_1, v_3, v_5] 25 :: fz fGEdge.rep v_11 b.Edges :: fz fInt.rep v_9 b.Ends :: fz fInt.rep v_7 b.Starts :: fz fGEdge.rep v_5 a.Edges :: fz fInt.rep v_3 a.Ends :: fz fInt.rep v_1 a.Starts :: L) := hO.nil fInt 3
    replace hO : Own H_36 Z_33 (own fGEdge 69 (.slice none 0 0) [] :: own fInt 3 (.slice none 0 0) [] :: own fInt 3 (.slice none 0 0) [] :: fz rGNfa v_23 [a, b] :: box b_21 [.int .i64 (0 : Int), .slice none 0 0, .slice none 0 0, .slice none 0 0] 25 :: box b_19 [.int .i64 b.States, v_7, v_9, v_11] 25 :: box b_17 [.int .i64 a.States, v_1, v_3, v_5] 25 :: fz fGEdge.rep v_11 b.Edges :: fz fInt.rep v_9 b.Ends :: fz fInt.rep v_7 b.Starts :: fz fGEdge.rep v_5 a.Edges :: fz fInt.rep v_3 a.Ends :: fz fInt.rep v_1 a.Starts :: L) := hO.nil fGEdge 69
    refine ret_i _ (ra_c rfl (fun w hw => run_loadVar_at (cs := [.int .i64 (0 : Int), .slice none 0 0, .slice none 0 0, .slice none 0 0]) Try.isAgg25 Try.sizeOf25 (Blk.at0 (hO.box 4 rfl)) rfl w hw) (ra_t rfl ra_nil)) ?_
    exact ⟨_, (⟨(0 : Int), [], [], []⟩ : GNfa), 1, .slice none 0 0, .slice none 0 0, .slice none 0 0, hZ, h, rfl, (Own.sel (Ls := [own fGEdge 69 (.slice none 0 0) [], own fInt 3 (.slice none 0 0) [], own fInt 3 (.slice none 0 0) [], fz rGNfa v_23 [a, b], box b_21 [.int .i64 (0 : Int), .slice none 0 0, .slice none 0 0, .slice none 0 0] 25, box b_19 [.int .i64 b.States, v_7, v_9, v_11] 25, box b_17 [.int .i64 a.States, v_1, v_3, v_5] 25, fz fGEdge.rep v_11 b.Edges, fz fInt.rep v_9 b.Ends, fz fInt.rep v_7 b.Starts, fz fGEdge.rep v_5 a.Edges, fz fInt.rep v_3 a.Ends, fz fInt.rep v_1 a.Starts]) (L := L) [2, 1, 0] rfl hO)⟩
  · replace h := ite_f h hc_35
    refine hw_skip ?_
    refine thenQ_n ?_
    refine hw_seq ?_
    refine hw_region ?_
    refine hl_v (v_fieldA Try.underlying25 rfl Try.sizeOf3 rfl) rfl ?_
    refine hl_v (v_load1 Try.isAgg3 rfl (Blk.cell (hO.box 3 rfl) rfl)) rfl ?_
    refine hl_v (v_assign rfl) rfl ?_
    refine hl_nil ?_
    refine thenQ_n ?_
    refine hw_sub _ (ai_cons (t := 2) rfl (ai_cons (t := 3) rfl (ai_cons (t := 4) rfl (ai_cons (t := 6) rfl ai_nil)))) ?_
    refine hw_seq ?_
    refine hw_held2 8 (fun H' => ∃ Z' : Nat → Prop, Own H' Z' (fz rGNfa v_23 [a, b] :: box b_21 [.int .i64 (0 : Int), .slice none 0 0, .slice none 0 0, .slice none 0 0] 25 :: box b_19 [.int .i64 b.States, v_7, v_9, v_11] 25 :: box b_17 [.int .i64 a.States, v_1, v_3, v_5] 25 :: fz fGEdge.rep v_11 b.Edges :: fz fInt.rep v_9 b.Ends :: fz fInt.rep v_7 b.Starts :: fz fGEdge.rep v_5 a.Edges :: fz fInt.rep v_3 a.Ends :: fz fInt.rep v_1 a.Starts :: L)) (.step 0 false (.step 1 false (.step 2 false (.step 4 false (.step 5 false (.step 3 true (.step 6 true (.step 7 false .done)))))))) (.step 8 true .done) Try.mixed (by kernel_rfl) ⟨_, hO⟩ ?_
    refine hd_v rfl (fun _ _ => (v_fieldA Try.underlying25 rfl Try.sizeOf22 rfl)) rfl ?_
    refine hd_v rfl (fun H' hS => by obtain ⟨Z', hO⟩ := hS; exact (v_load1 Try.isAgg22 rfl (Blk.cell (hO.box 2 rfl) rfl))) rfl ?_
    refine hd_v rfl (fun _ _ => (v_move rfl)) rfl ?_
    refine hd_v rfl (fun _ _ => (v_fieldA Try.underlying25 rfl Try.sizeOf22 rfl)) rfl ?_
    refine hd_v rfl (fun H' hS => by obtain ⟨Z', hO⟩ := hS; exact (v_load1 Try.isAgg22 rfl (Blk.cell (hO.box 3 rfl) rfl))) rfl ?_
    obtain ⟨hs_37, h⟩ := h
    refine hd_h (h_call Try.call45 (evs_cons rfl (evs_cons rfl evs_nil)) (nfaMore_spec (a0 := b.Starts) (a1 := a.States) hs_37 hO (Rd.of_fz (i := 6) rfl))) (by rintro vv H_39 ⟨Z_40, v_38, hz_41, hv, hO⟩; obtain rfl := hv.symm; replace hZ := fun b hb => hz_41 b (hZ b hb); exact ⟨_, (Own.sel (Ls := [own fInt 3 v_38 (b.Starts.map (· + a.States)), fz rGNfa v_23 [a, b], box b_21 [.int .i64 (0 : Int), .slice none 0 0, .slice none 0 0, .slice none 0 0] 25, box b_19 [.int .i64 b.States, v_7, v_9, v_11] 25, box b_17 [.int .i64 a.States, v_1, v_3, v_5] 25, fz fGEdge.rep v_11 b.Edges, fz fInt.rep v_9 b.Ends, fz fInt.rep v_7 b.Starts, fz fGEdge.rep v_5 a.Edges, fz fInt.rep v_3 a.Ends, fz fInt.rep v_1 a.Starts]) (L := L) [1, 2, 3, 4, 5, 6, 7, 8, 9, 10] rfl hO)⟩) rfl ?_
    rintro vv H_39 ⟨Z_40, v_38, hz_41, hv, hO⟩
    obtain rfl := hv.symm
    replace hZ := fun b hb => hz_41 b (hZ b hb)
    replace hO : Own H_39 Z_40 (own fInt 3 v_38 (b.Starts.map (· + a.States)) :: fz rGNfa v_23 [a, b] :: box b_21 [.int .i64 (0 : Int), .slice none 0 0, .slice none 0 0, .slice none 0 0] 25 :: box b_19 [.int .i64 b.States, v_7, v_9, v_11] 25 :: box b_17 [.int .i64 a.States, v_1, v_3, v_5] 25 :: fz fGEdge.rep v_11 b.Edges :: fz fInt.rep v_9 b.Ends :: fz fInt.rep v_7 b.Starts :: fz fGEdge.rep v_5 a.Edges :: fz fInt.rep v_3 a.Ends :: fz fInt.rep v_1 a.Starts :: L) := hO
    refine hd_h (h_call Try.call36 (evs_cons rfl evs_nil) (nfaMembers_spec (a0 := a.Ends) hO (Rd.of_fz (i := 9) rfl))) (by rintro vv H_43 ⟨Z_44, b_42, hz_45, hv, hO⟩; obtain rfl := hv.symm; replace hZ := fun b hb => hz_45 b (hZ b hb); exact ⟨_, (Own.sel (Ls := [tbl (Value.int .i64) Value.bool b_42 (membersL a.Ends), own fInt 3 v_38 (b.Starts.map (· + a.States)), fz rGNfa v_23 [a, b], box b_21 [.int .i64 (0 : Int), .slice none 0 0, .slice none 0 0, .slice none 0 0] 25, box b_19 [.int .i64 b.States, v_7, v_9, v_11] 25, box b_17 [.int .i64 a.States, v_1, v_3, v_5] 25, fz fGEdge.rep v_11 b.Edges, fz fInt.rep v_9 b.Ends, fz fInt.rep v_7 b.Starts, fz fGEdge.rep v_5 a.Edges, fz fInt.rep v_3 a.Ends, fz fInt.rep v_1 a.Starts]) (L := L) [2, 3, 4, 5, 6, 7, 8, 9, 10, 11] rfl hO)⟩) rfl ?_
    rintro vv H_43 ⟨Z_44, b_42, hz_45, hv, hO⟩
    obtain rfl := hv.symm
    replace hZ := fun b hb => hz_45 b (hZ b hb)
    replace hO : Own H_43 Z_44 (tbl (Value.int .i64) Value.bool b_42 (membersL a.Ends) :: own fInt 3 v_38 (b.Starts.map (· + a.States)) :: fz rGNfa v_23 [a, b] :: box b_21 [.int .i64 (0 : Int), .slice none 0 0, .slice none 0 0, .slice none 0 0] 25 :: box b_19 [.int .i64 b.States, v_7, v_9, v_11] 25 :: box b_17 [.int .i64 a.States, v_1, v_3, v_5] 25 :: fz fGEdge.rep v_11 b.Edges :: fz fInt.rep v_9 b.Ends :: fz fInt.rep v_7 b.Starts :: fz fGEdge.rep v_5 a.Edges :: fz fInt.rep v_3 a.Ends :: fz fInt.rep v_1 a.Starts :: L) := hO
    refine hd_v rfl (fun _ _ => (v_assign rfl)) rfl ?_
    refine hd_nil ?_
    refine hd_h (OpV.toH (v_assign rfl)) (fun _ _ hR => trivial) rfl ?_
    rintro vv HH ⟨hvv, hHH⟩
    obtain rfl := hvv.symm
    obtain rfl := hHH.symm
    refine hd_nil ?_
    refine thenQ_n ?_
    refine hw_sub _ (ai_cons (t := 2) rfl (ai_cons (t := 3) rfl (ai_cons (t := 4) rfl (ai_cons (t := 6) rfl (ai_cons (t := 7) rfl (ai_cons (t := 8) rfl ai_nil)))))) ?_
    refine hw_seq ?_
    refine hw_held2 14 (fun H' => ∃ Z' : Nat → Prop, Own H' Z' (tbl (Value.int .i64) Value.bool b_42 (membersL a.Ends) :: own fInt 3 v_38 (b.Starts.map (· + a.States)) :: fz rGNfa v_23 [a, b] :: box b_21 [.int .i64 (0 : Int), .slice none 0 0, .slice none 0 0, .slice none 0 0] 25 :: box b_19 [.int .i64 b.States, v_7, v_9, v_11] 25 :: box b_17 [.int .i64 a.States, v_1, v_3, v_5] 25 :: fz fGEdge.rep v_11 b.Edges :: fz fInt.rep v_9 b.Ends :: fz fInt.rep v_7 b.Starts :: fz fGEdge.rep v_5 a.Edges :: fz fInt.rep v_3 a.Ends :: fz fInt.rep v_1 a.Starts :: L)) (.step 0 false (.step 1 false (.step 2 false (.step 3 false (.step 4 false (.step 5 false (.step 7 false (.step 8 false (.step 9 false (.step 6 true (.step 10 true (.step 11 false (.step 12 false (.step 13 true .done)))))))))))))) (.step 14 true .done) Try.mixed (by kernel_rfl) ⟨_, hO⟩ ?_
    refine hd_v rfl (fun _ _ => (v_move rfl)) rfl ?_
    refine hd_v rfl (fun _ _ => (v_fieldA Try.underlying25 rfl Try.sizeOf3 rfl)) rfl ?_
    refine hd_v rfl (fun H' hS => by obtain ⟨Z', hO⟩ := hS; exact (v_load1 Try.isAgg3 rfl (Blk.cell (hO.box 4 rfl) rfl))) rfl ?_
    obtain ⟨hs_46, h⟩ := h
    refine hd_v rfl (fun _ _ => (v_add rfl rfl hs_46)) rfl ?_
    refine hd_v rfl (fun _ _ => (v_fieldA Try.underlying25 rfl Try.sizeOf22 rfl)) rfl ?_
    refine hd_v rfl (fun H' hS => by obtain ⟨Z', hO⟩ := hS; exact (v_load1 Try.isAgg22 rfl (Blk.cell (hO.box 5 rfl) rfl))) rfl ?_
    refine hd_v rfl (fun _ _ => (v_fieldA Try.underlying25 rfl Try.sizeOf22 rfl)) rfl ?_
    refine hd_v rfl (fun H' hS => by obtain ⟨Z', hO⟩ := hS; exact (v_load1 Try.isAgg22 rfl (Blk.cell (hO.box 4 rfl) rfl))) rfl ?_
    refine hd_v rfl (fun _ _ => (v_move rfl)) rfl ?_
    obtain ⟨hs_47, h⟩ := h
    refine hd_h (h_call Try.call46 (evs_cons rfl evs_nil) (cloneInt_spec (a0 := a.Starts) hs_47 hO (Rd.of_fz (i := 11) rfl))) (by rintro vv H_49 ⟨Z_50, v_48, hz_51, hv, hO⟩; obtain rfl := hv.symm; replace hZ := fun b hb => hz_51 b (hZ b hb); exact ⟨_, (Own.sel (Ls := [own fInt 3 v_48 a.Starts, tbl (Value.int .i64) Value.bool b_42 (membersL a.Ends), own fInt 3 v_38 (b.Starts.map (· + a.States)), fz rGNfa v_23 [a, b], box b_21 [.int .i64 (0 : Int), .slice none 0 0, .slice none 0 0, .slice none 0 0] 25, box b_19 [.int .i64 b.States, v_7, v_9, v_11] 25, box b_17 [.int .i64 a.States, v_1, v_3, v_5] 25, fz fGEdge.rep v_11 b.Edges, fz fInt.rep v_9 b.Ends, fz fInt.rep v_7 b.Starts, fz fGEdge.rep v_5 a.Edges, fz fInt.rep v_3 a.Ends, fz fInt.rep v_1 a.Starts]) (L := L) [1, 2, 3, 4, 5, 6, 7, 8, 9, 10, 11, 12] rfl hO)⟩) rfl ?_
    rintro vv H_49 ⟨Z_50, v_48, hz_51, hv, hO⟩
    obtain rfl := hv.symm
    replace hZ := fun b hb => hz_51 b (hZ b hb)
    replace hO : Own H_49 Z_50 (own fInt 3 v_48 a.Starts :: tbl (Value.int .i64) Value.bool b_42 (membersL a.Ends) :: own fInt 3 v_38 (b.Starts.map (· + a.States)) :: fz rGNfa v_23 [a, b] :: box b_21 [.int .i64 (0 : Int), .slice none 0 0, .slice none 0 0, .slice none 0 0] 25 :: box b_19 [.int .i64 b.States, v_7, v_9, v_11] 25 :: box b_17 [.int .i64 a.States, v_1, v_3, v_5] 25 :: fz fGEdge.rep v_11 b.Edges :: fz fInt.rep v_9 b.Ends :: fz fInt.rep v_7 b.Starts :: fz fGEdge.rep v_5 a.Edges :: fz fInt.rep v_3 a.Ends :: fz fInt.rep v_1 a.Starts :: L) := hO
    obtain ⟨hs_52, h⟩ := h
    refine hd_h (h_call Try.call45 (evs_cons rfl (evs_cons rfl evs_nil)) (nfaMore_spec (a0 := b.Ends) (a1 := a.States) hs_52 hO (Rd.of_fz (i := 8) rfl))) (by rintro vv H_54 ⟨Z_55, v_53, hz_56, hv, hO⟩; obtain rfl := hv.symm; replace hZ := fun b hb => hz_56 b (hZ b hb); exact ⟨_, (Own.sel (Ls := [own fInt 3 v_53 (b.Ends.map (· + a.States)), own fInt 3 v_48 a.Starts, tbl (Value.int .i64) Value.bool b_42 (membersL a.Ends), own fInt 3 v_38 (b.Starts.map (· + a.States)), fz rGNfa v_23 [a, b], box b_21 [.int .i64 (0 : Int), .slice none 0 0, .slice none 0 0, .slice none 0 0] 25, box b_19 [.int .i64 b.States, v_7, v_9, v_11] 25, box b_17 [.int .i64 a.States, v_1, v_3, v_5] 25, fz fGEdge.rep v_11 b.Edges, fz fInt.rep v_9 b.Ends, fz fInt.rep v_7 b.Starts, fz fGEdge.rep v_5 a.Edges, fz fInt.rep v_3 a.Ends, fz fInt.rep v_1 a.Starts]) (L := L) [2, 3, 4, 5, 6, 7, 8, 9, 10, 11, 12, 13] rfl hO)⟩) rfl ?_
    rintro vv H_54 ⟨Z_55, v_53, hz_56, hv, hO⟩
    obtain rfl := hv.symm
    replace hZ := fun b hb => hz_56 b (hZ b hb)
    replace hO : Own H_54 Z_55 (own fInt 3 v_53 (b.Ends.map (· + a.States)) :: own fInt 3 v_48 a.Starts :: tbl (Value.int .i64) Value.bool b_42 (membersL a.Ends) :: own fInt 3 v_38 (b.Starts.map (· + a.States)) :: fz rGNfa v_23 [a, b] :: box b_21 [.int .i64 (0 : Int), .slice none 0 0, .slice none 0 0, .slice none 0 0] 25 :: box b_19 [.int .i64 b.States, v_7, v_9, v_11] 25 :: box b_17 [.int .i64 a.States, v_1, v_3, v_5] 25 :: fz fGEdge.rep v_11 b.Edges :: fz fInt.rep v_9 b.Ends :: fz fInt.rep v_7 b.Starts :: fz fGEdge.rep v_5 a.Edges :: fz fInt.rep v_3 a.Ends :: fz fInt.rep v_1 a.Starts :: L) := hO
    have hsh_57 := Sl.sh (hO.osl 1 rfl)
    have hsh_58 := Sl.sh (hO.osl 0 rfl)
    refine hd_v rfl (fun _ _ => (v_buildF (cs := [.int .i64 (a.States + b.States), v_48, v_53, .slice none 0 0]) (xs := [.tmp 31, .tmp 34, .tmp 38]) (is := [0, 1, 2]) rfl (evs_cons rfl (evs_cons rfl (evs_cons rfl evs_nil))) (fun w => by obtain ⟨_, _, _, hw⟩ := hsh_57; (try subst hw); obtain ⟨_, _, _, hw⟩ := hsh_58; (try subst hw); show _ = _; kernel_rfl))) rfl ?_
    have hsh_59 := Sl.sh (hO.osl 1 rfl)
    have hsh_60 := Sl.sh (hO.osl 0 rfl)
    refine hd_v rfl (fun _ _ => (v_buildF (cs := [.int .i64 (a.States + b.States), v_48, v_53, .slice none 0 0, .bool false]) (xs := [.tmp 39]) (is := [0]) rfl (evs_cons rfl evs_nil) (fun w => by obtain ⟨_, _, _, hw⟩ := hsh_59; (try subst hw); obtain ⟨_, _, _, hw⟩ := hsh_60; (try subst hw); show _ = _; kernel_rfl))) rfl ?_
    refine hd_h (o_box (cs := [.int .i64 (a.States + b.States), v_48, v_53, .slice none 0 0, .bool false]) hO rfl rfl) (by rintro _ H_61 ⟨b_62, rfl, hO⟩; exact ⟨_, (Own.sel (Ls := [box b_62 [.int .i64 (a.States + b.States), v_48, v_53, .slice none 0 0, .bool false] 77, own fInt 3 v_53 (b.Ends.map (· + a.States)), own fInt 3 v_48 a.Starts, tbl (Value.int .i64) Value.bool b_42 (membersL a.Ends), own fInt 3 v_38 (b.Starts.map (· + a.States)), fz rGNfa v_23 [a, b], box b_21 [.int .i64 (0 : Int), .slice none 0 0, .slice none 0 0, .slice none 0 0] 25, box b_19 [.int .i64 b.States, v_7, v_9, v_11] 25, box b_17 [.int .i64 a.States, v_1, v_3, v_5] 25, fz fGEdge.rep v_11 b.Edges, fz fInt.rep v_9 b.Ends, fz fInt.rep v_7 b.Starts, fz fGEdge.rep v_5 a.Edges, fz fInt.rep v_3 a.Ends, fz fInt.rep v_1 a.Starts]) (L := L) [3, 4, 5, 6, 7, 8, 9, 10, 11, 12, 13, 14] rfl hO)⟩) rfl ?_
    rintro _ H_61 ⟨b_62, rfl, hO⟩
    replace hO : Own H_61 Z_55 (box b_62 [.int .i64 (a.States + b.States), v_48, v_53, .slice none 0 0, .bool false] 77 :: own fInt 3 v_53 (b.Ends.map (· + a.States)) :: own fInt 3 v_48 a.Starts :: tbl (Value.int .i64) Value.bool b_42 (membersL a.Ends) :: own fInt 3 v_38 (b.Starts.map (· + a.States)) :: fz rGNfa v_23 [a, b] :: box b_21 [.int .i64 (0 : Int), .slice none 0 0, .slice none 0 0, .slice none 0 0] 25 :: box b_19 [.int .i64 b.States, v_7, v_9, v_11] 25 :: box b_17 [.int .i64 a.States, v_1, v_3, v_5] 25 :: fz fGEdge.rep v_11 b.Edges :: fz fInt.rep v_9 b.Ends :: fz fInt.rep v_7 b.Starts :: fz fGEdge.rep v_5 a.Edges :: fz fInt.rep v_3 a.Ends :: fz fInt.rep v_1 a.Starts :: L) := hO
    refine hd_nil ?_
    refine hd_h (OpV.toH (v_assign rfl)) (fun _ _ hR => trivial) rfl ?_
    rintro vv HH ⟨hvv, hHH⟩
    obtain rfl := hvv.symm
    obtain rfl := hHH.symm
    refine hd_nil ?_
    refine thenQ_n ?_
    refine hw_sub _ (ai_cons (t := 2) rfl (ai_cons (t := 3) rfl (ai_cons (t := 4) rfl (ai_cons (t := 6) rfl (ai_cons (t := 7) rfl (ai_cons (t := 8) rfl (ai_cons (t := 9) rfl ai_nil))))))) ?_
    obtain ⟨K_66, h, hk_69⟩ := h
    refine hw_jn (fun g' H' => ∃ (x : Gnfa_builder) (v_63 : Value) (v_64 : Value) (v_65 : Value) (Z' : Nat → Prop), g' = [(2, ptr b_17 0), (3, ptr b_19 0), (4, ptr b_21 0), (6, .int .i64 a.States), (7, v_38), (8, .map (some b_42)), (9, ptr b_62 0)] ∧ (∀ b, Z b → Z' b) ∧ K_66 x ∧ Own H' Z' (own fGEdge 69 v_65 x.Nfa.Edges :: box b_62 [.int .i64 x.Nfa.States, v_63, v_64, v_65, .bool x.full] 77 :: own fInt 3 v_64 x.Nfa.Ends :: own fInt 3 v_63 x.Nfa.Starts :: tbl (Value.int .i64) Value.bool b_42 (membersL a.Ends) :: own fInt 3 v_38 (b.Starts.map (· + a.States)) :: box b_21 [.int .i64 (0 : Int), .slice none 0 0, .slice none 0 0, .slice none 0 0] 25 :: box b_19 [.int .i64 b.States, v_7, v_9, v_11] 25 :: box b_17 [.int .i64 a.States, v_1, v_3, v_5] 25 :: fz fGEdge.rep v_11 b.Edges :: fz fInt.rep v_9 b.Ends :: fz fInt.rep v_7 b.Starts :: fz fGEdge.rep v_5 a.Edges :: fz fInt.rep v_3 a.Ends :: fz fInt.rep v_1 a.Starts :: L)) ?_ ?_
    · skip
      refine hw_seq ?_
      refine hw_region ?_
      refine hl_v (v_loadA Try.isAgg25 Try.sizeOf25 rfl (Blk.at0 (hO.box 8 rfl)) rfl) rfl ?_
      refine hl_h (h_call Try.call47 (evs_cons rfl evs_nil) (nfaEmpty_spec (a0 := a) hO (Fz.of (i := 14) rfl) (Fz.of (i := 13) rfl) (Fz.of (i := 12) rfl))) rfl ?_
      rintro vv H_70 ⟨Z_71, hz_72, hv, hO⟩
      obtain rfl := hv.symm
      replace hZ := fun b hb => hz_72 b (hZ b hb)
      replace hO : Own H_70 Z_71 (box b_62 [.int .i64 (a.States + b.States), v_48, v_53, .slice none 0 0, .bool false] 77 :: own fInt 3 v_53 (b.Ends.map (· + a.States)) :: own fInt 3 v_48 a.Starts :: tbl (Value.int .i64) Value.bool b_42 (membersL a.Ends) :: own fInt 3 v_38 (b.Starts.map (· + a.States)) :: fz rGNfa v_23 [a, b] :: box b_21 [.int .i64 (0 : Int), .slice none 0 0, .slice none 0 0, .slice none 0 0] 25 :: box b_19 [.int .i64 b.States, v_7, v_9, v_11] 25 :: box b_17 [.int .i64 a.States, v_1, v_3, v_5] 25 :: fz fGEdge.rep v_11 b.Edges :: fz fInt.rep v_9 b.Ends :: fz fInt.rep v_7 b.Starts :: fz fGEdge.rep v_5 a.Edges :: fz fInt.rep v_3 a.Ends :: fz fInt.rep v_1 a.Starts :: L) := hO
      refine hl_nil ?_
      refine thenQ_n ?_
      refine hw_sub _ (ai_cons (t := 2) rfl (ai_cons (t := 3) rfl (ai_cons (t := 4) rfl (ai_cons (t := 6) rfl (ai_cons (t := 7) rfl (ai_cons (t := 8) rfl (ai_cons (t := 9) rfl (ai_cons (t := 43) rfl ai_nil)))))))) ?_
      refine hw_cond rfl (fun hc_73 => ?_) (fun hc_73 => ?_)
      · replace h := ite_t h hc_73
        refine hw_region ?_
        refine hl_v (v_move rfl) rfl ?_
        refine hl_v (v_move rfl) rfl ?_
        refine hl_v (v_nilCheck rfl) rfl ?_
        refine hl_v (v_fieldA Try.underlying77 rfl Try.sizeOf25 rfl) rfl ?_
        refine hl_v (v_fieldA Try.underlying25 rfl Try.sizeOf22 rfl) rfl ?_
        refine hl_v (v_load1 Try.isAgg22 rfl (Blk.cell (hO.box 0 rfl) rfl)) rfl ?_
        refine hl_v (v_move rfl) rfl ?_
        obtain ⟨hs_76, h⟩ := h
        refine hl_h (o_append (l2 := (b.Starts.map (· + a.States))) hO 2 rfl rfl Try.underlying22 Try.type3 rfl rfl rfl rfl rfl rfl rfl (hO.osl 4 rfl) hs_76 (le63 hs_76 rfl)) rfl ?_
        rintro v_75 H_74 hO
        replace hO : Own H_74 Z_71 (box b_62 [.int .i64 (a.States + b.States), v_48, v_53, .slice none 0 0, .bool false] 77 :: own fInt 3 v_53 (b.Ends.map (· + a.States)) :: own fInt 3 v_75 (a.Starts ++ (b.Starts.map (· + a.States))) :: tbl (Value.int .i64) Value.bool b_42 (membersL a.Ends) :: own fInt 3 v_38 (b.Starts.map (· + a.States)) :: fz rGNfa v_23 [a, b] :: box b_21 [.int .i64 (0 : Int), .slice none 0 0, .slice none 0 0, .slice none 0 0] 25 :: box b_19 [.int .i64 b.States, v_7, v_9, v_11] 25 :: box b_17 [.int .i64 a.States, v_1, v_3, v_5] 25 :: fz fGEdge.rep v_11 b.Edges :: fz fInt.rep v_9 b.Ends :: fz fInt.rep v_7 b.Starts :: fz fGEdge.rep v_5 a.Edges :: fz fInt.rep v_3 a.Ends :: fz fInt.rep v_1 a.Starts :: L) := hO
        refine hl_v (v_nilCheck rfl) rfl ?_
        refine hl_v (v_fieldA Try.underlying77 rfl Try.sizeOf25 rfl) rfl ?_
        refine hl_v (v_fieldA Try.underlying25 rfl Try.sizeOf22 rfl) rfl ?_
        refine hl_s (o_store1 hO 0 rfl Try.sizeOf22 rfl rfl rfl (Sl.one (hO.osl 2 rfl))) ?_
        rintro _ H_77 hO
        replace hO : Own H_77 Z_71 (box b_62 [.int .i64 (a.States + b.States), v_75, v_53, .slice none 0 0, .bool false] 77 :: own fInt 3 v_53 (b.Ends.map (· + a.States)) :: own fInt 3 v_75 (a.Starts ++ (b.Starts.map (· + a.States))) :: tbl (Value.int .i64) Value.bool b_42 (membersL a.Ends) :: own fInt 3 v_38 (b.Starts.map (· + a.States)) :: fz rGNfa v_23 [a, b] :: box b_21 [.int .i64 (0 : Int), .slice none 0 0, .slice none 0 0, .slice none 0 0] 25 :: box b_19 [.int .i64 b.States, v_7, v_9, v_11] 25 :: box b_17 [.int .i64 a.States, v_1, v_3, v_5] 25 :: fz fGEdge.rep v_11 b.Edges :: fz fInt.rep v_9 b.Ends :: fz fInt.rep v_7 b.Starts :: fz fGEdge.rep v_5 a.Edges :: fz fInt.rep v_3 a.Ends :: fz fInt.rep v_1 a.Starts :: L) := hO
        refine hl_nil ?_
        refine thenQ_n ?_
        replace hO : Own H_77 Z_71 (own fGEdge 69 (.slice none 0 0) [] :: box b_62 [.int .i64 (a.States + b.States), v_75, v_53, .slice none 0 0, .bool false] 77 :: own fInt 3 v_53 (b.Ends.map (· + a.States)) :: own fInt 3 v_75 (a.Starts ++ (b.Starts.map (· + a.States))) :: tbl (Value.int .i64) Value.bool b_42 (membersL a.Ends) :: own fInt 3 v_38 (b.Starts.map (· + a.States)) :: fz rGNfa v_23 [a, b] :: box b_21 [.int .i64 (0 : Int), .slice none 0 0, .slice none 0 0, .slice none 0 0] 25 :: box b_19 [.int .i64 b.States, v_7, v_9, v_11] 25 :: box b_17 [.int .i64 a.States, v_1, v_3, v_5] 25 :: fz fGEdge.rep v_11 b.Edges :: fz fInt.rep v_9 b.Ends :: fz fInt.rep v_7 b.Starts :: fz fGEdge.rep v_5 a.Edges :: fz fInt.rep v_3 a.Ends :: fz fInt.rep v_1 a.Starts :: L) := hO.nil fGEdge 69
        refine ⟨_, (ai_cons (t := 2) rfl (ai_cons (t := 3) rfl (ai_cons (t := 4) rfl (ai_cons (t := 6) rfl (ai_cons (t := 7) rfl (ai_cons (t := 8) rfl (ai_cons (t := 9) rfl ai_nil))))))), ⟨(⟨(⟨(a.States + b.States), (a.Starts ++ (b.Starts.map (· + a.States))), (b.Ends.map (· + a.States)), []⟩ : GNfa), false⟩ : Gnfa_builder), v_75, v_53, .slice none 0 0, _, rfl, hZ, h, (Own.sel (Ls := [own fGEdge 69 (.slice none 0 0) [], box b_62 [.int .i64 (a.States + b.States), v_75, v_53, .slice none 0 0, .bool false] 77, own fInt 3 v_53 (b.Ends.map (· + a.States)), own fInt 3 v_75 (a.Starts ++ (b.Starts.map (· + a.States))), tbl (Value.int .i64) Value.bool b_42 (membersL a.Ends), own fInt 3 v_38 (b.Starts.map (· + a.States)), fz rGNfa v_23 [a, b], box b_21 [.int .i64 (0 : Int), .slice none 0 0, .slice none 0 0, .slice none 0 0] 25, box b_19 [.int .i64 b.States, v_7, v_9, v_11] 25, box b_17 [.int .i64 a.States, v_1, v_3, v_5] 25, fz fGEdge.rep v_11 b.Edges, fz fInt.rep v_9 b.Ends, fz fInt.rep v_7 b.Starts, fz fGEdge.rep v_5 a.Edges, fz fInt.rep v_3 a.Ends, fz fInt.rep v_1 a.Starts]) (L := L) [0, 1, 2, 3, 4, 5, 7, 8, 9, 10, 11, 12, 13, 14, 15] rfl hO)⟩⟩
      · replace h := ite_f h hc_73
        refine hw_skip ?_
        refine thenQ_n ?_
        replace hO : Own H_70 Z_71 (own fGEdge 69 (.slice none 0 0) [] :: box b_62 [.int .i64 (a.States + b.States), v_48, v_53, .slice none 0 0, .bool false] 77 :: own fInt 3 v_53 (b.Ends.map (· + a.States)) :: own fInt 3 v_48 a.Starts :: tbl (Value.int .i64) Value.bool b_42 (membersL a.Ends) :: own fInt 3 v_38 (b.Starts.map (· + a.States)) :: fz rGNfa v_23 [a, b] :: box b_21 [.int .i64 (0 : Int), .slice none 0 0, .slice none 0 0, .slice none 0 0] 25 :: box b_19 [.int .i64 b.States, v_7, v_9, v_11] 25 :: box b_17 [.int .i64 a.States, v_1, v_3, v_5] 25 :: fz fGEdge.rep v_11 b.Edges :: fz fInt.rep v_9 b.Ends :: fz fInt.rep v_7 b.Starts :: fz fGEdge.rep v_5 a.Edges :: fz fInt.rep v_3 a.Ends :: fz fInt.rep v_1 a.Starts :: L) := hO.nil fGEdge 69
        refine ⟨_, (ai_cons (t := 2) rfl (ai_cons (t := 3) rfl (ai_cons (t := 4) rfl (ai_cons (t := 6) rfl (ai_cons (t := 7) rfl (ai_cons (t := 8) rfl (ai_cons (t := 9) rfl ai_nil))))))), ⟨(⟨(⟨(a.States + b.States), a.Starts, (b.Ends.map (· + a.States)), []⟩ : GNfa), false⟩ : Gnfa_builder), v_48, v_53, .slice none 0 0, _, rfl, hZ, h, (Own.sel (Ls := [own fGEdge 69 (.slice none 0 0) [], box b_62 [.int .i64 (a.States + b.States), v_48, v_53, .slice none 0 0, .bool false] 77, own fInt 3 v_53 (b.Ends.map (· + a.States)), own fInt 3 v_48 a.Starts, tbl (Value.int .i64) Value.bool b_42 (membersL a.Ends), own fInt 3 v_38 (b.Starts.map (· + a.States)), fz rGNfa v_23 [a, b], box b_21 [.int .i64 (0 : Int), .slice none 0 0, .slice none 0 0, .slice none 0 0] 25, box b_19 [.int .i64 b.States, v_7, v_9, v_11] 25, box b_17 [.int .i64 a.States, v_1, v_3, v_5] 25, fz fGEdge.rep v_11 b.Edges, fz fInt.rep v_9 b.Ends, fz fInt.rep v_7 b.Starts, fz fGEdge.rep v_5 a.Edges, fz fInt.rep v_3 a.Ends, fz fInt.rep v_1 a.Starts]) (L := L) [0, 1, 2, 3, 4, 5, 7, 8, 9, 10, 11, 12, 13, 14, 15] rfl hO)⟩⟩
    · rintro _ H_67 ⟨x, v_63, v_64, v_65, Z_68, rfl, hZ, h, hO⟩
      replace h := hk_69 x h
      obtain ⟨K_81, h, hk_84⟩ := h
      refine hw_jn (fun g' H' => ∃ (x2 : Gnfa_builder) (v_78 : Value) (v_79 : Value) (v_80 : Value) (Z' : Nat → Prop), g' = [(2, ptr b_17 0), (3, ptr b_19 0), (4, ptr b_21 0), (6, .int .i64 a.States), (7, v_38), (8, .map (some b_42)), (9, ptr b_62 0)] ∧ (∀ b, Z b → Z' b) ∧ K_81 x2 ∧ Own H' Z' (own fInt 3 v_79 x2.Nfa.Ends :: own fGEdge 69 v_80 x2.Nfa.Edges :: box b_62 [.int .i64 x2.Nfa.States, v_78, v_79, v_80, .bool x2.full] 77 :: own fInt 3 v_78 x2.Nfa.Starts :: tbl (Value.int .i64) Value.bool b_42 (membersL a.Ends) :: own fInt 3 v_38 (b.Starts.map (· + a.States)) :: box b_21 [.int .i64 (0 : Int), .slice none 0 0, .slice none 0 0, .slice none 0 0] 25 :: box b_19 [.int .i64 b.States, v_7, v_9, v_11] 25 :: box b_17 [.int .i64 a.States, v_1, v_3, v_5] 25 :: fz fGEdge.rep v_11 b.Edges :: fz fInt.rep v_9 b.Ends :: fz fInt.rep v_7 b.Starts :: fz fGEdge.rep v_5 a.Edges :: fz fInt.rep v_3 a.Ends :: fz fInt.rep v_1 a.Starts :: L)) ?_ ?_
      · skip
        refine hw_seq ?_
        refine hw_region ?_
        refine hl_v (v_loadA Try.isAgg25 Try.sizeOf25 rfl (Blk.at0 (hO.box 7 rfl)) rfl) rfl ?_
        refine hl_h (h_call Try.call47 (evs_cons rfl evs_nil) (nfaEmpty_spec (a0 := b) hO (Fz.of (i := 11) rfl) (Fz.of (i := 10) rfl) (Fz.of (i := 9) rfl))) rfl ?_
        rintro vv H_85 ⟨Z_86, hz_87, hv, hO⟩
        obtain rfl := hv.symm
        replace hZ := fun b hb => hz_87 b (hZ b hb)
        replace hO : Own H_85 Z_86 (own fGEdge 69 v_65 x.Nfa.Edges :: box b_62 [.int .i64 x.Nfa.States, v_63, v_64, v_65, .bool x.full] 77 :: own fInt 3 v_64 x.Nfa.Ends :: own fInt 3 v_63 x.Nfa.Starts :: tbl (Value.int .i64) Value.bool b_42 (membersL a.Ends) :: own fInt 3 v_38 (b.Starts.map (· + a.States)) :: box b_21 [.int .i64 (0 : Int), .slice none 0 0, .slice none 0 0, .slice none 0 0] 25 :: box b_19 [.int .i64 b.States, v_7, v_9, v_11] 25 :: box b_17 [.int .i64 a.States, v_1, v_3, v_5] 25 :: fz fGEdge.rep v_11 b.Edges :: fz fInt.rep v_9 b.Ends :: fz fInt.rep v_7 b.Starts :: fz fGEdge.rep v_5 a.Edges :: fz fInt.rep v_3 a.Ends :: fz fInt.rep v_1 a.Starts :: L) := hO
        refine hl_nil ?_
        refine thenQ_n ?_
        refine hw_sub _ (ai_cons (t := 2) rfl (ai_cons (t := 3) rfl (ai_cons (t := 4) rfl (ai_cons (t := 6) rfl (ai_cons (t := 7) rfl (ai_cons (t := 8) rfl (ai_cons (t := 9) rfl (ai_cons (t := 56) rfl ai_nil)))))))) ?_
        refine hw_cond rfl (fun hc_88 => ?_) (fun hc_88 => ?_)
        · replace h := ite_t h hc_88
          refine hw_held2 10 (fun H' => ∃ Z' : Nat → Prop, Own H' Z' (own fGEdge 69 v_65 x.Nfa.Edges :: box b_62 [.int .i64 x.Nfa.States, v_63, v_64, v_65, .bool x.full] 77 :: own fInt 3 v_63 x.Nfa.Starts :: tbl (Value.int .i64) Value.bool b_42 (membersL a.Ends) :: own fInt 3 v_38 (b.Starts.map (· + a.States)) :: box b_21 [.int .i64 (0 : Int), .slice none 0 0, .slice none 0 0, .slice none 0 0] 25 :: box b_19 [.int .i64 b.States, v_7, v_9, v_11] 25 :: box b_17 [.int .i64 a.States, v_1, v_3, v_5] 25 :: fz fGEdge.rep v_11 b.Edges :: fz fInt.rep v_9 b.Ends :: fz fInt.rep v_7 b.Starts :: fz fGEdge.rep v_5 a.Edges :: fz fInt.rep v_3 a.Ends :: fz fInt.rep v_1 a.Starts :: L)) (.step 0 false (.step 1 false (.step 2 false (.step 3 false (.step 4 false (.step 5 false (.step 6 false (.step 7 false (.step 8 true (.step 9 true .done)))))))))) (.step 10 true (.step 11 true (.step 12 true (.step 13 true .done)))) Try.mixed (by kernel_rfl) ⟨_, (Own.sel (Ls := [own fGEdge 69 v_65 x.Nfa.Edges, box b_62 [.int .i64 x.Nfa.States, v_63, v_64, v_65, .bool x.full] 77, own fInt 3 v_64 x.Nfa.Ends, own fInt 3 v_63 x.Nfa.Starts, tbl (Value.int .i64) Value.bool b_42 (membersL a.Ends), own fInt 3 v_38 (b.Starts.map (· + a.States)), box b_21 [.int .i64 (0 : Int), .slice none 0 0, .slice none 0 0, .slice none 0 0] 25, box b_19 [.int .i64 b.States, v_7, v_9, v_11] 25, box b_17 [.int .i64 a.States, v_1, v_3, v_5] 25, fz fGEdge.rep v_11 b.Edges, fz fInt.rep v_9 b.Ends, fz fInt.rep v_7 b.Starts, fz fGEdge.rep v_5 a.Edges, fz fInt.rep v_3 a.Ends, fz fInt.rep v_1 a.Starts]) (L := L) [0, 1, 3, 4, 5, 6, 7, 8, 9, 10, 11, 12, 13, 14] rfl hO)⟩ ?_
          refine hd_v rfl (fun _ _ => (v_move rfl)) rfl ?_
          refine hd_v rfl (fun _ _ => (v_fieldA Try.underlying25 rfl Try.sizeOf22 rfl)) rfl ?_
          refine hd_v rfl (fun H' hS => by obtain ⟨Z', hO⟩ := hS; exact (v_load1 Try.isAgg22 rfl (Blk.cell (hO.box 7 rfl) rfl))) rfl ?_
          refine hd_v rfl (fun _ _ => (v_move rfl)) rfl ?_
          refine hd_v rfl (fun _ _ => (v_nilCheck rfl)) rfl ?_
          refine hd_v rfl (fun _ _ => (v_fieldA Try.underlying77 rfl Try.sizeOf25 rfl)) rfl ?_
          refine hd_v rfl (fun _ _ => (v_fieldA Try.underlying25 rfl Try.sizeOf22 rfl)) rfl ?_
          refine hd_v rfl (fun H' hS => by obtain ⟨Z', hO⟩ := hS; exact (v_load1 Try.isAgg22 rfl (Blk.cell (hO.box 1 rfl) rfl))) rfl ?_
          obtain ⟨Z_92, hz_91, hO⟩ := hO.freeze (i := 2) rfl
          replace hZ := fun b hb => hz_91 b (hZ b hb)
          replace hO : Own H_85 Z_92 (own fGEdge 69 v_65 x.Nfa.Edges :: box b_62 [.int .i64 x.Nfa.States, v_63, v_64, v_65, .bool x.full] 77 :: fz fInt.rep v_64 x.Nfa.Ends :: own fInt 3 v_63 x.Nfa.Starts :: tbl (Value.int .i64) Value.bool b_42 (membersL a.Ends) :: own fInt 3 v_38 (b.Starts.map (· + a.States)) :: box b_21 [.int .i64 (0 : Int), .slice none 0 0, .slice none 0 0, .slice none 0 0] 25 :: box b_19 [.int .i64 b.States, v_7, v_9, v_11] 25 :: box b_17 [.int .i64 a.States, v_1, v_3, v_5] 25 :: fz fGEdge.rep v_11 b.Edges :: fz fInt.rep v_9 b.Ends :: fz fInt.rep v_7 b.Starts :: fz fGEdge.rep v_5 a.Edges :: fz fInt.rep v_3 a.Ends :: fz fInt.rep v_1 a.Starts :: L) := hO
          have hsh_93 := Sl.sh (hO.fsl 13 rfl)
          have hsh_94 := Sl.sh (hO.fsl 2 rfl)
          refine hd_h (o_litR (r := (Rep.sl fInt.rep)) (l := [a.Ends, x.Nfa.Ends]) (xs := [.tmp 59, .tmp 64]) (css := [[v_3], [v_64]]) hO Try.underlying111 Try.sizeOf22 Try.zeroValue22 rfl (evs_cons rfl (evs_cons rfl evs_nil)) rfl rfl rfl (by obtain ⟨_, _, _, hw⟩ := hsh_93; (try subst hw); obtain ⟨_, _, _, hw⟩ := hsh_94; (try subst hw); rfl) rfl (relAll_cons ⟨_, rfl, (hO.fsl 13 rfl)⟩ (relAll_cons ⟨_, rfl, (hO.fsl 2 rfl)⟩ relAll_nil))) (by rintro v_90 H_89 hO; exact ⟨_, (Own.sel (Ls := [ownR (Rep.sl fInt.rep) 22 v_90 [a.Ends, x.Nfa.Ends], own fGEdge 69 v_65 x.Nfa.Edges, box b_62 [.int .i64 x.Nfa.States, v_63, v_64, v_65, .bool x.full] 77, fz fInt.rep v_64 x.Nfa.Ends, own fInt 3 v_63 x.Nfa.Starts, tbl (Value.int .i64) Value.bool b_42 (membersL a.Ends), own fInt 3 v_38 (b.Starts.map (· + a.States)), box b_21 [.int .i64 (0 : Int), .slice none 0 0, .slice none 0 0, .slice none 0 0] 25, box b_19 [.int .i64 b.States, v_7, v_9, v_11] 25, box b_17 [.int .i64 a.States, v_1, v_3, v_5] 25, fz fGEdge.rep v_11 b.Edges, fz fInt.rep v_9 b.Ends, fz fInt.rep v_7 b.Starts, fz fGEdge.rep v_5 a.Edges, fz fInt.rep v_3 a.Ends, fz fInt.rep v_1 a.Starts]) (L := L) [1, 2, 4, 5, 6, 7, 8, 9, 10, 11, 12, 13, 14, 15] rfl hO)⟩) rfl ?_
          rintro v_90 H_89 hO
          replace hO : Own H_89 Z_92 (ownR (Rep.sl fInt.rep) 22 v_90 [a.Ends, x.Nfa.Ends] :: own fGEdge 69 v_65 x.Nfa.Edges :: box b_62 [.int .i64 x.Nfa.States, v_63, v_64, v_65, .bool x.full] 77 :: fz fInt.rep v_64 x.Nfa.Ends :: own fInt 3 v_63 x.Nfa.Starts :: tbl (Value.int .i64) Value.bool b_42 (membersL a.Ends) :: own fInt 3 v_38 (b.Starts.map (· + a.States)) :: box b_21 [.int .i64 (0 : Int), .slice none 0 0, .slice none 0 0, .slice none 0 0] 25 :: box b_19 [.int .i64 b.States, v_7, v_9, v_11] 25 :: box b_17 [.int .i64 a.States, v_1, v_3, v_5] 25 :: fz fGEdge.rep v_11 b.Edges :: fz fInt.rep v_9 b.Ends :: fz fInt.rep v_7 b.Starts :: fz fGEdge.rep v_5 a.Edges :: fz fInt.rep v_3 a.Ends :: fz fInt.rep v_1 a.Starts :: L) := hO
          obtain ⟨Z_96, hz_95, hO⟩ := hO.freezeR (i := 0) rfl
          replace hZ := fun b hb => hz_95 b (hZ b hb)
          replace hO : Own H_89 Z_96 (fz (Rep.sl fInt.rep) v_90 [a.Ends, x.Nfa.Ends] :: own fGEdge 69 v_65 x.Nfa.Edges :: box b_62 [.int .i64 x.Nfa.States, v_63, v_64, v_65, .bool x.full] 77 :: fz fInt.rep v_64 x.Nfa.Ends :: own fInt 3 v_63 x.Nfa.Starts :: tbl (Value.int .i64) Value.bool b_42 (membersL a.Ends) :: own fInt 3 v_38 (b.Starts.map (· + a.States)) :: box b_21 [.int .i64 (0 : Int), .slice none 0 0, .slice none 0 0, .slice none 0 0] 25 :: box b_19 [.int .i64 b.States, v_7, v_9, v_11] 25 :: box b_17 [.int .i64 a.States, v_1, v_3, v_5] 25 :: fz fGEdge.rep v_11 b.Edges :: fz fInt.rep v_9 b.Ends :: fz fInt.rep v_7 b.Starts :: fz fGEdge.rep v_5 a.Edges :: fz fInt.rep v_3 a.Ends :: fz fInt.rep v_1 a.Starts :: L) := hO
          obtain ⟨hs_97, h⟩ := h
          refine hd_h (h_call Try.call48 (evs_cons rfl evs_nil) (concatInt_spec (a0 := [a.Ends, x.Nfa.Ends]) hs_97 hO (Fz.of (i := 0) rfl))) (by rintro vv H_99 ⟨Z_100, v_98, hz_101, hv, hO⟩; obtain rfl := hv.symm; replace hZ := fun b hb => hz_101 b (hZ b hb); exact ⟨_, (Own.sel (Ls := [own fInt 3 v_98 ([a.Ends, x.Nfa.Ends].flatten), fz (Rep.sl fInt.rep) v_90 [a.Ends, x.Nfa.Ends], own fGEdge 69 v_65 x.Nfa.Edges, box b_62 [.int .i64 x.Nfa.States, v_63, v_64, v_65, .bool x.full] 77, fz fInt.rep v_64 x.Nfa.Ends, own fInt 3 v_63 x.Nfa.Starts, tbl (Value.int .i64) Value.bool b_42 (membersL a.Ends), own fInt 3 v_38 (b.Starts.map (· + a.States)), box b_21 [.int .i64 (0 : Int), .slice none 0 0, .slice none 0 0, .slice none 0 0] 25, box b_19 [.int .i64 b.States, v_7, v_9, v_11] 25, box b_17 [.int .i64 a.States, v_1, v_3, v_5] 25, fz fGEdge.rep v_11 b.Edges, fz fInt.rep v_9 b.Ends, fz fInt.rep v_7 b.Starts, fz fGEdge.rep v_5 a.Edges, fz fInt.rep v_3 a.Ends, fz fInt.rep v_1 a.Starts]) (L := L) [2, 3, 5, 6, 7, 8, 9, 10, 11, 12, 13, 14, 15, 16] rfl hO)⟩) rfl ?_
          rintro vv H_99 ⟨Z_100, v_98, hz_101, hv, hO⟩
          obtain rfl := hv.symm
          replace hZ := fun b hb => hz_101 b (hZ b hb)
          replace hO : Own H_99 Z_100 (own fInt 3 v_98 ([a.Ends, x.Nfa.Ends].flatten) :: fz (Rep.sl fInt.rep) v_90 [a.Ends, x.Nfa.Ends] :: own fGEdge 69 v_65 x.Nfa.Edges :: box b_62 [.int .i64 x.Nfa.States, v_63, v_64, v_65, .bool x.full] 77 :: fz fInt.rep v_64 x.Nfa.Ends :: own fInt 3 v_63 x.Nfa.Starts :: tbl (Value.int .i64) Value.bool b_42 (membersL a.Ends) :: own fInt 3 v_38 (b.Starts.map (· + a.States)) :: box b_21 [.int .i64 (0 : Int), .slice none 0 0, .slice none 0 0, .slice none 0 0] 25 :: box b_19 [.int .i64 b.States, v_7, v_9, v_11] 25 :: box b_17 [.int .i64 a.States, v_1, v_3, v_5] 25 :: fz fGEdge.rep v_11 b.Edges :: fz fInt.rep v_9 b.Ends :: fz fInt.rep v_7 b.Starts :: fz fGEdge.rep v_5 a.Edges :: fz fInt.rep v_3 a.Ends :: fz fInt.rep v_1 a.Starts :: L) := hO
          refine hd_nil ?_
          refine hd_h (OpV.toH (v_nilCheck rfl)) (fun _ _ hR => trivial) rfl ?_
          rintro vv HH ⟨hvv, hHH⟩
          obtain rfl := hvv.symm
          obtain rfl := hHH.symm
          refine hd_h (OpV.toH (v_fieldA Try.underlying77 rfl Try.sizeOf25 rfl)) (fun _ _ hR => trivial) rfl ?_
          rintro vv HH ⟨hvv, hHH⟩
          obtain rfl := hvv.symm
          obtain rfl := hHH.symm
          refine hd_h (OpV.toH (v_fieldA Try.underlying25 rfl Try.sizeOf22 rfl)) (fun _ _ hR => trivial) rfl ?_
          rintro vv HH ⟨hvv, hHH⟩
          obtain rfl := hvv.symm
          obtain rfl := hHH.symm
          refine hd_s (o_store1 hO 3 rfl Try.sizeOf22 rfl rfl rfl (Sl.one (hO.osl 0 rfl))) (fun _ _ _ => trivial) ?_
          rintro _ H_102 hO
          replace hO : Own H_102 Z_100 (own fInt 3 v_98 ([a.Ends, x.Nfa.Ends].flatten) :: fz (Rep.sl fInt.rep) v_90 [a.Ends, x.Nfa.Ends] :: own fGEdge 69 v_65 x.Nfa.Edges :: box b_62 [.int .i64 x.Nfa.States, v_63, v_98, v_65, .bool x.full] 77 :: fz fInt.rep v_64 x.Nfa.Ends :: own fInt 3 v_63 x.Nfa.Starts :: tbl (Value.int .i64) Value.bool b_42 (membersL a.Ends) :: own fInt 3 v_38 (b.Starts.map (· + a.States)) :: box b_21 [.int .i64 (0 : Int), .slice none 0 0, .slice none 0 0, .slice none 0 0] 25 :: box b_19 [.int .i64 b.States, v_7, v_9, v_11] 25 :: box b_17 [.int .i64 a.States, v_1, v_3, v_5] 25 :: fz fGEdge.rep v_11 b.Edges :: fz fInt.rep v_9 b.Ends :: fz fInt.rep v_7 b.Starts :: fz fGEdge.rep v_5 a.Edges :: fz fInt.rep v_3 a.Ends :: fz fInt.rep v_1 a.Starts :: L) := hO
          refine hd_nil ?_
          refine thenQ_n ?_
          refine ⟨_, (ai_cons (t := 2) rfl (ai_cons (t := 3) rfl (ai_cons (t := 4) rfl (ai_cons (t := 6) rfl (ai_cons (t := 7) rfl (ai_cons (t := 8) rfl (ai_cons (t := 9) rfl ai_nil))))))), ⟨(⟨(⟨x.Nfa.States, x.Nfa.Starts, [a.Ends, x.Nfa.Ends].flatten, x.Nfa.Edges⟩ : GNfa), x.full⟩ : Gnfa_builder), v_63, v_98, v_65, _, rfl, hZ, h, (Own.sel (Ls := [own fInt 3 v_98 ([a.Ends, x.Nfa.Ends].flatten), fz (Rep.sl fInt.rep) v_90 [a.Ends, x.Nfa.Ends], own fGEdge 69 v_65 x.Nfa.Edges, box b_62 [.int .i64 x.Nfa.States, v_63, v_98, v_65, .bool x.full] 77, fz fInt.rep v_64 x.Nfa.Ends, own fInt 3 v_63 x.Nfa.Starts, tbl (Value.int .i64) Value.bool b_42 (membersL a.Ends), own fInt 3 v_38 (b.Starts.map (· + a.States)), box b_21 [.int .i64 (0 : Int), .slice none 0 0, .slice none 0 0, .slice none 0 0] 25, box b_19 [.int .i64 b.States, v_7, v_9, v_11] 25, box b_17 [.int .i64 a.States, v_1, v_3, v_5] 25, fz fGEdge.rep v_11 b.Edges, fz fInt.rep v_9 b.Ends, fz fInt.rep v_7 b.Starts, fz fGEdge.rep v_5 a.Edges, fz fInt.rep v_3 a.Ends, fz fInt.rep v_1 a.Starts]) (L := L) [0, 2, 3, 5, 6, 7, 8, 9, 10, 11, 12, 13, 14, 15, 16] rfl hO)⟩⟩
        · replace h := ite_f h hc_88
          refine hw_skip ?_
          refine thenQ_n ?_
          refine ⟨_, (ai_cons (t := 2) rfl (ai_cons (t := 3) rfl (ai_cons (t := 4) rfl (ai_cons (t := 6) rfl (ai_cons (t := 7) rfl (ai_cons (t := 8) rfl (ai_cons (t := 9) rfl ai_nil))))))), ⟨x, v_63, v_64, v_65, _, rfl, hZ, h, (Own.sel (Ls := [own fGEdge 69 v_65 x.Nfa.Edges, box b_62 [.int .i64 x.Nfa.States, v_63, v_64, v_65, .bool x.full] 77, own fInt 3 v_64 x.Nfa.Ends, own fInt 3 v_63 x.Nfa.Starts, tbl (Value.int .i64) Value.bool b_42 (membersL a.Ends), own fInt 3 v_38 (b.Starts.map (· + a.States)), box b_21 [.int .i64 (0 : Int), .slice none 0 0, .slice none 0 0, .slice none 0 0] 25, box b_19 [.int .i64 b.States, v_7, v_9, v_11] 25, box b_17 [.int .i64 a.States, v_1, v_3, v_5] 25, fz fGEdge.rep v_11 b.Edges, fz fInt.rep v_9 b.Ends, fz fInt.rep v_7 b.Starts, fz fGEdge.rep v_5 a.Edges, fz fInt.rep v_3 a.Ends, fz fInt.rep v_1 a.Starts]) (L := L) [2, 0, 1, 3, 4, 5, 6, 7, 8, 9, 10, 11, 12, 13, 14] rfl hO)⟩⟩
      · rintro _ H_82 ⟨x2, v_78, v_79, v_80, Z_83, rfl, hZ, h, hO⟩
        replace h := hk_84 x2 h
        refine hw_seq ?_
        refine hw_region ?_
        refine hl_v (v_move rfl) rfl ?_
        refine hl_v (v_loadA Try.isAgg25 Try.sizeOf25 rfl (Blk.at0 (hO.box 8 rfl)) rfl) rfl ?_
        obtain ⟨hs_103, h⟩ := h
        refine hl_h (h_call Try.call49 (evs_cons rfl (evs_cons rfl (evs_cons (show _ = some (.int .i64 0) from rfl) evs_nil))) (nbPut_spec (a0 := x2) (a1 := a) (a2 := 0) (L := tbl (Value.int .i64) Value.bool b_42 (membersL a.Ends) :: own fInt 3 v_38 (b.Starts.map (· + a.States)) :: box b_21 [.int .i64 (0 : Int), .slice none 0 0, .slice none 0 0, .slice none 0 0] 25 :: box b_19 [.int .i64 b.States, v_7, v_9, v_11] 25 :: box b_17 [.int .i64 a.States, v_1, v_3, v_5] 25 :: fz fGEdge.rep v_11 b.Edges :: fz fInt.rep v_9 b.Ends :: fz fInt.rep v_7 b.Starts :: fz fGEdge.rep v_5 a.Edges :: fz fInt.rep v_3 a.Ends :: fz fInt.rep v_1 a.Starts :: L) hs_103 (Own.sel (Ls := [own fInt 3 v_79 x2.Nfa.Ends, own fGEdge 69 v_80 x2.Nfa.Edges, box b_62 [.int .i64 x2.Nfa.States, v_78, v_79, v_80, .bool x2.full] 77, own fInt 3 v_78 x2.Nfa.Starts, tbl (Value.int .i64) Value.bool b_42 (membersL a.Ends), own fInt 3 v_38 (b.Starts.map (· + a.States)), box b_21 [.int .i64 (0 : Int), .slice none 0 0, .slice none 0 0, .slice none 0 0] 25, box b_19 [.int .i64 b.States, v_7, v_9, v_11] 25, box b_17 [.int .i64 a.States, v_1, v_3, v_5] 25, fz fGEdge.rep v_11 b.Edges, fz fInt.rep v_9 b.Ends, fz fInt.rep v_7 b.Starts, fz fGEdge.rep v_5 a.Edges, fz fInt.rep v_3 a.Ends, fz fInt.rep v_1 a.Starts]) (L := L) [2, 3, 0, 1, 4, 5, 6, 7, 8, 9, 10, 11, 12, 13, 14] rfl hO) (Fz.of (i := 10) rfl) (Fz.of (i := 9) rfl) (Fz.of (i := 8) rfl))) rfl ?_
        rintro vv H_104 ⟨Z_105, v_107, v_108, v_109, hz_106, hv, hO⟩
        obtain rfl := hv.symm
        replace hZ := fun b hb => hz_106 b (hZ b hb)
        replace hO : Own H_104 Z_105 (box b_62 [.int .i64 (((nbPut x2 a 0).Nfa).States), v_107, v_108, v_109, .bool ((nbPut x2 a 0).full)] 77 :: own fInt 3 v_107 (((nbPut x2 a 0).Nfa).Starts) :: own fInt 3 v_108 (((nbPut x2 a 0).Nfa).Ends) :: own fGEdge 69 v_109 (((nbPut x2 a 0).Nfa).Edges) :: tbl (Value.int .i64) Value.bool b_42 (membersL a.Ends) :: own fInt 3 v_38 (b.Starts.map (· + a.States)) :: box b_21 [.int .i64 (0 : Int), .slice none 0 0, .slice none 0 0, .slice none 0 0] 25 :: box b_19 [.int .i64 b.States, v_7, v_9, v_11] 25 :: box b_17 [.int .i64 a.States, v_1, v_3, v_5] 25 :: fz fGEdge.rep v_11 b.Edges :: fz fInt.rep v_9 b.Ends :: fz fInt.rep v_7 b.Starts :: fz fGEdge.rep v_5 a.Edges :: fz fInt.rep v_3 a.Ends :: fz fInt.rep v_1 a.Starts :: L) := hO
        refine hl_nil ?_
        refine thenQ_n ?_
        refine hw_sub _ (ai_cons (t := 2) rfl (ai_cons (t := 3) rfl (ai_cons (t := 4) rfl (ai_cons (t := 6) rfl (ai_cons (t := 7) rfl (ai_cons (t := 8) rfl (ai_cons (t := 9) rfl ai_nil))))))) ?_
        refine hw_seq ?_
        refine hw_region ?_
        refine hl_v (v_move rfl) rfl ?_
        refine hl_v (v_loadA Try.isAgg25 Try.sizeOf25 rfl (Blk.at0 (hO.box 7 rfl)) rfl) rfl ?_
        refine hl_v (v_move rfl) rfl ?_
        obtain ⟨hs_110, h⟩ := h
        refine hl_h (h_call Try.call49 (evs_cons rfl (evs_cons rfl (evs_cons rfl evs_nil))) (nbPut_spec (a0 := (nbPut x2 a 0)) (a1 := b) (a2 := a.States) (L := tbl (Value.int .i64) Value.bool b_42 (membersL a.Ends) :: own fInt 3 v_38 (b.Starts.map (· + a.States)) :: box b_21 [.int .i64 (0 : Int), .slice none 0 0, .slice none 0 0, .slice none 0 0] 25 :: box b_19 [.int .i64 b.States, v_7, v_9, v_11] 25 :: box b_17 [.int .i64 a.States, v_1, v_3, v_5] 25 :: fz fGEdge.rep v_11 b.Edges :: fz fInt.rep v_9 b.Ends :: fz fInt.rep v_7 b.Starts :: fz fGEdge.rep v_5 a.Edges :: fz fInt.rep v_3 a.Ends :: fz fInt.rep v_1 a.Starts :: L) hs_110 (Own.sel (Ls := [box b_62 [.int .i64 (((nbPut x2 a 0).Nfa).States), v_107, v_108, v_109, .bool ((nbPut x2 a 0).full)] 77, own fInt 3 v_107 (((nbPut x2 a 0).Nfa).Starts), own fInt 3 v_108 (((nbPut x2 a 0).Nfa).Ends), own fGEdge 69 v_109 (((nbPut x2 a 0).Nfa).Edges), tbl (Value.int .i64) Value.bool b_42 (membersL a.Ends), own fInt 3 v_38 (b.Starts.map (· + a.States)), box b_21 [.int .i64 (0 : Int), .slice none 0 0, .slice none 0 0, .slice none 0 0] 25, box b_19 [.int .i64 b.States, v_7, v_9, v_11] 25, box b_17 [.int .i64 a.States, v_1, v_3, v_5] 25, fz fGEdge.rep v_11 b.Edges, fz fInt.rep v_9 b.Ends, fz fInt.rep v_7 b.Starts, fz fGEdge.rep v_5 a.Edges, fz fInt.rep v_3 a.Ends, fz fInt.rep v_1 a.Starts]) (L := L) [0, 1, 2, 3, 4, 5, 6, 7, 8, 9, 10, 11, 12, 13, 14] rfl hO) (Fz.of (i := 7) rfl) (Fz.of (i := 6) rfl) (Fz.of (i := 5) rfl))) rfl ?_
        rintro vv H_111 ⟨Z_112, v_114, v_115, v_116, hz_113, hv, hO⟩
        obtain rfl := hv.symm
        replace hZ := fun b hb => hz_113 b (hZ b hb)
        replace hO : Own H_111 Z_112 (box b_62 [.int .i64 (((nbPut (nbPut x2 a 0) b a.States).Nfa).States), v_114, v_115, v_116, .bool ((nbPut (nbPut x2 a 0) b a.States).full)] 77 :: own fInt 3 v_114 (((nbPut (nbPut x2 a 0) b a.States).Nfa).Starts) :: own fInt 3 v_115 (((nbPut (nbPut x2 a 0) b a.States).Nfa).Ends) :: own fGEdge 69 v_116 (((nbPut (nbPut x2 a 0) b a.States).Nfa).Edges) :: tbl (Value.int .i64) Value.bool b_42 (membersL a.Ends) :: own fInt 3 v_38 (b.Starts.map (· + a.States)) :: box b_21 [.int .i64 (0 : Int), .slice none 0 0, .slice none 0 0, .slice none 0 0] 25 :: box b_19 [.int .i64 b.States, v_7, v_9, v_11] 25 :: box b_17 [.int .i64 a.States, v_1, v_3, v_5] 25 :: fz fGEdge.rep v_11 b.Edges :: fz fInt.rep v_9 b.Ends :: fz fInt.rep v_7 b.Starts :: fz fGEdge.rep v_5 a.Edges :: fz fInt.rep v_3 a.Ends :: fz fInt.rep v_1 a.Starts :: L) := hO
        refine hl_nil ?_
        refine thenQ_n ?_
        refine hw_sub _ (ai_cons (t := 2) rfl (ai_cons (t := 4) rfl (ai_cons (t := 7) rfl (ai_cons (t := 8) rfl (ai_cons (t := 9) rfl ai_nil))))) ?_
        refine hw_seq ?_
        refine hw_label ?_
        refine thenQ_n ?_
        obtain ⟨K_120, h, hk_123⟩ := h
        refine hw_jn (fun g' H' => ∃ (x3 : Gnfa_builder) (v_117 : Value) (v_118 : Value) (v_119 : Value) (Z' : Nat → Prop), g' = [(4, ptr b_21 0), (9, ptr b_62 0)] ∧ (∀ b, Z b → Z' b) ∧ K_120 x3 ∧ Own H' Z' (box b_62 [.int .i64 x3.Nfa.States, v_117, v_118, v_119, .bool x3.full] 77 :: own fInt 3 v_117 x3.Nfa.Starts :: own fInt 3 v_118 x3.Nfa.Ends :: own fGEdge 69 v_119 x3.Nfa.Edges :: box b_21 [.int .i64 (0 : Int), .slice none 0 0, .slice none 0 0, .slice none 0 0] 25 :: L)) ?_ ?_
        · skip
          refine hw_seq ?_
          refine hw_region ?_
          refine hl_v (v_fieldA Try.underlying25 rfl Try.sizeOf23 rfl) rfl ?_
          refine hl_v (v_load1 Try.isAgg23 rfl (Blk.cell (hO.box 8 rfl) rfl)) rfl ?_
          have hln_124 := Sl.cap (hO.fsl 12 rfl)
          refine hl_v (v_lenL rfl Try.underlying23 rfl (hO.fsl 12 rfl)) rfl ?_
          refine hl_v (v_move rfl) rfl ?_
          refine hl_nil ?_
          refine thenQ_n ?_
          refine hw_sub _ (ai_cons (t := 4) rfl (ai_cons (t := 7) rfl (ai_cons (t := 8) rfl (ai_cons (t := 9) rfl (ai_cons (t := 78) rfl (ai_cons (t := 79) rfl (ai_cons (t := 80) rfl ai_nil))))))) ?_
          refine hw_block ?_
          obtain ⟨I_128, h, hI_130⟩ := h
          refine hw_lp (fun n' g' H' => ∃ (x4 : Gnfa_builder) (k : Nat) (v_125 : Value) (v_126 : Value) (v_127 : Value) (Z' : Nat → Prop), n' = a.Edges.length - k ∧ g' = [(4, ptr b_21 0), (7, v_38), (8, .map (some b_42)), (9, ptr b_62 0), (78, v_5), (79, .int .i64 (a.Edges.length : Int)), (80, .int .i64 (k : Int))] ∧ (∀ b, Z b → Z' b) ∧ I_128 x4 k ∧ k ≤ a.Edges.length ∧ Own H' Z' (box b_62 [.int .i64 x4.Nfa.States, v_125, v_126, v_127, .bool x4.full] 77 :: own fInt 3 v_125 x4.Nfa.Starts :: own fInt 3 v_126 x4.Nfa.Ends :: own fGEdge 69 v_127 x4.Nfa.Edges :: tbl (Value.int .i64) Value.bool b_42 (membersL a.Ends) :: own fInt 3 v_38 (b.Starts.map (· + a.States)) :: box b_21 [.int .i64 (0 : Int), .slice none 0 0, .slice none 0 0, .slice none 0 0] 25 :: fz fGEdge.rep v_5 a.Edges :: L)) _ _ (ai_cons (t := 4) rfl (ai_cons (t := 7) rfl (ai_cons (t := 8) rfl (ai_cons (t := 9) rfl (ai_cons (t := 78) rfl (ai_cons (t := 79) rfl (ai_cons (t := 80) rfl ai_nil))))))) ⟨(nbPut (nbPut x2 a 0) b a.States), 0, v_114, v_115, v_116, _, rfl, rfl, hZ, h, by omega, (Own.sel (Ls := [box b_62 [.int .i64 (((nbPut (nbPut x2 a 0) b a.States).Nfa).States), v_114, v_115, v_116, .bool ((nbPut (nbPut x2 a 0) b a.States).full)] 77, own fInt 3 v_114 (((nbPut (nbPut x2 a 0) b a.States).Nfa).Starts), own fInt 3 v_115 (((nbPut (nbPut x2 a 0) b a.States).Nfa).Ends), own fGEdge 69 v_116 (((nbPut (nbPut x2 a 0) b a.States).Nfa).Edges), tbl (Value.int .i64) Value.bool b_42 (membersL a.Ends), own fInt 3 v_38 (b.Starts.map (· + a.States)), box b_21 [.int .i64 (0 : Int), .slice none 0 0, .slice none 0 0, .slice none 0 0] 25, box b_19 [.int .i64 b.States, v_7, v_9, v_11] 25, box b_17 [.int .i64 a.States, v_1, v_3, v_5] 25, fz fGEdge.rep v_11 b.Edges, fz fInt.rep v_9 b.Ends, fz fInt.rep v_7 b.Starts, fz fGEdge.rep v_5 a.Edges, fz fInt.rep v_3 a.Ends, fz fInt.rep v_1 a.Starts]) (L := L) [0, 1, 2, 3, 4, 5, 6, 12] rfl hO)⟩ ?_
          rintro _ _ H_131 ⟨x4, k, v_125, v_126, v_127, Z_132, rfl, rfl, hZ, h, hb_133, hO⟩
          replace h := hI_130 x4 k h hb_133
          refine hw_seq ?_
          refine hw_region ?_
          refine hl_v (v_lss rfl rfl) rfl ?_
          refine hl_nil ?_
          refine thenQ_n ?_
          refine hw_sub _ (ai_cons (t := 4) rfl (ai_cons (t := 7) rfl (ai_cons (t := 8) rfl (ai_cons (t := 9) rfl (ai_cons (t := 78) rfl (ai_cons (t := 79) rfl (ai_cons (t := 80) rfl (ai_cons (t := 81) rfl ai_nil)))))))) ?_
          refine hw_seq ?_
          refine hw_cond rfl (fun hc_134 => ?_) (fun hc_134 => ?_)
          · replace h := ite_t h hc_134
            refine hw_skip ?_
            refine thenQ_n ?_
            refine hw_seq ?_
            refine hw_block ?_
            refine hw_seq ?_
            refine hw_region ?_
            refine hl_v (v_ixL Try.underlying23 Try.sizeOf69 rfl rfl (hO.fsl 7 rfl) (by exact ⟨Int.natCast_nonneg _, of_decide_eq_true hc_134⟩)) rfl ?_
            refine hl_v (v_loadFl Try.isAgg69 Try.sizeOf69 rfl (hO.fsl 7 rfl) rfl (by exact ⟨Int.natCast_nonneg _, of_decide_eq_true hc_134⟩)) rfl ?_
            refine hl_h (o_alloc (cs := (fGEdge.enc (⟨(0 : Int), (0 : Int), BSet.zero⟩ : GEdge))) hO Try.zeroValue69 rfl) rfl ?_
            rintro _ H_135 ⟨b_136, rfl, hO⟩
            replace hO : Own H_135 Z_132 (box b_136 (fGEdge.enc (⟨(0 : Int), (0 : Int), BSet.zero⟩ : GEdge)) 69 :: box b_62 [.int .i64 x4.Nfa.States, v_125, v_126, v_127, .bool x4.full] 77 :: own fInt 3 v_125 x4.Nfa.Starts :: own fInt 3 v_126 x4.Nfa.Ends :: own fGEdge 69 v_127 x4.Nfa.Edges :: tbl (Value.int .i64) Value.bool b_42 (membersL a.Ends) :: own fInt 3 v_38 (b.Starts.map (· + a.States)) :: box b_21 [.int .i64 (0 : Int), .slice none 0 0, .slice none 0 0, .slice none 0 0] 25 :: fz fGEdge.rep v_5 a.Edges :: L) := hO
            refine hl_s (o_storeA (us := (fGEdge.enc (a.Edges.getD k default))) hO 0 rfl Try.sizeOf69 rfl rfl rfl rfl (by intro u hu; exact (fGEdge).one _ u hu)) ?_
            rintro _ H_137 hO
            replace hO : Own H_137 Z_132 (box b_136 (fGEdge.enc (a.Edges.getD k default)) 69 :: box b_62 [.int .i64 x4.Nfa.States, v_125, v_126, v_127, .bool x4.full] 77 :: own fInt 3 v_125 x4.Nfa.Starts :: own fInt 3 v_126 x4.Nfa.Ends :: own fGEdge 69 v_127 x4.Nfa.Edges :: tbl (Value.int .i64) Value.bool b_42 (membersL a.Ends) :: own fInt 3 v_38 (b.Starts.map (· + a.States)) :: box b_21 [.int .i64 (0 : Int), .slice none 0 0, .slice none 0 0, .slice none 0 0] 25 :: fz fGEdge.rep v_5 a.Edges :: L) := hO
            refine hl_nil ?_
            refine thenQ_n ?_
            refine hw_sub _ (ai_cons (t := 4) rfl (ai_cons (t := 7) rfl (ai_cons (t := 8) rfl (ai_cons (t := 9) rfl (ai_cons (t := 11) rfl (ai_cons (t := 78) rfl (ai_cons (t := 79) rfl (ai_cons (t := 80) rfl ai_nil)))))))) ?_
            refine hw_seq ?_
            refine hw_seq ?_
            refine hw_region ?_
            refine hl_v (v_move rfl) rfl ?_
            refine hl_v (v_fieldA Try.underlying69 rfl Try.sizeOf3 rfl) rfl ?_
            refine hl_v (v_load1 Try.isAgg3 rfl (Blk.cell (hO.box 0 rfl) rfl)) rfl ?_
            refine hl_v (v_lookup1 (d := false) (keyInt Try.underlying3) rfl Try.underlying66 Try.zeroValue4 rfl rfl (hO.tbl 5 rfl)) rfl ?_
            refine hl_v (v_not rfl) rfl ?_
            refine hl_nil ?_
            refine thenQ_n ?_
            refine hw_sub _ (ai_cons (t := 4) rfl (ai_cons (t := 7) rfl (ai_cons (t := 8) rfl (ai_cons (t := 9) rfl (ai_cons (t := 11) rfl (ai_cons (t := 78) rfl (ai_cons (t := 79) rfl (ai_cons (t := 80) rfl (ai_cons (t := 88) rfl ai_nil))))))))) ?_
            refine hw_cond rfl (fun hc_138 => ?_) (fun hc_138 => ?_)
            · replace h := ite_t h hc_138
              refine hw_exit ?_
              refine thenQ_e ?_
              refine blockQ_hit ?_
              refine thenQ_n ?_
              refine hw_region ?_
              refine hl_v (v_add rfl rfl (by have hq := of_decide_eq_true hc_134; have hm := hln_124; constructor <;> omega)) rfl ?_
              refine hl_v (v_move rfl) rfl ?_
              refine hl_nil ?_
              refine thenQ_n ?_
              exact ⟨_, _, (ai_cons (t := 4) rfl (ai_cons (t := 7) rfl (ai_cons (t := 8) rfl (ai_cons (t := 9) rfl (ai_cons (t := 78) rfl (ai_cons (t := 79) rfl (ai_cons (t := 80) rfl ai_nil))))))), ⟨x4, k + 1, v_125, v_126, v_127, _, rfl, rfl, hZ, h, (by have hq := of_decide_eq_true hc_134; omega), (Own.sel (Ls := [box b_136 (fGEdge.enc (a.Edges.getD k default)) 69, box b_62 [.int .i64 x4.Nfa.States, v_125, v_126, v_127, .bool x4.full] 77, own fInt 3 v_125 x4.Nfa.Starts, own fInt 3 v_126 x4.Nfa.Ends, own fGEdge 69 v_127 x4.Nfa.Edges, tbl (Value.int .i64) Value.bool b_42 (membersL a.Ends), own fInt 3 v_38 (b.Starts.map (· + a.States)), box b_21 [.int .i64 (0 : Int), .slice none 0 0, .slice none 0 0, .slice none 0 0] 25, fz fGEdge.rep v_5 a.Edges]) (L := L) [1, 2, 3, 4, 5, 6, 7, 8] rfl hO)⟩, (by have hq := of_decide_eq_true hc_134; omega)⟩
            · replace h := ite_f h hc_138
              refine hw_skip ?_
              refine thenQ_n ?_
              refine hw_seq ?_
              refine hw_region ?_
              refine hl_v (v_move rfl) rfl ?_
              have hln_139 := Sl.cap (hO.osl 6 rfl)
              refine hl_v (v_lenL rfl Try.underlying22 rfl (hO.osl 6 rfl)) rfl ?_
              refine hl_v (v_move rfl) rfl ?_
              refine hl_nil ?_
              refine thenQ_n ?_
              refine hw_sub _ (ai_cons (t := 4) rfl (ai_cons (t := 7) rfl (ai_cons (t := 8) rfl (ai_cons (t := 9) rfl (ai_cons (t := 11) rfl (ai_cons (t := 78) rfl (ai_cons (t := 79) rfl (ai_cons (t := 80) rfl (ai_cons (t := 89) rfl (ai_cons (t := 90) rfl (ai_cons (t := 91) rfl ai_nil))))))))))) ?_
              refine hw_block ?_
              obtain ⟨I_143, h, hI_145⟩ := h
              refine hw_lp (fun n' g' H' => ∃ (x5 : Gnfa_builder) (k2 : Nat) (v_140 : Value) (v_141 : Value) (v_142 : Value) (Z' : Nat → Prop), n' = (b.Starts.map (· + a.States)).length - k2 ∧ g' = [(4, ptr b_21 0), (7, v_38), (8, .map (some b_42)), (9, ptr b_62 0), (11, ptr b_136 0), (78, v_5), (79, .int .i64 (a.Edges.length : Int)), (80, .int .i64 (k : Int)), (89, v_38), (90, .int .i64 ((b.Starts.map (· + a.States)).length : Int)), (91, .int .i64 (k2 : Int))] ∧ (∀ b, Z b → Z' b) ∧ I_143 x5 k2 ∧ k2 ≤ (b.Starts.map (· + a.States)).length ∧ Own H' Z' (box b_136 (fGEdge.enc (a.Edges.getD k default)) 69 :: box b_62 [.int .i64 x5.Nfa.States, v_140, v_141, v_142, .bool x5.full] 77 :: own fInt 3 v_140 x5.Nfa.Starts :: own fInt 3 v_141 x5.Nfa.Ends :: own fGEdge 69 v_142 x5.Nfa.Edges :: tbl (Value.int .i64) Value.bool b_42 (membersL a.Ends) :: own fInt 3 v_38 (b.Starts.map (· + a.States)) :: box b_21 [.int .i64 (0 : Int), .slice none 0 0, .slice none 0 0, .slice none 0 0] 25 :: fz fGEdge.rep v_5 a.Edges :: L)) _ _ (ai_cons (t := 4) rfl (ai_cons (t := 7) rfl (ai_cons (t := 8) rfl (ai_cons (t := 9) rfl (ai_cons (t := 11) rfl (ai_cons (t := 78) rfl (ai_cons (t := 79) rfl (ai_cons (t := 80) rfl (ai_cons (t := 89) rfl (ai_cons (t := 90) rfl (ai_cons (t := 91) rfl ai_nil))))))))))) ⟨x4, 0, v_125, v_126, v_127, _, rfl, rfl, hZ, h, by omega, hO⟩ ?_
              rintro _ _ H_146 ⟨x5, k2, v_140, v_141, v_142, Z_147, rfl, rfl, hZ, h, hb_148, hO⟩
              replace h := hI_145 x5 k2 h hb_148
              refine hw_seq ?_
              refine hw_region ?_
              refine hl_v (v_lss rfl rfl) rfl ?_
              refine hl_nil ?_
              refine thenQ_n ?_
              refine hw_sub _ (ai_cons (t := 4) rfl (ai_cons (t := 7) rfl (ai_cons (t := 8) rfl (ai_cons (t := 9) rfl (ai_cons (t := 11) rfl (ai_cons (t := 78) rfl (ai_cons (t := 79) rfl (ai_cons (t := 80) rfl (ai_cons (t := 89) rfl (ai_cons (t := 90) rfl (ai_cons (t := 91) rfl (ai_cons (t := 92) rfl ai_nil)))))))))))) ?_
              refine hw_seq ?_
              refine hw_cond rfl (fun hc_149 => ?_) (fun hc_149 => ?_)
              · replace h := ite_t h hc_149
                refine hw_skip ?_
                refine thenQ_n ?_
                refine hw_seq ?_
                refine hw_block ?_
                refine hw_seq ?_
                refine hw_region ?_
                refine hl_v (v_ixL Try.underlying22 Try.sizeOf3 rfl rfl (hO.osl 6 rfl) (by exact ⟨Int.natCast_nonneg _, of_decide_eq_true hc_149⟩)) rfl ?_
                refine hl_v (v_loadSc Try.isAgg3 rfl (hO.osl 6 rfl) rfl (by exact ⟨Int.natCast_nonneg _, of_decide_eq_true hc_149⟩) rfl) rfl ?_
                refine hl_v (v_assign rfl) rfl ?_
                refine hl_nil ?_
                refine thenQ_n ?_
                refine hw_sub _ (ai_cons (t := 4) rfl (ai_cons (t := 7) rfl (ai_cons (t := 8) rfl (ai_cons (t := 9) rfl (ai_cons (t := 11) rfl (ai_cons (t := 13) rfl (ai_cons (t := 78) rfl (ai_cons (t := 79) rfl (ai_cons (t := 80) rfl (ai_cons (t := 89) rfl (ai_cons (t := 90) rfl (ai_cons (t := 91) rfl ai_nil)))))))))))) ?_
                refine hw_seq ?_
                refine hw_region ?_
                refine hl_v (v_move rfl) rfl ?_
                refine hl_v (v_fieldA Try.underlying69 rfl Try.sizeOf3 rfl) rfl ?_
                refine hl_v (v_load1 Try.isAgg3 rfl (Blk.cell (hO.box 0 rfl) rfl)) rfl ?_
                refine hl_v (v_move rfl) rfl ?_
                refine hl_v (v_fieldA Try.underlying69 rfl Try.sizeOf34 rfl) rfl ?_
                refine hl_v (v_loadA (cs := (sw ((a.Edges.getD k default).Set))) Try.isAgg34 Try.sizeOf34 rfl (Blk.sub (n := 4) (hO.box 0 rfl) rfl) rfl) rfl ?_
                refine hl_h (h_call Try.call43 (evs_cons rfl (evs_cons rfl (evs_cons rfl (evs_cons rfl evs_nil)))) (nbEdge_spec (a0 := x5) (a1 := (a.Edges.getD k default).From) (a2 := ((b.Starts.map (· + a.States)).getD k2 default)) (a3 := (a.Edges.getD k default).Set) (L := box b_136 (fGEdge.enc (a.Edges.getD k default)) 69 :: tbl (Value.int .i64) Value.bool b_42 (membersL a.Ends) :: own fInt 3 v_38 (b.Starts.map (· + a.States)) :: box b_21 [.int .i64 (0 : Int), .slice none 0 0, .slice none 0 0, .slice none 0 0] 25 :: fz fGEdge.rep v_5 a.Edges :: L) (Own.sel (Ls := [box b_136 (fGEdge.enc (a.Edges.getD k default)) 69, box b_62 [.int .i64 x5.Nfa.States, v_140, v_141, v_142, .bool x5.full] 77, own fInt 3 v_140 x5.Nfa.Starts, own fInt 3 v_141 x5.Nfa.Ends, own fGEdge 69 v_142 x5.Nfa.Edges, tbl (Value.int .i64) Value.bool b_42 (membersL a.Ends), own fInt 3 v_38 (b.Starts.map (· + a.States)), box b_21 [.int .i64 (0 : Int), .slice none 0 0, .slice none 0 0, .slice none 0 0] 25, fz fGEdge.rep v_5 a.Edges]) (L := L) [1, 2, 3, 4, 0, 5, 6, 7, 8] rfl hO))) rfl ?_
                rintro vv H_150 ⟨Z_151, v_153, v_154, v_155, hz_152, hv, hO⟩
                obtain rfl := hv.symm
                replace hZ := fun b hb => hz_152 b (hZ b hb)
                replace hO : Own H_150 Z_151 (box b_62 [.int .i64 (((nbEdge x5 ⟨((a.Edges.getD k default).From), ((b.Starts.map (· + a.States)).getD k2 default), ((a.Edges.getD k default).Set)⟩).Nfa).States), v_153, v_154, v_155, .bool ((nbEdge x5 ⟨((a.Edges.getD k default).From), ((b.Starts.map (· + a.States)).getD k2 default), ((a.Edges.getD k default).Set)⟩).full)] 77 :: own fInt 3 v_153 (((nbEdge x5 ⟨((a.Edges.getD k default).From), ((b.Starts.map (· + a.States)).getD k2 default), ((a.Edges.getD k default).Set)⟩).Nfa).Starts) :: own fInt 3 v_154 (((nbEdge x5 ⟨((a.Edges.getD k default).From), ((b.Starts.map (· + a.States)).getD k2 default), ((a.Edges.getD k default).Set)⟩).Nfa).Ends) :: own fGEdge 69 v_155 (((nbEdge x5 ⟨((a.Edges.getD k default).From), ((b.Starts.map (· + a.States)).getD k2 default), ((a.Edges.getD k default).Set)⟩).Nfa).Edges) :: box b_136 (fGEdge.enc (a.Edges.getD k default)) 69 :: tbl (Value.int .i64) Value.bool b_42 (membersL a.Ends) :: own fInt 3 v_38 (b.Starts.map (· + a.States)) :: box b_21 [.int .i64 (0 : Int), .slice none 0 0, .slice none 0 0, .slice none 0 0] 25 :: fz fGEdge.rep v_5 a.Edges :: L) := hO
                refine hl_nil ?_
                refine thenQ_n ?_
                refine hw_sub _ (ai_cons (t := 4) rfl (ai_cons (t := 7) rfl (ai_cons (t := 8) rfl (ai_cons (t := 9) rfl (ai_cons (t := 11) rfl (ai_cons (t := 78) rfl (ai_cons (t := 79) rfl (ai_cons (t := 80) rfl (ai_cons (t := 89) rfl (ai_cons (t := 90) rfl (ai_cons (t := 91) rfl ai_nil))))))))))) ?_
                refine hw_seq ?_
                refine hw_region ?_
                refine hl_v (v_move rfl) rfl ?_
                refine hl_v (v_nilCheck rfl) rfl ?_
                refine hl_v (v_fieldA Try.underlying77 rfl Try.sizeOf4 rfl) rfl ?_
                refine hl_v (v_load1 Try.isAgg4 rfl (Blk.cell (hO.box 0 rfl) rfl)) rfl ?_
                refine hl_nil ?_
                refine thenQ_n ?_
                refine hw_sub _ (ai_cons (t := 4) rfl (ai_cons (t := 7) rfl (ai_cons (t := 8) rfl (ai_cons (t := 9) rfl (ai_cons (t := 11) rfl (ai_cons (t := 78) rfl (ai_cons (t := 79) rfl (ai_cons (t := 80) rfl (ai_cons (t := 89) rfl (ai_cons (t := 90) rfl (ai_cons (t := 91) rfl (ai_cons (t := 105) rfl ai_nil)))))))))))) ?_
                refine hw_cond rfl (fun hc_156 => ?_) (fun hc_156 => ?_)
                · replace h := ite_t h hc_156
                  refine hw_exit ?_
                  refine blockQ_miss rfl ?_
                  refine thenQ_e ?_
                  refine thenQ_e ?_
                  refine blockQ_miss rfl ?_
                  refine blockQ_miss rfl ?_
                  refine thenQ_e ?_
                  refine thenQ_e ?_
                  refine blockQ_hit ?_
                  refine thenQ_n ?_
                  refine ⟨_, (ai_cons (t := 4) rfl (ai_cons (t := 9) rfl ai_nil)), ⟨(nbEdge x5 ⟨((a.Edges.getD k default).From), ((b.Starts.map (· + a.States)).getD k2 default), ((a.Edges.getD k default).Set)⟩), v_153, v_154, v_155, _, rfl, hZ, h, (Own.sel (Ls := [box b_62 [.int .i64 (((nbEdge x5 ⟨((a.Edges.getD k default).From), ((b.Starts.map (· + a.States)).getD k2 default), ((a.Edges.getD k default).Set)⟩).Nfa).States), v_153, v_154, v_155, .bool ((nbEdge x5 ⟨((a.Edges.getD k default).From), ((b.Starts.map (· + a.States)).getD k2 default), ((a.Edges.getD k default).Set)⟩).full)] 77, own fInt 3 v_153 (((nbEdge x5 ⟨((a.Edges.getD k default).From), ((b.Starts.map (· + a.States)).getD k2 default), ((a.Edges.getD k default).Set)⟩).Nfa).Starts), own fInt 3 v_154 (((nbEdge x5 ⟨((a.Edges.getD k default).From), ((b.Starts.map (· + a.States)).getD k2 default), ((a.Edges.getD k default).Set)⟩).Nfa).Ends), own fGEdge 69 v_155 (((nbEdge x5 ⟨((a.Edges.getD k default).From), ((b.Starts.map (· + a.States)).getD k2 default), ((a.Edges.getD k default).Set)⟩).Nfa).Edges), box b_136 (fGEdge.enc (a.Edges.getD k default)) 69, tbl (Value.int .i64) Value.bool b_42 (membersL a.Ends), own fInt 3 v_38 (b.Starts.map (· + a.States)), box b_21 [.int .i64 (0 : Int), .slice none 0 0, .slice none 0 0, .slice none 0 0] 25, fz fGEdge.rep v_5 a.Edges]) (L := L) [0, 1, 2, 3, 7] rfl hO)⟩⟩
                · replace h := ite_f h hc_156
                  refine hw_skip ?_
                  refine blockQ_n ?_
                  refine thenQ_n ?_
                  refine hw_region ?_
                  refine hl_v (v_add rfl rfl (by have hq := of_decide_eq_true hc_149; have hm := hln_139; constructor <;> omega)) rfl ?_
                  refine hl_v (v_move rfl) rfl ?_
                  refine hl_nil ?_
                  refine thenQ_n ?_
                  exact ⟨_, _, (ai_cons (t := 4) rfl (ai_cons (t := 7) rfl (ai_cons (t := 8) rfl (ai_cons (t := 9) rfl (ai_cons (t := 11) rfl (ai_cons (t := 78) rfl (ai_cons (t := 79) rfl (ai_cons (t := 80) rfl (ai_cons (t := 89) rfl (ai_cons (t := 90) rfl (ai_cons (t := 91) rfl ai_nil))))))))))), ⟨(nbEdge x5 ⟨((a.Edges.getD k default).From), ((b.Starts.map (· + a.States)).getD k2 default), ((a.Edges.getD k default).Set)⟩), k2 + 1, v_153, v_154, v_155, _, rfl, rfl, hZ, h, (by have hq := of_decide_eq_true hc_149; omega), (Own.sel (Ls := [box b_62 [.int .i64 (((nbEdge x5 ⟨((a.Edges.getD k default).From), ((b.Starts.map (· + a.States)).getD k2 default), ((a.Edges.getD k default).Set)⟩).Nfa).States), v_153, v_154, v_155, .bool ((nbEdge x5 ⟨((a.Edges.getD k default).From), ((b.Starts.map (· + a.States)).getD k2 default), ((a.Edges.getD k default).Set)⟩).full)] 77, own fInt 3 v_153 (((nbEdge x5 ⟨((a.Edges.getD k default).From), ((b.Starts.map (· + a.States)).getD k2 default), ((a.Edges.getD k default).Set)⟩).Nfa).Starts), own fInt 3 v_154 (((nbEdge x5 ⟨((a.Edges.getD k default).From), ((b.Starts.map (· + a.States)).getD k2 default), ((a.Edges.getD k default).Set)⟩).Nfa).Ends), own fGEdge 69 v_155 (((nbEdge x5 ⟨((a.Edges.getD k default).From), ((b.Starts.map (· + a.States)).getD k2 default), ((a.Edges.getD k default).Set)⟩).Nfa).Edges), box b_136 (fGEdge.enc (a.Edges.getD k default)) 69, tbl (Value.int .i64) Value.bool b_42 (membersL a.Ends), own fInt 3 v_38 (b.Starts.map (· + a.States)), box b_21 [.int .i64 (0 : Int), .slice none 0 0, .slice none 0 0, .slice none 0 0] 25, fz fGEdge.rep v_5 a.Edges]) (L := L) [4, 0, 1, 2, 3, 5, 6, 7, 8] rfl hO)⟩, (by have hq := of_decide_eq_true hc_149; omega)⟩
              · replace h := ite_f h hc_149
                refine hw_exit ?_
                refine thenQ_e ?_
                refine thenQ_e ?_
                refine blockQ_hit ?_
                refine blockQ_n ?_
                refine thenQ_n ?_
                refine hw_region ?_
                refine hl_v (v_add rfl rfl (by have hq := of_decide_eq_true hc_134; have hm := hln_124; constructor <;> omega)) rfl ?_
                refine hl_v (v_move rfl) rfl ?_
                refine hl_nil ?_
                refine thenQ_n ?_
                exact ⟨_, _, (ai_cons (t := 4) rfl (ai_cons (t := 7) rfl (ai_cons (t := 8) rfl (ai_cons (t := 9) rfl (ai_cons (t := 78) rfl (ai_cons (t := 79) rfl (ai_cons (t := 80) rfl ai_nil))))))), ⟨x5, k + 1, v_140, v_141, v_142, _, rfl, rfl, hZ, h, (by have hq := of_decide_eq_true hc_134; omega), (Own.sel (Ls := [box b_136 (fGEdge.enc (a.Edges.getD k default)) 69, box b_62 [.int .i64 x5.Nfa.States, v_140, v_141, v_142, .bool x5.full] 77, own fInt 3 v_140 x5.Nfa.Starts, own fInt 3 v_141 x5.Nfa.Ends, own fGEdge 69 v_142 x5.Nfa.Edges, tbl (Value.int .i64) Value.bool b_42 (membersL a.Ends), own fInt 3 v_38 (b.Starts.map (· + a.States)), box b_21 [.int .i64 (0 : Int), .slice none 0 0, .slice none 0 0, .slice none 0 0] 25, fz fGEdge.rep v_5 a.Edges]) (L := L) [1, 2, 3, 4, 5, 6, 7, 8] rfl hO)⟩, (by have hq := of_decide_eq_true hc_134; omega)⟩
          · replace h := ite_f h hc_134
            refine hw_exit ?_
            refine thenQ_e ?_
            refine thenQ_e ?_
            refine blockQ_hit ?_
            refine thenQ_n ?_
            refine ⟨_, (ai_cons (t := 4) rfl (ai_cons (t := 9) rfl ai_nil)), ⟨x4, v_125, v_126, v_127, _, rfl, hZ, h, (Own.sel (Ls := [box b_62 [.int .i64 x4.Nfa.States, v_125, v_126, v_127, .bool x4.full] 77, own fInt 3 v_125 x4.Nfa.Starts, own fInt 3 v_126 x4.Nfa.Ends, own fGEdge 69 v_127 x4.Nfa.Edges, tbl (Value.int .i64) Value.bool b_42 (membersL a.Ends), own fInt 3 v_38 (b.Starts.map (· + a.States)), box b_21 [.int .i64 (0 : Int), .slice none 0 0, .slice none 0 0, .slice none 0 0] 25, fz fGEdge.rep v_5 a.Edges]) (L := L) [0, 1, 2, 3, 6] rfl hO)⟩⟩
        · rintro _ H_121 ⟨x3, v_117, v_118, v_119, Z_122, rfl, hZ, h, hO⟩
          replace h := hk_123 x3 h
          refine hw_seq ?_
          refine hw_region ?_
          refine hl_v (v_move rfl) rfl ?_
          refine hl_h (h_call Try.call44 (evs_cons rfl evs_nil) (nbEnd_spec (a0 := x3) (L := box b_21 [.int .i64 (0 : Int), .slice none 0 0, .slice none 0 0, .slice none 0 0] 25 :: L) (Own.sel (Ls := [box b_62 [.int .i64 x3.Nfa.States, v_117, v_118, v_119, .bool x3.full] 77, own fInt 3 v_117 x3.Nfa.Starts, own fInt 3 v_118 x3.Nfa.Ends, own fGEdge 69 v_119 x3.Nfa.Edges, box b_21 [.int .i64 (0 : Int), .slice none 0 0, .slice none 0 0, .slice none 0 0] 25]) (L := L) [0, 1, 2, 3, 4] rfl hO))) rfl ?_
          rintro vv H_160 ⟨Z_161, v_157, v_158, v_159, hz_162, hv, hO⟩
          obtain rfl := hv.symm
          replace hZ := fun b hb => hz_162 b (hZ b hb)
          replace hO : Own H_160 Z_161 (own fInt 3 v_157 (((nbEnd x3).1).Starts) :: own fInt 3 v_158 (((nbEnd x3).1).Ends) :: own fGEdge 69 v_159 (((nbEnd x3).1).Edges) :: box b_21 [.int .i64 (0 : Int), .slice none 0 0, .slice none 0 0, .slice none 0 0] 25 :: L) := hO
          refine hl_v (v_extract rfl rfl) rfl ?_
          refine hl_v (v_extract rfl rfl) rfl ?_
          refine hl_s (o_storeA (us := [.int .i64 (((nbEnd x3).1).States), v_157, v_158, v_159]) hO 3 rfl Try.sizeOf25 rfl rfl rfl rfl (by simp only [List.forall_mem_cons]; exact ⟨rfl, (Sl.one (hO.osl 0 rfl)), (Sl.one (hO.osl 1 rfl)), (Sl.one (hO.osl 2 rfl)), by simp⟩)) ?_
          rintro _ H_163 hO
          replace hO : Own H_163 Z_161 (own fInt 3 v_157 (((nbEnd x3).1).Starts) :: own fInt 3 v_158 (((nbEnd x3).1).Ends) :: own fGEdge 69 v_159 (((nbEnd x3).1).Edges) :: box b_21 [.int .i64 (((nbEnd x3).1).States), v_157, v_158, v_159] 25 :: L) := hO
          refine hl_v (v_assign rfl) rfl ?_
          refine hl_nil ?_
          refine thenQ_n ?_
          refine hw_sub _ (ai_cons (t := 4) rfl (ai_cons (t := 5) rfl ai_nil)) ?_
          refine hw_ret ?_
          refine scopeQ_r ?_
          refine ret_i _ (ra_c rfl (fun w hw => run_loadVar_at (cs := [.int .i64 (((nbEnd x3).1).States), v_157, v_158, v_159]) Try.isAgg25 Try.sizeOf25 (Blk.at0 (hO.box 3 rfl)) rfl w hw) (ra_t rfl ra_nil)) ?_
          exact ⟨_, ((nbEnd x3).1), (nbEnd x3).2, v_157, v_158, v_159, hZ, h, rfl, (Own.sel (Ls := [own fInt 3 v_157 (((nbEnd x3).1).Starts), own fInt 3 v_158 (((nbEnd x3).1).Ends), own fGEdge 69 v_159 (((nbEnd x3).1).Edges), box b_21 [.int .i64 (((nbEnd x3).1).States), v_157, v_158, v_159] 25]) (L := L) [0, 1, 2] rfl hO)⟩
theorem nfaCat_spec {a0 : GNfa} {a1 : GNfa} {v_1 : Value} {v_3 : Value} {v_5 : Value} {v_7 : Value} {v_9 : Value} {v_11 : Value} {L : List As} {H : Heap} {Z : Nat → Prop} (hO : Own H Z (L)) (hf_2 : Fz fInt.rep L v_1 a0.Starts) (hf_4 : Fz fInt.rep L v_3 a0.Ends) (hf_6 : Fz fGEdge.rep L v_5 a0.Edges) (hf_8 : Fz fInt.rep L v_7 a1.Starts) (hf_10 : Fz fInt.rep L v_9 a1.Ends) (hf_12 : Fz fGEdge.rep L v_11 a1.Edges) : HC Try.prog 17 [.agg [.int .i64 a0.States, v_1, v_3, v_5].toArray, .agg [.int .i64 a1.States, v_7, v_9, v_11].toArray] H (fun v H' => ∃ (Z' : Nat → Prop) (v_13 : Value) (v_14 : Value) (v_15 : Value), (∀ a1, Z a1 → Z' a1) ∧ v = .tuple #[.agg [.int .i64 ((nCat a0 a1).1).States, v_13, v_14, v_15].toArray, .int .i64 ((nCat a0 a1).2)] ∧ Own H' Z' (own fInt 3 v_13 ((nCat a0 a1).1).Starts :: own fInt 3 v_14 ((nCat a0 a1).1).Ends :: own fGEdge 69 v_15 ((nCat a0 a1).1).Edges :: L)) := by
  refine (nfaCat_ok (a := a0) (b := a1) (@nfaCat_wp a0 a1) hO hf_2 hf_4 hf_6 hf_8 hf_10 hf_12).mono ?_
  rintro v H' ⟨Z', r0, r1, v_13, v_14, v_15, hz, hq, hv, hO'⟩
  obtain ⟨rfl, rfl⟩ := hq
  exact ⟨Z', v_13, v_14, v_15, hz, hv, hO'⟩

end Go.Proofs.Ytbaciogbhjcdoaa
