/- Walks: functions do as their plain formulas say. No condition. -/
import Derived.Test.YtbaciogbhjcdoaaG10jb
set_option linter.unusedVariables false
set_option linter.unusedSimpArgs false
set_option maxRecDepth 20000
namespace Go.Proofs.Ytbaciogbhjcdoaa
open Go.Proofs
theorem rRep_ok {a : GNfa} {least : Int} {most : Int} {v_1 : Value} {v_3 : Value} {v_5 : Value} {Q : GNfa → Int → Prop} {H : Heap} {Z : Nat → Prop} {L : List As} (h : wp_rRep a least most Q) (hO : Own H Z (L)) (hf_2 : Fz fInt.rep L v_1 a.Starts) (hf_4 : Fz fInt.rep L v_3 a.Ends) (hf_6 : Fz fGEdge.rep L v_5 a.Edges) : HC Try.prog 25 [.agg [.int .i64 a.States, v_1, v_3, v_5].toArray, .int .i64 least, .int .i64 most] H (fun v H' => ∃ (Z' : Nat → Prop) (r0 : GNfa) (r1 : Int) (v_7 : Value) (v_9 : Value) (v_11 : Value), (∀ b, Z b → Z' b) ∧ Q r0 r1 ∧ v = .tuple #[.agg [.int .i64 r0.States, v_7, v_9, v_11].toArray, .int .i64 r1] ∧ Own H' Z' (fz fInt.rep v_7 r0.Starts :: fz fInt.rep v_9 r0.Ends :: fz fGEdge.rep v_11 r0.Edges :: L)) := by
  have hZ : ∀ b, Z b → Z b := fun _ h => h
  replace hO := Fz.item hf_2 hO
  replace hO := Fz.items [_] hf_4 hO
  replace hO := Fz.items [_, _] hf_6 hO
  unfold wp_rRep at h
  refine hc_of_hw (N := 96) (rs := [(.cell 6 25), (.tmp 7)]) Try.func25 rfl rfl rfl rfl ?_
  refine hw_seq ?_
  refine hw_region ?_
  refine hl_h (o_box (cs := [.int .i64 a.States, v_1, v_3, v_5]) hO rfl rfl) rfl ?_
  rintro _ H_13 ⟨b_14, rfl, hO⟩
  replace hO : Own H_13 Z (box b_14 [.int .i64 a.States, v_1, v_3, v_5] 25 :: fz fGEdge.rep v_5 a.Edges :: fz fInt.rep v_3 a.Ends :: fz fInt.rep v_1 a.Starts :: L) := hO
  refine hl_h (o_alloc (cs := [.int .i64 (0 : Int), .slice none 0 0, .slice none 0 0, .slice none 0 0]) hO Try.zeroValue25 rfl) rfl ?_
  rintro _ H_15 ⟨b_16, rfl, hO⟩
  replace hO : Own H_15 Z (box b_16 [.int .i64 (0 : Int), .slice none 0 0, .slice none 0 0, .slice none 0 0] 25 :: box b_14 [.int .i64 a.States, v_1, v_3, v_5] 25 :: fz fGEdge.rep v_5 a.Edges :: fz fInt.rep v_3 a.Ends :: fz fInt.rep v_1 a.Starts :: L) := hO
  refine hl_v (v_assign rfl) rfl ?_
  refine hl_nil ?_
  refine thenQ_n ?_
  refine hw_sub _ (ai_cons (t := 1) rfl (ai_cons (t := 2) rfl (ai_cons (t := 3) rfl (ai_cons (t := 6) rfl ai_nil)))) ?_
  refine hw_seq ?_
  refine hw_seq ?_
  refine hw_region ?_
  refine hl_v (v_loadA Try.isAgg25 Try.sizeOf25 rfl (Blk.at0 (hO.box 1 rfl)) rfl) rfl ?_
  obtain ⟨hs_17, h⟩ := h
  refine hl_h (h_call Try.call39 (evs_cons rfl evs_nil) (rRight_spec (a0 := a) hs_17 hO (Fz.of (i := 4) rfl) (Fz.of (i := 3) rfl) (Fz.of (i := 2) rfl))) rfl ?_
  rintro vv H_18 ⟨Z_19, hz_20, hv, hO⟩
  obtain rfl := hv.symm
  replace hZ := fun b hb => hz_20 b (hZ b hb)
  replace hO : Own H_18 Z_19 (box b_16 [.int .i64 (0 : Int), .slice none 0 0, .slice none 0 0, .slice none 0 0] 25 :: box b_14 [.int .i64 a.States, v_1, v_3, v_5] 25 :: fz fGEdge.rep v_5 a.Edges :: fz fInt.rep v_3 a.Ends :: fz fInt.rep v_1 a.Starts :: L) := hO
  refine hl_v (v_not rfl) rfl ?_
  refine hl_v (v_move rfl) rfl ?_
  refine hl_g rfl rfl (fun hg => (v_move rfl)) rfl ?_
  refine hl_g rfl rfl (fun hg => (v_move rfl)) rfl ?_
  refine hl_g rfl rfl (fun hg => (v_call Try.call57 (evs_cons (gv_ok rfl hg) (evs_cons (gv_ok rfl hg) evs_nil)) (rTimes_spec (a0 := least) (a1 := most) hO))) rfl ?_
  refine hl_g rfl rfl (fun hg => (v_not (gv_ok rfl hg))) rfl ?_
  refine hl_v (v_or rfl rfl) rfl ?_
  refine hl_nil ?_
  refine thenQ_n ?_
  refine hw_sub _ (ai_cons (t := 1) rfl (ai_cons (t := 2) rfl (ai_cons (t := 3) rfl (ai_cons (t := 6) rfl (ai_cons (t := 26) rfl ai_nil))))) ?_
  refine hw_cond rfl (fun hc_21 => ?_) (fun hc_21 => ?_)
  · replace h := ite_t h hc_21
    refine hw_seq ?_
    refine hw_region ?_
    refine hl_v (v_buildF (cs := [.int .i64 (0 : Int), .slice none 0 0, .slice none 0 0, .slice none 0 0]) (xs := []) (is := []) rfl evs_nil (fun w => by show _ = _; kernel_rfl)) rfl ?_
    refine hl_s (o_storeA (us := [.int .i64 (0 : Int), .slice none 0 0, .slice none 0 0, .slice none 0 0]) hO 0 rfl Try.sizeOf25 rfl rfl rfl rfl (by simp only [List.forall_mem_cons]; exact ⟨rfl, rfl, rfl, rfl, by simp⟩)) ?_
    rintro _ H_22 hO
    replace hO : Own H_22 Z_19 (box b_16 [.int .i64 (0 : Int), .slice none 0 0, .slice none 0 0, .slice none 0 0] 25 :: box b_14 [.int .i64 a.States, v_1, v_3, v_5] 25 :: fz fGEdge.rep v_5 a.Edges :: fz fInt.rep v_3 a.Ends :: fz fInt.rep v_1 a.Starts :: L) := hO
    refine hl_v (v_assign rfl) rfl ?_
    refine hl_nil ?_
    refine thenQ_n ?_
    refine hw_sub _ (ai_cons (t := 6) rfl (ai_cons (t := 7) rfl ai_nil)) ?_
    refine hw_ret ?_
    refine thenQ_r ?_
    replace hO : Own H_22 Z_19 (fz fInt.rep (.slice none 0 0) [] :: box b_16 [.int .i64 (0 : Int), .slice none 0 0, .slice none 0 0, .slice none 0 0] 25 :: box b_14 [.int .i64 a.States, v_1, v_3, v_5] 25 :: fz fGEdge.rep v_5 a.Edges :: fz fInt.rep v_3 a.Ends :: fz fInt.rep v_1 a.Starts :: L) := hO.dup ⟨Sl.nil, fun _ h => h⟩
    replace hO : Own H_22 Z_19 (fz fInt.rep (.slice none 0 0) [] :: fz fInt.rep (.slice none 0 0) [] :: box b_16 [.int .i64 (0 : Int), .slice none 0 0, .slice none 0 0, .slice none 0 0] 25 :: box b_14 [.int .i64 a.States, v_1, v_3, v_5] 25 :: fz fGEdge.rep v_5 a.Edges :: fz fInt.rep v_3 a.Ends :: fz fInt.rep v_1 a.Starts :: L) := hO.dup ⟨Sl.nil, fun _ h => h⟩
    replace hO : Own H_22 Z_19 (fz fGEdge.rep (.slice none 0 0) [] :: fz fInt.rep (.slice none 0 0) [] :: fz fInt.rep (.slice none 0 0) [] :: box b_16 [.int .i64 (0 : Int), .slice none 0 0, .slice none 0 0, .slice none 0 0] 25 :: box b_14 [.int .i64 a.States, v_1, v_3, v_5] 25 :: fz fGEdge.rep v_5 a.Edges :: fz fInt.rep v_3 a.Ends :: fz fInt.rep v_1 a.Starts :: L) := hO.dup ⟨Sl.nil, fun _ h => h⟩
    refine ret_i _ (ra_c rfl (fun w hw => run_loadVar_at (cs := [.int .i64 (0 : Int), .slice none 0 0, .slice none 0 0, .slice none 0 0]) Try.isAgg25 Try.sizeOf25 (Blk.at0 (hO.box 3 rfl)) rfl w hw) (ra_t rfl ra_nil)) ?_
    exact ⟨_, (⟨(0 : Int), [], [], []⟩ : GNfa), 1, .slice none 0 0, .slice none 0 0, .slice none 0 0, hZ, h, rfl, (Own.sel (Ls := [fz fGEdge.rep (.slice none 0 0) [], fz fInt.rep (.slice none 0 0) [], fz fInt.rep (.slice none 0 0) [], box b_16 [.int .i64 (0 : Int), .slice none 0 0, .slice none 0 0, .slice none 0 0] 25, box b_14 [.int .i64 a.States, v_1, v_3, v_5] 25, fz fGEdge.rep v_5 a.Edges, fz fInt.rep v_3 a.Ends, fz fInt.rep v_1 a.Starts]) (L := L) [2, 1, 0] rfl hO)⟩
  · replace h := ite_f h hc_21
    refine hw_skip ?_
    refine thenQ_n ?_
    refine hw_seq ?_
    refine hw_region ?_
    refine hl_h (h_call Try.call58 (evs_cons (show _ = some (str []) from rfl) evs_nil) (rText_spec (a0 := ([] : List UInt8)) hO)) rfl ?_
    rintro vv H_26 ⟨Z_27, v_23, v_24, v_25, hz_28, hv, hO⟩
    obtain rfl := hv.symm
    replace hZ := fun b hb => hz_28 b (hZ b hb)
    replace hO : Own H_26 Z_27 (own fInt 3 v_23 (((nText ([] : List UInt8)).1).Starts) :: own fInt 3 v_24 (((nText ([] : List UInt8)).1).Ends) :: own fGEdge 69 v_25 (((nText ([] : List UInt8)).1).Edges) :: box b_16 [.int .i64 (0 : Int), .slice none 0 0, .slice none 0 0, .slice none 0 0] 25 :: box b_14 [.int .i64 a.States, v_1, v_3, v_5] 25 :: fz fGEdge.rep v_5 a.Edges :: fz fInt.rep v_3 a.Ends :: fz fInt.rep v_1 a.Starts :: L) := hO
    refine hl_v (v_move rfl) rfl ?_
    refine hl_v (v_extract rfl rfl) rfl ?_
    refine hl_v (v_extract rfl rfl) rfl ?_
    refine hl_h (o_alloc (cs := [.int .i64 (0 : Int), .slice none 0 0, .slice none 0 0, .slice none 0 0]) hO Try.zeroValue25 rfl) rfl ?_
    rintro _ H_29 ⟨b_30, rfl, hO⟩
    replace hO : Own H_29 Z_27 (box b_30 [.int .i64 (0 : Int), .slice none 0 0, .slice none 0 0, .slice none 0 0] 25 :: own fInt 3 v_23 (((nText ([] : List UInt8)).1).Starts) :: own fInt 3 v_24 (((nText ([] : List UInt8)).1).Ends) :: own fGEdge 69 v_25 (((nText ([] : List UInt8)).1).Edges) :: box b_16 [.int .i64 (0 : Int), .slice none 0 0, .slice none 0 0, .slice none 0 0] 25 :: box b_14 [.int .i64 a.States, v_1, v_3, v_5] 25 :: fz fGEdge.rep v_5 a.Edges :: fz fInt.rep v_3 a.Ends :: fz fInt.rep v_1 a.Starts :: L) := hO
    refine hl_s (o_storeA (us := [.int .i64 (((nText ([] : List UInt8)).1).States), v_23, v_24, v_25]) hO 0 rfl Try.sizeOf25 rfl rfl rfl rfl (by simp only [List.forall_mem_cons]; exact ⟨rfl, (Sl.one (hO.osl 1 rfl)), (Sl.one (hO.osl 2 rfl)), (Sl.one (hO.osl 3 rfl)), by simp⟩)) ?_
    rintro _ H_31 hO
    replace hO : Own H_31 Z_27 (box b_30 [.int .i64 (((nText ([] : List UInt8)).1).States), v_23, v_24, v_25] 25 :: own fInt 3 v_23 (((nText ([] : List UInt8)).1).Starts) :: own fInt 3 v_24 (((nText ([] : List UInt8)).1).Ends) :: own fGEdge 69 v_25 (((nText ([] : List UInt8)).1).Edges) :: box b_16 [.int .i64 (0 : Int), .slice none 0 0, .slice none 0 0, .slice none 0 0] 25 :: box b_14 [.int .i64 a.States, v_1, v_3, v_5] 25 :: fz fGEdge.rep v_5 a.Edges :: fz fInt.rep v_3 a.Ends :: fz fInt.rep v_1 a.Starts :: L) := hO
    refine hl_v (v_assign rfl) rfl ?_
    refine hl_nil ?_
    refine thenQ_n ?_
    refine hw_sub _ (ai_cons (t := 1) rfl (ai_cons (t := 2) rfl (ai_cons (t := 3) rfl (ai_cons (t := 6) rfl (ai_cons (t := 8) rfl ai_nil))))) ?_
    refine hw_seq ?_
    obtain ⟨Z_33, hz_32, hO⟩ := hO.freeze (i := 1) rfl
    replace hZ := fun b hb => hz_32 b (hZ b hb)
    replace hO : Own H_31 Z_33 (box b_30 [.int .i64 (((nText ([] : List UInt8)).1).States), v_23, v_24, v_25] 25 :: fz fInt.rep v_23 (((nText ([] : List UInt8)).1).Starts) :: own fInt 3 v_24 (((nText ([] : List UInt8)).1).Ends) :: own fGEdge 69 v_25 (((nText ([] : List UInt8)).1).Edges) :: box b_16 [.int .i64 (0 : Int), .slice none 0 0, .slice none 0 0, .slice none 0 0] 25 :: box b_14 [.int .i64 a.States, v_1, v_3, v_5] 25 :: fz fGEdge.rep v_5 a.Edges :: fz fInt.rep v_3 a.Ends :: fz fInt.rep v_1 a.Starts :: L) := hO
    obtain ⟨Z_35, hz_34, hO⟩ := hO.freeze (i := 2) rfl
    replace hZ := fun b hb => hz_34 b (hZ b hb)
    replace hO : Own H_31 Z_35 (box b_30 [.int .i64 (((nText ([] : List UInt8)).1).States), v_23, v_24, v_25] 25 :: fz fInt.rep v_23 (((nText ([] : List UInt8)).1).Starts) :: fz fInt.rep v_24 (((nText ([] : List UInt8)).1).Ends) :: own fGEdge 69 v_25 (((nText ([] : List UInt8)).1).Edges) :: box b_16 [.int .i64 (0 : Int), .slice none 0 0, .slice none 0 0, .slice none 0 0] 25 :: box b_14 [.int .i64 a.States, v_1, v_3, v_5] 25 :: fz fGEdge.rep v_5 a.Edges :: fz fInt.rep v_3 a.Ends :: fz fInt.rep v_1 a.Starts :: L) := hO
    obtain ⟨Z_37, hz_36, hO⟩ := hO.freeze (i := 3) rfl
    replace hZ := fun b hb => hz_36 b (hZ b hb)
    replace hO : Own H_31 Z_37 (box b_30 [.int .i64 (((nText ([] : List UInt8)).1).States), v_23, v_24, v_25] 25 :: fz fInt.rep v_23 (((nText ([] : List UInt8)).1).Starts) :: fz fInt.rep v_24 (((nText ([] : List UInt8)).1).Ends) :: fz fGEdge.rep v_25 (((nText ([] : List UInt8)).1).Edges) :: box b_16 [.int .i64 (0 : Int), .slice none 0 0, .slice none 0 0, .slice none 0 0] 25 :: box b_14 [.int .i64 a.States, v_1, v_3, v_5] 25 :: fz fGEdge.rep v_5 a.Edges :: fz fInt.rep v_3 a.Ends :: fz fInt.rep v_1 a.Starts :: L) := hO
    refine hw_region ?_
    refine hl_v (v_loadA Try.isAgg25 Try.sizeOf25 rfl (Blk.at0 (hO.box 0 rfl)) rfl) rfl ?_
    refine hl_h (o_alloc (cs := [.int .i64 (0 : Int), .slice none 0 0, .slice none 0 0, .slice none 0 0]) hO Try.zeroValue25 rfl) rfl ?_
    rintro _ H_38 ⟨b_39, rfl, hO⟩
    replace hO : Own H_38 Z_37 (box b_39 [.int .i64 (0 : Int), .slice none 0 0, .slice none 0 0, .slice none 0 0] 25 :: box b_30 [.int .i64 (((nText ([] : List UInt8)).1).States), v_23, v_24, v_25] 25 :: fz fInt.rep v_23 (((nText ([] : List UInt8)).1).Starts) :: fz fInt.rep v_24 (((nText ([] : List UInt8)).1).Ends) :: fz fGEdge.rep v_25 (((nText ([] : List UInt8)).1).Edges) :: box b_16 [.int .i64 (0 : Int), .slice none 0 0, .slice none 0 0, .slice none 0 0] 25 :: box b_14 [.int .i64 a.States, v_1, v_3, v_5] 25 :: fz fGEdge.rep v_5 a.Edges :: fz fInt.rep v_3 a.Ends :: fz fInt.rep v_1 a.Starts :: L) := hO
    refine hl_s (o_storeA (us := [.int .i64 (((nText ([] : List UInt8)).1).States), v_23, v_24, v_25]) hO 0 rfl Try.sizeOf25 rfl rfl rfl rfl (by simp only [List.forall_mem_cons]; exact ⟨rfl, (Sl.one (hO.fsl 2 rfl)), (Sl.one (hO.fsl 3 rfl)), (Sl.one (hO.fsl 4 rfl)), by simp⟩)) ?_
    rintro _ H_40 hO
    replace hO : Own H_40 Z_37 (box b_39 [.int .i64 (((nText ([] : List UInt8)).1).States), v_23, v_24, v_25] 25 :: box b_30 [.int .i64 (((nText ([] : List UInt8)).1).States), v_23, v_24, v_25] 25 :: fz fInt.rep v_23 (((nText ([] : List UInt8)).1).Starts) :: fz fInt.rep v_24 (((nText ([] : List UInt8)).1).Ends) :: fz fGEdge.rep v_25 (((nText ([] : List UInt8)).1).Edges) :: box b_16 [.int .i64 (0 : Int), .slice none 0 0, .slice none 0 0, .slice none 0 0] 25 :: box b_14 [.int .i64 a.States, v_1, v_3, v_5] 25 :: fz fGEdge.rep v_5 a.Edges :: fz fInt.rep v_3 a.Ends :: fz fInt.rep v_1 a.Starts :: L) := hO
    refine hl_nil ?_
    refine thenQ_n ?_
    refine hw_sub _ (ai_cons (t := 1) rfl (ai_cons (t := 2) rfl (ai_cons (t := 3) rfl (ai_cons (t := 6) rfl (ai_cons (t := 8) rfl (ai_cons (t := 10) rfl ai_nil)))))) ?_
    refine hw_seq ?_
    refine hw_region ?_
    refine hl_v (v_assign rfl) rfl ?_
    refine hl_nil ?_
    refine thenQ_n ?_
    refine hw_sub _ (ai_cons (t := 1) rfl (ai_cons (t := 2) rfl (ai_cons (t := 3) rfl (ai_cons (t := 6) rfl (ai_cons (t := 8) rfl (ai_cons (t := 10) rfl (ai_cons (t := 11) rfl ai_nil))))))) ?_
    refine hw_seq ?_
    refine hw_seq ?_
    refine hw_region ?_
    refine hl_v (v_assign rfl) rfl ?_
    refine hl_nil ?_
    refine thenQ_n ?_
    refine hw_sub _ (ai_cons (t := 1) rfl (ai_cons (t := 2) rfl (ai_cons (t := 3) rfl (ai_cons (t := 6) rfl (ai_cons (t := 8) rfl (ai_cons (t := 10) rfl (ai_cons (t := 11) rfl (ai_cons (t := 12) rfl ai_nil)))))))) ?_
    refine hw_block ?_
    obtain ⟨I_44, μ_45, h, hI_46⟩ := h
    refine hw_lp (fun n' g' H' => ∃ (n : GNfa) (e : Int) (i : Int) (v_41 : Value) (v_42 : Value) (v_43 : Value) (Z' : Nat → Prop), n' = μ_45 n e i ∧ g' = [(1, .int .i64 least), (2, .int .i64 most), (3, ptr b_14 0), (6, ptr b_16 0), (8, ptr b_30 0), (10, ptr b_39 0), (11, .int .i64 e), (12, .int .i64 i)] ∧ (∀ b, Z b → Z' b) ∧ I_44 n e i ∧ Own H' Z' (fz fGEdge.rep v_43 n.Edges :: fz fInt.rep v_42 n.Ends :: fz fInt.rep v_41 n.Starts :: box b_39 [.int .i64 n.States, v_41, v_42, v_43] 25 :: box b_30 [.int .i64 (((nText ([] : List UInt8)).1).States), v_23, v_24, v_25] 25 :: fz fInt.rep v_23 (((nText ([] : List UInt8)).1).Starts) :: fz fInt.rep v_24 (((nText ([] : List UInt8)).1).Ends) :: fz fGEdge.rep v_25 (((nText ([] : List UInt8)).1).Edges) :: box b_16 [.int .i64 (0 : Int), .slice none 0 0, .slice none 0 0, .slice none 0 0] 25 :: box b_14 [.int .i64 a.States, v_1, v_3, v_5] 25 :: fz fGEdge.rep v_5 a.Edges :: fz fInt.rep v_3 a.Ends :: fz fInt.rep v_1 a.Starts :: L)) _ _ (ai_cons (t := 1) rfl (ai_cons (t := 2) rfl (ai_cons (t := 3) rfl (ai_cons (t := 6) rfl (ai_cons (t := 8) rfl (ai_cons (t := 10) rfl (ai_cons (t := 11) rfl (ai_cons (t := 12) rfl ai_nil)))))))) ⟨((nText ([] : List UInt8)).1), 0, 0, v_23, v_24, v_25, _, rfl, rfl, hZ, h, (Own.sel (Ls := [fz fGEdge.rep v_25 (((nText ([] : List UInt8)).1).Edges), fz fInt.rep v_24 (((nText ([] : List UInt8)).1).Ends), fz fInt.rep v_23 (((nText ([] : List UInt8)).1).Starts), box b_39 [.int .i64 (((nText ([] : List UInt8)).1).States), v_23, v_24, v_25] 25, box b_30 [.int .i64 (((nText ([] : List UInt8)).1).States), v_23, v_24, v_25] 25, fz fInt.rep v_23 (((nText ([] : List UInt8)).1).Starts), fz fInt.rep v_24 (((nText ([] : List UInt8)).1).Ends), fz fGEdge.rep v_25 (((nText ([] : List UInt8)).1).Edges), box b_16 [.int .i64 (0 : Int), .slice none 0 0, .slice none 0 0, .slice none 0 0] 25, box b_14 [.int .i64 a.States, v_1, v_3, v_5] 25, fz fGEdge.rep v_5 a.Edges, fz fInt.rep v_3 a.Ends, fz fInt.rep v_1 a.Starts]) (L := L) [7, 6, 5, 3, 4, 2, 1, 0, 8, 9, 10, 11, 12] rfl ((Fz.of (i := 6) rfl).item ((Fz.of (i := 4) rfl).item ((Fz.of (i := 2) rfl).item hO))))⟩ ?_
    rintro _ _ H_47 ⟨n, e, i, v_41, v_42, v_43, Z_48, rfl, rfl, hZ, h, hO⟩
    replace h := hI_46 n e i h
    refine hw_seq ?_
    refine hw_seq ?_
    refine hw_region ?_
    refine hl_v (v_move rfl) rfl ?_
    refine hl_v (v_move rfl) rfl ?_
    refine hl_v (v_lss rfl rfl) rfl ?_
    refine hl_v (v_move rfl) rfl ?_
    refine hl_g rfl rfl (fun hg => (v_move rfl)) rfl ?_
    refine hl_g rfl rfl (fun hg => (v_eql (gv_ok rfl hg) rfl)) rfl ?_
    refine hl_v (v_and rfl rfl) rfl ?_
    refine hl_nil ?_
    refine thenQ_n ?_
    refine hw_sub _ (ai_cons (t := 1) rfl (ai_cons (t := 2) rfl (ai_cons (t := 3) rfl (ai_cons (t := 6) rfl (ai_cons (t := 8) rfl (ai_cons (t := 10) rfl (ai_cons (t := 11) rfl (ai_cons (t := 12) rfl (ai_cons (t := 39) rfl ai_nil))))))))) ?_
    refine hw_cond rfl (fun hc_50 => ?_) (fun hc_50 => ?_)
    · replace h := ite_t h hc_50
      refine hw_skip ?_
      refine thenQ_n ?_
      refine hw_seq ?_
      refine hw_block ?_
      refine hw_region ?_
      refine hl_v (v_loadA Try.isAgg25 Try.sizeOf25 rfl (Blk.at0 (hO.box 3 rfl)) rfl) rfl ?_
      refine hl_v (v_loadA Try.isAgg25 Try.sizeOf25 rfl (Blk.at0 (hO.box 9 rfl)) rfl) rfl ?_
      obtain ⟨hs_51, h⟩ := h
      refine hl_h (h_call Try.call19 (evs_cons rfl (evs_cons rfl evs_nil)) (rCat_spec (a0 := n) (a1 := a) hs_51 hO (Fz.of (i := 2) rfl) (Fz.of (i := 1) rfl) (Fz.of (i := 0) rfl) (Fz.of (i := 12) rfl) (Fz.of (i := 11) rfl) (Fz.of (i := 10) rfl))) rfl ?_
      rintro vv H_55 ⟨Z_56, v_52, v_53, v_54, hz_57, hv, hO⟩
      obtain rfl := hv.symm
      replace hZ := fun b hb => hz_57 b (hZ b hb)
      replace hO : Own H_55 Z_56 (own fInt 3 v_52 (((nCat n a).1).Starts) :: own fInt 3 v_53 (((nCat n a).1).Ends) :: own fGEdge 69 v_54 (((nCat n a).1).Edges) :: fz fGEdge.rep v_43 n.Edges :: fz fInt.rep v_42 n.Ends :: fz fInt.rep v_41 n.Starts :: box b_39 [.int .i64 n.States, v_41, v_42, v_43] 25 :: box b_30 [.int .i64 (((nText ([] : List UInt8)).1).States), v_23, v_24, v_25] 25 :: fz fInt.rep v_23 (((nText ([] : List UInt8)).1).Starts) :: fz fInt.rep v_24 (((nText ([] : List UInt8)).1).Ends) :: fz fGEdge.rep v_25 (((nText ([] : List UInt8)).1).Edges) :: box b_16 [.int .i64 (0 : Int), .slice none 0 0, .slice none 0 0, .slice none 0 0] 25 :: box b_14 [.int .i64 a.States, v_1, v_3, v_5] 25 :: fz fGEdge.rep v_5 a.Edges :: fz fInt.rep v_3 a.Ends :: fz fInt.rep v_1 a.Starts :: L) := hO
      refine hl_v (v_move rfl) rfl ?_
      refine hl_v (v_extract rfl rfl) rfl ?_
      refine hl_v (v_extract rfl rfl) rfl ?_
      refine hl_s (o_storeA (us := [.int .i64 (((nCat n a).1).States), v_52, v_53, v_54]) hO 6 rfl Try.sizeOf25 rfl rfl rfl rfl (by simp only [List.forall_mem_cons]; exact ⟨rfl, (Sl.one (hO.osl 0 rfl)), (Sl.one (hO.osl 1 rfl)), (Sl.one (hO.osl 2 rfl)), by simp⟩)) ?_
      rintro _ H_58 hO
      replace hO : Own H_58 Z_56 (own fInt 3 v_52 (((nCat n a).1).Starts) :: own fInt 3 v_53 (((nCat n a).1).Ends) :: own fGEdge 69 v_54 (((nCat n a).1).Edges) :: fz fGEdge.rep v_43 n.Edges :: fz fInt.rep v_42 n.Ends :: fz fInt.rep v_41 n.Starts :: box b_39 [.int .i64 (((nCat n a).1).States), v_52, v_53, v_54] 25 :: box b_30 [.int .i64 (((nText ([] : List UInt8)).1).States), v_23, v_24, v_25] 25 :: fz fInt.rep v_23 (((nText ([] : List UInt8)).1).Starts) :: fz fInt.rep v_24 (((nText ([] : List UInt8)).1).Ends) :: fz fGEdge.rep v_25 (((nText ([] : List UInt8)).1).Edges) :: box b_16 [.int .i64 (0 : Int), .slice none 0 0, .slice none 0 0, .slice none 0 0] 25 :: box b_14 [.int .i64 a.States, v_1, v_3, v_5] 25 :: fz fGEdge.rep v_5 a.Edges :: fz fInt.rep v_3 a.Ends :: fz fInt.rep v_1 a.Starts :: L) := hO
      refine hl_v (v_assign rfl) rfl ?_
      refine hl_nil ?_
      refine blockQ_n ?_
      refine thenQ_n ?_
      refine hw_region ?_
      refine hl_v (v_move rfl) rfl ?_
      obtain ⟨hs_59, h⟩ := h
      refine hl_v (v_add rfl rfl hs_59) rfl ?_
      refine hl_v (v_assign rfl) rfl ?_
      refine hl_nil ?_
      refine thenQ_n ?_
      obtain ⟨Z_61, hz_60, hO⟩ := hO.freeze (i := 0) rfl
      replace hZ := fun b hb => hz_60 b (hZ b hb)
      replace hO : Own H_58 Z_61 (fz fInt.rep v_52 (((nCat n a).1).Starts) :: own fInt 3 v_53 (((nCat n a).1).Ends) :: own fGEdge 69 v_54 (((nCat n a).1).Edges) :: fz fGEdge.rep v_43 n.Edges :: fz fInt.rep v_42 n.Ends :: fz fInt.rep v_41 n.Starts :: box b_39 [.int .i64 (((nCat n a).1).States), v_52, v_53, v_54] 25 :: box b_30 [.int .i64 (((nText ([] : List UInt8)).1).States), v_23, v_24, v_25] 25 :: fz fInt.rep v_23 (((nText ([] : List UInt8)).1).Starts) :: fz fInt.rep v_24 (((nText ([] : List UInt8)).1).Ends) :: fz fGEdge.rep v_25 (((nText ([] : List UInt8)).1).Edges) :: box b_16 [.int .i64 (0 : Int), .slice none 0 0, .slice none 0 0, .slice none 0 0] 25 :: box b_14 [.int .i64 a.States, v_1, v_3, v_5] 25 :: fz fGEdge.rep v_5 a.Edges :: fz fInt.rep v_3 a.Ends :: fz fInt.rep v_1 a.Starts :: L) := hO
      obtain ⟨Z_63, hz_62, hO⟩ := hO.freeze (i := 1) rfl
      replace hZ := fun b hb => hz_62 b (hZ b hb)
      replace hO : Own H_58 Z_63 (fz fInt.rep v_52 (((nCat n a).1).Starts) :: fz fInt.rep v_53 (((nCat n a).1).Ends) :: own fGEdge 69 v_54 (((nCat n a).1).Edges) :: fz fGEdge.rep v_43 n.Edges :: fz fInt.rep v_42 n.Ends :: fz fInt.rep v_41 n.Starts :: box b_39 [.int .i64 (((nCat n a).1).States), v_52, v_53, v_54] 25 :: box b_30 [.int .i64 (((nText ([] : List UInt8)).1).States), v_23, v_24, v_25] 25 :: fz fInt.rep v_23 (((nText ([] : List UInt8)).1).Starts) :: fz fInt.rep v_24 (((nText ([] : List UInt8)).1).Ends) :: fz fGEdge.rep v_25 (((nText ([] : List UInt8)).1).Edges) :: box b_16 [.int .i64 (0 : Int), .slice none 0 0, .slice none 0 0, .slice none 0 0] 25 :: box b_14 [.int .i64 a.States, v_1, v_3, v_5] 25 :: fz fGEdge.rep v_5 a.Edges :: fz fInt.rep v_3 a.Ends :: fz fInt.rep v_1 a.Starts :: L) := hO
      obtain ⟨Z_65, hz_64, hO⟩ := hO.freeze (i := 2) rfl
      replace hZ := fun b hb => hz_64 b (hZ b hb)
      replace hO : Own H_58 Z_65 (fz fInt.rep v_52 (((nCat n a).1).Starts) :: fz fInt.rep v_53 (((nCat n a).1).Ends) :: fz fGEdge.rep v_54 (((nCat n a).1).Edges) :: fz fGEdge.rep v_43 n.Edges :: fz fInt.rep v_42 n.Ends :: fz fInt.rep v_41 n.Starts :: box b_39 [.int .i64 (((nCat n a).1).States), v_52, v_53, v_54] 25 :: box b_30 [.int .i64 (((nText ([] : List UInt8)).1).States), v_23, v_24, v_25] 25 :: fz fInt.rep v_23 (((nText ([] : List UInt8)).1).Starts) :: fz fInt.rep v_24 (((nText ([] : List UInt8)).1).Ends) :: fz fGEdge.rep v_25 (((nText ([] : List UInt8)).1).Edges) :: box b_16 [.int .i64 (0 : Int), .slice none 0 0, .slice none 0 0, .slice none 0 0] 25 :: box b_14 [.int .i64 a.States, v_1, v_3, v_5] 25 :: fz fGEdge.rep v_5 a.Edges :: fz fInt.rep v_3 a.Ends :: fz fInt.rep v_1 a.Starts :: L) := hO
      exact ⟨_, _, (ai_cons (t := 1) rfl (ai_cons (t := 2) rfl (ai_cons (t := 3) rfl (ai_cons (t := 6) rfl (ai_cons (t := 8) rfl (ai_cons (t := 10) rfl (ai_cons (t := 11) rfl (ai_cons (t := 12) rfl ai_nil)))))))), ⟨((nCat n a).1), (nCat n a).2, (i + 1), v_52, v_53, v_54, _, rfl, rfl, hZ, h.1, (Own.sel (Ls := [fz fInt.rep v_52 (((nCat n a).1).Starts), fz fInt.rep v_53 (((nCat n a).1).Ends), fz fGEdge.rep v_54 (((nCat n a).1).Edges), fz fGEdge.rep v_43 n.Edges, fz fInt.rep v_42 n.Ends, fz fInt.rep v_41 n.Starts, box b_39 [.int .i64 (((nCat n a).1).States), v_52, v_53, v_54] 25, box b_30 [.int .i64 (((nText ([] : List UInt8)).1).States), v_23, v_24, v_25] 25, fz fInt.rep v_23 (((nText ([] : List UInt8)).1).Starts), fz fInt.rep v_24 (((nText ([] : List UInt8)).1).Ends), fz fGEdge.rep v_25 (((nText ([] : List UInt8)).1).Edges), box b_16 [.int .i64 (0 : Int), .slice none 0 0, .slice none 0 0, .slice none 0 0] 25, box b_14 [.int .i64 a.States, v_1, v_3, v_5] 25, fz fGEdge.rep v_5 a.Edges, fz fInt.rep v_3 a.Ends, fz fInt.rep v_1 a.Starts]) (L := L) [2, 1, 0, 6, 7, 8, 9, 10, 11, 12, 13, 14, 15] rfl hO)⟩, h.2⟩
    · replace h := ite_f h hc_50
      refine hw_exit ?_
      refine thenQ_e ?_
      refine thenQ_e ?_
      refine blockQ_hit ?_
      refine thenQ_n ?_
      refine hw_seq ?_
      refine hw_seq ?_
      refine hw_region ?_
      refine hl_v (v_move rfl) rfl ?_
      refine hl_v (v_eql rfl rfl) rfl ?_
      refine hl_v (v_move rfl) rfl ?_
      refine hl_g rfl rfl (fun hg => (v_move rfl)) rfl ?_
      refine hl_g rfl rfl (fun hg => (v_eql (gv_ok rfl hg) rfl)) rfl ?_
      refine hl_v (v_and rfl rfl) rfl ?_
      refine hl_nil ?_
      refine thenQ_n ?_
      refine hw_sub _ (ai_cons (t := 1) rfl (ai_cons (t := 2) rfl (ai_cons (t := 3) rfl (ai_cons (t := 6) rfl (ai_cons (t := 8) rfl (ai_cons (t := 10) rfl (ai_cons (t := 11) rfl (ai_cons (t := 53) rfl ai_nil)))))))) ?_
      refine hw_cond rfl (fun hc_66 => ?_) (fun hc_66 => ?_)
      · replace h := ite_t h hc_66
        refine hw_seq ?_
        refine hw_region ?_
        refine hl_v (v_loadA Try.isAgg25 Try.sizeOf25 rfl (Blk.at0 (hO.box 9 rfl)) rfl) rfl ?_
        obtain ⟨hs_67, h⟩ := h
        refine hl_h (h_call Try.call23 (evs_cons rfl evs_nil) (rStar_spec (a0 := a) hs_67 hO (Fz.of (i := 12) rfl) (Fz.of (i := 11) rfl) (Fz.of (i := 10) rfl))) rfl ?_
        rintro vv H_71 ⟨Z_72, v_68, v_69, v_70, hz_73, hv, hO⟩
        obtain rfl := hv.symm
        replace hZ := fun b hb => hz_73 b (hZ b hb)
        replace hO : Own H_71 Z_72 (own fInt 3 v_68 (((nStar a).1).Starts) :: own fInt 3 v_69 (((nStar a).1).Ends) :: own fGEdge 69 v_70 (((nStar a).1).Edges) :: fz fGEdge.rep v_43 n.Edges :: fz fInt.rep v_42 n.Ends :: fz fInt.rep v_41 n.Starts :: box b_39 [.int .i64 n.States, v_41, v_42, v_43] 25 :: box b_30 [.int .i64 (((nText ([] : List UInt8)).1).States), v_23, v_24, v_25] 25 :: fz fInt.rep v_23 (((nText ([] : List UInt8)).1).Starts) :: fz fInt.rep v_24 (((nText ([] : List UInt8)).1).Ends) :: fz fGEdge.rep v_25 (((nText ([] : List UInt8)).1).Edges) :: box b_16 [.int .i64 (0 : Int), .slice none 0 0, .slice none 0 0, .slice none 0 0] 25 :: box b_14 [.int .i64 a.States, v_1, v_3, v_5] 25 :: fz fGEdge.rep v_5 a.Edges :: fz fInt.rep v_3 a.Ends :: fz fInt.rep v_1 a.Starts :: L) := hO
        refine hl_v (v_move rfl) rfl ?_
        refine hl_v (v_extract rfl rfl) rfl ?_
        refine hl_v (v_extract rfl rfl) rfl ?_
        refine hl_h (o_alloc (cs := [.int .i64 (0 : Int), .slice none 0 0, .slice none 0 0, .slice none 0 0]) hO Try.zeroValue25 rfl) rfl ?_
        rintro _ H_74 ⟨b_75, rfl, hO⟩
        replace hO : Own H_74 Z_72 (box b_75 [.int .i64 (0 : Int), .slice none 0 0, .slice none 0 0, .slice none 0 0] 25 :: own fInt 3 v_68 (((nStar a).1).Starts) :: own fInt 3 v_69 (((nStar a).1).Ends) :: own fGEdge 69 v_70 (((nStar a).1).Edges) :: fz fGEdge.rep v_43 n.Edges :: fz fInt.rep v_42 n.Ends :: fz fInt.rep v_41 n.Starts :: box b_39 [.int .i64 n.States, v_41, v_42, v_43] 25 :: box b_30 [.int .i64 (((nText ([] : List UInt8)).1).States), v_23, v_24, v_25] 25 :: fz fInt.rep v_23 (((nText ([] : List UInt8)).1).Starts) :: fz fInt.rep v_24 (((nText ([] : List UInt8)).1).Ends) :: fz fGEdge.rep v_25 (((nText ([] : List UInt8)).1).Edges) :: box b_16 [.int .i64 (0 : Int), .slice none 0 0, .slice none 0 0, .slice none 0 0] 25 :: box b_14 [.int .i64 a.States, v_1, v_3, v_5] 25 :: fz fGEdge.rep v_5 a.Edges :: fz fInt.rep v_3 a.Ends :: fz fInt.rep v_1 a.Starts :: L) := hO
        refine hl_s (o_storeA (us := [.int .i64 (((nStar a).1).States), v_68, v_69, v_70]) hO 0 rfl Try.sizeOf25 rfl rfl rfl rfl (by simp only [List.forall_mem_cons]; exact ⟨rfl, (Sl.one (hO.osl 1 rfl)), (Sl.one (hO.osl 2 rfl)), (Sl.one (hO.osl 3 rfl)), by simp⟩)) ?_
        rintro _ H_76 hO
        replace hO : Own H_76 Z_72 (box b_75 [.int .i64 (((nStar a).1).States), v_68, v_69, v_70] 25 :: own fInt 3 v_68 (((nStar a).1).Starts) :: own fInt 3 v_69 (((nStar a).1).Ends) :: own fGEdge 69 v_70 (((nStar a).1).Edges) :: fz fGEdge.rep v_43 n.Edges :: fz fInt.rep v_42 n.Ends :: fz fInt.rep v_41 n.Starts :: box b_39 [.int .i64 n.States, v_41, v_42, v_43] 25 :: box b_30 [.int .i64 (((nText ([] : List UInt8)).1).States), v_23, v_24, v_25] 25 :: fz fInt.rep v_23 (((nText ([] : List UInt8)).1).Starts) :: fz fInt.rep v_24 (((nText ([] : List UInt8)).1).Ends) :: fz fGEdge.rep v_25 (((nText ([] : List UInt8)).1).Edges) :: box b_16 [.int .i64 (0 : Int), .slice none 0 0, .slice none 0 0, .slice none 0 0] 25 :: box b_14 [.int .i64 a.States, v_1, v_3, v_5] 25 :: fz fGEdge.rep v_5 a.Edges :: fz fInt.rep v_3 a.Ends :: fz fInt.rep v_1 a.Starts :: L) := hO
        refine hl_v (v_assign rfl) rfl ?_
        refine hl_nil ?_
        refine thenQ_n ?_
        refine hw_sub _ (ai_cons (t := 6) rfl (ai_cons (t := 10) rfl (ai_cons (t := 13) rfl (ai_cons (t := 14) rfl ai_nil)))) ?_
        refine hw_seq ?_
        refine hw_seq ?_
        refine hw_region ?_
        refine hl_v (v_move rfl) rfl ?_
        refine hl_v (v_neq rfl rfl) rfl ?_
        refine hl_nil ?_
        refine thenQ_n ?_
        refine hw_sub _ (ai_cons (t := 6) rfl (ai_cons (t := 10) rfl (ai_cons (t := 13) rfl (ai_cons (t := 14) rfl (ai_cons (t := 60) rfl ai_nil))))) ?_
        refine hw_cond rfl (fun hc_77 => ?_) (fun hc_77 => ?_)
        · replace h := ite_t h hc_77
          refine hw_seq ?_
          refine hw_region ?_
          refine hl_v (v_buildF (cs := [.int .i64 (0 : Int), .slice none 0 0, .slice none 0 0, .slice none 0 0]) (xs := []) (is := []) rfl evs_nil (fun w => by show _ = _; kernel_rfl)) rfl ?_
          refine hl_v (v_move rfl) rfl ?_
          refine hl_s (o_storeA (us := [.int .i64 (0 : Int), .slice none 0 0, .slice none 0 0, .slice none 0 0]) hO 12 rfl Try.sizeOf25 rfl rfl rfl rfl (by simp only [List.forall_mem_cons]; exact ⟨rfl, rfl, rfl, rfl, by simp⟩)) ?_
          rintro _ H_78 hO
          replace hO : Own H_78 Z_72 (box b_75 [.int .i64 (((nStar a).1).States), v_68, v_69, v_70] 25 :: own fInt 3 v_68 (((nStar a).1).Starts) :: own fInt 3 v_69 (((nStar a).1).Ends) :: own fGEdge 69 v_70 (((nStar a).1).Edges) :: fz fGEdge.rep v_43 n.Edges :: fz fInt.rep v_42 n.Ends :: fz fInt.rep v_41 n.Starts :: box b_39 [.int .i64 n.States, v_41, v_42, v_43] 25 :: box b_30 [.int .i64 (((nText ([] : List UInt8)).1).States), v_23, v_24, v_25] 25 :: fz fInt.rep v_23 (((nText ([] : List UInt8)).1).Starts) :: fz fInt.rep v_24 (((nText ([] : List UInt8)).1).Ends) :: fz fGEdge.rep v_25 (((nText ([] : List UInt8)).1).Edges) :: box b_16 [.int .i64 (0 : Int), .slice none 0 0, .slice none 0 0, .slice none 0 0] 25 :: box b_14 [.int .i64 a.States, v_1, v_3, v_5] 25 :: fz fGEdge.rep v_5 a.Edges :: fz fInt.rep v_3 a.Ends :: fz fInt.rep v_1 a.Starts :: L) := hO
          refine hl_v (v_assign rfl) rfl ?_
          refine hl_nil ?_
          refine thenQ_n ?_
          refine hw_sub _ (ai_cons (t := 6) rfl (ai_cons (t := 7) rfl ai_nil)) ?_
          refine hw_ret ?_
          refine thenQ_r ?_
          refine thenQ_r ?_
          replace hO : Own H_78 Z_72 (fz fInt.rep (.slice none 0 0) [] :: box b_75 [.int .i64 (((nStar a).1).States), v_68, v_69, v_70] 25 :: own fInt 3 v_68 (((nStar a).1).Starts) :: own fInt 3 v_69 (((nStar a).1).Ends) :: own fGEdge 69 v_70 (((nStar a).1).Edges) :: fz fGEdge.rep v_43 n.Edges :: fz fInt.rep v_42 n.Ends :: fz fInt.rep v_41 n.Starts :: box b_39 [.int .i64 n.States, v_41, v_42, v_43] 25 :: box b_30 [.int .i64 (((nText ([] : List UInt8)).1).States), v_23, v_24, v_25] 25 :: fz fInt.rep v_23 (((nText ([] : List UInt8)).1).Starts) :: fz fInt.rep v_24 (((nText ([] : List UInt8)).1).Ends) :: fz fGEdge.rep v_25 (((nText ([] : List UInt8)).1).Edges) :: box b_16 [.int .i64 (0 : Int), .slice none 0 0, .slice none 0 0, .slice none 0 0] 25 :: box b_14 [.int .i64 a.States, v_1, v_3, v_5] 25 :: fz fGEdge.rep v_5 a.Edges :: fz fInt.rep v_3 a.Ends :: fz fInt.rep v_1 a.Starts :: L) := hO.dup ⟨Sl.nil, fun _ h => h⟩
          replace hO : Own H_78 Z_72 (fz fInt.rep (.slice none 0 0) [] :: fz fInt.rep (.slice none 0 0) [] :: box b_75 [.int .i64 (((nStar a).1).States), v_68, v_69, v_70] 25 :: own fInt 3 v_68 (((nStar a).1).Starts) :: own fInt 3 v_69 (((nStar a).1).Ends) :: own fGEdge 69 v_70 (((nStar a).1).Edges) :: fz fGEdge.rep v_43 n.Edges :: fz fInt.rep v_42 n.Ends :: fz fInt.rep v_41 n.Starts :: box b_39 [.int .i64 n.States, v_41, v_42, v_43] 25 :: box b_30 [.int .i64 (((nText ([] : List UInt8)).1).States), v_23, v_24, v_25] 25 :: fz fInt.rep v_23 (((nText ([] : List UInt8)).1).Starts) :: fz fInt.rep v_24 (((nText ([] : List UInt8)).1).Ends) :: fz fGEdge.rep v_25 (((nText ([] : List UInt8)).1).Edges) :: box b_16 [.int .i64 (0 : Int), .slice none 0 0, .slice none 0 0, .slice none 0 0] 25 :: box b_14 [.int .i64 a.States, v_1, v_3, v_5] 25 :: fz fGEdge.rep v_5 a.Edges :: fz fInt.rep v_3 a.Ends :: fz fInt.rep v_1 a.Starts :: L) := hO.dup ⟨Sl.nil, fun _ h => h⟩
          replace hO : Own H_78 Z_72 (fz fGEdge.rep (.slice none 0 0) [] :: fz fInt.rep (.slice none 0 0) [] :: fz fInt.rep (.slice none 0 0) [] :: box b_75 [.int .i64 (((nStar a).1).States), v_68, v_69, v_70] 25 :: own fInt 3 v_68 (((nStar a).1).Starts) :: own fInt 3 v_69 (((nStar a).1).Ends) :: own fGEdge 69 v_70 (((nStar a).1).Edges) :: fz fGEdge.rep v_43 n.Edges :: fz fInt.rep v_42 n.Ends :: fz fInt.rep v_41 n.Starts :: box b_39 [.int .i64 n.States, v_41, v_42, v_43] 25 :: box b_30 [.int .i64 (((nText ([] : List UInt8)).1).States), v_23, v_24, v_25] 25 :: fz fInt.rep v_23 (((nText ([] : List UInt8)).1).Starts) :: fz fInt.rep v_24 (((nText ([] : List UInt8)).1).Ends) :: fz fGEdge.rep v_25 (((nText ([] : List UInt8)).1).Edges) :: box b_16 [.int .i64 (0 : Int), .slice none 0 0, .slice none 0 0, .slice none 0 0] 25 :: box b_14 [.int .i64 a.States, v_1, v_3, v_5] 25 :: fz fGEdge.rep v_5 a.Edges :: fz fInt.rep v_3 a.Ends :: fz fInt.rep v_1 a.Starts :: L) := hO.dup ⟨Sl.nil, fun _ h => h⟩
          refine ret_i _ (ra_c rfl (fun w hw => run_loadVar_at (cs := [.int .i64 (0 : Int), .slice none 0 0, .slice none 0 0, .slice none 0 0]) Try.isAgg25 Try.sizeOf25 (Blk.at0 (hO.box 15 rfl)) rfl w hw) (ra_t rfl ra_nil)) ?_
          exact ⟨_, (⟨(0 : Int), [], [], []⟩ : GNfa), (nStar a).2, .slice none 0 0, .slice none 0 0, .slice none 0 0, hZ, h, rfl, (Own.sel (Ls := [fz fGEdge.rep (.slice none 0 0) [], fz fInt.rep (.slice none 0 0) [], fz fInt.rep (.slice none 0 0) [], box b_75 [.int .i64 (((nStar a).1).States), v_68, v_69, v_70] 25, own fInt 3 v_68 (((nStar a).1).Starts), own fInt 3 v_69 (((nStar a).1).Ends), own fGEdge 69 v_70 (((nStar a).1).Edges), fz fGEdge.rep v_43 n.Edges, fz fInt.rep v_42 n.Ends, fz fInt.rep v_41 n.Starts, box b_39 [.int .i64 n.States, v_41, v_42, v_43] 25, box b_30 [.int .i64 (((nText ([] : List UInt8)).1).States), v_23, v_24, v_25] 25, fz fInt.rep v_23 (((nText ([] : List UInt8)).1).Starts), fz fInt.rep v_24 (((nText ([] : List UInt8)).1).Ends), fz fGEdge.rep v_25 (((nText ([] : List UInt8)).1).Edges), box b_16 [.int .i64 (0 : Int), .slice none 0 0, .slice none 0 0, .slice none 0 0] 25, box b_14 [.int .i64 a.States, v_1, v_3, v_5] 25, fz fGEdge.rep v_5 a.Edges, fz fInt.rep v_3 a.Ends, fz fInt.rep v_1 a.Starts]) (L := L) [2, 1, 0] rfl hO)⟩
        · replace h := ite_f h hc_77
          refine hw_skip ?_
          refine thenQ_n ?_
          refine hw_seq ?_
          refine hw_region ?_
          refine hl_v (v_loadA Try.isAgg25 Try.sizeOf25 rfl (Blk.at0 (hO.box 7 rfl)) rfl) rfl ?_
          refine hl_v (v_loadA Try.isAgg25 Try.sizeOf25 rfl (Blk.at0 (hO.box 0 rfl)) rfl) rfl ?_
          obtain ⟨Z_80, hz_79, hO⟩ := hO.freeze (i := 1) rfl
          replace hZ := fun b hb => hz_79 b (hZ b hb)
          replace hO : Own H_76 Z_80 (box b_75 [.int .i64 (((nStar a).1).States), v_68, v_69, v_70] 25 :: fz fInt.rep v_68 (((nStar a).1).Starts) :: own fInt 3 v_69 (((nStar a).1).Ends) :: own fGEdge 69 v_70 (((nStar a).1).Edges) :: fz fGEdge.rep v_43 n.Edges :: fz fInt.rep v_42 n.Ends :: fz fInt.rep v_41 n.Starts :: box b_39 [.int .i64 n.States, v_41, v_42, v_43] 25 :: box b_30 [.int .i64 (((nText ([] : List UInt8)).1).States), v_23, v_24, v_25] 25 :: fz fInt.rep v_23 (((nText ([] : List UInt8)).1).Starts) :: fz fInt.rep v_24 (((nText ([] : List UInt8)).1).Ends) :: fz fGEdge.rep v_25 (((nText ([] : List UInt8)).1).Edges) :: box b_16 [.int .i64 (0 : Int), .slice none 0 0, .slice none 0 0, .slice none 0 0] 25 :: box b_14 [.int .i64 a.States, v_1, v_3, v_5] 25 :: fz fGEdge.rep v_5 a.Edges :: fz fInt.rep v_3 a.Ends :: fz fInt.rep v_1 a.Starts :: L) := hO
          obtain ⟨Z_82, hz_81, hO⟩ := hO.freeze (i := 2) rfl
          replace hZ := fun b hb => hz_81 b (hZ b hb)
          replace hO : Own H_76 Z_82 (box b_75 [.int .i64 (((nStar a).1).States), v_68, v_69, v_70] 25 :: fz fInt.rep v_68 (((nStar a).1).Starts) :: fz fInt.rep v_69 (((nStar a).1).Ends) :: own fGEdge 69 v_70 (((nStar a).1).Edges) :: fz fGEdge.rep v_43 n.Edges :: fz fInt.rep v_42 n.Ends :: fz fInt.rep v_41 n.Starts :: box b_39 [.int .i64 n.States, v_41, v_42, v_43] 25 :: box b_30 [.int .i64 (((nText ([] : List UInt8)).1).States), v_23, v_24, v_25] 25 :: fz fInt.rep v_23 (((nText ([] : List UInt8)).1).Starts) :: fz fInt.rep v_24 (((nText ([] : List UInt8)).1).Ends) :: fz fGEdge.rep v_25 (((nText ([] : List UInt8)).1).Edges) :: box b_16 [.int .i64 (0 : Int), .slice none 0 0, .slice none 0 0, .slice none 0 0] 25 :: box b_14 [.int .i64 a.States, v_1, v_3, v_5] 25 :: fz fGEdge.rep v_5 a.Edges :: fz fInt.rep v_3 a.Ends :: fz fInt.rep v_1 a.Starts :: L) := hO
          obtain ⟨Z_84, hz_83, hO⟩ := hO.freeze (i := 3) rfl
          replace hZ := fun b hb => hz_83 b (hZ b hb)
          replace hO : Own H_76 Z_84 (box b_75 [.int .i64 (((nStar a).1).States), v_68, v_69, v_70] 25 :: fz fInt.rep v_68 (((nStar a).1).Starts) :: fz fInt.rep v_69 (((nStar a).1).Ends) :: fz fGEdge.rep v_70 (((nStar a).1).Edges) :: fz fGEdge.rep v_43 n.Edges :: fz fInt.rep v_42 n.Ends :: fz fInt.rep v_41 n.Starts :: box b_39 [.int .i64 n.States, v_41, v_42, v_43] 25 :: box b_30 [.int .i64 (((nText ([] : List UInt8)).1).States), v_23, v_24, v_25] 25 :: fz fInt.rep v_23 (((nText ([] : List UInt8)).1).Starts) :: fz fInt.rep v_24 (((nText ([] : List UInt8)).1).Ends) :: fz fGEdge.rep v_25 (((nText ([] : List UInt8)).1).Edges) :: box b_16 [.int .i64 (0 : Int), .slice none 0 0, .slice none 0 0, .slice none 0 0] 25 :: box b_14 [.int .i64 a.States, v_1, v_3, v_5] 25 :: fz fGEdge.rep v_5 a.Edges :: fz fInt.rep v_3 a.Ends :: fz fInt.rep v_1 a.Starts :: L) := hO
          obtain ⟨hs_85, h⟩ := h
          refine hl_h (h_call Try.call19 (evs_cons rfl (evs_cons rfl evs_nil)) (rCat_spec (a0 := n) (a1 := ((nStar a).1)) hs_85 hO (Fz.of (i := 6) rfl) (Fz.of (i := 5) rfl) (Fz.of (i := 4) rfl) (Fz.of (i := 1) rfl) (Fz.of (i := 2) rfl) (Fz.of (i := 3) rfl))) rfl ?_
          rintro vv H_89 ⟨Z_90, v_86, v_87, v_88, hz_91, hv, hO⟩
          obtain rfl := hv.symm
          replace hZ := fun b hb => hz_91 b (hZ b hb)
          replace hO : Own H_89 Z_90 (own fInt 3 v_86 (((nCat n ((nStar a).1)).1).Starts) :: own fInt 3 v_87 (((nCat n ((nStar a).1)).1).Ends) :: own fGEdge 69 v_88 (((nCat n ((nStar a).1)).1).Edges) :: box b_75 [.int .i64 (((nStar a).1).States), v_68, v_69, v_70] 25 :: fz fInt.rep v_68 (((nStar a).1).Starts) :: fz fInt.rep v_69 (((nStar a).1).Ends) :: fz fGEdge.rep v_70 (((nStar a).1).Edges) :: fz fGEdge.rep v_43 n.Edges :: fz fInt.rep v_42 n.Ends :: fz fInt.rep v_41 n.Starts :: box b_39 [.int .i64 n.States, v_41, v_42, v_43] 25 :: box b_30 [.int .i64 (((nText ([] : List UInt8)).1).States), v_23, v_24, v_25] 25 :: fz fInt.rep v_23 (((nText ([] : List UInt8)).1).Starts) :: fz fInt.rep v_24 (((nText ([] : List UInt8)).1).Ends) :: fz fGEdge.rep v_25 (((nText ([] : List UInt8)).1).Edges) :: box b_16 [.int .i64 (0 : Int), .slice none 0 0, .slice none 0 0, .slice none 0 0] 25 :: box b_14 [.int .i64 a.States, v_1, v_3, v_5] 25 :: fz fGEdge.rep v_5 a.Edges :: fz fInt.rep v_3 a.Ends :: fz fInt.rep v_1 a.Starts :: L) := hO
          refine hl_v (v_extract rfl rfl) rfl ?_
          refine hl_v (v_extract rfl rfl) rfl ?_
          refine hl_s (o_storeA (us := [.int .i64 (((nCat n ((nStar a).1)).1).States), v_86, v_87, v_88]) hO 15 rfl Try.sizeOf25 rfl rfl rfl rfl (by simp only [List.forall_mem_cons]; exact ⟨rfl, (Sl.one (hO.osl 0 rfl)), (Sl.one (hO.osl 1 rfl)), (Sl.one (hO.osl 2 rfl)), by simp⟩)) ?_
          rintro _ H_92 hO
          replace hO : Own H_92 Z_90 (own fInt 3 v_86 (((nCat n ((nStar a).1)).1).Starts) :: own fInt 3 v_87 (((nCat n ((nStar a).1)).1).Ends) :: own fGEdge 69 v_88 (((nCat n ((nStar a).1)).1).Edges) :: box b_75 [.int .i64 (((nStar a).1).States), v_68, v_69, v_70] 25 :: fz fInt.rep v_68 (((nStar a).1).Starts) :: fz fInt.rep v_69 (((nStar a).1).Ends) :: fz fGEdge.rep v_70 (((nStar a).1).Edges) :: fz fGEdge.rep v_43 n.Edges :: fz fInt.rep v_42 n.Ends :: fz fInt.rep v_41 n.Starts :: box b_39 [.int .i64 n.States, v_41, v_42, v_43] 25 :: box b_30 [.int .i64 (((nText ([] : List UInt8)).1).States), v_23, v_24, v_25] 25 :: fz fInt.rep v_23 (((nText ([] : List UInt8)).1).Starts) :: fz fInt.rep v_24 (((nText ([] : List UInt8)).1).Ends) :: fz fGEdge.rep v_25 (((nText ([] : List UInt8)).1).Edges) :: box b_16 [.int .i64 (((nCat n ((nStar a).1)).1).States), v_86, v_87, v_88] 25 :: box b_14 [.int .i64 a.States, v_1, v_3, v_5] 25 :: fz fGEdge.rep v_5 a.Edges :: fz fInt.rep v_3 a.Ends :: fz fInt.rep v_1 a.Starts :: L) := hO
          refine hl_v (v_assign rfl) rfl ?_
          refine hl_nil ?_
          refine thenQ_n ?_
          refine hw_sub _ (ai_cons (t := 6) rfl (ai_cons (t := 7) rfl ai_nil)) ?_
          refine hw_ret ?_
          refine thenQ_r ?_
          obtain ⟨Z_94, hz_93, hO⟩ := hO.freeze (i := 0) rfl
          replace hZ := fun b hb => hz_93 b (hZ b hb)
          replace hO : Own H_92 Z_94 (fz fInt.rep v_86 (((nCat n ((nStar a).1)).1).Starts) :: own fInt 3 v_87 (((nCat n ((nStar a).1)).1).Ends) :: own fGEdge 69 v_88 (((nCat n ((nStar a).1)).1).Edges) :: box b_75 [.int .i64 (((nStar a).1).States), v_68, v_69, v_70] 25 :: fz fInt.rep v_68 (((nStar a).1).Starts) :: fz fInt.rep v_69 (((nStar a).1).Ends) :: fz fGEdge.rep v_70 (((nStar a).1).Edges) :: fz fGEdge.rep v_43 n.Edges :: fz fInt.rep v_42 n.Ends :: fz fInt.rep v_41 n.Starts :: box b_39 [.int .i64 n.States, v_41, v_42, v_43] 25 :: box b_30 [.int .i64 (((nText ([] : List UInt8)).1).States), v_23, v_24, v_25] 25 :: fz fInt.rep v_23 (((nText ([] : List UInt8)).1).Starts) :: fz fInt.rep v_24 (((nText ([] : List UInt8)).1).Ends) :: fz fGEdge.rep v_25 (((nText ([] : List UInt8)).1).Edges) :: box b_16 [.int .i64 (((nCat n ((nStar a).1)).1).States), v_86, v_87, v_88] 25 :: box b_14 [.int .i64 a.States, v_1, v_3, v_5] 25 :: fz fGEdge.rep v_5 a.Edges :: fz fInt.rep v_3 a.Ends :: fz fInt.rep v_1 a.Starts :: L) := hO
          obtain ⟨Z_96, hz_95, hO⟩ := hO.freeze (i := 1) rfl
          replace hZ := fun b hb => hz_95 b (hZ b hb)
          replace hO : Own H_92 Z_96 (fz fInt.rep v_86 (((nCat n ((nStar a).1)).1).Starts) :: fz fInt.rep v_87 (((nCat n ((nStar a).1)).1).Ends) :: own fGEdge 69 v_88 (((nCat n ((nStar a).1)).1).Edges) :: box b_75 [.int .i64 (((nStar a).1).States), v_68, v_69, v_70] 25 :: fz fInt.rep v_68 (((nStar a).1).Starts) :: fz fInt.rep v_69 (((nStar a).1).Ends) :: fz fGEdge.rep v_70 (((nStar a).1).Edges) :: fz fGEdge.rep v_43 n.Edges :: fz fInt.rep v_42 n.Ends :: fz fInt.rep v_41 n.Starts :: box b_39 [.int .i64 n.States, v_41, v_42, v_43] 25 :: box b_30 [.int .i64 (((nText ([] : List UInt8)).1).States), v_23, v_24, v_25] 25 :: fz fInt.rep v_23 (((nText ([] : List UInt8)).1).Starts) :: fz fInt.rep v_24 (((nText ([] : List UInt8)).1).Ends) :: fz fGEdge.rep v_25 (((nText ([] : List UInt8)).1).Edges) :: box b_16 [.int .i64 (((nCat n ((nStar a).1)).1).States), v_86, v_87, v_88] 25 :: box b_14 [.int .i64 a.States, v_1, v_3, v_5] 25 :: fz fGEdge.rep v_5 a.Edges :: fz fInt.rep v_3 a.Ends :: fz fInt.rep v_1 a.Starts :: L) := hO
          obtain ⟨Z_98, hz_97, hO⟩ := hO.freeze (i := 2) rfl
          replace hZ := fun b hb => hz_97 b (hZ b hb)
          replace hO : Own H_92 Z_98 (fz fInt.rep v_86 (((nCat n ((nStar a).1)).1).Starts) :: fz fInt.rep v_87 (((nCat n ((nStar a).1)).1).Ends) :: fz fGEdge.rep v_88 (((nCat n ((nStar a).1)).1).Edges) :: box b_75 [.int .i64 (((nStar a).1).States), v_68, v_69, v_70] 25 :: fz fInt.rep v_68 (((nStar a).1).Starts) :: fz fInt.rep v_69 (((nStar a).1).Ends) :: fz fGEdge.rep v_70 (((nStar a).1).Edges) :: fz fGEdge.rep v_43 n.Edges :: fz fInt.rep v_42 n.Ends :: fz fInt.rep v_41 n.Starts :: box b_39 [.int .i64 n.States, v_41, v_42, v_43] 25 :: box b_30 [.int .i64 (((nText ([] : List UInt8)).1).States), v_23, v_24, v_25] 25 :: fz fInt.rep v_23 (((nText ([] : List UInt8)).1).Starts) :: fz fInt.rep v_24 (((nText ([] : List UInt8)).1).Ends) :: fz fGEdge.rep v_25 (((nText ([] : List UInt8)).1).Edges) :: box b_16 [.int .i64 (((nCat n ((nStar a).1)).1).States), v_86, v_87, v_88] 25 :: box b_14 [.int .i64 a.States, v_1, v_3, v_5] 25 :: fz fGEdge.rep v_5 a.Edges :: fz fInt.rep v_3 a.Ends :: fz fInt.rep v_1 a.Starts :: L) := hO
          refine ret_i _ (ra_c rfl (fun w hw => run_loadVar_at (cs := [.int .i64 (((nCat n ((nStar a).1)).1).States), v_86, v_87, v_88]) Try.isAgg25 Try.sizeOf25 (Blk.at0 (hO.box 15 rfl)) rfl w hw) (ra_t rfl ra_nil)) ?_
          exact ⟨_, ((nCat n ((nStar a).1)).1), (nCat n ((nStar a).1)).2, v_86, v_87, v_88, hZ, h, rfl, (Own.sel (Ls := [fz fInt.rep v_86 (((nCat n ((nStar a).1)).1).Starts), fz fInt.rep v_87 (((nCat n ((nStar a).1)).1).Ends), fz fGEdge.rep v_88 (((nCat n ((nStar a).1)).1).Edges), box b_75 [.int .i64 (((nStar a).1).States), v_68, v_69, v_70] 25, fz fInt.rep v_68 (((nStar a).1).Starts), fz fInt.rep v_69 (((nStar a).1).Ends), fz fGEdge.rep v_70 (((nStar a).1).Edges), fz fGEdge.rep v_43 n.Edges, fz fInt.rep v_42 n.Ends, fz fInt.rep v_41 n.Starts, box b_39 [.int .i64 n.States, v_41, v_42, v_43] 25, box b_30 [.int .i64 (((nText ([] : List UInt8)).1).States), v_23, v_24, v_25] 25, fz fInt.rep v_23 (((nText ([] : List UInt8)).1).Starts), fz fInt.rep v_24 (((nText ([] : List UInt8)).1).Ends), fz fGEdge.rep v_25 (((nText ([] : List UInt8)).1).Edges), box b_16 [.int .i64 (((nCat n ((nStar a).1)).1).States), v_86, v_87, v_88] 25, box b_14 [.int .i64 a.States, v_1, v_3, v_5] 25, fz fGEdge.rep v_5 a.Edges, fz fInt.rep v_3 a.Ends, fz fInt.rep v_1 a.Starts]) (L := L) [0, 1, 2] rfl hO)⟩
      · replace h := ite_f h hc_66
        refine hw_skip ?_
        refine thenQ_n ?_
        refine hw_seq ?_
        refine hw_seq ?_
        refine hw_region ?_
        refine hl_v (v_move rfl) rfl ?_
        refine hl_v (v_assign rfl) rfl ?_
        refine hl_nil ?_
        refine thenQ_n ?_
        refine hw_sub _ (ai_cons (t := 2) rfl (ai_cons (t := 3) rfl (ai_cons (t := 6) rfl (ai_cons (t := 8) rfl (ai_cons (t := 10) rfl (ai_cons (t := 11) rfl (ai_cons (t := 15) rfl ai_nil))))))) ?_
        refine hw_block ?_
        obtain ⟨I_102, μ_103, h, hI_104⟩ := h
        refine hw_lp (fun n' g' H' => ∃ (n2 : GNfa) (e2 : Int) (i2 : Int) (v_99 : Value) (v_100 : Value) (v_101 : Value) (Z' : Nat → Prop), n' = μ_103 n2 e2 i2 ∧ g' = [(2, .int .i64 most), (3, ptr b_14 0), (6, ptr b_16 0), (8, ptr b_30 0), (10, ptr b_39 0), (11, .int .i64 e2), (15, .int .i64 i2)] ∧ (∀ b, Z b → Z' b) ∧ I_102 n2 e2 i2 ∧ Own H' Z' (fz fGEdge.rep v_101 n2.Edges :: fz fInt.rep v_100 n2.Ends :: fz fInt.rep v_99 n2.Starts :: box b_39 [.int .i64 n2.States, v_99, v_100, v_101] 25 :: box b_30 [.int .i64 (((nText ([] : List UInt8)).1).States), v_23, v_24, v_25] 25 :: fz fInt.rep v_23 (((nText ([] : List UInt8)).1).Starts) :: fz fInt.rep v_24 (((nText ([] : List UInt8)).1).Ends) :: fz fGEdge.rep v_25 (((nText ([] : List UInt8)).1).Edges) :: box b_16 [.int .i64 (0 : Int), .slice none 0 0, .slice none 0 0, .slice none 0 0] 25 :: box b_14 [.int .i64 a.States, v_1, v_3, v_5] 25 :: fz fGEdge.rep v_5 a.Edges :: fz fInt.rep v_3 a.Ends :: fz fInt.rep v_1 a.Starts :: L)) _ _ (ai_cons (t := 2) rfl (ai_cons (t := 3) rfl (ai_cons (t := 6) rfl (ai_cons (t := 8) rfl (ai_cons (t := 10) rfl (ai_cons (t := 11) rfl (ai_cons (t := 15) rfl ai_nil))))))) ⟨n, e, least, v_41, v_42, v_43, _, rfl, rfl, hZ, h, hO⟩ ?_
        rintro _ _ H_105 ⟨n2, e2, i2, v_99, v_100, v_101, Z_106, rfl, rfl, hZ, h, hO⟩
        replace h := hI_104 n2 e2 i2 h
        refine hw_seq ?_
        refine hw_seq ?_
        refine hw_region ?_
        refine hl_v (v_move rfl) rfl ?_
        refine hl_v (v_move rfl) rfl ?_
        refine hl_v (v_lss rfl rfl) rfl ?_
        refine hl_v (v_move rfl) rfl ?_
        refine hl_g rfl rfl (fun hg => (v_move rfl)) rfl ?_
        refine hl_g rfl rfl (fun hg => (v_eql (gv_ok rfl hg) rfl)) rfl ?_
        refine hl_v (v_and rfl rfl) rfl ?_
        refine hl_nil ?_
        refine thenQ_n ?_
        refine hw_sub _ (ai_cons (t := 2) rfl (ai_cons (t := 3) rfl (ai_cons (t := 6) rfl (ai_cons (t := 8) rfl (ai_cons (t := 10) rfl (ai_cons (t := 11) rfl (ai_cons (t := 15) rfl (ai_cons (t := 75) rfl ai_nil)))))))) ?_
        refine hw_cond rfl (fun hc_108 => ?_) (fun hc_108 => ?_)
        · replace h := ite_t h hc_108
          refine hw_skip ?_
          refine thenQ_n ?_
          refine hw_seq ?_
          refine hw_block ?_
          refine hw_seq ?_
          refine hw_region ?_
          refine hl_v (v_loadA Try.isAgg25 Try.sizeOf25 rfl (Blk.at0 (hO.box 9 rfl)) rfl) rfl ?_
          refine hl_v (v_loadA Try.isAgg25 Try.sizeOf25 rfl (Blk.at0 (hO.box 4 rfl)) rfl) rfl ?_
          obtain ⟨hs_109, h⟩ := h
          refine hl_h (h_call Try.call20 (evs_cons rfl (evs_cons rfl evs_nil)) (rAlt_spec (a0 := a) (a1 := ((nText ([] : List UInt8)).1)) hs_109 hO (Fz.of (i := 12) rfl) (Fz.of (i := 11) rfl) (Fz.of (i := 10) rfl) (Fz.of (i := 5) rfl) (Fz.of (i := 6) rfl) (Fz.of (i := 7) rfl))) rfl ?_
          rintro vv H_113 ⟨Z_114, v_110, v_111, v_112, hz_115, hv, hO⟩
          obtain rfl := hv.symm
          replace hZ := fun b hb => hz_115 b (hZ b hb)
          replace hO : Own H_113 Z_114 (own fInt 3 v_110 (((nAlt a ((nText ([] : List UInt8)).1)).1).Starts) :: own fInt 3 v_111 (((nAlt a ((nText ([] : List UInt8)).1)).1).Ends) :: own fGEdge 69 v_112 (((nAlt a ((nText ([] : List UInt8)).1)).1).Edges) :: fz fGEdge.rep v_101 n2.Edges :: fz fInt.rep v_100 n2.Ends :: fz fInt.rep v_99 n2.Starts :: box b_39 [.int .i64 n2.States, v_99, v_100, v_101] 25 :: box b_30 [.int .i64 (((nText ([] : List UInt8)).1).States), v_23, v_24, v_25] 25 :: fz fInt.rep v_23 (((nText ([] : List UInt8)).1).Starts) :: fz fInt.rep v_24 (((nText ([] : List UInt8)).1).Ends) :: fz fGEdge.rep v_25 (((nText ([] : List UInt8)).1).Edges) :: box b_16 [.int .i64 (0 : Int), .slice none 0 0, .slice none 0 0, .slice none 0 0] 25 :: box b_14 [.int .i64 a.States, v_1, v_3, v_5] 25 :: fz fGEdge.rep v_5 a.Edges :: fz fInt.rep v_3 a.Ends :: fz fInt.rep v_1 a.Starts :: L) := hO
          refine hl_v (v_move rfl) rfl ?_
          refine hl_v (v_extract rfl rfl) rfl ?_
          refine hl_v (v_extract rfl rfl) rfl ?_
          refine hl_h (o_alloc (cs := [.int .i64 (0 : Int), .slice none 0 0, .slice none 0 0, .slice none 0 0]) hO Try.zeroValue25 rfl) rfl ?_
          rintro _ H_116 ⟨b_117, rfl, hO⟩
          replace hO : Own H_116 Z_114 (box b_117 [.int .i64 (0 : Int), .slice none 0 0, .slice none 0 0, .slice none 0 0] 25 :: own fInt 3 v_110 (((nAlt a ((nText ([] : List UInt8)).1)).1).Starts) :: own fInt 3 v_111 (((nAlt a ((nText ([] : List UInt8)).1)).1).Ends) :: own fGEdge 69 v_112 (((nAlt a ((nText ([] : List UInt8)).1)).1).Edges) :: fz fGEdge.rep v_101 n2.Edges :: fz fInt.rep v_100 n2.Ends :: fz fInt.rep v_99 n2.Starts :: box b_39 [.int .i64 n2.States, v_99, v_100, v_101] 25 :: box b_30 [.int .i64 (((nText ([] : List UInt8)).1).States), v_23, v_24, v_25] 25 :: fz fInt.rep v_23 (((nText ([] : List UInt8)).1).Starts) :: fz fInt.rep v_24 (((nText ([] : List UInt8)).1).Ends) :: fz fGEdge.rep v_25 (((nText ([] : List UInt8)).1).Edges) :: box b_16 [.int .i64 (0 : Int), .slice none 0 0, .slice none 0 0, .slice none 0 0] 25 :: box b_14 [.int .i64 a.States, v_1, v_3, v_5] 25 :: fz fGEdge.rep v_5 a.Edges :: fz fInt.rep v_3 a.Ends :: fz fInt.rep v_1 a.Starts :: L) := hO
          refine hl_s (o_storeA (us := [.int .i64 (((nAlt a ((nText ([] : List UInt8)).1)).1).States), v_110, v_111, v_112]) hO 0 rfl Try.sizeOf25 rfl rfl rfl rfl (by simp only [List.forall_mem_cons]; exact ⟨rfl, (Sl.one (hO.osl 1 rfl)), (Sl.one (hO.osl 2 rfl)), (Sl.one (hO.osl 3 rfl)), by simp⟩)) ?_
          rintro _ H_118 hO
          replace hO : Own H_118 Z_114 (box b_117 [.int .i64 (((nAlt a ((nText ([] : List UInt8)).1)).1).States), v_110, v_111, v_112] 25 :: own fInt 3 v_110 (((nAlt a ((nText ([] : List UInt8)).1)).1).Starts) :: own fInt 3 v_111 (((nAlt a ((nText ([] : List UInt8)).1)).1).Ends) :: own fGEdge 69 v_112 (((nAlt a ((nText ([] : List UInt8)).1)).1).Edges) :: fz fGEdge.rep v_101 n2.Edges :: fz fInt.rep v_100 n2.Ends :: fz fInt.rep v_99 n2.Starts :: box b_39 [.int .i64 n2.States, v_99, v_100, v_101] 25 :: box b_30 [.int .i64 (((nText ([] : List UInt8)).1).States), v_23, v_24, v_25] 25 :: fz fInt.rep v_23 (((nText ([] : List UInt8)).1).Starts) :: fz fInt.rep v_24 (((nText ([] : List UInt8)).1).Ends) :: fz fGEdge.rep v_25 (((nText ([] : List UInt8)).1).Edges) :: box b_16 [.int .i64 (0 : Int), .slice none 0 0, .slice none 0 0, .slice none 0 0] 25 :: box b_14 [.int .i64 a.States, v_1, v_3, v_5] 25 :: fz fGEdge.rep v_5 a.Edges :: fz fInt.rep v_3 a.Ends :: fz fInt.rep v_1 a.Starts :: L) := hO
          refine hl_v (v_assign rfl) rfl ?_
          refine hl_nil ?_
          refine thenQ_n ?_
          refine hw_sub _ (ai_cons (t := 2) rfl (ai_cons (t := 3) rfl (ai_cons (t := 6) rfl (ai_cons (t := 8) rfl (ai_cons (t := 10) rfl (ai_cons (t := 15) rfl (ai_cons (t := 16) rfl (ai_cons (t := 17) rfl ai_nil)))))))) ?_
          refine hw_seq ?_
          refine hw_seq ?_
          refine hw_region ?_
          refine hl_v (v_move rfl) rfl ?_
          refine hl_v (v_neq rfl rfl) rfl ?_
          refine hl_nil ?_
          refine thenQ_n ?_
          refine hw_sub _ (ai_cons (t := 2) rfl (ai_cons (t := 3) rfl (ai_cons (t := 6) rfl (ai_cons (t := 8) rfl (ai_cons (t := 10) rfl (ai_cons (t := 15) rfl (ai_cons (t := 16) rfl (ai_cons (t := 17) rfl (ai_cons (t := 85) rfl ai_nil))))))))) ?_
          refine hw_cond rfl (fun hc_119 => ?_) (fun hc_119 => ?_)
          · replace h := ite_t h hc_119
            refine hw_seq ?_
            refine hw_region ?_
            refine hl_v (v_buildF (cs := [.int .i64 (0 : Int), .slice none 0 0, .slice none 0 0, .slice none 0 0]) (xs := []) (is := []) rfl evs_nil (fun w => by show _ = _; kernel_rfl)) rfl ?_
            refine hl_v (v_move rfl) rfl ?_
            refine hl_s (o_storeA (us := [.int .i64 (0 : Int), .slice none 0 0, .slice none 0 0, .slice none 0 0]) hO 12 rfl Try.sizeOf25 rfl rfl rfl rfl (by simp only [List.forall_mem_cons]; exact ⟨rfl, rfl, rfl, rfl, by simp⟩)) ?_
            rintro _ H_120 hO
            replace hO : Own H_120 Z_114 (box b_117 [.int .i64 (((nAlt a ((nText ([] : List UInt8)).1)).1).States), v_110, v_111, v_112] 25 :: own fInt 3 v_110 (((nAlt a ((nText ([] : List UInt8)).1)).1).Starts) :: own fInt 3 v_111 (((nAlt a ((nText ([] : List UInt8)).1)).1).Ends) :: own fGEdge 69 v_112 (((nAlt a ((nText ([] : List UInt8)).1)).1).Edges) :: fz fGEdge.rep v_101 n2.Edges :: fz fInt.rep v_100 n2.Ends :: fz fInt.rep v_99 n2.Starts :: box b_39 [.int .i64 n2.States, v_99, v_100, v_101] 25 :: box b_30 [.int .i64 (((nText ([] : List UInt8)).1).States), v_23, v_24, v_25] 25 :: fz fInt.rep v_23 (((nText ([] : List UInt8)).1).Starts) :: fz fInt.rep v_24 (((nText ([] : List UInt8)).1).Ends) :: fz fGEdge.rep v_25 (((nText ([] : List UInt8)).1).Edges) :: box b_16 [.int .i64 (0 : Int), .slice none 0 0, .slice none 0 0, .slice none 0 0] 25 :: box b_14 [.int .i64 a.States, v_1, v_3, v_5] 25 :: fz fGEdge.rep v_5 a.Edges :: fz fInt.rep v_3 a.Ends :: fz fInt.rep v_1 a.Starts :: L) := hO
            refine hl_v (v_assign rfl) rfl ?_
            refine hl_nil ?_
            refine thenQ_n ?_
            refine hw_sub _ (ai_cons (t := 6) rfl (ai_cons (t := 7) rfl ai_nil)) ?_
            refine hw_ret ?_
            refine thenQ_r ?_
            refine blockQ_r ?_
            refine thenQ_r ?_
            refine thenQ_r ?_
            refine blockQ_r ?_
            refine thenQ_r ?_
            replace hO : Own H_120 Z_114 (fz fInt.rep (.slice none 0 0) [] :: box b_117 [.int .i64 (((nAlt a ((nText ([] : List UInt8)).1)).1).States), v_110, v_111, v_112] 25 :: own fInt 3 v_110 (((nAlt a ((nText ([] : List UInt8)).1)).1).Starts) :: own fInt 3 v_111 (((nAlt a ((nText ([] : List UInt8)).1)).1).Ends) :: own fGEdge 69 v_112 (((nAlt a ((nText ([] : List UInt8)).1)).1).Edges) :: fz fGEdge.rep v_101 n2.Edges :: fz fInt.rep v_100 n2.Ends :: fz fInt.rep v_99 n2.Starts :: box b_39 [.int .i64 n2.States, v_99, v_100, v_101] 25 :: box b_30 [.int .i64 (((nText ([] : List UInt8)).1).States), v_23, v_24, v_25] 25 :: fz fInt.rep v_23 (((nText ([] : List UInt8)).1).Starts) :: fz fInt.rep v_24 (((nText ([] : List UInt8)).1).Ends) :: fz fGEdge.rep v_25 (((nText ([] : List UInt8)).1).Edges) :: box b_16 [.int .i64 (0 : Int), .slice none 0 0, .slice none 0 0, .slice none 0 0] 25 :: box b_14 [.int .i64 a.States, v_1, v_3, v_5] 25 :: fz fGEdge.rep v_5 a.Edges :: fz fInt.rep v_3 a.Ends :: fz fInt.rep v_1 a.Starts :: L) := hO.dup ⟨Sl.nil, fun _ h => h⟩
            replace hO : Own H_120 Z_114 (fz fInt.rep (.slice none 0 0) [] :: fz fInt.rep (.slice none 0 0) [] :: box b_117 [.int .i64 (((nAlt a ((nText ([] : List UInt8)).1)).1).States), v_110, v_111, v_112] 25 :: own fInt 3 v_110 (((nAlt a ((nText ([] : List UInt8)).1)).1).Starts) :: own fInt 3 v_111 (((nAlt a ((nText ([] : List UInt8)).1)).1).Ends) :: own fGEdge 69 v_112 (((nAlt a ((nText ([] : List UInt8)).1)).1).Edges) :: fz fGEdge.rep v_101 n2.Edges :: fz fInt.rep v_100 n2.Ends :: fz fInt.rep v_99 n2.Starts :: box b_39 [.int .i64 n2.States, v_99, v_100, v_101] 25 :: box b_30 [.int .i64 (((nText ([] : List UInt8)).1).States), v_23, v_24, v_25] 25 :: fz fInt.rep v_23 (((nText ([] : List UInt8)).1).Starts) :: fz fInt.rep v_24 (((nText ([] : List UInt8)).1).Ends) :: fz fGEdge.rep v_25 (((nText ([] : List UInt8)).1).Edges) :: box b_16 [.int .i64 (0 : Int), .slice none 0 0, .slice none 0 0, .slice none 0 0] 25 :: box b_14 [.int .i64 a.States, v_1, v_3, v_5] 25 :: fz fGEdge.rep v_5 a.Edges :: fz fInt.rep v_3 a.Ends :: fz fInt.rep v_1 a.Starts :: L) := hO.dup ⟨Sl.nil, fun _ h => h⟩
            replace hO : Own H_120 Z_114 (fz fGEdge.rep (.slice none 0 0) [] :: fz fInt.rep (.slice none 0 0) [] :: fz fInt.rep (.slice none 0 0) [] :: box b_117 [.int .i64 (((nAlt a ((nText ([] : List UInt8)).1)).1).States), v_110, v_111, v_112] 25 :: own fInt 3 v_110 (((nAlt a ((nText ([] : List UInt8)).1)).1).Starts) :: own fInt 3 v_111 (((nAlt a ((nText ([] : List UInt8)).1)).1).Ends) :: own fGEdge 69 v_112 (((nAlt a ((nText ([] : List UInt8)).1)).1).Edges) :: fz fGEdge.rep v_101 n2.Edges :: fz fInt.rep v_100 n2.Ends :: fz fInt.rep v_99 n2.Starts :: box b_39 [.int .i64 n2.States, v_99, v_100, v_101] 25 :: box b_30 [.int .i64 (((nText ([] : List UInt8)).1).States), v_23, v_24, v_25] 25 :: fz fInt.rep v_23 (((nText ([] : List UInt8)).1).Starts) :: fz fInt.rep v_24 (((nText ([] : List UInt8)).1).Ends) :: fz fGEdge.rep v_25 (((nText ([] : List UInt8)).1).Edges) :: box b_16 [.int .i64 (0 : Int), .slice none 0 0, .slice none 0 0, .slice none 0 0] 25 :: box b_14 [.int .i64 a.States, v_1, v_3, v_5] 25 :: fz fGEdge.rep v_5 a.Edges :: fz fInt.rep v_3 a.Ends :: fz fInt.rep v_1 a.Starts :: L) := hO.dup ⟨Sl.nil, fun _ h => h⟩
            refine ret_i _ (ra_c rfl (fun w hw => run_loadVar_at (cs := [.int .i64 (0 : Int), .slice none 0 0, .slice none 0 0, .slice none 0 0]) Try.isAgg25 Try.sizeOf25 (Blk.at0 (hO.box 15 rfl)) rfl w hw) (ra_t rfl ra_nil)) ?_
            exact ⟨_, (⟨(0 : Int), [], [], []⟩ : GNfa), (nAlt a ((nText ([] : List UInt8)).1)).2, .slice none 0 0, .slice none 0 0, .slice none 0 0, hZ, h, rfl, (Own.sel (Ls := [fz fGEdge.rep (.slice none 0 0) [], fz fInt.rep (.slice none 0 0) [], fz fInt.rep (.slice none 0 0) [], box b_117 [.int .i64 (((nAlt a ((nText ([] : List UInt8)).1)).1).States), v_110, v_111, v_112] 25, own fInt 3 v_110 (((nAlt a ((nText ([] : List UInt8)).1)).1).Starts), own fInt 3 v_111 (((nAlt a ((nText ([] : List UInt8)).1)).1).Ends), own fGEdge 69 v_112 (((nAlt a ((nText ([] : List UInt8)).1)).1).Edges), fz fGEdge.rep v_101 n2.Edges, fz fInt.rep v_100 n2.Ends, fz fInt.rep v_99 n2.Starts, box b_39 [.int .i64 n2.States, v_99, v_100, v_101] 25, box b_30 [.int .i64 (((nText ([] : List UInt8)).1).States), v_23, v_24, v_25] 25, fz fInt.rep v_23 (((nText ([] : List UInt8)).1).Starts), fz fInt.rep v_24 (((nText ([] : List UInt8)).1).Ends), fz fGEdge.rep v_25 (((nText ([] : List UInt8)).1).Edges), box b_16 [.int .i64 (0 : Int), .slice none 0 0, .slice none 0 0, .slice none 0 0] 25, box b_14 [.int .i64 a.States, v_1, v_3, v_5] 25, fz fGEdge.rep v_5 a.Edges, fz fInt.rep v_3 a.Ends, fz fInt.rep v_1 a.Starts]) (L := L) [2, 1, 0] rfl hO)⟩
          · replace h := ite_f h hc_119
            refine hw_skip ?_
            refine thenQ_n ?_
            refine hw_region ?_
            refine hl_v (v_loadA Try.isAgg25 Try.sizeOf25 rfl (Blk.at0 (hO.box 7 rfl)) rfl) rfl ?_
            refine hl_v (v_loadA Try.isAgg25 Try.sizeOf25 rfl (Blk.at0 (hO.box 0 rfl)) rfl) rfl ?_
            obtain ⟨Z_122, hz_121, hO⟩ := hO.freeze (i := 1) rfl
            replace hZ := fun b hb => hz_121 b (hZ b hb)
            replace hO : Own H_118 Z_122 (box b_117 [.int .i64 (((nAlt a ((nText ([] : List UInt8)).1)).1).States), v_110, v_111, v_112] 25 :: fz fInt.rep v_110 (((nAlt a ((nText ([] : List UInt8)).1)).1).Starts) :: own fInt 3 v_111 (((nAlt a ((nText ([] : List UInt8)).1)).1).Ends) :: own fGEdge 69 v_112 (((nAlt a ((nText ([] : List UInt8)).1)).1).Edges) :: fz fGEdge.rep v_101 n2.Edges :: fz fInt.rep v_100 n2.Ends :: fz fInt.rep v_99 n2.Starts :: box b_39 [.int .i64 n2.States, v_99, v_100, v_101] 25 :: box b_30 [.int .i64 (((nText ([] : List UInt8)).1).States), v_23, v_24, v_25] 25 :: fz fInt.rep v_23 (((nText ([] : List UInt8)).1).Starts) :: fz fInt.rep v_24 (((nText ([] : List UInt8)).1).Ends) :: fz fGEdge.rep v_25 (((nText ([] : List UInt8)).1).Edges) :: box b_16 [.int .i64 (0 : Int), .slice none 0 0, .slice none 0 0, .slice none 0 0] 25 :: box b_14 [.int .i64 a.States, v_1, v_3, v_5] 25 :: fz fGEdge.rep v_5 a.Edges :: fz fInt.rep v_3 a.Ends :: fz fInt.rep v_1 a.Starts :: L) := hO
            obtain ⟨Z_124, hz_123, hO⟩ := hO.freeze (i := 2) rfl
            replace hZ := fun b hb => hz_123 b (hZ b hb)
            replace hO : Own H_118 Z_124 (box b_117 [.int .i64 (((nAlt a ((nText ([] : List UInt8)).1)).1).States), v_110, v_111, v_112] 25 :: fz fInt.rep v_110 (((nAlt a ((nText ([] : List UInt8)).1)).1).Starts) :: fz fInt.rep v_111 (((nAlt a ((nText ([] : List UInt8)).1)).1).Ends) :: own fGEdge 69 v_112 (((nAlt a ((nText ([] : List UInt8)).1)).1).Edges) :: fz fGEdge.rep v_101 n2.Edges :: fz fInt.rep v_100 n2.Ends :: fz fInt.rep v_99 n2.Starts :: box b_39 [.int .i64 n2.States, v_99, v_100, v_101] 25 :: box b_30 [.int .i64 (((nText ([] : List UInt8)).1).States), v_23, v_24, v_25] 25 :: fz fInt.rep v_23 (((nText ([] : List UInt8)).1).Starts) :: fz fInt.rep v_24 (((nText ([] : List UInt8)).1).Ends) :: fz fGEdge.rep v_25 (((nText ([] : List UInt8)).1).Edges) :: box b_16 [.int .i64 (0 : Int), .slice none 0 0, .slice none 0 0, .slice none 0 0] 25 :: box b_14 [.int .i64 a.States, v_1, v_3, v_5] 25 :: fz fGEdge.rep v_5 a.Edges :: fz fInt.rep v_3 a.Ends :: fz fInt.rep v_1 a.Starts :: L) := hO
            obtain ⟨Z_126, hz_125, hO⟩ := hO.freeze (i := 3) rfl
            replace hZ := fun b hb => hz_125 b (hZ b hb)
            replace hO : Own H_118 Z_126 (box b_117 [.int .i64 (((nAlt a ((nText ([] : List UInt8)).1)).1).States), v_110, v_111, v_112] 25 :: fz fInt.rep v_110 (((nAlt a ((nText ([] : List UInt8)).1)).1).Starts) :: fz fInt.rep v_111 (((nAlt a ((nText ([] : List UInt8)).1)).1).Ends) :: fz fGEdge.rep v_112 (((nAlt a ((nText ([] : List UInt8)).1)).1).Edges) :: fz fGEdge.rep v_101 n2.Edges :: fz fInt.rep v_100 n2.Ends :: fz fInt.rep v_99 n2.Starts :: box b_39 [.int .i64 n2.States, v_99, v_100, v_101] 25 :: box b_30 [.int .i64 (((nText ([] : List UInt8)).1).States), v_23, v_24, v_25] 25 :: fz fInt.rep v_23 (((nText ([] : List UInt8)).1).Starts) :: fz fInt.rep v_24 (((nText ([] : List UInt8)).1).Ends) :: fz fGEdge.rep v_25 (((nText ([] : List UInt8)).1).Edges) :: box b_16 [.int .i64 (0 : Int), .slice none 0 0, .slice none 0 0, .slice none 0 0] 25 :: box b_14 [.int .i64 a.States, v_1, v_3, v_5] 25 :: fz fGEdge.rep v_5 a.Edges :: fz fInt.rep v_3 a.Ends :: fz fInt.rep v_1 a.Starts :: L) := hO
            obtain ⟨hs_127, h⟩ := h
            refine hl_h (h_call Try.call19 (evs_cons rfl (evs_cons rfl evs_nil)) (rCat_spec (a0 := n2) (a1 := ((nAlt a ((nText ([] : List UInt8)).1)).1)) hs_127 hO (Fz.of (i := 6) rfl) (Fz.of (i := 5) rfl) (Fz.of (i := 4) rfl) (Fz.of (i := 1) rfl) (Fz.of (i := 2) rfl) (Fz.of (i := 3) rfl))) rfl ?_
            rintro vv H_131 ⟨Z_132, v_128, v_129, v_130, hz_133, hv, hO⟩
            obtain rfl := hv.symm
            replace hZ := fun b hb => hz_133 b (hZ b hb)
            replace hO : Own H_131 Z_132 (own fInt 3 v_128 (((nCat n2 ((nAlt a ((nText ([] : List UInt8)).1)).1)).1).Starts) :: own fInt 3 v_129 (((nCat n2 ((nAlt a ((nText ([] : List UInt8)).1)).1)).1).Ends) :: own fGEdge 69 v_130 (((nCat n2 ((nAlt a ((nText ([] : List UInt8)).1)).1)).1).Edges) :: box b_117 [.int .i64 (((nAlt a ((nText ([] : List UInt8)).1)).1).States), v_110, v_111, v_112] 25 :: fz fInt.rep v_110 (((nAlt a ((nText ([] : List UInt8)).1)).1).Starts) :: fz fInt.rep v_111 (((nAlt a ((nText ([] : List UInt8)).1)).1).Ends) :: fz fGEdge.rep v_112 (((nAlt a ((nText ([] : List UInt8)).1)).1).Edges) :: fz fGEdge.rep v_101 n2.Edges :: fz fInt.rep v_100 n2.Ends :: fz fInt.rep v_99 n2.Starts :: box b_39 [.int .i64 n2.States, v_99, v_100, v_101] 25 :: box b_30 [.int .i64 (((nText ([] : List UInt8)).1).States), v_23, v_24, v_25] 25 :: fz fInt.rep v_23 (((nText ([] : List UInt8)).1).Starts) :: fz fInt.rep v_24 (((nText ([] : List UInt8)).1).Ends) :: fz fGEdge.rep v_25 (((nText ([] : List UInt8)).1).Edges) :: box b_16 [.int .i64 (0 : Int), .slice none 0 0, .slice none 0 0, .slice none 0 0] 25 :: box b_14 [.int .i64 a.States, v_1, v_3, v_5] 25 :: fz fGEdge.rep v_5 a.Edges :: fz fInt.rep v_3 a.Ends :: fz fInt.rep v_1 a.Starts :: L) := hO
            refine hl_v (v_move rfl) rfl ?_
            refine hl_v (v_extract rfl rfl) rfl ?_
            refine hl_v (v_extract rfl rfl) rfl ?_
            refine hl_s (o_storeA (us := [.int .i64 (((nCat n2 ((nAlt a ((nText ([] : List UInt8)).1)).1)).1).States), v_128, v_129, v_130]) hO 10 rfl Try.sizeOf25 rfl rfl rfl rfl (by simp only [List.forall_mem_cons]; exact ⟨rfl, (Sl.one (hO.osl 0 rfl)), (Sl.one (hO.osl 1 rfl)), (Sl.one (hO.osl 2 rfl)), by simp⟩)) ?_
            rintro _ H_134 hO
            replace hO : Own H_134 Z_132 (own fInt 3 v_128 (((nCat n2 ((nAlt a ((nText ([] : List UInt8)).1)).1)).1).Starts) :: own fInt 3 v_129 (((nCat n2 ((nAlt a ((nText ([] : List UInt8)).1)).1)).1).Ends) :: own fGEdge 69 v_130 (((nCat n2 ((nAlt a ((nText ([] : List UInt8)).1)).1)).1).Edges) :: box b_117 [.int .i64 (((nAlt a ((nText ([] : List UInt8)).1)).1).States), v_110, v_111, v_112] 25 :: fz fInt.rep v_110 (((nAlt a ((nText ([] : List UInt8)).1)).1).Starts) :: fz fInt.rep v_111 (((nAlt a ((nText ([] : List UInt8)).1)).1).Ends) :: fz fGEdge.rep v_112 (((nAlt a ((nText ([] : List UInt8)).1)).1).Edges) :: fz fGEdge.rep v_101 n2.Edges :: fz fInt.rep v_100 n2.Ends :: fz fInt.rep v_99 n2.Starts :: box b_39 [.int .i64 (((nCat n2 ((nAlt a ((nText ([] : List UInt8)).1)).1)).1).States), v_128, v_129, v_130] 25 :: box b_30 [.int .i64 (((nText ([] : List UInt8)).1).States), v_23, v_24, v_25] 25 :: fz fInt.rep v_23 (((nText ([] : List UInt8)).1).Starts) :: fz fInt.rep v_24 (((nText ([] : List UInt8)).1).Ends) :: fz fGEdge.rep v_25 (((nText ([] : List UInt8)).1).Edges) :: box b_16 [.int .i64 (0 : Int), .slice none 0 0, .slice none 0 0, .slice none 0 0] 25 :: box b_14 [.int .i64 a.States, v_1, v_3, v_5] 25 :: fz fGEdge.rep v_5 a.Edges :: fz fInt.rep v_3 a.Ends :: fz fInt.rep v_1 a.Starts :: L) := hO
            refine hl_v (v_assign rfl) rfl ?_
            refine hl_nil ?_
            refine blockQ_n ?_
            refine thenQ_n ?_
            refine hw_region ?_
            refine hl_v (v_move rfl) rfl ?_
            obtain ⟨hs_135, h⟩ := h
            refine hl_v (v_add rfl rfl hs_135) rfl ?_
            refine hl_v (v_assign rfl) rfl ?_
            refine hl_nil ?_
            refine thenQ_n ?_
            obtain ⟨Z_137, hz_136, hO⟩ := hO.freeze (i := 0) rfl
            replace hZ := fun b hb => hz_136 b (hZ b hb)
            replace hO : Own H_134 Z_137 (fz fInt.rep v_128 (((nCat n2 ((nAlt a ((nText ([] : List UInt8)).1)).1)).1).Starts) :: own fInt 3 v_129 (((nCat n2 ((nAlt a ((nText ([] : List UInt8)).1)).1)).1).Ends) :: own fGEdge 69 v_130 (((nCat n2 ((nAlt a ((nText ([] : List UInt8)).1)).1)).1).Edges) :: box b_117 [.int .i64 (((nAlt a ((nText ([] : List UInt8)).1)).1).States), v_110, v_111, v_112] 25 :: fz fInt.rep v_110 (((nAlt a ((nText ([] : List UInt8)).1)).1).Starts) :: fz fInt.rep v_111 (((nAlt a ((nText ([] : List UInt8)).1)).1).Ends) :: fz fGEdge.rep v_112 (((nAlt a ((nText ([] : List UInt8)).1)).1).Edges) :: fz fGEdge.rep v_101 n2.Edges :: fz fInt.rep v_100 n2.Ends :: fz fInt.rep v_99 n2.Starts :: box b_39 [.int .i64 (((nCat n2 ((nAlt a ((nText ([] : List UInt8)).1)).1)).1).States), v_128, v_129, v_130] 25 :: box b_30 [.int .i64 (((nText ([] : List UInt8)).1).States), v_23, v_24, v_25] 25 :: fz fInt.rep v_23 (((nText ([] : List UInt8)).1).Starts) :: fz fInt.rep v_24 (((nText ([] : List UInt8)).1).Ends) :: fz fGEdge.rep v_25 (((nText ([] : List UInt8)).1).Edges) :: box b_16 [.int .i64 (0 : Int), .slice none 0 0, .slice none 0 0, .slice none 0 0] 25 :: box b_14 [.int .i64 a.States, v_1, v_3, v_5] 25 :: fz fGEdge.rep v_5 a.Edges :: fz fInt.rep v_3 a.Ends :: fz fInt.rep v_1 a.Starts :: L) := hO
            obtain ⟨Z_139, hz_138, hO⟩ := hO.freeze (i := 1) rfl
            replace hZ := fun b hb => hz_138 b (hZ b hb)
            replace hO : Own H_134 Z_139 (fz fInt.rep v_128 (((nCat n2 ((nAlt a ((nText ([] : List UInt8)).1)).1)).1).Starts) :: fz fInt.rep v_129 (((nCat n2 ((nAlt a ((nText ([] : List UInt8)).1)).1)).1).Ends) :: own fGEdge 69 v_130 (((nCat n2 ((nAlt a ((nText ([] : List UInt8)).1)).1)).1).Edges) :: box b_117 [.int .i64 (((nAlt a ((nText ([] : List UInt8)).1)).1).States), v_110, v_111, v_112] 25 :: fz fInt.rep v_110 (((nAlt a ((nText ([] : List UInt8)).1)).1).Starts) :: fz fInt.rep v_111 (((nAlt a ((nText ([] : List UInt8)).1)).1).Ends) :: fz fGEdge.rep v_112 (((nAlt a ((nText ([] : List UInt8)).1)).1).Edges) :: fz fGEdge.rep v_101 n2.Edges :: fz fInt.rep v_100 n2.Ends :: fz fInt.rep v_99 n2.Starts :: box b_39 [.int .i64 (((nCat n2 ((nAlt a ((nText ([] : List UInt8)).1)).1)).1).States), v_128, v_129, v_130] 25 :: box b_30 [.int .i64 (((nText ([] : List UInt8)).1).States), v_23, v_24, v_25] 25 :: fz fInt.rep v_23 (((nText ([] : List UInt8)).1).Starts) :: fz fInt.rep v_24 (((nText ([] : List UInt8)).1).Ends) :: fz fGEdge.rep v_25 (((nText ([] : List UInt8)).1).Edges) :: box b_16 [.int .i64 (0 : Int), .slice none 0 0, .slice none 0 0, .slice none 0 0] 25 :: box b_14 [.int .i64 a.States, v_1, v_3, v_5] 25 :: fz fGEdge.rep v_5 a.Edges :: fz fInt.rep v_3 a.Ends :: fz fInt.rep v_1 a.Starts :: L) := hO
            obtain ⟨Z_141, hz_140, hO⟩ := hO.freeze (i := 2) rfl
            replace hZ := fun b hb => hz_140 b (hZ b hb)
            replace hO : Own H_134 Z_141 (fz fInt.rep v_128 (((nCat n2 ((nAlt a ((nText ([] : List UInt8)).1)).1)).1).Starts) :: fz fInt.rep v_129 (((nCat n2 ((nAlt a ((nText ([] : List UInt8)).1)).1)).1).Ends) :: fz fGEdge.rep v_130 (((nCat n2 ((nAlt a ((nText ([] : List UInt8)).1)).1)).1).Edges) :: box b_117 [.int .i64 (((nAlt a ((nText ([] : List UInt8)).1)).1).States), v_110, v_111, v_112] 25 :: fz fInt.rep v_110 (((nAlt a ((nText ([] : List UInt8)).1)).1).Starts) :: fz fInt.rep v_111 (((nAlt a ((nText ([] : List UInt8)).1)).1).Ends) :: fz fGEdge.rep v_112 (((nAlt a ((nText ([] : List UInt8)).1)).1).Edges) :: fz fGEdge.rep v_101 n2.Edges :: fz fInt.rep v_100 n2.Ends :: fz fInt.rep v_99 n2.Starts :: box b_39 [.int .i64 (((nCat n2 ((nAlt a ((nText ([] : List UInt8)).1)).1)).1).States), v_128, v_129, v_130] 25 :: box b_30 [.int .i64 (((nText ([] : List UInt8)).1).States), v_23, v_24, v_25] 25 :: fz fInt.rep v_23 (((nText ([] : List UInt8)).1).Starts) :: fz fInt.rep v_24 (((nText ([] : List UInt8)).1).Ends) :: fz fGEdge.rep v_25 (((nText ([] : List UInt8)).1).Edges) :: box b_16 [.int .i64 (0 : Int), .slice none 0 0, .slice none 0 0, .slice none 0 0] 25 :: box b_14 [.int .i64 a.States, v_1, v_3, v_5] 25 :: fz fGEdge.rep v_5 a.Edges :: fz fInt.rep v_3 a.Ends :: fz fInt.rep v_1 a.Starts :: L) := hO
            exact ⟨_, _, (ai_cons (t := 2) rfl (ai_cons (t := 3) rfl (ai_cons (t := 6) rfl (ai_cons (t := 8) rfl (ai_cons (t := 10) rfl (ai_cons (t := 11) rfl (ai_cons (t := 15) rfl ai_nil))))))), ⟨((nCat n2 ((nAlt a ((nText ([] : List UInt8)).1)).1)).1), (nCat n2 ((nAlt a ((nText ([] : List UInt8)).1)).1)).2, (i2 + 1), v_128, v_129, v_130, _, rfl, rfl, hZ, h.1, (Own.sel (Ls := [fz fInt.rep v_128 (((nCat n2 ((nAlt a ((nText ([] : List UInt8)).1)).1)).1).Starts), fz fInt.rep v_129 (((nCat n2 ((nAlt a ((nText ([] : List UInt8)).1)).1)).1).Ends), fz fGEdge.rep v_130 (((nCat n2 ((nAlt a ((nText ([] : List UInt8)).1)).1)).1).Edges), box b_117 [.int .i64 (((nAlt a ((nText ([] : List UInt8)).1)).1).States), v_110, v_111, v_112] 25, fz fInt.rep v_110 (((nAlt a ((nText ([] : List UInt8)).1)).1).Starts), fz fInt.rep v_111 (((nAlt a ((nText ([] : List UInt8)).1)).1).Ends), fz fGEdge.rep v_112 (((nAlt a ((nText ([] : List UInt8)).1)).1).Edges), fz fGEdge.rep v_101 n2.Edges, fz fInt.rep v_100 n2.Ends, fz fInt.rep v_99 n2.Starts, box b_39 [.int .i64 (((nCat n2 ((nAlt a ((nText ([] : List UInt8)).1)).1)).1).States), v_128, v_129, v_130] 25, box b_30 [.int .i64 (((nText ([] : List UInt8)).1).States), v_23, v_24, v_25] 25, fz fInt.rep v_23 (((nText ([] : List UInt8)).1).Starts), fz fInt.rep v_24 (((nText ([] : List UInt8)).1).Ends), fz fGEdge.rep v_25 (((nText ([] : List UInt8)).1).Edges), box b_16 [.int .i64 (0 : Int), .slice none 0 0, .slice none 0 0, .slice none 0 0] 25, box b_14 [.int .i64 a.States, v_1, v_3, v_5] 25, fz fGEdge.rep v_5 a.Edges, fz fInt.rep v_3 a.Ends, fz fInt.rep v_1 a.Starts]) (L := L) [2, 1, 0, 10, 11, 12, 13, 14, 15, 16, 17, 18, 19] rfl hO)⟩, h.2⟩
        · replace h := ite_f h hc_108
          refine hw_exit ?_
          refine thenQ_e ?_
          refine thenQ_e ?_
          refine blockQ_hit ?_
          refine thenQ_n ?_
          refine hw_seq ?_
          refine hw_region ?_
          refine hl_v (v_loadA Try.isAgg25 Try.sizeOf25 rfl (Blk.at0 (hO.box 3 rfl)) rfl) rfl ?_
          refine hl_v (v_move rfl) rfl ?_
          refine hl_s (o_storeA (us := [.int .i64 n2.States, v_99, v_100, v_101]) hO 8 rfl Try.sizeOf25 rfl rfl rfl rfl (by simp only [List.forall_mem_cons]; exact ⟨rfl, (Sl.one (hO.fsl 2 rfl)), (Sl.one (hO.fsl 1 rfl)), (Sl.one (hO.fsl 0 rfl)), by simp⟩)) ?_
          rintro _ H_142 hO
          replace hO : Own H_142 Z_106 (fz fGEdge.rep v_101 n2.Edges :: fz fInt.rep v_100 n2.Ends :: fz fInt.rep v_99 n2.Starts :: box b_39 [.int .i64 n2.States, v_99, v_100, v_101] 25 :: box b_30 [.int .i64 (((nText ([] : List UInt8)).1).States), v_23, v_24, v_25] 25 :: fz fInt.rep v_23 (((nText ([] : List UInt8)).1).Starts) :: fz fInt.rep v_24 (((nText ([] : List UInt8)).1).Ends) :: fz fGEdge.rep v_25 (((nText ([] : List UInt8)).1).Edges) :: box b_16 [.int .i64 n2.States, v_99, v_100, v_101] 25 :: box b_14 [.int .i64 a.States, v_1, v_3, v_5] 25 :: fz fGEdge.rep v_5 a.Edges :: fz fInt.rep v_3 a.Ends :: fz fInt.rep v_1 a.Starts :: L) := hO
          refine hl_v (v_assign rfl) rfl ?_
          refine hl_nil ?_
          refine thenQ_n ?_
          refine hw_sub _ (ai_cons (t := 6) rfl (ai_cons (t := 7) rfl ai_nil)) ?_
          refine hw_ret ?_
          refine ret_i _ (ra_c rfl (fun w hw => run_loadVar_at (cs := [.int .i64 n2.States, v_99, v_100, v_101]) Try.isAgg25 Try.sizeOf25 (Blk.at0 (hO.box 8 rfl)) rfl w hw) (ra_t rfl ra_nil)) ?_
          exact ⟨_, n2, e2, v_99, v_100, v_101, hZ, h, rfl, (Own.sel (Ls := [fz fGEdge.rep v_101 n2.Edges, fz fInt.rep v_100 n2.Ends, fz fInt.rep v_99 n2.Starts, box b_39 [.int .i64 n2.States, v_99, v_100, v_101] 25, box b_30 [.int .i64 (((nText ([] : List UInt8)).1).States), v_23, v_24, v_25] 25, fz fInt.rep v_23 (((nText ([] : List UInt8)).1).Starts), fz fInt.rep v_24 (((nText ([] : List UInt8)).1).Ends), fz fGEdge.rep v_25 (((nText ([] : List UInt8)).1).Edges), box b_16 [.int .i64 n2.States, v_99, v_100, v_101] 25, box b_14 [.int .i64 a.States, v_1, v_3, v_5] 25, fz fGEdge.rep v_5 a.Edges, fz fInt.rep v_3 a.Ends, fz fInt.rep v_1 a.Starts]) (L := L) [2, 1, 0] rfl hO)⟩
theorem rRep_spec {a0 : GNfa} {a1 : Int} {a2 : Int} {v_1 : Value} {v_3 : Value} {v_5 : Value} {L : List As} (hp : (a0.Starts.length ≤ 17592186044416 ∧ a0.Ends.length ≤ 17592186044416)) {H : Heap} {Z : Nat → Prop} (hO : Own H Z (L)) (hf_2 : Fz fInt.rep L v_1 a0.Starts) (hf_4 : Fz fInt.rep L v_3 a0.Ends) (hf_6 : Fz fGEdge.rep L v_5 a0.Edges) : HC Try.prog 25 [.agg [.int .i64 a0.States, v_1, v_3, v_5].toArray, .int .i64 a1, .int .i64 a2] H (fun v H' => ∃ (Z' : Nat → Prop) (v_7 : Value) (v_9 : Value) (v_11 : Value), (∀ b, Z b → Z' b) ∧ v = .tuple #[.agg [.int .i64 ((nRep a0 a1 a2).1).States, v_7, v_9, v_11].toArray, .int .i64 ((nRep a0 a1 a2).2)] ∧ Own H' Z' (fz fInt.rep v_7 ((nRep a0 a1 a2).1).Starts :: fz fInt.rep v_9 ((nRep a0 a1 a2).1).Ends :: fz fGEdge.rep v_11 ((nRep a0 a1 a2).1).Edges :: L)) := by
  refine (rRep_ok (a := a0) (least := a1) (most := a2) (@rRep_wp a0 a1 a2 hp) hO hf_2 hf_4 hf_6).mono ?_
  rintro v H' ⟨Z', r0, r1, v_7, v_9, v_11, hz, hq, hv, hO'⟩
  obtain ⟨rfl, rfl⟩ := hq
  exact ⟨Z', v_7, v_9, v_11, hz, hv, hO'⟩

end Go.Proofs.Ytbaciogbhjcdoaa
