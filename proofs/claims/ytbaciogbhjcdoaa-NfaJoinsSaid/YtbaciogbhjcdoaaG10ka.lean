/- Walks: functions do as their plain formulas say. No condition. -/
import Derived.Test.YtbaciogbhjcdoaaProg
import Derived.Test.YtbaciogbhjcdoaaSep4
import Derived.Test.YtbaciogbhjcdoaaP10k
import Derived.Test.YtbaciogbhjcdoaaRep10
import Derived.Test.YtbaciogbhjcdoaaG10l
set_option linter.unusedVariables false
set_option linter.unusedSimpArgs false
set_option maxRecDepth 20000
namespace Go.Proofs.Ytbaciogbhjcdoaa
open Go.Proofs
theorem nfaRep_ok {a : GNfa} {least : Int} {most : Int} {v_1 : Value} {v_3 : Value} {v_5 : Value} {Q : GNfa → Int → Prop} {H : Heap} {Z : Nat → Prop} {L : List As} (h : wp_nfaRep a least most Q) (hO : Own H Z (L)) (hf_2 : Fz fInt.rep L v_1 a.Starts) (hf_4 : Fz fInt.rep L v_3 a.Ends) (hf_6 : Fz fGEdge.rep L v_5 a.Edges) : HC Try.prog 24 [.agg [.int .i64 a.States, v_1, v_3, v_5].toArray, .int .i64 least, .int .i64 most] H (fun v H' => ∃ (Z' : Nat → Prop) (r0 : GNfa) (r1 : Int) (v_7 : Value) (v_9 : Value) (v_11 : Value), (∀ b, Z b → Z' b) ∧ Q r0 r1 ∧ v = .tuple #[.agg [.int .i64 r0.States, v_7, v_9, v_11].toArray, .int .i64 r1] ∧ Own H' Z' (fz fInt.rep v_7 r0.Starts :: fz fInt.rep v_9 r0.Ends :: fz fGEdge.rep v_11 r0.Edges :: L)) := by
  have hZ : ∀ b, Z b → Z b := fun _ h => h
  replace hO := Fz.item hf_2 hO
  replace hO := Fz.items [_] hf_4 hO
  replace hO := Fz.items [_, _] hf_6 hO
  unfold wp_nfaRep at h
  refine hc_of_hw (N := 112) (rs := [(.cell 6 25), (.tmp 7)]) Try.func24 rfl rfl rfl rfl ?_
  refine hw_seq ?_
  refine hw_region ?_
  refine hl_h (o_box (cs := [.int .i64 a.States, v_1, v_3, v_5]) hO rfl rfl) rfl ?_
  rintro _ H_13 ⟨b_14, rfl, hO⟩
  replace hO : Own H_13 Z (box b_14 [.int .i64 a.States, v_1, v_3, v_5] 25 :: fz fGEdge.rep v_5 a.Edges :: fz fInt.rep v_3 a.Ends :: fz fInt.rep v_1 a.Starts :: L) := hO
  refine hl_h (o_alloc (cs := [.int .i64 (0 : Int), .slice none 0 0, .slice none 0 0, .slice none 0 0]) hO Try.zeroValue25 rfl) rfl ?_
  rintro _ H_15 ⟨b_16, rfl, hO⟩
  replace hO : Own H_15 Z (box b_16 [.int .i64 (0 : Int), .slice none 0 0, .slice none 0 0, .slice none 0 0] 25 :: box b_14 [.int .i64 a.States, v_1, v_3, v_5] 25 :: fz fGEdge.rep v_5 a.Edges :: fz fInt.rep v_3 a.Ends :: fz fInt.rep v_1 a.Starts :: L) := hO
  refine hl_v (v_assign rfl) rfl ?_
  refine hl_nil ?_
  refine thenQ_n ?_
  refine hw_sub _ (ai_cons (t := 1) rfl (ai_cons (t := 2) rfl (ai_cons (t := 3) rfl (ai_cons (t := 6) rfl ai_nil)))) ?_
  refine hw_seq ?_
  refine hw_region ?_
  refine hl_v (v_move rfl) rfl ?_
  refine hl_v (v_geq rfl rfl) rfl ?_
  refine hl_v (v_move rfl) rfl ?_
  refine hl_g rfl rfl (fun hg => (v_move rfl)) rfl ?_
  refine hl_g rfl rfl (fun hg => (v_leq (gv_ok rfl hg) rfl)) rfl ?_
  refine hl_v (v_and rfl rfl) rfl ?_
  refine hl_v (v_move rfl) rfl ?_
  refine hl_g rfl rfl (fun hg => (v_move rfl)) rfl ?_
  refine hl_g rfl rfl (fun hg => (v_move rfl)) rfl ?_
  refine hl_g rfl rfl (fun hg => (v_geq (gv_ok rfl hg) (gv_ok rfl hg))) rfl ?_
  refine hl_g rfl rfl (fun hg => (v_move (gv_ok rfl hg))) rfl ?_
  refine hl_g rfl rfl (fun hg => (v_move rfl)) rfl ?_
  refine hl_g rfl rfl (fun hg => (v_leq (gv_ok rfl hg) rfl)) rfl ?_
  refine hl_g rfl rfl (fun hg => (v_and (gv_ok rfl hg) (gvgb_ok rfl hg))) rfl ?_
  refine hl_g rfl rfl (fun hg => (v_move (gv_ok rfl hg))) rfl ?_
  refine hl_g rfl rfl (fun hg => (v_move rfl)) rfl ?_
  refine hl_g rfl rfl (fun hg => (v_eql (gv_ok rfl hg) rfl)) rfl ?_
  refine hl_g rfl rfl (fun hg => (v_move (gv_ok rfl hg))) rfl ?_
  refine hl_g rfl rfl (fun hg => (v_move rfl)) rfl ?_
  refine hl_g rfl rfl (fun hg => (v_leq (gv_ok rfl hg) rfl)) rfl ?_
  refine hl_g rfl rfl (fun hg => (v_and (gv_ok rfl hg) (gvgb_ok rfl hg))) rfl ?_
  refine hl_g rfl rfl (fun hg => (v_or (gv_ok rfl hg) (gvgb_ok rfl hg))) rfl ?_
  refine hl_v (v_and rfl rfl) rfl ?_
  refine hl_v (v_assign rfl) rfl ?_
  refine hl_nil ?_
  refine thenQ_n ?_
  refine hw_sub _ (ai_cons (t := 1) rfl (ai_cons (t := 2) rfl (ai_cons (t := 3) rfl (ai_cons (t := 6) rfl (ai_cons (t := 8) rfl ai_nil))))) ?_
  refine hw_seq ?_
  refine hw_seq ?_
  refine hw_region ?_
  refine hl_v (v_loadA Try.isAgg25 Try.sizeOf25 rfl (Blk.at0 (hO.box 1 rfl)) rfl) rfl ?_
  have hsh_19 := Sl.sh (hO.fsl 4 rfl)
  have hsh_20 := Sl.sh (hO.fsl 3 rfl)
  have hsh_21 := Sl.sh (hO.fsl 2 rfl)
  refine hl_h (o_litR (r := rGNfa) (l := [a]) (xs := [.tmp 43]) (css := [[.int .i64 a.States, v_1, v_3, v_5]]) hO Try.underlying87 Try.sizeOf25 Try.zeroValue25 rfl (evs_cons rfl evs_nil) rfl rfl rfl (by obtain ⟨_, _, _, hw⟩ := hsh_19; (try subst hw); obtain ⟨_, _, _, hw⟩ := hsh_20; (try subst hw); obtain ⟨_, _, _, hw⟩ := hsh_21; (try subst hw); rfl) rfl (relAll_cons ⟨_, _, _, rfl, (hO.fsl 4 rfl), (hO.fsl 3 rfl), (hO.fsl 2 rfl)⟩ relAll_nil)) rfl ?_
  rintro v_18 H_17 hO
  replace hO : Own H_17 Z (ownR rGNfa 25 v_18 [a] :: box b_16 [.int .i64 (0 : Int), .slice none 0 0, .slice none 0 0, .slice none 0 0] 25 :: box b_14 [.int .i64 a.States, v_1, v_3, v_5] 25 :: fz fGEdge.rep v_5 a.Edges :: fz fInt.rep v_3 a.Ends :: fz fInt.rep v_1 a.Starts :: L) := hO
  obtain ⟨Z_23, hz_22, hO⟩ := hO.freezeR (i := 0) rfl
  replace hZ := fun b hb => hz_22 b (hZ b hb)
  replace hO : Own H_17 Z_23 (fz rGNfa v_18 [a] :: box b_16 [.int .i64 (0 : Int), .slice none 0 0, .slice none 0 0, .slice none 0 0] 25 :: box b_14 [.int .i64 a.States, v_1, v_3, v_5] 25 :: fz fGEdge.rep v_5 a.Edges :: fz fInt.rep v_3 a.Ends :: fz fInt.rep v_1 a.Starts :: L) := hO
  refine hl_h (h_call Try.call35 (evs_cons rfl evs_nil) (nfaWrong_spec (a0 := [a]) hO (Fz.of (i := 0) rfl))) rfl ?_
  rintro vv H_24 ⟨Z_25, hz_26, hv, hO⟩
  obtain rfl := hv.symm
  replace hZ := fun b hb => hz_26 b (hZ b hb)
  replace hO : Own H_24 Z_25 (fz rGNfa v_18 [a] :: box b_16 [.int .i64 (0 : Int), .slice none 0 0, .slice none 0 0, .slice none 0 0] 25 :: box b_14 [.int .i64 a.States, v_1, v_3, v_5] 25 :: fz fGEdge.rep v_5 a.Edges :: fz fInt.rep v_3 a.Ends :: fz fInt.rep v_1 a.Starts :: L) := hO
  refine hl_v (v_move rfl) rfl ?_
  refine hl_g rfl rfl (fun hg => (v_move rfl)) rfl ?_
  refine hl_g rfl rfl (fun hg => (v_not (gv_ok rfl hg))) rfl ?_
  refine hl_v (v_or rfl rfl) rfl ?_
  refine hl_nil ?_
  refine thenQ_n ?_
  refine hw_sub _ (ai_cons (t := 1) rfl (ai_cons (t := 2) rfl (ai_cons (t := 3) rfl (ai_cons (t := 6) rfl (ai_cons (t := 49) rfl ai_nil))))) ?_
  refine hw_cond rfl (fun hc_27 => ?_) (fun hc_27 => ?_)
  · replace h := ite_t h hc_27
    refine hw_seq ?_
    refine hw_region ?_
    refine hl_v (v_buildF (cs := [.int .i64 (0 : Int), .slice none 0 0, .slice none 0 0, .slice none 0 0]) (xs := []) (is := []) rfl evs_nil (fun w => by show _ = _; kernel_rfl)) rfl ?_
    refine hl_s (o_storeA (us := [.int .i64 (0 : Int), .slice none 0 0, .slice none 0 0, .slice none 0 0]) hO 1 rfl Try.sizeOf25 rfl rfl rfl rfl (by simp only [List.forall_mem_cons]; exact ⟨rfl, rfl, rfl, rfl, by simp⟩)) ?_
    rintro _ H_28 hO
    replace hO : Own H_28 Z_25 (fz rGNfa v_18 [a] :: box b_16 [.int .i64 (0 : Int), .slice none 0 0, .slice none 0 0, .slice none 0 0] 25 :: box b_14 [.int .i64 a.States, v_1, v_3, v_5] 25 :: fz fGEdge.rep v_5 a.Edges :: fz fInt.rep v_3 a.Ends :: fz fInt.rep v_1 a.Starts :: L) := hO
    refine hl_v (v_assign rfl) rfl ?_
    refine hl_nil ?_
    refine thenQ_n ?_
    refine hw_sub _ (ai_cons (t := 6) rfl (ai_cons (t := 7) rfl ai_nil)) ?_
    refine hw_ret ?_
    refine thenQ_r ?_
    replace hO : Own H_28 Z_25 (fz fInt.rep (.slice none 0 0) [] :: fz rGNfa v_18 [a] :: box b_16 [.int .i64 (0 : Int), .slice none 0 0, .slice none 0 0, .slice none 0 0] 25 :: box b_14 [.int .i64 a.States, v_1, v_3, v_5] 25 :: fz fGEdge.rep v_5 a.Edges :: fz fInt.rep v_3 a.Ends :: fz fInt.rep v_1 a.Starts :: L) := hO.dup ⟨Sl.nil, fun _ h => h⟩
    replace hO : Own H_28 Z_25 (fz fInt.rep (.slice none 0 0) [] :: fz fInt.rep (.slice none 0 0) [] :: fz rGNfa v_18 [a] :: box b_16 [.int .i64 (0 : Int), .slice none 0 0, .slice none 0 0, .slice none 0 0] 25 :: box b_14 [.int .i64 a.States, v_1, v_3, v_5] 25 :: fz fGEdge.rep v_5 a.Edges :: fz fInt.rep v_3 a.Ends :: fz fInt.rep v_1 a.Starts :: L) := hO.dup ⟨Sl.nil, fun _ h => h⟩
    replace hO : Own H_28 Z_25 (fz fGEdge.rep (.slice none 0 0) [] :: fz fInt.rep (.slice none 0 0) [] :: fz fInt.rep (.slice none 0 0) [] :: fz rGNfa v_18 [a] :: box b_16 [.int .i64 (0 : Int), .slice none 0 0, .slice none 0 0, .slice none 0 0] 25 :: box b_14 [.int .i64 a.States, v_1, v_3, v_5] 25 :: fz fGEdge.rep v_5 a.Edges :: fz fInt.rep v_3 a.Ends :: fz fInt.rep v_1 a.Starts :: L) := hO.dup ⟨Sl.nil, fun _ h => h⟩
    refine ret_i _ (ra_c rfl (fun w hw => run_loadVar_at (cs := [.int .i64 (0 : Int), .slice none 0 0, .slice none 0 0, .slice none 0 0]) Try.isAgg25 Try.sizeOf25 (Blk.at0 (hO.box 4 rfl)) rfl w hw) (ra_t rfl ra_nil)) ?_
    exact ⟨_, (⟨(0 : Int), [], [], []⟩ : GNfa), 1, .slice none 0 0, .slice none 0 0, .slice none 0 0, hZ, h, rfl, (Own.sel (Ls := [fz fGEdge.rep (.slice none 0 0) [], fz fInt.rep (.slice none 0 0) [], fz fInt.rep (.slice none 0 0) [], fz rGNfa v_18 [a], box b_16 [.int .i64 (0 : Int), .slice none 0 0, .slice none 0 0, .slice none 0 0] 25, box b_14 [.int .i64 a.States, v_1, v_3, v_5] 25, fz fGEdge.rep v_5 a.Edges, fz fInt.rep v_3 a.Ends, fz fInt.rep v_1 a.Starts]) (L := L) [2, 1, 0] rfl hO)⟩
  · replace h := ite_f h hc_27
    refine hw_skip ?_
    refine thenQ_n ?_
    refine hw_seq ?_
    refine hw_region ?_
    refine hl_h (h_call Try.call13 (evs_cons (show _ = some (str []) from rfl) evs_nil) (nfaText_spec (a0 := ([] : List UInt8)) hO)) rfl ?_
    rintro vv H_32 ⟨Z_33, v_29, v_30, v_31, hz_34, hv, hO⟩
    obtain rfl := hv.symm
    replace hZ := fun b hb => hz_34 b (hZ b hb)
    replace hO : Own H_32 Z_33 (own fInt 3 v_29 (((nText ([] : List UInt8)).1).Starts) :: own fInt 3 v_30 (((nText ([] : List UInt8)).1).Ends) :: own fGEdge 69 v_31 (((nText ([] : List UInt8)).1).Edges) :: fz rGNfa v_18 [a] :: box b_16 [.int .i64 (0 : Int), .slice none 0 0, .slice none 0 0, .slice none 0 0] 25 :: box b_14 [.int .i64 a.States, v_1, v_3, v_5] 25 :: fz fGEdge.rep v_5 a.Edges :: fz fInt.rep v_3 a.Ends :: fz fInt.rep v_1 a.Starts :: L) := hO
    refine hl_v (v_move rfl) rfl ?_
    refine hl_v (v_extract rfl rfl) rfl ?_
    refine hl_v (v_extract rfl rfl) rfl ?_
    refine hl_h (o_alloc (cs := [.int .i64 (0 : Int), .slice none 0 0, .slice none 0 0, .slice none 0 0]) hO Try.zeroValue25 rfl) rfl ?_
    rintro _ H_35 ⟨b_36, rfl, hO⟩
    replace hO : Own H_35 Z_33 (box b_36 [.int .i64 (0 : Int), .slice none 0 0, .slice none 0 0, .slice none 0 0] 25 :: own fInt 3 v_29 (((nText ([] : List UInt8)).1).Starts) :: own fInt 3 v_30 (((nText ([] : List UInt8)).1).Ends) :: own fGEdge 69 v_31 (((nText ([] : List UInt8)).1).Edges) :: fz rGNfa v_18 [a] :: box b_16 [.int .i64 (0 : Int), .slice none 0 0, .slice none 0 0, .slice none 0 0] 25 :: box b_14 [.int .i64 a.States, v_1, v_3, v_5] 25 :: fz fGEdge.rep v_5 a.Edges :: fz fInt.rep v_3 a.Ends :: fz fInt.rep v_1 a.Starts :: L) := hO
    refine hl_s (o_storeA (us := [.int .i64 (((nText ([] : List UInt8)).1).States), v_29, v_30, v_31]) hO 0 rfl Try.sizeOf25 rfl rfl rfl rfl (by simp only [List.forall_mem_cons]; exact ⟨rfl, (Sl.one (hO.osl 1 rfl)), (Sl.one (hO.osl 2 rfl)), (Sl.one (hO.osl 3 rfl)), by simp⟩)) ?_
    rintro _ H_37 hO
    replace hO : Own H_37 Z_33 (box b_36 [.int .i64 (((nText ([] : List UInt8)).1).States), v_29, v_30, v_31] 25 :: own fInt 3 v_29 (((nText ([] : List UInt8)).1).Starts) :: own fInt 3 v_30 (((nText ([] : List UInt8)).1).Ends) :: own fGEdge 69 v_31 (((nText ([] : List UInt8)).1).Edges) :: fz rGNfa v_18 [a] :: box b_16 [.int .i64 (0 : Int), .slice none 0 0, .slice none 0 0, .slice none 0 0] 25 :: box b_14 [.int .i64 a.States, v_1, v_3, v_5] 25 :: fz fGEdge.rep v_5 a.Edges :: fz fInt.rep v_3 a.Ends :: fz fInt.rep v_1 a.Starts :: L) := hO
    refine hl_v (v_assign rfl) rfl ?_
    refine hl_nil ?_
    refine thenQ_n ?_
    refine hw_sub _ (ai_cons (t := 1) rfl (ai_cons (t := 2) rfl (ai_cons (t := 3) rfl (ai_cons (t := 6) rfl (ai_cons (t := 9) rfl ai_nil))))) ?_
    refine hw_seq ?_
    refine hw_region ?_
    refine hl_v (v_loadA Try.isAgg25 Try.sizeOf25 rfl (Blk.at0 (hO.box 6 rfl)) rfl) rfl ?_
    have hsh_40 := Sl.sh (hO.fsl 9 rfl)
    have hsh_41 := Sl.sh (hO.fsl 8 rfl)
    have hsh_42 := Sl.sh (hO.fsl 7 rfl)
    refine hl_h (o_litR (r := rGNfa) (l := [a]) (xs := [.tmp 55]) (css := [[.int .i64 a.States, v_1, v_3, v_5]]) hO Try.underlying87 Try.sizeOf25 Try.zeroValue25 rfl (evs_cons rfl evs_nil) rfl rfl rfl (by obtain ⟨_, _, _, hw⟩ := hsh_40; (try subst hw); obtain ⟨_, _, _, hw⟩ := hsh_41; (try subst hw); obtain ⟨_, _, _, hw⟩ := hsh_42; (try subst hw); rfl) rfl (relAll_cons ⟨_, _, _, rfl, (hO.fsl 9 rfl), (hO.fsl 8 rfl), (hO.fsl 7 rfl)⟩ relAll_nil)) rfl ?_
    rintro v_39 H_38 hO
    replace hO : Own H_38 Z_33 (ownR rGNfa 25 v_39 [a] :: box b_36 [.int .i64 (((nText ([] : List UInt8)).1).States), v_29, v_30, v_31] 25 :: own fInt 3 v_29 (((nText ([] : List UInt8)).1).Starts) :: own fInt 3 v_30 (((nText ([] : List UInt8)).1).Ends) :: own fGEdge 69 v_31 (((nText ([] : List UInt8)).1).Edges) :: fz rGNfa v_18 [a] :: box b_16 [.int .i64 (0 : Int), .slice none 0 0, .slice none 0 0, .slice none 0 0] 25 :: box b_14 [.int .i64 a.States, v_1, v_3, v_5] 25 :: fz fGEdge.rep v_5 a.Edges :: fz fInt.rep v_3 a.Ends :: fz fInt.rep v_1 a.Starts :: L) := hO
    refine hl_v (v_move rfl) rfl ?_
    obtain ⟨Z_44, hz_43, hO⟩ := hO.freezeR (i := 0) rfl
    replace hZ := fun b hb => hz_43 b (hZ b hb)
    replace hO : Own H_38 Z_44 (fz rGNfa v_39 [a] :: box b_36 [.int .i64 (((nText ([] : List UInt8)).1).States), v_29, v_30, v_31] 25 :: own fInt 3 v_29 (((nText ([] : List UInt8)).1).Starts) :: own fInt 3 v_30 (((nText ([] : List UInt8)).1).Ends) :: own fGEdge 69 v_31 (((nText ([] : List UInt8)).1).Edges) :: fz rGNfa v_18 [a] :: box b_16 [.int .i64 (0 : Int), .slice none 0 0, .slice none 0 0, .slice none 0 0] 25 :: box b_14 [.int .i64 a.States, v_1, v_3, v_5] 25 :: fz fGEdge.rep v_5 a.Edges :: fz fInt.rep v_3 a.Ends :: fz fInt.rep v_1 a.Starts :: L) := hO
    obtain ⟨hs_45, h⟩ := h
    refine hl_h (h_call Try.call56 (evs_cons rfl (evs_cons rfl evs_nil)) (repeatNfa_spec (a0 := [a]) (a1 := least) hs_45 hO (Fz.of (i := 0) rfl))) rfl ?_
    rintro vv H_47 ⟨Z_48, v_46, hz_49, hv, hO⟩
    obtain rfl := hv.symm
    replace hZ := fun b hb => hz_49 b (hZ b hb)
    replace hO : Own H_47 Z_48 (ownR rGNfa 25 v_46 (List.replicate least.toNat ([a].getD 0 default)) :: fz rGNfa v_39 [a] :: box b_36 [.int .i64 (((nText ([] : List UInt8)).1).States), v_29, v_30, v_31] 25 :: own fInt 3 v_29 (((nText ([] : List UInt8)).1).Starts) :: own fInt 3 v_30 (((nText ([] : List UInt8)).1).Ends) :: own fGEdge 69 v_31 (((nText ([] : List UInt8)).1).Edges) :: fz rGNfa v_18 [a] :: box b_16 [.int .i64 (0 : Int), .slice none 0 0, .slice none 0 0, .slice none 0 0] 25 :: box b_14 [.int .i64 a.States, v_1, v_3, v_5] 25 :: fz fGEdge.rep v_5 a.Edges :: fz fInt.rep v_3 a.Ends :: fz fInt.rep v_1 a.Starts :: L) := hO
    refine hl_v (v_assign rfl) rfl ?_
    refine hl_nil ?_
    refine thenQ_n ?_
    refine hw_sub _ (ai_cons (t := 1) rfl (ai_cons (t := 2) rfl (ai_cons (t := 3) rfl (ai_cons (t := 6) rfl (ai_cons (t := 9) rfl (ai_cons (t := 11) rfl ai_nil)))))) ?_
    obtain ⟨K_51, h, hk_54⟩ := h
    refine hw_jn (fun g' H' => ∃ (parts : List GNfa) (v_50 : Value) (Z' : Nat → Prop), g' = [(1, .int .i64 least), (2, .int .i64 most), (3, ptr b_14 0), (6, ptr b_16 0), (9, ptr b_36 0), (11, v_50)] ∧ (∀ b, Z b → Z' b) ∧ K_51 parts ∧ Own H' Z' (ownR rGNfa 25 v_50 parts :: box b_36 [.int .i64 (((nText ([] : List UInt8)).1).States), v_29, v_30, v_31] 25 :: own fInt 3 v_29 (((nText ([] : List UInt8)).1).Starts) :: own fInt 3 v_30 (((nText ([] : List UInt8)).1).Ends) :: own fGEdge 69 v_31 (((nText ([] : List UInt8)).1).Edges) :: box b_16 [.int .i64 (0 : Int), .slice none 0 0, .slice none 0 0, .slice none 0 0] 25 :: box b_14 [.int .i64 a.States, v_1, v_3, v_5] 25 :: fz fGEdge.rep v_5 a.Edges :: fz fInt.rep v_3 a.Ends :: fz fInt.rep v_1 a.Starts :: L)) ?_ ?_
    · skip
      refine hw_seq ?_
      refine hw_region ?_
      refine hl_v (v_move rfl) rfl ?_
      refine hl_v (v_lss rfl rfl) rfl ?_
      refine hl_nil ?_
      refine thenQ_n ?_
      refine hw_sub _ (ai_cons (t := 1) rfl (ai_cons (t := 2) rfl (ai_cons (t := 3) rfl (ai_cons (t := 6) rfl (ai_cons (t := 9) rfl (ai_cons (t := 11) rfl (ai_cons (t := 60) rfl ai_nil))))))) ?_
      refine hw_cond rfl (fun hc_55 => ?_) (fun hc_55 => ?_)
      · replace h := ite_t h hc_55
        refine hw_seq ?_
        refine hw_region ?_
        refine hl_v (v_loadA Try.isAgg25 Try.sizeOf25 rfl (Blk.at0 (hO.box 8 rfl)) rfl) rfl ?_
        refine hl_h (h_call Try.call22 (evs_cons rfl evs_nil) (nfaStar_spec (a0 := a) hO (Fz.of (i := 11) rfl) (Fz.of (i := 10) rfl) (Fz.of (i := 9) rfl))) rfl ?_
        rintro vv H_59 ⟨Z_60, v_56, v_57, v_58, hz_61, hv, hO⟩
        obtain rfl := hv.symm
        replace hZ := fun b hb => hz_61 b (hZ b hb)
        replace hO : Own H_59 Z_60 (own fInt 3 v_56 (((nStar a).1).Starts) :: own fInt 3 v_57 (((nStar a).1).Ends) :: own fGEdge 69 v_58 (((nStar a).1).Edges) :: ownR rGNfa 25 v_46 (List.replicate least.toNat ([a].getD 0 default)) :: fz rGNfa v_39 [a] :: box b_36 [.int .i64 (((nText ([] : List UInt8)).1).States), v_29, v_30, v_31] 25 :: own fInt 3 v_29 (((nText ([] : List UInt8)).1).Starts) :: own fInt 3 v_30 (((nText ([] : List UInt8)).1).Ends) :: own fGEdge 69 v_31 (((nText ([] : List UInt8)).1).Edges) :: fz rGNfa v_18 [a] :: box b_16 [.int .i64 (0 : Int), .slice none 0 0, .slice none 0 0, .slice none 0 0] 25 :: box b_14 [.int .i64 a.States, v_1, v_3, v_5] 25 :: fz fGEdge.rep v_5 a.Edges :: fz fInt.rep v_3 a.Ends :: fz fInt.rep v_1 a.Starts :: L) := hO
        refine hl_v (v_move rfl) rfl ?_
        refine hl_v (v_extract rfl rfl) rfl ?_
        refine hl_v (v_extract rfl rfl) rfl ?_
        refine hl_h (o_alloc (cs := [.int .i64 (0 : Int), .slice none 0 0, .slice none 0 0, .slice none 0 0]) hO Try.zeroValue25 rfl) rfl ?_
        rintro _ H_62 ⟨b_63, rfl, hO⟩
        replace hO : Own H_62 Z_60 (box b_63 [.int .i64 (0 : Int), .slice none 0 0, .slice none 0 0, .slice none 0 0] 25 :: own fInt 3 v_56 (((nStar a).1).Starts) :: own fInt 3 v_57 (((nStar a).1).Ends) :: own fGEdge 69 v_58 (((nStar a).1).Edges) :: ownR rGNfa 25 v_46 (List.replicate least.toNat ([a].getD 0 default)) :: fz rGNfa v_39 [a] :: box b_36 [.int .i64 (((nText ([] : List UInt8)).1).States), v_29, v_30, v_31] 25 :: own fInt 3 v_29 (((nText ([] : List UInt8)).1).Starts) :: own fInt 3 v_30 (((nText ([] : List UInt8)).1).Ends) :: own fGEdge 69 v_31 (((nText ([] : List UInt8)).1).Edges) :: fz rGNfa v_18 [a] :: box b_16 [.int .i64 (0 : Int), .slice none 0 0, .slice none 0 0, .slice none 0 0] 25 :: box b_14 [.int .i64 a.States, v_1, v_3, v_5] 25 :: fz fGEdge.rep v_5 a.Edges :: fz fInt.rep v_3 a.Ends :: fz fInt.rep v_1 a.Starts :: L) := hO
        refine hl_s (o_storeA (us := [.int .i64 (((nStar a).1).States), v_56, v_57, v_58]) hO 0 rfl Try.sizeOf25 rfl rfl rfl rfl (by simp only [List.forall_mem_cons]; exact ⟨rfl, (Sl.one (hO.osl 1 rfl)), (Sl.one (hO.osl 2 rfl)), (Sl.one (hO.osl 3 rfl)), by simp⟩)) ?_
        rintro _ H_64 hO
        replace hO : Own H_64 Z_60 (box b_63 [.int .i64 (((nStar a).1).States), v_56, v_57, v_58] 25 :: own fInt 3 v_56 (((nStar a).1).Starts) :: own fInt 3 v_57 (((nStar a).1).Ends) :: own fGEdge 69 v_58 (((nStar a).1).Edges) :: ownR rGNfa 25 v_46 (List.replicate least.toNat ([a].getD 0 default)) :: fz rGNfa v_39 [a] :: box b_36 [.int .i64 (((nText ([] : List UInt8)).1).States), v_29, v_30, v_31] 25 :: own fInt 3 v_29 (((nText ([] : List UInt8)).1).Starts) :: own fInt 3 v_30 (((nText ([] : List UInt8)).1).Ends) :: own fGEdge 69 v_31 (((nText ([] : List UInt8)).1).Edges) :: fz rGNfa v_18 [a] :: box b_16 [.int .i64 (0 : Int), .slice none 0 0, .slice none 0 0, .slice none 0 0] 25 :: box b_14 [.int .i64 a.States, v_1, v_3, v_5] 25 :: fz fGEdge.rep v_5 a.Edges :: fz fInt.rep v_3 a.Ends :: fz fInt.rep v_1 a.Starts :: L) := hO
        refine hl_v (v_assign rfl) rfl ?_
        refine hl_nil ?_
        refine thenQ_n ?_
        refine hw_sub _ (ai_cons (t := 1) rfl (ai_cons (t := 2) rfl (ai_cons (t := 3) rfl (ai_cons (t := 6) rfl (ai_cons (t := 9) rfl (ai_cons (t := 11) rfl (ai_cons (t := 12) rfl (ai_cons (t := 13) rfl ai_nil)))))))) ?_
        refine hw_seq ?_
        refine hw_seq ?_
        refine hw_region ?_
        refine hl_v (v_move rfl) rfl ?_
        refine hl_v (v_neq rfl rfl) rfl ?_
        refine hl_nil ?_
        refine thenQ_n ?_
        refine hw_sub _ (ai_cons (t := 1) rfl (ai_cons (t := 2) rfl (ai_cons (t := 3) rfl (ai_cons (t := 6) rfl (ai_cons (t := 9) rfl (ai_cons (t := 11) rfl (ai_cons (t := 12) rfl (ai_cons (t := 13) rfl (ai_cons (t := 67) rfl ai_nil))))))))) ?_
        refine hw_cond rfl (fun hc_65 => ?_) (fun hc_65 => ?_)
        · replace h := ite_t h hc_65
          refine hw_seq ?_
          refine hw_region ?_
          refine hl_v (v_buildF (cs := [.int .i64 (0 : Int), .slice none 0 0, .slice none 0 0, .slice none 0 0]) (xs := []) (is := []) rfl evs_nil (fun w => by show _ = _; kernel_rfl)) rfl ?_
          refine hl_v (v_move rfl) rfl ?_
          refine hl_s (o_storeA (us := [.int .i64 (0 : Int), .slice none 0 0, .slice none 0 0, .slice none 0 0]) hO 11 rfl Try.sizeOf25 rfl rfl rfl rfl (by simp only [List.forall_mem_cons]; exact ⟨rfl, rfl, rfl, rfl, by simp⟩)) ?_
          rintro _ H_66 hO
          replace hO : Own H_66 Z_60 (box b_63 [.int .i64 (((nStar a).1).States), v_56, v_57, v_58] 25 :: own fInt 3 v_56 (((nStar a).1).Starts) :: own fInt 3 v_57 (((nStar a).1).Ends) :: own fGEdge 69 v_58 (((nStar a).1).Edges) :: ownR rGNfa 25 v_46 (List.replicate least.toNat ([a].getD 0 default)) :: fz rGNfa v_39 [a] :: box b_36 [.int .i64 (((nText ([] : List UInt8)).1).States), v_29, v_30, v_31] 25 :: own fInt 3 v_29 (((nText ([] : List UInt8)).1).Starts) :: own fInt 3 v_30 (((nText ([] : List UInt8)).1).Ends) :: own fGEdge 69 v_31 (((nText ([] : List UInt8)).1).Edges) :: fz rGNfa v_18 [a] :: box b_16 [.int .i64 (0 : Int), .slice none 0 0, .slice none 0 0, .slice none 0 0] 25 :: box b_14 [.int .i64 a.States, v_1, v_3, v_5] 25 :: fz fGEdge.rep v_5 a.Edges :: fz fInt.rep v_3 a.Ends :: fz fInt.rep v_1 a.Starts :: L) := hO
          refine hl_v (v_assign rfl) rfl ?_
          refine hl_nil ?_
          refine thenQ_n ?_
          refine hw_sub _ (ai_cons (t := 6) rfl (ai_cons (t := 7) rfl ai_nil)) ?_
          refine hw_ret ?_
          refine thenQ_r ?_
          refine thenQ_r ?_
          replace hO : Own H_66 Z_60 (fz fInt.rep (.slice none 0 0) [] :: box b_63 [.int .i64 (((nStar a).1).States), v_56, v_57, v_58] 25 :: own fInt 3 v_56 (((nStar a).1).Starts) :: own fInt 3 v_57 (((nStar a).1).Ends) :: own fGEdge 69 v_58 (((nStar a).1).Edges) :: ownR rGNfa 25 v_46 (List.replicate least.toNat ([a].getD 0 default)) :: fz rGNfa v_39 [a] :: box b_36 [.int .i64 (((nText ([] : List UInt8)).1).States), v_29, v_30, v_31] 25 :: own fInt 3 v_29 (((nText ([] : List UInt8)).1).Starts) :: own fInt 3 v_30 (((nText ([] : List UInt8)).1).Ends) :: own fGEdge 69 v_31 (((nText ([] : List UInt8)).1).Edges) :: fz rGNfa v_18 [a] :: box b_16 [.int .i64 (0 : Int), .slice none 0 0, .slice none 0 0, .slice none 0 0] 25 :: box b_14 [.int .i64 a.States, v_1, v_3, v_5] 25 :: fz fGEdge.rep v_5 a.Edges :: fz fInt.rep v_3 a.Ends :: fz fInt.rep v_1 a.Starts :: L) := hO.dup ⟨Sl.nil, fun _ h => h⟩
          replace hO : Own H_66 Z_60 (fz fInt.rep (.slice none 0 0) [] :: fz fInt.rep (.slice none 0 0) [] :: box b_63 [.int .i64 (((nStar a).1).States), v_56, v_57, v_58] 25 :: own fInt 3 v_56 (((nStar a).1).Starts) :: own fInt 3 v_57 (((nStar a).1).Ends) :: own fGEdge 69 v_58 (((nStar a).1).Edges) :: ownR rGNfa 25 v_46 (List.replicate least.toNat ([a].getD 0 default)) :: fz rGNfa v_39 [a] :: box b_36 [.int .i64 (((nText ([] : List UInt8)).1).States), v_29, v_30, v_31] 25 :: own fInt 3 v_29 (((nText ([] : List UInt8)).1).Starts) :: own fInt 3 v_30 (((nText ([] : List UInt8)).1).Ends) :: own fGEdge 69 v_31 (((nText ([] : List UInt8)).1).Edges) :: fz rGNfa v_18 [a] :: box b_16 [.int .i64 (0 : Int), .slice none 0 0, .slice none 0 0, .slice none 0 0] 25 :: box b_14 [.int .i64 a.States, v_1, v_3, v_5] 25 :: fz fGEdge.rep v_5 a.Edges :: fz fInt.rep v_3 a.Ends :: fz fInt.rep v_1 a.Starts :: L) := hO.dup ⟨Sl.nil, fun _ h => h⟩
          replace hO : Own H_66 Z_60 (fz fGEdge.rep (.slice none 0 0) [] :: fz fInt.rep (.slice none 0 0) [] :: fz fInt.rep (.slice none 0 0) [] :: box b_63 [.int .i64 (((nStar a).1).States), v_56, v_57, v_58] 25 :: own fInt 3 v_56 (((nStar a).1).Starts) :: own fInt 3 v_57 (((nStar a).1).Ends) :: own fGEdge 69 v_58 (((nStar a).1).Edges) :: ownR rGNfa 25 v_46 (List.replicate least.toNat ([a].getD 0 default)) :: fz rGNfa v_39 [a] :: box b_36 [.int .i64 (((nText ([] : List UInt8)).1).States), v_29, v_30, v_31] 25 :: own fInt 3 v_29 (((nText ([] : List UInt8)).1).Starts) :: own fInt 3 v_30 (((nText ([] : List UInt8)).1).Ends) :: own fGEdge 69 v_31 (((nText ([] : List UInt8)).1).Edges) :: fz rGNfa v_18 [a] :: box b_16 [.int .i64 (0 : Int), .slice none 0 0, .slice none 0 0, .slice none 0 0] 25 :: box b_14 [.int .i64 a.States, v_1, v_3, v_5] 25 :: fz fGEdge.rep v_5 a.Edges :: fz fInt.rep v_3 a.Ends :: fz fInt.rep v_1 a.Starts :: L) := hO.dup ⟨Sl.nil, fun _ h => h⟩
          refine ret_i _ (ra_c rfl (fun w hw => run_loadVar_at (cs := [.int .i64 (0 : Int), .slice none 0 0, .slice none 0 0, .slice none 0 0]) Try.isAgg25 Try.sizeOf25 (Blk.at0 (hO.box 14 rfl)) rfl w hw) (ra_t rfl ra_nil)) ?_
          exact ⟨_, (⟨(0 : Int), [], [], []⟩ : GNfa), (nStar a).2, .slice none 0 0, .slice none 0 0, .slice none 0 0, hZ, h, rfl, (Own.sel (Ls := [fz fGEdge.rep (.slice none 0 0) [], fz fInt.rep (.slice none 0 0) [], fz fInt.rep (.slice none 0 0) [], box b_63 [.int .i64 (((nStar a).1).States), v_56, v_57, v_58] 25, own fInt 3 v_56 (((nStar a).1).Starts), own fInt 3 v_57 (((nStar a).1).Ends), own fGEdge 69 v_58 (((nStar a).1).Edges), ownR rGNfa 25 v_46 (List.replicate least.toNat ([a].getD 0 default)), fz rGNfa v_39 [a], box b_36 [.int .i64 (((nText ([] : List UInt8)).1).States), v_29, v_30, v_31] 25, own fInt 3 v_29 (((nText ([] : List UInt8)).1).Starts), own fInt 3 v_30 (((nText ([] : List UInt8)).1).Ends), own fGEdge 69 v_31 (((nText ([] : List UInt8)).1).Edges), fz rGNfa v_18 [a], box b_16 [.int .i64 (0 : Int), .slice none 0 0, .slice none 0 0, .slice none 0 0] 25, box b_14 [.int .i64 a.States, v_1, v_3, v_5] 25, fz fGEdge.rep v_5 a.Edges, fz fInt.rep v_3 a.Ends, fz fInt.rep v_1 a.Starts]) (L := L) [2, 1, 0] rfl hO)⟩
        · replace h := ite_f h hc_65
          refine hw_skip ?_
          refine thenQ_n ?_
          refine hw_region ?_
          refine hl_v (v_move rfl) rfl ?_
          refine hl_v (v_loadA Try.isAgg25 Try.sizeOf25 rfl (Blk.at0 (hO.box 0 rfl)) rfl) rfl ?_
          obtain ⟨Z_70, hz_69, hO⟩ := hO.freeze (i := 1) rfl
          replace hZ := fun b hb => hz_69 b (hZ b hb)
          replace hO : Own H_64 Z_70 (box b_63 [.int .i64 (((nStar a).1).States), v_56, v_57, v_58] 25 :: fz fInt.rep v_56 (((nStar a).1).Starts) :: own fInt 3 v_57 (((nStar a).1).Ends) :: own fGEdge 69 v_58 (((nStar a).1).Edges) :: ownR rGNfa 25 v_46 (List.replicate least.toNat ([a].getD 0 default)) :: fz rGNfa v_39 [a] :: box b_36 [.int .i64 (((nText ([] : List UInt8)).1).States), v_29, v_30, v_31] 25 :: own fInt 3 v_29 (((nText ([] : List UInt8)).1).Starts) :: own fInt 3 v_30 (((nText ([] : List UInt8)).1).Ends) :: own fGEdge 69 v_31 (((nText ([] : List UInt8)).1).Edges) :: fz rGNfa v_18 [a] :: box b_16 [.int .i64 (0 : Int), .slice none 0 0, .slice none 0 0, .slice none 0 0] 25 :: box b_14 [.int .i64 a.States, v_1, v_3, v_5] 25 :: fz fGEdge.rep v_5 a.Edges :: fz fInt.rep v_3 a.Ends :: fz fInt.rep v_1 a.Starts :: L) := hO
          obtain ⟨Z_72, hz_71, hO⟩ := hO.freeze (i := 2) rfl
          replace hZ := fun b hb => hz_71 b (hZ b hb)
          replace hO : Own H_64 Z_72 (box b_63 [.int .i64 (((nStar a).1).States), v_56, v_57, v_58] 25 :: fz fInt.rep v_56 (((nStar a).1).Starts) :: fz fInt.rep v_57 (((nStar a).1).Ends) :: own fGEdge 69 v_58 (((nStar a).1).Edges) :: ownR rGNfa 25 v_46 (List.replicate least.toNat ([a].getD 0 default)) :: fz rGNfa v_39 [a] :: box b_36 [.int .i64 (((nText ([] : List UInt8)).1).States), v_29, v_30, v_31] 25 :: own fInt 3 v_29 (((nText ([] : List UInt8)).1).Starts) :: own fInt 3 v_30 (((nText ([] : List UInt8)).1).Ends) :: own fGEdge 69 v_31 (((nText ([] : List UInt8)).1).Edges) :: fz rGNfa v_18 [a] :: box b_16 [.int .i64 (0 : Int), .slice none 0 0, .slice none 0 0, .slice none 0 0] 25 :: box b_14 [.int .i64 a.States, v_1, v_3, v_5] 25 :: fz fGEdge.rep v_5 a.Edges :: fz fInt.rep v_3 a.Ends :: fz fInt.rep v_1 a.Starts :: L) := hO
          obtain ⟨Z_74, hz_73, hO⟩ := hO.freeze (i := 3) rfl
          replace hZ := fun b hb => hz_73 b (hZ b hb)
          replace hO : Own H_64 Z_74 (box b_63 [.int .i64 (((nStar a).1).States), v_56, v_57, v_58] 25 :: fz fInt.rep v_56 (((nStar a).1).Starts) :: fz fInt.rep v_57 (((nStar a).1).Ends) :: fz fGEdge.rep v_58 (((nStar a).1).Edges) :: ownR rGNfa 25 v_46 (List.replicate least.toNat ([a].getD 0 default)) :: fz rGNfa v_39 [a] :: box b_36 [.int .i64 (((nText ([] : List UInt8)).1).States), v_29, v_30, v_31] 25 :: own fInt 3 v_29 (((nText ([] : List UInt8)).1).Starts) :: own fInt 3 v_30 (((nText ([] : List UInt8)).1).Ends) :: own fGEdge 69 v_31 (((nText ([] : List UInt8)).1).Edges) :: fz rGNfa v_18 [a] :: box b_16 [.int .i64 (0 : Int), .slice none 0 0, .slice none 0 0, .slice none 0 0] 25 :: box b_14 [.int .i64 a.States, v_1, v_3, v_5] 25 :: fz fGEdge.rep v_5 a.Edges :: fz fInt.rep v_3 a.Ends :: fz fInt.rep v_1 a.Starts :: L) := hO
          have hsh_75 := Sl.sh (hO.fsl 1 rfl)
          have hsh_76 := Sl.sh (hO.fsl 2 rfl)
          have hsh_77 := Sl.sh (hO.fsl 3 rfl)
          refine hl_h (o_litR (r := rGNfa) (l := [((nStar a).1)]) (xs := [.tmp 71]) (css := [[.int .i64 (((nStar a).1).States), v_56, v_57, v_58]]) hO Try.underlying87 Try.sizeOf25 Try.zeroValue25 rfl (evs_cons rfl evs_nil) rfl rfl rfl (by obtain ⟨_, _, _, hw⟩ := hsh_75; (try subst hw); obtain ⟨_, _, _, hw⟩ := hsh_76; (try subst hw); obtain ⟨_, _, _, hw⟩ := hsh_77; (try subst hw); rfl) rfl (relAll_cons ⟨_, _, _, rfl, (hO.fsl 1 rfl), (hO.fsl 2 rfl), (hO.fsl 3 rfl)⟩ relAll_nil)) rfl ?_
          rintro v_68 H_67 hO
          replace hO : Own H_67 Z_74 (ownR rGNfa 25 v_68 [((nStar a).1)] :: box b_63 [.int .i64 (((nStar a).1).States), v_56, v_57, v_58] 25 :: fz fInt.rep v_56 (((nStar a).1).Starts) :: fz fInt.rep v_57 (((nStar a).1).Ends) :: fz fGEdge.rep v_58 (((nStar a).1).Edges) :: ownR rGNfa 25 v_46 (List.replicate least.toNat ([a].getD 0 default)) :: fz rGNfa v_39 [a] :: box b_36 [.int .i64 (((nText ([] : List UInt8)).1).States), v_29, v_30, v_31] 25 :: own fInt 3 v_29 (((nText ([] : List UInt8)).1).Starts) :: own fInt 3 v_30 (((nText ([] : List UInt8)).1).Ends) :: own fGEdge 69 v_31 (((nText ([] : List UInt8)).1).Edges) :: fz rGNfa v_18 [a] :: box b_16 [.int .i64 (0 : Int), .slice none 0 0, .slice none 0 0, .slice none 0 0] 25 :: box b_14 [.int .i64 a.States, v_1, v_3, v_5] 25 :: fz fGEdge.rep v_5 a.Edges :: fz fInt.rep v_3 a.Ends :: fz fInt.rep v_1 a.Starts :: L) := hO
          obtain ⟨hs_80, h⟩ := h
          refine hl_h (o_appendR (l2 := [((nStar a).1)]) hO 5 rfl rfl Try.underlying87 Try.type25 rfl rfl rfl rfl rfl rfl rfl (hO.rsrc 0 rfl) hs_80 (le63 hs_80 rfl)) rfl ?_
          rintro v_79 H_78 hO
          replace hO : Own H_78 Z_74 (ownR rGNfa 25 v_68 [((nStar a).1)] :: box b_63 [.int .i64 (((nStar a).1).States), v_56, v_57, v_58] 25 :: fz fInt.rep v_56 (((nStar a).1).Starts) :: fz fInt.rep v_57 (((nStar a).1).Ends) :: fz fGEdge.rep v_58 (((nStar a).1).Edges) :: ownR rGNfa 25 v_79 ((List.replicate least.toNat ([a].getD 0 default)) ++ [((nStar a).1)]) :: fz rGNfa v_39 [a] :: box b_36 [.int .i64 (((nText ([] : List UInt8)).1).States), v_29, v_30, v_31] 25 :: own fInt 3 v_29 (((nText ([] : List UInt8)).1).Starts) :: own fInt 3 v_30 (((nText ([] : List UInt8)).1).Ends) :: own fGEdge 69 v_31 (((nText ([] : List UInt8)).1).Edges) :: fz rGNfa v_18 [a] :: box b_16 [.int .i64 (0 : Int), .slice none 0 0, .slice none 0 0, .slice none 0 0] 25 :: box b_14 [.int .i64 a.States, v_1, v_3, v_5] 25 :: fz fGEdge.rep v_5 a.Edges :: fz fInt.rep v_3 a.Ends :: fz fInt.rep v_1 a.Starts :: L) := hO
          refine hl_v (v_assign rfl) rfl ?_
          refine hl_nil ?_
          refine thenQ_n ?_
          refine ⟨_, (ai_cons (t := 1) rfl (ai_cons (t := 2) rfl (ai_cons (t := 3) rfl (ai_cons (t := 6) rfl (ai_cons (t := 9) rfl (ai_cons (t := 11) rfl ai_nil)))))), ⟨((List.replicate least.toNat ([a].getD 0 default)) ++ [((nStar a).1)]), v_79, _, rfl, hZ, h, (Own.sel (Ls := [ownR rGNfa 25 v_68 [((nStar a).1)], box b_63 [.int .i64 (((nStar a).1).States), v_56, v_57, v_58] 25, fz fInt.rep v_56 (((nStar a).1).Starts), fz fInt.rep v_57 (((nStar a).1).Ends), fz fGEdge.rep v_58 (((nStar a).1).Edges), ownR rGNfa 25 v_79 ((List.replicate least.toNat ([a].getD 0 default)) ++ [((nStar a).1)]), fz rGNfa v_39 [a], box b_36 [.int .i64 (((nText ([] : List UInt8)).1).States), v_29, v_30, v_31] 25, own fInt 3 v_29 (((nText ([] : List UInt8)).1).Starts), own fInt 3 v_30 (((nText ([] : List UInt8)).1).Ends), own fGEdge 69 v_31 (((nText ([] : List UInt8)).1).Edges), fz rGNfa v_18 [a], box b_16 [.int .i64 (0 : Int), .slice none 0 0, .slice none 0 0, .slice none 0 0] 25, box b_14 [.int .i64 a.States, v_1, v_3, v_5] 25, fz fGEdge.rep v_5 a.Edges, fz fInt.rep v_3 a.Ends, fz fInt.rep v_1 a.Starts]) (L := L) [5, 7, 8, 9, 10, 12, 13, 14, 15, 16] rfl hO)⟩⟩
      · replace h := ite_f h hc_55
        refine hw_skip ?_
        refine thenQ_n ?_
        refine ⟨_, (ai_cons (t := 1) rfl (ai_cons (t := 2) rfl (ai_cons (t := 3) rfl (ai_cons (t := 6) rfl (ai_cons (t := 9) rfl (ai_cons (t := 11) rfl ai_nil)))))), ⟨(List.replicate least.toNat ([a].getD 0 default)), v_46, _, rfl, hZ, h, (Own.sel (Ls := [ownR rGNfa 25 v_46 (List.replicate least.toNat ([a].getD 0 default)), fz rGNfa v_39 [a], box b_36 [.int .i64 (((nText ([] : List UInt8)).1).States), v_29, v_30, v_31] 25, own fInt 3 v_29 (((nText ([] : List UInt8)).1).Starts), own fInt 3 v_30 (((nText ([] : List UInt8)).1).Ends), own fGEdge 69 v_31 (((nText ([] : List UInt8)).1).Edges), fz rGNfa v_18 [a], box b_16 [.int .i64 (0 : Int), .slice none 0 0, .slice none 0 0, .slice none 0 0] 25, box b_14 [.int .i64 a.States, v_1, v_3, v_5] 25, fz fGEdge.rep v_5 a.Edges, fz fInt.rep v_3 a.Ends, fz fInt.rep v_1 a.Starts]) (L := L) [0, 2, 3, 4, 5, 7, 8, 9, 10, 11] rfl hO)⟩⟩
    · rintro _ H_52 ⟨parts, v_50, Z_53, rfl, hZ, h, hO⟩
      replace h := hk_54 parts h
      refine hw_seq ?_
      refine hw_seq ?_
      refine hw_region ?_
      refine hl_v (v_move rfl) rfl ?_
      refine hl_v (v_move rfl) rfl ?_
      obtain ⟨hs_81, h⟩ := h
      refine hl_v (v_sub rfl rfl hs_81) rfl ?_
      refine hl_v (v_move rfl) rfl ?_
      refine hl_nil ?_
      refine thenQ_n ?_
      refine hw_sub _ (ai_cons (t := 3) rfl (ai_cons (t := 6) rfl (ai_cons (t := 9) rfl (ai_cons (t := 11) rfl (ai_cons (t := 76) rfl (ai_cons (t := 77) rfl ai_nil)))))) ?_
      refine hw_block ?_
      obtain ⟨I_86, h, hI_88⟩ := h
      obtain ⟨Z_93, hz_92, hO⟩ := hO.freeze (i := 2) rfl
      replace hZ := fun b hb => hz_92 b (hZ b hb)
      replace hO : Own H_52 Z_93 (ownR rGNfa 25 v_50 parts :: box b_36 [.int .i64 (((nText ([] : List UInt8)).1).States), v_29, v_30, v_31] 25 :: fz fInt.rep v_29 (((nText ([] : List UInt8)).1).Starts) :: own fInt 3 v_30 (((nText ([] : List UInt8)).1).Ends) :: own fGEdge 69 v_31 (((nText ([] : List UInt8)).1).Edges) :: box b_16 [.int .i64 (0 : Int), .slice none 0 0, .slice none 0 0, .slice none 0 0] 25 :: box b_14 [.int .i64 a.States, v_1, v_3, v_5] 25 :: fz fGEdge.rep v_5 a.Edges :: fz fInt.rep v_3 a.Ends :: fz fInt.rep v_1 a.Starts :: L) := hO
      obtain ⟨Z_95, hz_94, hO⟩ := hO.freeze (i := 3) rfl
      replace hZ := fun b hb => hz_94 b (hZ b hb)
      replace hO : Own H_52 Z_95 (ownR rGNfa 25 v_50 parts :: box b_36 [.int .i64 (((nText ([] : List UInt8)).1).States), v_29, v_30, v_31] 25 :: fz fInt.rep v_29 (((nText ([] : List UInt8)).1).Starts) :: fz fInt.rep v_30 (((nText ([] : List UInt8)).1).Ends) :: own fGEdge 69 v_31 (((nText ([] : List UInt8)).1).Edges) :: box b_16 [.int .i64 (0 : Int), .slice none 0 0, .slice none 0 0, .slice none 0 0] 25 :: box b_14 [.int .i64 a.States, v_1, v_3, v_5] 25 :: fz fGEdge.rep v_5 a.Edges :: fz fInt.rep v_3 a.Ends :: fz fInt.rep v_1 a.Starts :: L) := hO
      obtain ⟨Z_97, hz_96, hO⟩ := hO.freeze (i := 4) rfl
      replace hZ := fun b hb => hz_96 b (hZ b hb)
      replace hO : Own H_52 Z_97 (ownR rGNfa 25 v_50 parts :: box b_36 [.int .i64 (((nText ([] : List UInt8)).1).States), v_29, v_30, v_31] 25 :: fz fInt.rep v_29 (((nText ([] : List UInt8)).1).Starts) :: fz fInt.rep v_30 (((nText ([] : List UInt8)).1).Ends) :: fz fGEdge.rep v_31 (((nText ([] : List UInt8)).1).Edges) :: box b_16 [.int .i64 (0 : Int), .slice none 0 0, .slice none 0 0, .slice none 0 0] 25 :: box b_14 [.int .i64 a.States, v_1, v_3, v_5] 25 :: fz fGEdge.rep v_5 a.Edges :: fz fInt.rep v_3 a.Ends :: fz fInt.rep v_1 a.Starts :: L) := hO
      refine hw_lp (fun n' g' H' => ∃ (xnone : GNfa) (parts2 : List GNfa) (k : Nat) (v_82 : Value) (v_83 : Value) (v_84 : Value) (v_85 : Value) (Z' : Nat → Prop), n' = ((most - least) - (k : Int)).toNat ∧ g' = [(3, ptr b_14 0), (6, ptr b_16 0), (9, ptr b_36 0), (11, v_85), (76, .int .i64 (most - least)), (77, .int .i64 (k : Int))] ∧ (∀ b, Z b → Z' b) ∧ I_86 xnone parts2 k ∧ Own H' Z' (fz fGEdge.rep v_84 xnone.Edges :: fz fInt.rep v_83 xnone.Ends :: fz fInt.rep v_82 xnone.Starts :: ownR rGNfa 25 v_85 parts2 :: box b_36 [.int .i64 xnone.States, v_82, v_83, v_84] 25 :: box b_16 [.int .i64 (0 : Int), .slice none 0 0, .slice none 0 0, .slice none 0 0] 25 :: box b_14 [.int .i64 a.States, v_1, v_3, v_5] 25 :: fz fGEdge.rep v_5 a.Edges :: fz fInt.rep v_3 a.Ends :: fz fInt.rep v_1 a.Starts :: L)) _ _ (ai_cons (t := 3) rfl (ai_cons (t := 6) rfl (ai_cons (t := 9) rfl (ai_cons (t := 11) rfl (ai_cons (t := 76) rfl (ai_cons (t := 77) rfl ai_nil)))))) ⟨((nText ([] : List UInt8)).1), parts, 0, v_29, v_30, v_31, v_50, _, rfl, rfl, hZ, h, (Own.sel (Ls := [ownR rGNfa 25 v_50 parts, box b_36 [.int .i64 (((nText ([] : List UInt8)).1).States), v_29, v_30, v_31] 25, fz fInt.rep v_29 (((nText ([] : List UInt8)).1).Starts), fz fInt.rep v_30 (((nText ([] : List UInt8)).1).Ends), fz fGEdge.rep v_31 (((nText ([] : List UInt8)).1).Edges), box b_16 [.int .i64 (0 : Int), .slice none 0 0, .slice none 0 0, .slice none 0 0] 25, box b_14 [.int .i64 a.States, v_1, v_3, v_5] 25, fz fGEdge.rep v_5 a.Edges, fz fInt.rep v_3 a.Ends, fz fInt.rep v_1 a.Starts]) (L := L) [4, 3, 2, 0, 1, 5, 6, 7, 8, 9] rfl hO)⟩ ?_
      rintro _ _ H_89 ⟨xnone, parts2, k, v_82, v_83, v_84, v_85, Z_90, rfl, rfl, hZ, h, hO⟩
      replace h := hI_88 xnone parts2 k h
      refine hw_seq ?_
      refine hw_region ?_
      refine hl_v (v_lss rfl rfl) rfl ?_
      refine hl_nil ?_
      refine thenQ_n ?_
      refine hw_sub _ (ai_cons (t := 3) rfl (ai_cons (t := 6) rfl (ai_cons (t := 9) rfl (ai_cons (t := 11) rfl (ai_cons (t := 76) rfl (ai_cons (t := 77) rfl (ai_cons (t := 78) rfl ai_nil))))))) ?_
      refine hw_seq ?_
      refine hw_cond rfl (fun hc_98 => ?_) (fun hc_98 => ?_)
      · replace h := ite_t h hc_98
        refine hw_skip ?_
        refine thenQ_n ?_
        refine hw_seq ?_
        refine hw_block ?_
        refine hw_seq ?_
        refine hw_region ?_
        refine hl_v (v_loadA Try.isAgg25 Try.sizeOf25 rfl (Blk.at0 (hO.box 6 rfl)) rfl) rfl ?_
        refine hl_v (v_loadA Try.isAgg25 Try.sizeOf25 rfl (Blk.at0 (hO.box 4 rfl)) rfl) rfl ?_
        refine hl_h (h_call Try.call18 (evs_cons rfl (evs_cons rfl evs_nil)) (nfaAlt_spec (a0 := a) (a1 := xnone) hO (Fz.of (i := 9) rfl) (Fz.of (i := 8) rfl) (Fz.of (i := 7) rfl) (Fz.of (i := 2) rfl) (Fz.of (i := 1) rfl) (Fz.of (i := 0) rfl))) rfl ?_
        rintro vv H_102 ⟨Z_103, v_99, v_100, v_101, hz_104, hv, hO⟩
        obtain rfl := hv.symm
        replace hZ := fun b hb => hz_104 b (hZ b hb)
        replace hO : Own H_102 Z_103 (own fInt 3 v_99 (((nAlt a xnone).1).Starts) :: own fInt 3 v_100 (((nAlt a xnone).1).Ends) :: own fGEdge 69 v_101 (((nAlt a xnone).1).Edges) :: fz fGEdge.rep v_84 xnone.Edges :: fz fInt.rep v_83 xnone.Ends :: fz fInt.rep v_82 xnone.Starts :: ownR rGNfa 25 v_85 parts2 :: box b_36 [.int .i64 xnone.States, v_82, v_83, v_84] 25 :: box b_16 [.int .i64 (0 : Int), .slice none 0 0, .slice none 0 0, .slice none 0 0] 25 :: box b_14 [.int .i64 a.States, v_1, v_3, v_5] 25 :: fz fGEdge.rep v_5 a.Edges :: fz fInt.rep v_3 a.Ends :: fz fInt.rep v_1 a.Starts :: L) := hO
        refine hl_v (v_move rfl) rfl ?_
        refine hl_v (v_extract rfl rfl) rfl ?_
        refine hl_v (v_extract rfl rfl) rfl ?_
        refine hl_h (o_alloc (cs := [.int .i64 (0 : Int), .slice none 0 0, .slice none 0 0, .slice none 0 0]) hO Try.zeroValue25 rfl) rfl ?_
        rintro _ H_105 ⟨b_106, rfl, hO⟩
        replace hO : Own H_105 Z_103 (box b_106 [.int .i64 (0 : Int), .slice none 0 0, .slice none 0 0, .slice none 0 0] 25 :: own fInt 3 v_99 (((nAlt a xnone).1).Starts) :: own fInt 3 v_100 (((nAlt a xnone).1).Ends) :: own fGEdge 69 v_101 (((nAlt a xnone).1).Edges) :: fz fGEdge.rep v_84 xnone.Edges :: fz fInt.rep v_83 xnone.Ends :: fz fInt.rep v_82 xnone.Starts :: ownR rGNfa 25 v_85 parts2 :: box b_36 [.int .i64 xnone.States, v_82, v_83, v_84] 25 :: box b_16 [.int .i64 (0 : Int), .slice none 0 0, .slice none 0 0, .slice none 0 0] 25 :: box b_14 [.int .i64 a.States, v_1, v_3, v_5] 25 :: fz fGEdge.rep v_5 a.Edges :: fz fInt.rep v_3 a.Ends :: fz fInt.rep v_1 a.Starts :: L) := hO
        refine hl_s (o_storeA (us := [.int .i64 (((nAlt a xnone).1).States), v_99, v_100, v_101]) hO 0 rfl Try.sizeOf25 rfl rfl rfl rfl (by simp only [List.forall_mem_cons]; exact ⟨rfl, (Sl.one (hO.osl 1 rfl)), (Sl.one (hO.osl 2 rfl)), (Sl.one (hO.osl 3 rfl)), by simp⟩)) ?_
        rintro _ H_107 hO
        replace hO : Own H_107 Z_103 (box b_106 [.int .i64 (((nAlt a xnone).1).States), v_99, v_100, v_101] 25 :: own fInt 3 v_99 (((nAlt a xnone).1).Starts) :: own fInt 3 v_100 (((nAlt a xnone).1).Ends) :: own fGEdge 69 v_101 (((nAlt a xnone).1).Edges) :: fz fGEdge.rep v_84 xnone.Edges :: fz fInt.rep v_83 xnone.Ends :: fz fInt.rep v_82 xnone.Starts :: ownR rGNfa 25 v_85 parts2 :: box b_36 [.int .i64 xnone.States, v_82, v_83, v_84] 25 :: box b_16 [.int .i64 (0 : Int), .slice none 0 0, .slice none 0 0, .slice none 0 0] 25 :: box b_14 [.int .i64 a.States, v_1, v_3, v_5] 25 :: fz fGEdge.rep v_5 a.Edges :: fz fInt.rep v_3 a.Ends :: fz fInt.rep v_1 a.Starts :: L) := hO
        refine hl_v (v_assign rfl) rfl ?_
        refine hl_nil ?_
        refine thenQ_n ?_
        refine hw_sub _ (ai_cons (t := 3) rfl (ai_cons (t := 6) rfl (ai_cons (t := 9) rfl (ai_cons (t := 11) rfl (ai_cons (t := 14) rfl (ai_cons (t := 15) rfl (ai_cons (t := 76) rfl (ai_cons (t := 77) rfl ai_nil)))))))) ?_
        refine hw_seq ?_
        refine hw_seq ?_
        refine hw_region ?_
        refine hl_v (v_move rfl) rfl ?_
        refine hl_v (v_neq rfl rfl) rfl ?_
        refine hl_nil ?_
        refine thenQ_n ?_
        refine hw_sub _ (ai_cons (t := 3) rfl (ai_cons (t := 6) rfl (ai_cons (t := 9) rfl (ai_cons (t := 11) rfl (ai_cons (t := 14) rfl (ai_cons (t := 15) rfl (ai_cons (t := 76) rfl (ai_cons (t := 77) rfl (ai_cons (t := 86) rfl ai_nil))))))))) ?_
        refine hw_cond rfl (fun hc_108 => ?_) (fun hc_108 => ?_)
        · replace h := ite_t h hc_108
          refine hw_seq ?_
          refine hw_region ?_
          refine hl_v (v_buildF (cs := [.int .i64 (0 : Int), .slice none 0 0, .slice none 0 0, .slice none 0 0]) (xs := []) (is := []) rfl evs_nil (fun w => by show _ = _; kernel_rfl)) rfl ?_
          refine hl_v (v_move rfl) rfl ?_
          refine hl_s (o_storeA (us := [.int .i64 (0 : Int), .slice none 0 0, .slice none 0 0, .slice none 0 0]) hO 9 rfl Try.sizeOf25 rfl rfl rfl rfl (by simp only [List.forall_mem_cons]; exact ⟨rfl, rfl, rfl, rfl, by simp⟩)) ?_
          rintro _ H_109 hO
          replace hO : Own H_109 Z_103 (box b_106 [.int .i64 (((nAlt a xnone).1).States), v_99, v_100, v_101] 25 :: own fInt 3 v_99 (((nAlt a xnone).1).Starts) :: own fInt 3 v_100 (((nAlt a xnone).1).Ends) :: own fGEdge 69 v_101 (((nAlt a xnone).1).Edges) :: fz fGEdge.rep v_84 xnone.Edges :: fz fInt.rep v_83 xnone.Ends :: fz fInt.rep v_82 xnone.Starts :: ownR rGNfa 25 v_85 parts2 :: box b_36 [.int .i64 xnone.States, v_82, v_83, v_84] 25 :: box b_16 [.int .i64 (0 : Int), .slice none 0 0, .slice none 0 0, .slice none 0 0] 25 :: box b_14 [.int .i64 a.States, v_1, v_3, v_5] 25 :: fz fGEdge.rep v_5 a.Edges :: fz fInt.rep v_3 a.Ends :: fz fInt.rep v_1 a.Starts :: L) := hO
          refine hl_v (v_assign rfl) rfl ?_
          refine hl_nil ?_
          refine thenQ_n ?_
          refine hw_sub _ (ai_cons (t := 6) rfl (ai_cons (t := 7) rfl ai_nil)) ?_
          refine hw_ret ?_
          refine thenQ_r ?_
          refine blockQ_r ?_
          refine thenQ_r ?_
          refine thenQ_r ?_
          refine blockQ_r ?_
          refine thenQ_r ?_
          replace hO : Own H_109 Z_103 (fz fInt.rep (.slice none 0 0) [] :: box b_106 [.int .i64 (((nAlt a xnone).1).States), v_99, v_100, v_101] 25 :: own fInt 3 v_99 (((nAlt a xnone).1).Starts) :: own fInt 3 v_100 (((nAlt a xnone).1).Ends) :: own fGEdge 69 v_101 (((nAlt a xnone).1).Edges) :: fz fGEdge.rep v_84 xnone.Edges :: fz fInt.rep v_83 xnone.Ends :: fz fInt.rep v_82 xnone.Starts :: ownR rGNfa 25 v_85 parts2 :: box b_36 [.int .i64 xnone.States, v_82, v_83, v_84] 25 :: box b_16 [.int .i64 (0 : Int), .slice none 0 0, .slice none 0 0, .slice none 0 0] 25 :: box b_14 [.int .i64 a.States, v_1, v_3, v_5] 25 :: fz fGEdge.rep v_5 a.Edges :: fz fInt.rep v_3 a.Ends :: fz fInt.rep v_1 a.Starts :: L) := hO.dup ⟨Sl.nil, fun _ h => h⟩
          replace hO : Own H_109 Z_103 (fz fInt.rep (.slice none 0 0) [] :: fz fInt.rep (.slice none 0 0) [] :: box b_106 [.int .i64 (((nAlt a xnone).1).States), v_99, v_100, v_101] 25 :: own fInt 3 v_99 (((nAlt a xnone).1).Starts) :: own fInt 3 v_100 (((nAlt a xnone).1).Ends) :: own fGEdge 69 v_101 (((nAlt a xnone).1).Edges) :: fz fGEdge.rep v_84 xnone.Edges :: fz fInt.rep v_83 xnone.Ends :: fz fInt.rep v_82 xnone.Starts :: ownR rGNfa 25 v_85 parts2 :: box b_36 [.int .i64 xnone.States, v_82, v_83, v_84] 25 :: box b_16 [.int .i64 (0 : Int), .slice none 0 0, .slice none 0 0, .slice none 0 0] 25 :: box b_14 [.int .i64 a.States, v_1, v_3, v_5] 25 :: fz fGEdge.rep v_5 a.Edges :: fz fInt.rep v_3 a.Ends :: fz fInt.rep v_1 a.Starts :: L) := hO.dup ⟨Sl.nil, fun _ h => h⟩
          replace hO : Own H_109 Z_103 (fz fGEdge.rep (.slice none 0 0) [] :: fz fInt.rep (.slice none 0 0) [] :: fz fInt.rep (.slice none 0 0) [] :: box b_106 [.int .i64 (((nAlt a xnone).1).States), v_99, v_100, v_101] 25 :: own fInt 3 v_99 (((nAlt a xnone).1).Starts) :: own fInt 3 v_100 (((nAlt a xnone).1).Ends) :: own fGEdge 69 v_101 (((nAlt a xnone).1).Edges) :: fz fGEdge.rep v_84 xnone.Edges :: fz fInt.rep v_83 xnone.Ends :: fz fInt.rep v_82 xnone.Starts :: ownR rGNfa 25 v_85 parts2 :: box b_36 [.int .i64 xnone.States, v_82, v_83, v_84] 25 :: box b_16 [.int .i64 (0 : Int), .slice none 0 0, .slice none 0 0, .slice none 0 0] 25 :: box b_14 [.int .i64 a.States, v_1, v_3, v_5] 25 :: fz fGEdge.rep v_5 a.Edges :: fz fInt.rep v_3 a.Ends :: fz fInt.rep v_1 a.Starts :: L) := hO.dup ⟨Sl.nil, fun _ h => h⟩
          refine ret_i _ (ra_c rfl (fun w hw => run_loadVar_at (cs := [.int .i64 (0 : Int), .slice none 0 0, .slice none 0 0, .slice none 0 0]) Try.isAgg25 Try.sizeOf25 (Blk.at0 (hO.box 12 rfl)) rfl w hw) (ra_t rfl ra_nil)) ?_
          exact ⟨_, (⟨(0 : Int), [], [], []⟩ : GNfa), (nAlt a xnone).2, .slice none 0 0, .slice none 0 0, .slice none 0 0, hZ, h, rfl, (Own.sel (Ls := [fz fGEdge.rep (.slice none 0 0) [], fz fInt.rep (.slice none 0 0) [], fz fInt.rep (.slice none 0 0) [], box b_106 [.int .i64 (((nAlt a xnone).1).States), v_99, v_100, v_101] 25, own fInt 3 v_99 (((nAlt a xnone).1).Starts), own fInt 3 v_100 (((nAlt a xnone).1).Ends), own fGEdge 69 v_101 (((nAlt a xnone).1).Edges), fz fGEdge.rep v_84 xnone.Edges, fz fInt.rep v_83 xnone.Ends, fz fInt.rep v_82 xnone.Starts, ownR rGNfa 25 v_85 parts2, box b_36 [.int .i64 xnone.States, v_82, v_83, v_84] 25, box b_16 [.int .i64 (0 : Int), .slice none 0 0, .slice none 0 0, .slice none 0 0] 25, box b_14 [.int .i64 a.States, v_1, v_3, v_5] 25, fz fGEdge.rep v_5 a.Edges, fz fInt.rep v_3 a.Ends, fz fInt.rep v_1 a.Starts]) (L := L) [2, 1, 0] rfl hO)⟩
        · replace h := ite_f h hc_108
          refine hw_skip ?_
          refine thenQ_n ?_
          refine hw_region ?_
          refine hl_v (v_move rfl) rfl ?_
          refine hl_v (v_loadA Try.isAgg25 Try.sizeOf25 rfl (Blk.at0 (hO.box 0 rfl)) rfl) rfl ?_
          obtain ⟨Z_113, hz_112, hO⟩ := hO.freeze (i := 1) rfl
          replace hZ := fun b hb => hz_112 b (hZ b hb)
          replace hO : Own H_107 Z_113 (box b_106 [.int .i64 (((nAlt a xnone).1).States), v_99, v_100, v_101] 25 :: fz fInt.rep v_99 (((nAlt a xnone).1).Starts) :: own fInt 3 v_100 (((nAlt a xnone).1).Ends) :: own fGEdge 69 v_101 (((nAlt a xnone).1).Edges) :: fz fGEdge.rep v_84 xnone.Edges :: fz fInt.rep v_83 xnone.Ends :: fz fInt.rep v_82 xnone.Starts :: ownR rGNfa 25 v_85 parts2 :: box b_36 [.int .i64 xnone.States, v_82, v_83, v_84] 25 :: box b_16 [.int .i64 (0 : Int), .slice none 0 0, .slice none 0 0, .slice none 0 0] 25 :: box b_14 [.int .i64 a.States, v_1, v_3, v_5] 25 :: fz fGEdge.rep v_5 a.Edges :: fz fInt.rep v_3 a.Ends :: fz fInt.rep v_1 a.Starts :: L) := hO
          obtain ⟨Z_115, hz_114, hO⟩ := hO.freeze (i := 2) rfl
          replace hZ := fun b hb => hz_114 b (hZ b hb)
          replace hO : Own H_107 Z_115 (box b_106 [.int .i64 (((nAlt a xnone).1).States), v_99, v_100, v_101] 25 :: fz fInt.rep v_99 (((nAlt a xnone).1).Starts) :: fz fInt.rep v_100 (((nAlt a xnone).1).Ends) :: own fGEdge 69 v_101 (((nAlt a xnone).1).Edges) :: fz fGEdge.rep v_84 xnone.Edges :: fz fInt.rep v_83 xnone.Ends :: fz fInt.rep v_82 xnone.Starts :: ownR rGNfa 25 v_85 parts2 :: box b_36 [.int .i64 xnone.States, v_82, v_83, v_84] 25 :: box b_16 [.int .i64 (0 : Int), .slice none 0 0, .slice none 0 0, .slice none 0 0] 25 :: box b_14 [.int .i64 a.States, v_1, v_3, v_5] 25 :: fz fGEdge.rep v_5 a.Edges :: fz fInt.rep v_3 a.Ends :: fz fInt.rep v_1 a.Starts :: L) := hO
          obtain ⟨Z_117, hz_116, hO⟩ := hO.freeze (i := 3) rfl
          replace hZ := fun b hb => hz_116 b (hZ b hb)
          replace hO : Own H_107 Z_117 (box b_106 [.int .i64 (((nAlt a xnone).1).States), v_99, v_100, v_101] 25 :: fz fInt.rep v_99 (((nAlt a xnone).1).Starts) :: fz fInt.rep v_100 (((nAlt a xnone).1).Ends) :: fz fGEdge.rep v_101 (((nAlt a xnone).1).Edges) :: fz fGEdge.rep v_84 xnone.Edges :: fz fInt.rep v_83 xnone.Ends :: fz fInt.rep v_82 xnone.Starts :: ownR rGNfa 25 v_85 parts2 :: box b_36 [.int .i64 xnone.States, v_82, v_83, v_84] 25 :: box b_16 [.int .i64 (0 : Int), .slice none 0 0, .slice none 0 0, .slice none 0 0] 25 :: box b_14 [.int .i64 a.States, v_1, v_3, v_5] 25 :: fz fGEdge.rep v_5 a.Edges :: fz fInt.rep v_3 a.Ends :: fz fInt.rep v_1 a.Starts :: L) := hO
          have hsh_118 := Sl.sh (hO.fsl 1 rfl)
          have hsh_119 := Sl.sh (hO.fsl 2 rfl)
          have hsh_120 := Sl.sh (hO.fsl 3 rfl)
          refine hl_h (o_litR (r := rGNfa) (l := [((nAlt a xnone).1)]) (xs := [.tmp 90]) (css := [[.int .i64 (((nAlt a xnone).1).States), v_99, v_100, v_101]]) hO Try.underlying87 Try.sizeOf25 Try.zeroValue25 rfl (evs_cons rfl evs_nil) rfl rfl rfl (by obtain ⟨_, _, _, hw⟩ := hsh_118; (try subst hw); obtain ⟨_, _, _, hw⟩ := hsh_119; (try subst hw); obtain ⟨_, _, _, hw⟩ := hsh_120; (try subst hw); rfl) rfl (relAll_cons ⟨_, _, _, rfl, (hO.fsl 1 rfl), (hO.fsl 2 rfl), (hO.fsl 3 rfl)⟩ relAll_nil)) rfl ?_
          rintro v_111 H_110 hO
          replace hO : Own H_110 Z_117 (ownR rGNfa 25 v_111 [((nAlt a xnone).1)] :: box b_106 [.int .i64 (((nAlt a xnone).1).States), v_99, v_100, v_101] 25 :: fz fInt.rep v_99 (((nAlt a xnone).1).Starts) :: fz fInt.rep v_100 (((nAlt a xnone).1).Ends) :: fz fGEdge.rep v_101 (((nAlt a xnone).1).Edges) :: fz fGEdge.rep v_84 xnone.Edges :: fz fInt.rep v_83 xnone.Ends :: fz fInt.rep v_82 xnone.Starts :: ownR rGNfa 25 v_85 parts2 :: box b_36 [.int .i64 xnone.States, v_82, v_83, v_84] 25 :: box b_16 [.int .i64 (0 : Int), .slice none 0 0, .slice none 0 0, .slice none 0 0] 25 :: box b_14 [.int .i64 a.States, v_1, v_3, v_5] 25 :: fz fGEdge.rep v_5 a.Edges :: fz fInt.rep v_3 a.Ends :: fz fInt.rep v_1 a.Starts :: L) := hO
          obtain ⟨hs_123, h⟩ := h
          refine hl_h (o_appendR (l2 := [((nAlt a xnone).1)]) hO 8 rfl rfl Try.underlying87 Try.type25 rfl rfl rfl rfl rfl rfl rfl (hO.rsrc 0 rfl) hs_123 (le63 hs_123 rfl)) rfl ?_
          rintro v_122 H_121 hO
          replace hO : Own H_121 Z_117 (ownR rGNfa 25 v_111 [((nAlt a xnone).1)] :: box b_106 [.int .i64 (((nAlt a xnone).1).States), v_99, v_100, v_101] 25 :: fz fInt.rep v_99 (((nAlt a xnone).1).Starts) :: fz fInt.rep v_100 (((nAlt a xnone).1).Ends) :: fz fGEdge.rep v_101 (((nAlt a xnone).1).Edges) :: fz fGEdge.rep v_84 xnone.Edges :: fz fInt.rep v_83 xnone.Ends :: fz fInt.rep v_82 xnone.Starts :: ownR rGNfa 25 v_122 (parts2 ++ [((nAlt a xnone).1)]) :: box b_36 [.int .i64 xnone.States, v_82, v_83, v_84] 25 :: box b_16 [.int .i64 (0 : Int), .slice none 0 0, .slice none 0 0, .slice none 0 0] 25 :: box b_14 [.int .i64 a.States, v_1, v_3, v_5] 25 :: fz fGEdge.rep v_5 a.Edges :: fz fInt.rep v_3 a.Ends :: fz fInt.rep v_1 a.Starts :: L) := hO
          refine hl_v (v_assign rfl) rfl ?_
          refine hl_nil ?_
          refine blockQ_n ?_
          refine thenQ_n ?_
          refine hw_region ?_
          obtain ⟨hs_124, h⟩ := h
          refine hl_v (v_add rfl rfl hs_124) rfl ?_
          refine hl_v (v_move rfl) rfl ?_
          refine hl_nil ?_
          refine thenQ_n ?_
          exact ⟨_, _, (ai_cons (t := 3) rfl (ai_cons (t := 6) rfl (ai_cons (t := 9) rfl (ai_cons (t := 11) rfl (ai_cons (t := 76) rfl (ai_cons (t := 77) rfl ai_nil)))))), ⟨xnone, (parts2 ++ [((nAlt a xnone).1)]), k + 1, v_82, v_83, v_84, v_122, _, rfl, rfl, hZ, h, (Own.sel (Ls := [ownR rGNfa 25 v_111 [((nAlt a xnone).1)], box b_106 [.int .i64 (((nAlt a xnone).1).States), v_99, v_100, v_101] 25, fz fInt.rep v_99 (((nAlt a xnone).1).Starts), fz fInt.rep v_100 (((nAlt a xnone).1).Ends), fz fGEdge.rep v_101 (((nAlt a xnone).1).Edges), fz fGEdge.rep v_84 xnone.Edges, fz fInt.rep v_83 xnone.Ends, fz fInt.rep v_82 xnone.Starts, ownR rGNfa 25 v_122 (parts2 ++ [((nAlt a xnone).1)]), box b_36 [.int .i64 xnone.States, v_82, v_83, v_84] 25, box b_16 [.int .i64 (0 : Int), .slice none 0 0, .slice none 0 0, .slice none 0 0] 25, box b_14 [.int .i64 a.States, v_1, v_3, v_5] 25, fz fGEdge.rep v_5 a.Edges, fz fInt.rep v_3 a.Ends, fz fInt.rep v_1 a.Starts]) (L := L) [5, 6, 7, 8, 9, 10, 11, 12, 13, 14] rfl hO)⟩, (by have hq := of_decide_eq_true hc_98; omega)⟩
      · replace h := ite_f h hc_98
        refine hw_exit ?_
        refine thenQ_e ?_
        refine thenQ_e ?_
        refine blockQ_hit ?_
        refine thenQ_n ?_
        refine hw_seq ?_
        refine hw_region ?_
        refine hl_v (v_loadA Try.isAgg25 Try.sizeOf25 rfl (Blk.at0 (hO.box 4 rfl)) rfl) rfl ?_
        refine hl_h (o_alloc (cs := [.int .i64 (0 : Int), .slice none 0 0, .slice none 0 0, .slice none 0 0]) hO Try.zeroValue25 rfl) rfl ?_
        rintro _ H_125 ⟨b_126, rfl, hO⟩
        replace hO : Own H_125 Z_90 (box b_126 [.int .i64 (0 : Int), .slice none 0 0, .slice none 0 0, .slice none 0 0] 25 :: fz fGEdge.rep v_84 xnone.Edges :: fz fInt.rep v_83 xnone.Ends :: fz fInt.rep v_82 xnone.Starts :: ownR rGNfa 25 v_85 parts2 :: box b_36 [.int .i64 xnone.States, v_82, v_83, v_84] 25 :: box b_16 [.int .i64 (0 : Int), .slice none 0 0, .slice none 0 0, .slice none 0 0] 25 :: box b_14 [.int .i64 a.States, v_1, v_3, v_5] 25 :: fz fGEdge.rep v_5 a.Edges :: fz fInt.rep v_3 a.Ends :: fz fInt.rep v_1 a.Starts :: L) := hO
        refine hl_s (o_storeA (us := [.int .i64 xnone.States, v_82, v_83, v_84]) hO 0 rfl Try.sizeOf25 rfl rfl rfl rfl (by simp only [List.forall_mem_cons]; exact ⟨rfl, (Sl.one (hO.fsl 3 rfl)), (Sl.one (hO.fsl 2 rfl)), (Sl.one (hO.fsl 1 rfl)), by simp⟩)) ?_
        rintro _ H_127 hO
        replace hO : Own H_127 Z_90 (box b_126 [.int .i64 xnone.States, v_82, v_83, v_84] 25 :: fz fGEdge.rep v_84 xnone.Edges :: fz fInt.rep v_83 xnone.Ends :: fz fInt.rep v_82 xnone.Starts :: ownR rGNfa 25 v_85 parts2 :: box b_36 [.int .i64 xnone.States, v_82, v_83, v_84] 25 :: box b_16 [.int .i64 (0 : Int), .slice none 0 0, .slice none 0 0, .slice none 0 0] 25 :: box b_14 [.int .i64 a.States, v_1, v_3, v_5] 25 :: fz fGEdge.rep v_5 a.Edges :: fz fInt.rep v_3 a.Ends :: fz fInt.rep v_1 a.Starts :: L) := hO
        refine hl_v (v_assign rfl) rfl ?_
        refine hl_nil ?_
        refine thenQ_n ?_
        refine hw_sub _ (ai_cons (t := 6) rfl (ai_cons (t := 11) rfl (ai_cons (t := 16) rfl (ai_cons (t := 17) rfl ai_nil)))) ?_
        obtain ⟨K_131, h, hk_134⟩ := h
        refine hw_jn (fun g' H' => ∃ (n : GNfa) (e : Int) (v_128 : Value) (v_129 : Value) (v_130 : Value) (Z' : Nat → Prop), g' = [(6, ptr b_16 0), (16, ptr b_126 0), (17, .int .i64 e)] ∧ (∀ b, Z b → Z' b) ∧ K_131 n e ∧ Own H' Z' (fz fGEdge.rep v_130 n.Edges :: fz fInt.rep v_129 n.Ends :: fz fInt.rep v_128 n.Starts :: box b_126 [.int .i64 n.States, v_128, v_129, v_130] 25 :: box b_16 [.int .i64 (0 : Int), .slice none 0 0, .slice none 0 0, .slice none 0 0] 25 :: L)) ?_ ?_
        · skip
          refine hw_seq ?_
          obtain ⟨Z_136, hz_135, hO⟩ := hO.freezeR (i := 4) rfl
          replace hZ := fun b hb => hz_135 b (hZ b hb)
          replace hO : Own H_127 Z_136 (box b_126 [.int .i64 xnone.States, v_82, v_83, v_84] 25 :: fz fGEdge.rep v_84 xnone.Edges :: fz fInt.rep v_83 xnone.Ends :: fz fInt.rep v_82 xnone.Starts :: fz rGNfa v_85 parts2 :: box b_36 [.int .i64 xnone.States, v_82, v_83, v_84] 25 :: box b_16 [.int .i64 (0 : Int), .slice none 0 0, .slice none 0 0, .slice none 0 0] 25 :: box b_14 [.int .i64 a.States, v_1, v_3, v_5] 25 :: fz fGEdge.rep v_5 a.Edges :: fz fInt.rep v_3 a.Ends :: fz fInt.rep v_1 a.Starts :: L) := hO
          refine hw_region ?_
          refine hl_v (v_move rfl) rfl ?_
          have hln_137 := Sl.cap (hO.fsl 4 rfl)
          refine hl_v (v_lenL rfl Try.underlying87 rfl (hO.fsl 4 rfl)) rfl ?_
          refine hl_v (v_move rfl) rfl ?_
          refine hl_nil ?_
          refine thenQ_n ?_
          refine hw_sub _ (ai_cons (t := 6) rfl (ai_cons (t := 16) rfl (ai_cons (t := 17) rfl (ai_cons (t := 95) rfl (ai_cons (t := 96) rfl (ai_cons (t := 97) rfl ai_nil)))))) ?_
          refine hw_block ?_
          obtain ⟨I_141, h, hI_143⟩ := h
          refine hw_lp (fun n' g' H' => ∃ (n2 : GNfa) (e2 : Int) (k2 : Nat) (v_138 : Value) (v_139 : Value) (v_140 : Value) (Z' : Nat → Prop), n' = parts2.length - k2 ∧ g' = [(6, ptr b_16 0), (16, ptr b_126 0), (17, .int .i64 e2), (95, v_85), (96, .int .i64 (parts2.length : Int)), (97, .int .i64 (k2 : Int))] ∧ (∀ b, Z b → Z' b) ∧ I_141 n2 e2 k2 ∧ k2 ≤ parts2.length ∧ Own H' Z' (fz fGEdge.rep v_140 n2.Edges :: fz fInt.rep v_139 n2.Ends :: fz fInt.rep v_138 n2.Starts :: box b_126 [.int .i64 n2.States, v_138, v_139, v_140] 25 :: fz rGNfa v_85 parts2 :: box b_16 [.int .i64 (0 : Int), .slice none 0 0, .slice none 0 0, .slice none 0 0] 25 :: L)) _ _ (ai_cons (t := 6) rfl (ai_cons (t := 16) rfl (ai_cons (t := 17) rfl (ai_cons (t := 95) rfl (ai_cons (t := 96) rfl (ai_cons (t := 97) rfl ai_nil)))))) ⟨xnone, 0, 0, v_82, v_83, v_84, _, rfl, rfl, hZ, h, by omega, (Own.sel (Ls := [box b_126 [.int .i64 xnone.States, v_82, v_83, v_84] 25, fz fGEdge.rep v_84 xnone.Edges, fz fInt.rep v_83 xnone.Ends, fz fInt.rep v_82 xnone.Starts, fz rGNfa v_85 parts2, box b_36 [.int .i64 xnone.States, v_82, v_83, v_84] 25, box b_16 [.int .i64 (0 : Int), .slice none 0 0, .slice none 0 0, .slice none 0 0] 25, box b_14 [.int .i64 a.States, v_1, v_3, v_5] 25, fz fGEdge.rep v_5 a.Edges, fz fInt.rep v_3 a.Ends, fz fInt.rep v_1 a.Starts]) (L := L) [1, 2, 3, 0, 4, 6] rfl hO)⟩ ?_
          rintro _ _ H_144 ⟨n2, e2, k2, v_138, v_139, v_140, Z_145, rfl, rfl, hZ, h, hb_146, hO⟩
          replace h := hI_143 n2 e2 k2 h hb_146
          refine hw_seq ?_
          refine hw_region ?_
          refine hl_v (v_lss rfl rfl) rfl ?_
          refine hl_nil ?_
          refine thenQ_n ?_
          refine hw_sub _ (ai_cons (t := 6) rfl (ai_cons (t := 16) rfl (ai_cons (t := 17) rfl (ai_cons (t := 95) rfl (ai_cons (t := 96) rfl (ai_cons (t := 97) rfl (ai_cons (t := 98) rfl ai_nil))))))) ?_
          refine hw_seq ?_
          refine hw_cond rfl (fun hc_147 => ?_) (fun hc_147 => ?_)
          · replace h := ite_t h hc_147
            refine hw_skip ?_
            refine thenQ_n ?_
            refine hw_seq ?_
            refine hw_block ?_
            refine hw_seq ?_
            refine hw_region ?_
            refine hl_v (v_ixL Try.underlying87 Try.sizeOf25 rfl rfl (hO.fsl 4 rfl) (by exact ⟨Int.natCast_nonneg _, of_decide_eq_true hc_147⟩)) rfl ?_
            obtain ⟨cs_154, ha_155, v_148, v_150, v_152, rfl, he_149, he_151, he_153⟩ := sl_rec (hO.fsl 4 rfl) (by exact ⟨Int.natCast_nonneg _, of_decide_eq_true hc_147⟩)
            replace hO : Own H_144 Z_145 (fz fInt.rep v_148 ((parts2.getD k2 default).Starts) :: fz fGEdge.rep v_140 n2.Edges :: fz fInt.rep v_139 n2.Ends :: fz fInt.rep v_138 n2.Starts :: box b_126 [.int .i64 n2.States, v_138, v_139, v_140] 25 :: fz rGNfa v_85 parts2 :: box b_16 [.int .i64 (0 : Int), .slice none 0 0, .slice none 0 0, .slice none 0 0] 25 :: L) := hO.dup ⟨he_149, fun _ h => h⟩
            replace hO : Own H_144 Z_145 (fz fInt.rep v_150 ((parts2.getD k2 default).Ends) :: fz fInt.rep v_148 ((parts2.getD k2 default).Starts) :: fz fGEdge.rep v_140 n2.Edges :: fz fInt.rep v_139 n2.Ends :: fz fInt.rep v_138 n2.Starts :: box b_126 [.int .i64 n2.States, v_138, v_139, v_140] 25 :: fz rGNfa v_85 parts2 :: box b_16 [.int .i64 (0 : Int), .slice none 0 0, .slice none 0 0, .slice none 0 0] 25 :: L) := hO.dup ⟨he_151, fun _ h => h⟩
            replace hO : Own H_144 Z_145 (fz fGEdge.rep v_152 ((parts2.getD k2 default).Edges) :: fz fInt.rep v_150 ((parts2.getD k2 default).Ends) :: fz fInt.rep v_148 ((parts2.getD k2 default).Starts) :: fz fGEdge.rep v_140 n2.Edges :: fz fInt.rep v_139 n2.Ends :: fz fInt.rep v_138 n2.Starts :: box b_126 [.int .i64 n2.States, v_138, v_139, v_140] 25 :: fz rGNfa v_85 parts2 :: box b_16 [.int .i64 (0 : Int), .slice none 0 0, .slice none 0 0, .slice none 0 0] 25 :: L) := hO.dup ⟨he_153, fun _ h => h⟩
            refine hl_v (v_loadA Try.isAgg25 Try.sizeOf25 rfl ha_155 rfl) rfl ?_
            refine hl_h (o_alloc (cs := [.int .i64 (0 : Int), .slice none 0 0, .slice none 0 0, .slice none 0 0]) hO Try.zeroValue25 rfl) rfl ?_
            rintro _ H_157 ⟨b_158, rfl, hO⟩
            replace hO : Own H_157 Z_145 (box b_158 [.int .i64 (0 : Int), .slice none 0 0, .slice none 0 0, .slice none 0 0] 25 :: fz fGEdge.rep v_152 ((parts2.getD k2 default).Edges) :: fz fInt.rep v_150 ((parts2.getD k2 default).Ends) :: fz fInt.rep v_148 ((parts2.getD k2 default).Starts) :: fz fGEdge.rep v_140 n2.Edges :: fz fInt.rep v_139 n2.Ends :: fz fInt.rep v_138 n2.Starts :: box b_126 [.int .i64 n2.States, v_138, v_139, v_140] 25 :: fz rGNfa v_85 parts2 :: box b_16 [.int .i64 (0 : Int), .slice none 0 0, .slice none 0 0, .slice none 0 0] 25 :: L) := hO
            refine hl_s (o_storeA (us := [.int .i64 ((parts2.getD k2 default).States), v_148, v_150, v_152]) hO 0 rfl Try.sizeOf25 rfl rfl rfl rfl (by simp only [List.forall_mem_cons]; exact ⟨rfl, (Sl.one (hO.fsl 3 rfl)), (Sl.one (hO.fsl 2 rfl)), (Sl.one (hO.fsl 1 rfl)), by simp⟩)) ?_
            rintro _ H_159 hO
            replace hO : Own H_159 Z_145 (box b_158 [.int .i64 ((parts2.getD k2 default).States), v_148, v_150, v_152] 25 :: fz fGEdge.rep v_152 ((parts2.getD k2 default).Edges) :: fz fInt.rep v_150 ((parts2.getD k2 default).Ends) :: fz fInt.rep v_148 ((parts2.getD k2 default).Starts) :: fz fGEdge.rep v_140 n2.Edges :: fz fInt.rep v_139 n2.Ends :: fz fInt.rep v_138 n2.Starts :: box b_126 [.int .i64 n2.States, v_138, v_139, v_140] 25 :: fz rGNfa v_85 parts2 :: box b_16 [.int .i64 (0 : Int), .slice none 0 0, .slice none 0 0, .slice none 0 0] 25 :: L) := hO
            refine hl_nil ?_
            refine thenQ_n ?_
            refine hw_sub _ (ai_cons (t := 6) rfl (ai_cons (t := 16) rfl (ai_cons (t := 19) rfl (ai_cons (t := 95) rfl (ai_cons (t := 96) rfl (ai_cons (t := 97) rfl ai_nil)))))) ?_
            refine hw_seq ?_
            refine hw_region ?_
            refine hl_v (v_loadA Try.isAgg25 Try.sizeOf25 rfl (Blk.at0 (hO.box 7 rfl)) rfl) rfl ?_
            refine hl_v (v_loadA Try.isAgg25 Try.sizeOf25 rfl (Blk.at0 (hO.box 0 rfl)) rfl) rfl ?_
            refine hl_h (h_call Try.call17 (evs_cons rfl (evs_cons rfl evs_nil)) (nfaCat_spec (a0 := n2) (a1 := (parts2.getD k2 default)) hO (Fz.of (i := 6) rfl) (Fz.of (i := 5) rfl) (Fz.of (i := 4) rfl) (Fz.of (i := 3) rfl) (Fz.of (i := 2) rfl) (Fz.of (i := 1) rfl))) rfl ?_
            rintro vv H_163 ⟨Z_164, v_160, v_161, v_162, hz_165, hv, hO⟩
            obtain rfl := hv.symm
            replace hZ := fun b hb => hz_165 b (hZ b hb)
            replace hO : Own H_163 Z_164 (own fInt 3 v_160 (((nCat n2 (parts2.getD k2 default)).1).Starts) :: own fInt 3 v_161 (((nCat n2 (parts2.getD k2 default)).1).Ends) :: own fGEdge 69 v_162 (((nCat n2 (parts2.getD k2 default)).1).Edges) :: box b_158 [.int .i64 ((parts2.getD k2 default).States), v_148, v_150, v_152] 25 :: fz fGEdge.rep v_152 ((parts2.getD k2 default).Edges) :: fz fInt.rep v_150 ((parts2.getD k2 default).Ends) :: fz fInt.rep v_148 ((parts2.getD k2 default).Starts) :: fz fGEdge.rep v_140 n2.Edges :: fz fInt.rep v_139 n2.Ends :: fz fInt.rep v_138 n2.Starts :: box b_126 [.int .i64 n2.States, v_138, v_139, v_140] 25 :: fz rGNfa v_85 parts2 :: box b_16 [.int .i64 (0 : Int), .slice none 0 0, .slice none 0 0, .slice none 0 0] 25 :: L) := hO
            refine hl_v (v_move rfl) rfl ?_
            refine hl_v (v_extract rfl rfl) rfl ?_
            refine hl_v (v_extract rfl rfl) rfl ?_
            refine hl_s (o_storeA (us := [.int .i64 (((nCat n2 (parts2.getD k2 default)).1).States), v_160, v_161, v_162]) hO 10 rfl Try.sizeOf25 rfl rfl rfl rfl (by simp only [List.forall_mem_cons]; exact ⟨rfl, (Sl.one (hO.osl 0 rfl)), (Sl.one (hO.osl 1 rfl)), (Sl.one (hO.osl 2 rfl)), by simp⟩)) ?_
            rintro _ H_166 hO
            replace hO : Own H_166 Z_164 (own fInt 3 v_160 (((nCat n2 (parts2.getD k2 default)).1).Starts) :: own fInt 3 v_161 (((nCat n2 (parts2.getD k2 default)).1).Ends) :: own fGEdge 69 v_162 (((nCat n2 (parts2.getD k2 default)).1).Edges) :: box b_158 [.int .i64 ((parts2.getD k2 default).States), v_148, v_150, v_152] 25 :: fz fGEdge.rep v_152 ((parts2.getD k2 default).Edges) :: fz fInt.rep v_150 ((parts2.getD k2 default).Ends) :: fz fInt.rep v_148 ((parts2.getD k2 default).Starts) :: fz fGEdge.rep v_140 n2.Edges :: fz fInt.rep v_139 n2.Ends :: fz fInt.rep v_138 n2.Starts :: box b_126 [.int .i64 (((nCat n2 (parts2.getD k2 default)).1).States), v_160, v_161, v_162] 25 :: fz rGNfa v_85 parts2 :: box b_16 [.int .i64 (0 : Int), .slice none 0 0, .slice none 0 0, .slice none 0 0] 25 :: L) := hO
            refine hl_v (v_assign rfl) rfl ?_
            refine hl_nil ?_
            refine thenQ_n ?_
            refine hw_sub _ (ai_cons (t := 6) rfl (ai_cons (t := 16) rfl (ai_cons (t := 17) rfl (ai_cons (t := 95) rfl (ai_cons (t := 96) rfl (ai_cons (t := 97) rfl ai_nil)))))) ?_
            refine hw_seq ?_
            refine hw_region ?_
            refine hl_v (v_move rfl) rfl ?_
            refine hl_v (v_neq rfl rfl) rfl ?_
            refine hl_nil ?_
            refine thenQ_n ?_
            refine hw_sub _ (ai_cons (t := 6) rfl (ai_cons (t := 16) rfl (ai_cons (t := 17) rfl (ai_cons (t := 95) rfl (ai_cons (t := 96) rfl (ai_cons (t := 97) rfl (ai_cons (t := 108) rfl ai_nil))))))) ?_
            refine hw_cond rfl (fun hc_167 => ?_) (fun hc_167 => ?_)
            · replace h := ite_t h hc_167
              refine hw_exit ?_
              refine blockQ_miss rfl ?_
              refine thenQ_e ?_
              refine thenQ_e ?_
              refine blockQ_hit ?_
              refine thenQ_n ?_
              obtain ⟨Z_169, hz_168, hO⟩ := hO.freeze (i := 0) rfl
              replace hZ := fun b hb => hz_168 b (hZ b hb)
              replace hO : Own H_166 Z_169 (fz fInt.rep v_160 (((nCat n2 (parts2.getD k2 default)).1).Starts) :: own fInt 3 v_161 (((nCat n2 (parts2.getD k2 default)).1).Ends) :: own fGEdge 69 v_162 (((nCat n2 (parts2.getD k2 default)).1).Edges) :: box b_158 [.int .i64 ((parts2.getD k2 default).States), v_148, v_150, v_152] 25 :: fz fGEdge.rep v_152 ((parts2.getD k2 default).Edges) :: fz fInt.rep v_150 ((parts2.getD k2 default).Ends) :: fz fInt.rep v_148 ((parts2.getD k2 default).Starts) :: fz fGEdge.rep v_140 n2.Edges :: fz fInt.rep v_139 n2.Ends :: fz fInt.rep v_138 n2.Starts :: box b_126 [.int .i64 (((nCat n2 (parts2.getD k2 default)).1).States), v_160, v_161, v_162] 25 :: fz rGNfa v_85 parts2 :: box b_16 [.int .i64 (0 : Int), .slice none 0 0, .slice none 0 0, .slice none 0 0] 25 :: L) := hO
              obtain ⟨Z_171, hz_170, hO⟩ := hO.freeze (i := 1) rfl
              replace hZ := fun b hb => hz_170 b (hZ b hb)
              replace hO : Own H_166 Z_171 (fz fInt.rep v_160 (((nCat n2 (parts2.getD k2 default)).1).Starts) :: fz fInt.rep v_161 (((nCat n2 (parts2.getD k2 default)).1).Ends) :: own fGEdge 69 v_162 (((nCat n2 (parts2.getD k2 default)).1).Edges) :: box b_158 [.int .i64 ((parts2.getD k2 default).States), v_148, v_150, v_152] 25 :: fz fGEdge.rep v_152 ((parts2.getD k2 default).Edges) :: fz fInt.rep v_150 ((parts2.getD k2 default).Ends) :: fz fInt.rep v_148 ((parts2.getD k2 default).Starts) :: fz fGEdge.rep v_140 n2.Edges :: fz fInt.rep v_139 n2.Ends :: fz fInt.rep v_138 n2.Starts :: box b_126 [.int .i64 (((nCat n2 (parts2.getD k2 default)).1).States), v_160, v_161, v_162] 25 :: fz rGNfa v_85 parts2 :: box b_16 [.int .i64 (0 : Int), .slice none 0 0, .slice none 0 0, .slice none 0 0] 25 :: L) := hO
              obtain ⟨Z_173, hz_172, hO⟩ := hO.freeze (i := 2) rfl
              replace hZ := fun b hb => hz_172 b (hZ b hb)
              replace hO : Own H_166 Z_173 (fz fInt.rep v_160 (((nCat n2 (parts2.getD k2 default)).1).Starts) :: fz fInt.rep v_161 (((nCat n2 (parts2.getD k2 default)).1).Ends) :: fz fGEdge.rep v_162 (((nCat n2 (parts2.getD k2 default)).1).Edges) :: box b_158 [.int .i64 ((parts2.getD k2 default).States), v_148, v_150, v_152] 25 :: fz fGEdge.rep v_152 ((parts2.getD k2 default).Edges) :: fz fInt.rep v_150 ((parts2.getD k2 default).Ends) :: fz fInt.rep v_148 ((parts2.getD k2 default).Starts) :: fz fGEdge.rep v_140 n2.Edges :: fz fInt.rep v_139 n2.Ends :: fz fInt.rep v_138 n2.Starts :: box b_126 [.int .i64 (((nCat n2 (parts2.getD k2 default)).1).States), v_160, v_161, v_162] 25 :: fz rGNfa v_85 parts2 :: box b_16 [.int .i64 (0 : Int), .slice none 0 0, .slice none 0 0, .slice none 0 0] 25 :: L) := hO
              refine ⟨_, (ai_cons (t := 6) rfl (ai_cons (t := 16) rfl (ai_cons (t := 17) rfl ai_nil))), ⟨((nCat n2 (parts2.getD k2 default)).1), (nCat n2 (parts2.getD k2 default)).2, v_160, v_161, v_162, _, rfl, hZ, h, (Own.sel (Ls := [fz fInt.rep v_160 (((nCat n2 (parts2.getD k2 default)).1).Starts), fz fInt.rep v_161 (((nCat n2 (parts2.getD k2 default)).1).Ends), fz fGEdge.rep v_162 (((nCat n2 (parts2.getD k2 default)).1).Edges), box b_158 [.int .i64 ((parts2.getD k2 default).States), v_148, v_150, v_152] 25, fz fGEdge.rep v_152 ((parts2.getD k2 default).Edges), fz fInt.rep v_150 ((parts2.getD k2 default).Ends), fz fInt.rep v_148 ((parts2.getD k2 default).Starts), fz fGEdge.rep v_140 n2.Edges, fz fInt.rep v_139 n2.Ends, fz fInt.rep v_138 n2.Starts, box b_126 [.int .i64 (((nCat n2 (parts2.getD k2 default)).1).States), v_160, v_161, v_162] 25, fz rGNfa v_85 parts2, box b_16 [.int .i64 (0 : Int), .slice none 0 0, .slice none 0 0, .slice none 0 0] 25]) (L := L) [2, 1, 0, 10, 12] rfl hO)⟩⟩
            · replace h := ite_f h hc_167
              refine hw_skip ?_
              refine blockQ_n ?_
              refine thenQ_n ?_
              refine hw_region ?_
              refine hl_v (v_add rfl rfl (by have hq := of_decide_eq_true hc_147; have hm := hln_137; constructor <;> omega)) rfl ?_
              refine hl_v (v_move rfl) rfl ?_
              refine hl_nil ?_
              refine thenQ_n ?_
              obtain ⟨Z_175, hz_174, hO⟩ := hO.freeze (i := 0) rfl
              replace hZ := fun b hb => hz_174 b (hZ b hb)
              replace hO : Own H_166 Z_175 (fz fInt.rep v_160 (((nCat n2 (parts2.getD k2 default)).1).Starts) :: own fInt 3 v_161 (((nCat n2 (parts2.getD k2 default)).1).Ends) :: own fGEdge 69 v_162 (((nCat n2 (parts2.getD k2 default)).1).Edges) :: box b_158 [.int .i64 ((parts2.getD k2 default).States), v_148, v_150, v_152] 25 :: fz fGEdge.rep v_152 ((parts2.getD k2 default).Edges) :: fz fInt.rep v_150 ((parts2.getD k2 default).Ends) :: fz fInt.rep v_148 ((parts2.getD k2 default).Starts) :: fz fGEdge.rep v_140 n2.Edges :: fz fInt.rep v_139 n2.Ends :: fz fInt.rep v_138 n2.Starts :: box b_126 [.int .i64 (((nCat n2 (parts2.getD k2 default)).1).States), v_160, v_161, v_162] 25 :: fz rGNfa v_85 parts2 :: box b_16 [.int .i64 (0 : Int), .slice none 0 0, .slice none 0 0, .slice none 0 0] 25 :: L) := hO
              obtain ⟨Z_177, hz_176, hO⟩ := hO.freeze (i := 1) rfl
              replace hZ := fun b hb => hz_176 b (hZ b hb)
              replace hO : Own H_166 Z_177 (fz fInt.rep v_160 (((nCat n2 (parts2.getD k2 default)).1).Starts) :: fz fInt.rep v_161 (((nCat n2 (parts2.getD k2 default)).1).Ends) :: own fGEdge 69 v_162 (((nCat n2 (parts2.getD k2 default)).1).Edges) :: box b_158 [.int .i64 ((parts2.getD k2 default).States), v_148, v_150, v_152] 25 :: fz fGEdge.rep v_152 ((parts2.getD k2 default).Edges) :: fz fInt.rep v_150 ((parts2.getD k2 default).Ends) :: fz fInt.rep v_148 ((parts2.getD k2 default).Starts) :: fz fGEdge.rep v_140 n2.Edges :: fz fInt.rep v_139 n2.Ends :: fz fInt.rep v_138 n2.Starts :: box b_126 [.int .i64 (((nCat n2 (parts2.getD k2 default)).1).States), v_160, v_161, v_162] 25 :: fz rGNfa v_85 parts2 :: box b_16 [.int .i64 (0 : Int), .slice none 0 0, .slice none 0 0, .slice none 0 0] 25 :: L) := hO
              obtain ⟨Z_179, hz_178, hO⟩ := hO.freeze (i := 2) rfl
              replace hZ := fun b hb => hz_178 b (hZ b hb)
              replace hO : Own H_166 Z_179 (fz fInt.rep v_160 (((nCat n2 (parts2.getD k2 default)).1).Starts) :: fz fInt.rep v_161 (((nCat n2 (parts2.getD k2 default)).1).Ends) :: fz fGEdge.rep v_162 (((nCat n2 (parts2.getD k2 default)).1).Edges) :: box b_158 [.int .i64 ((parts2.getD k2 default).States), v_148, v_150, v_152] 25 :: fz fGEdge.rep v_152 ((parts2.getD k2 default).Edges) :: fz fInt.rep v_150 ((parts2.getD k2 default).Ends) :: fz fInt.rep v_148 ((parts2.getD k2 default).Starts) :: fz fGEdge.rep v_140 n2.Edges :: fz fInt.rep v_139 n2.Ends :: fz fInt.rep v_138 n2.Starts :: box b_126 [.int .i64 (((nCat n2 (parts2.getD k2 default)).1).States), v_160, v_161, v_162] 25 :: fz rGNfa v_85 parts2 :: box b_16 [.int .i64 (0 : Int), .slice none 0 0, .slice none 0 0, .slice none 0 0] 25 :: L) := hO
              exact ⟨_, _, (ai_cons (t := 6) rfl (ai_cons (t := 16) rfl (ai_cons (t := 17) rfl (ai_cons (t := 95) rfl (ai_cons (t := 96) rfl (ai_cons (t := 97) rfl ai_nil)))))), ⟨((nCat n2 (parts2.getD k2 default)).1), (nCat n2 (parts2.getD k2 default)).2, k2 + 1, v_160, v_161, v_162, _, rfl, rfl, hZ, h, (by have hq := of_decide_eq_true hc_147; omega), (Own.sel (Ls := [fz fInt.rep v_160 (((nCat n2 (parts2.getD k2 default)).1).Starts), fz fInt.rep v_161 (((nCat n2 (parts2.getD k2 default)).1).Ends), fz fGEdge.rep v_162 (((nCat n2 (parts2.getD k2 default)).1).Edges), box b_158 [.int .i64 ((parts2.getD k2 default).States), v_148, v_150, v_152] 25, fz fGEdge.rep v_152 ((parts2.getD k2 default).Edges), fz fInt.rep v_150 ((parts2.getD k2 default).Ends), fz fInt.rep v_148 ((parts2.getD k2 default).Starts), fz fGEdge.rep v_140 n2.Edges, fz fInt.rep v_139 n2.Ends, fz fInt.rep v_138 n2.Starts, box b_126 [.int .i64 (((nCat n2 (parts2.getD k2 default)).1).States), v_160, v_161, v_162] 25, fz rGNfa v_85 parts2, box b_16 [.int .i64 (0 : Int), .slice none 0 0, .slice none 0 0, .slice none 0 0] 25]) (L := L) [2, 1, 0, 10, 11, 12] rfl hO)⟩, (by have hq := of_decide_eq_true hc_147; omega)⟩
          · replace h := ite_f h hc_147
            refine hw_exit ?_
            refine thenQ_e ?_
            refine thenQ_e ?_
            refine blockQ_hit ?_
            refine thenQ_n ?_
            refine ⟨_, (ai_cons (t := 6) rfl (ai_cons (t := 16) rfl (ai_cons (t := 17) rfl ai_nil))), ⟨n2, e2, v_138, v_139, v_140, _, rfl, hZ, h, (Own.sel (Ls := [fz fGEdge.rep v_140 n2.Edges, fz fInt.rep v_139 n2.Ends, fz fInt.rep v_138 n2.Starts, box b_126 [.int .i64 n2.States, v_138, v_139, v_140] 25, fz rGNfa v_85 parts2, box b_16 [.int .i64 (0 : Int), .slice none 0 0, .slice none 0 0, .slice none 0 0] 25]) (L := L) [0, 1, 2, 3, 5] rfl hO)⟩⟩
        · rintro _ H_132 ⟨n, e, v_128, v_129, v_130, Z_133, rfl, hZ, h, hO⟩
          replace h := hk_134 n e h
          refine hw_seq ?_
          refine hw_region ?_
          refine hl_v (v_loadA Try.isAgg25 Try.sizeOf25 rfl (Blk.at0 (hO.box 3 rfl)) rfl) rfl ?_
          refine hl_v (v_move rfl) rfl ?_
          refine hl_s (o_storeA (us := [.int .i64 n.States, v_128, v_129, v_130]) hO 4 rfl Try.sizeOf25 rfl rfl rfl rfl (by simp only [List.forall_mem_cons]; exact ⟨rfl, (Sl.one (hO.fsl 2 rfl)), (Sl.one (hO.fsl 1 rfl)), (Sl.one (hO.fsl 0 rfl)), by simp⟩)) ?_
          rintro _ H_180 hO
          replace hO : Own H_180 Z_133 (fz fGEdge.rep v_130 n.Edges :: fz fInt.rep v_129 n.Ends :: fz fInt.rep v_128 n.Starts :: box b_126 [.int .i64 n.States, v_128, v_129, v_130] 25 :: box b_16 [.int .i64 n.States, v_128, v_129, v_130] 25 :: L) := hO
          refine hl_v (v_assign rfl) rfl ?_
          refine hl_nil ?_
          refine thenQ_n ?_
          refine hw_sub _ (ai_cons (t := 6) rfl (ai_cons (t := 7) rfl ai_nil)) ?_
          refine hw_ret ?_
          refine ret_i _ (ra_c rfl (fun w hw => run_loadVar_at (cs := [.int .i64 n.States, v_128, v_129, v_130]) Try.isAgg25 Try.sizeOf25 (Blk.at0 (hO.box 4 rfl)) rfl w hw) (ra_t rfl ra_nil)) ?_
          exact ⟨_, n, e, v_128, v_129, v_130, hZ, h, rfl, (Own.sel (Ls := [fz fGEdge.rep v_130 n.Edges, fz fInt.rep v_129 n.Ends, fz fInt.rep v_128 n.Starts, box b_126 [.int .i64 n.States, v_128, v_129, v_130] 25, box b_16 [.int .i64 n.States, v_128, v_129, v_130] 25]) (L := L) [2, 1, 0] rfl hO)⟩
theorem nfaRep_spec {a0 : GNfa} {a1 : Int} {a2 : Int} {v_1 : Value} {v_3 : Value} {v_5 : Value} {L : List As} {H : Heap} {Z : Nat → Prop} (hO : Own H Z (L)) (hf_2 : Fz fInt.rep L v_1 a0.Starts) (hf_4 : Fz fInt.rep L v_3 a0.Ends) (hf_6 : Fz fGEdge.rep L v_5 a0.Edges) : HC Try.prog 24 [.agg [.int .i64 a0.States, v_1, v_3, v_5].toArray, .int .i64 a1, .int .i64 a2] H (fun v H' => ∃ (Z' : Nat → Prop) (v_7 : Value) (v_9 : Value) (v_11 : Value), (∀ b, Z b → Z' b) ∧ v = .tuple #[.agg [.int .i64 ((nRep a0 a1 a2).1).States, v_7, v_9, v_11].toArray, .int .i64 ((nRep a0 a1 a2).2)] ∧ Own H' Z' (fz fInt.rep v_7 ((nRep a0 a1 a2).1).Starts :: fz fInt.rep v_9 ((nRep a0 a1 a2).1).Ends :: fz fGEdge.rep v_11 ((nRep a0 a1 a2).1).Edges :: L)) := by
  refine (nfaRep_ok (a := a0) (least := a1) (most := a2) (@nfaRep_wp a0 a1 a2) hO hf_2 hf_4 hf_6).mono ?_
  rintro v H' ⟨Z', r0, r1, v_7, v_9, v_11, hz, hq, hv, hO'⟩
  obtain ⟨rfl, rfl⟩ := hq
  exact ⟨Z', v_7, v_9, v_11, hz, hv, hO'⟩

end Go.Proofs.Ytbaciogbhjcdoaa
