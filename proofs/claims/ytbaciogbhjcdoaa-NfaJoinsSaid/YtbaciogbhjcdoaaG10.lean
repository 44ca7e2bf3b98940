/- Walks: functions do as their plain formulas say. No condition. -/
import Derived.Test.YtbaciogbhjcdoaaG10b
set_option linter.unusedVariables false
set_option linter.unusedSimpArgs false
set_option maxRecDepth 20000
namespace Go.Proofs.Ytbaciogbhjcdoaa
open Go.Proofs
theorem nfaStar_ok {a : GNfa} {v_1 : Value} {v_3 : Value} {v_5 : Value} {Q : GNfa → Int → Prop} {H : Heap} {Z : Nat → Prop} {L : List As} (h : wp_nfaStar a Q) (hO : Own H Z (L)) (hf_2 : Fz fInt.rep L v_1 a.Starts) (hf_4 : Fz fInt.rep L v_3 a.Ends) (hf_6 : Fz fGEdge.rep L v_5 a.Edges) : HC Try.prog 22 [.agg [.int .i64 a.States, v_1, v_3, v_5].toArray] H (fun v H' => ∃ (Z' : Nat → Prop) (r0 : GNfa) (r1 : Int) (v_7 : Value) (v_8 : Value) (v_9 : Value), (∀ b, Z b → Z' b) ∧ Q r0 r1 ∧ v = .tuple #[.agg [.int .i64 r0.States, v_7, v_8, v_9].toArray, .int .i64 r1] ∧ Own H' Z' (own fInt 3 v_7 r0.Starts :: own fInt 3 v_8 r0.Ends :: own fGEdge 69 v_9 r0.Edges :: L)) := by
  have hZ : ∀ b, Z b → Z b := fun _ h => h
  replace hO := Fz.item hf_2 hO
  replace hO := Fz.items [_] hf_4 hO
  replace hO := Fz.items [_, _] hf_6 hO
  unfold wp_nfaStar at h
  refine hc_of_hw (N := 84) (rs := [(.cell 2 25), (.tmp 3)]) Try.func22 rfl rfl rfl rfl ?_
  refine hw_seq ?_
  refine hw_region ?_
  refine hl_h (o_box (cs := [.int .i64 a.States, v_1, v_3, v_5]) hO rfl rfl) rfl ?_
  rintro _ H_10 ⟨b_11, rfl, hO⟩
  replace hO : Own H_10 Z (box b_11 [.int .i64 a.States, v_1, v_3, v_5] 25 :: fz fGEdge.rep v_5 a.Edges :: fz fInt.rep v_3 a.Ends :: fz fInt.rep v_1 a.Starts :: L) := hO
  refine hl_h (o_alloc (cs := [.int .i64 (0 : Int), .slice none 0 0, .slice none 0 0, .slice none 0 0]) hO Try.zeroValue25 rfl) rfl ?_
  rintro _ H_12 ⟨b_13, rfl, hO⟩
  replace hO : Own H_12 Z (box b_13 [.int .i64 (0 : Int), .slice none 0 0, .slice none 0 0, .slice none 0 0] 25 :: box b_11 [.int .i64 a.States, v_1, v_3, v_5] 25 :: fz fGEdge.rep v_5 a.Edges :: fz fInt.rep v_3 a.Ends :: fz fInt.rep v_1 a.Starts :: L) := hO
  refine hl_v (v_assign rfl) rfl ?_
  refine hl_nil ?_
  refine thenQ_n ?_
  refine hw_sub _ (ai_cons (t := 1) rfl (ai_cons (t := 2) rfl ai_nil)) ?_
  refine hw_seq ?_
  refine hw_seq ?_
  refine hw_region ?_
  refine hl_v (v_loadA Try.isAgg25 Try.sizeOf25 rfl (Blk.at0 (hO.box 1 rfl)) rfl) rfl ?_
  have hsh_16 := Sl.sh (hO.fsl 4 rfl)
  have hsh_17 := Sl.sh (hO.fsl 3 rfl)
  have hsh_18 := Sl.sh (hO.fsl 2 rfl)
  refine hl_h (o_litR (r := rGNfa) (l := [a]) (xs := [.tmp 10]) (css := [[.int .i64 a.States, v_1, v_3, v_5]]) hO Try.underlying87 Try.sizeOf25 Try.zeroValue25 rfl (evs_cons rfl evs_nil) rfl rfl rfl (by obtain ⟨_, _, _, hw⟩ := hsh_16; (try subst hw); obtain ⟨_, _, _, hw⟩ := hsh_17; (try subst hw); obtain ⟨_, _, _, hw⟩ := hsh_18; (try subst hw); rfl) rfl (relAll_cons ⟨_, _, _, rfl, (hO.fsl 4 rfl), (hO.fsl 3 rfl), (hO.fsl 2 rfl)⟩ relAll_nil)) rfl ?_
  rintro v_15 H_14 hO
  replace hO : Own H_14 Z (ownR rGNfa 25 v_15 [a] :: box b_13 [.int .i64 (0 : Int), .slice none 0 0, .slice none 0 0, .slice none 0 0] 25 :: box b_11 [.int .i64 a.States, v_1, v_3, v_5] 25 :: fz fGEdge.rep v_5 a.Edges :: fz fInt.rep v_3 a.Ends :: fz fInt.rep v_1 a.Starts :: L) := hO
  obtain ⟨Z_20, hz_19, hO⟩ := hO.freezeR (i := 0) rfl
  replace hZ := fun b hb => hz_19 b (hZ b hb)
  replace hO : Own H_14 Z_20 (fz rGNfa v_15 [a] :: box b_13 [.int .i64 (0 : Int), .slice none 0 0, .slice none 0 0, .slice none 0 0] 25 :: box b_11 [.int .i64 a.States, v_1, v_3, v_5] 25 :: fz fGEdge.rep v_5 a.Edges :: fz fInt.rep v_3 a.Ends :: fz fInt.rep v_1 a.Starts :: L) := hO
  refine hl_h (h_call Try.call35 (evs_cons rfl evs_nil) (nfaWrong_spec (a0 := [a]) hO (Fz.of (i := 0) rfl))) rfl ?_
  rintro vv H_21 ⟨Z_22, hz_23, hv, hO⟩
  obtain rfl := hv.symm
  replace hZ := fun b hb => hz_23 b (hZ b hb)
  replace hO : Own H_21 Z_22 (fz rGNfa v_15 [a] :: box b_13 [.int .i64 (0 : Int), .slice none 0 0, .slice none 0 0, .slice none 0 0] 25 :: box b_11 [.int .i64 a.States, v_1, v_3, v_5] 25 :: fz fGEdge.rep v_5 a.Edges :: fz fInt.rep v_3 a.Ends :: fz fInt.rep v_1 a.Starts :: L) := hO
  refine hl_nil ?_
  refine thenQ_n ?_
  refine hw_sub _ (ai_cons (t := 1) rfl (ai_cons (t := 2) rfl (ai_cons (t := 12) rfl ai_nil))) ?_
  refine hw_cond rfl (fun hc_24 => ?_) (fun hc_24 => ?_)
  · replace h := ite_t h hc_24
    refine hw_seq ?_
    refine hw_region ?_
    refine hl_v (v_buildF (cs := [.int .i64 (0 : Int), .slice none 0 0, .slice none 0 0, .slice none 0 0]) (xs := []) (is := []) rfl evs_nil (fun w => by show _ = _; kernel_rfl)) rfl ?_
    refine hl_s (o_storeA (us := [.int .i64 (0 : Int), .slice none 0 0, .slice none 0 0, .slice none 0 0]) hO 1 rfl Try.sizeOf25 rfl rfl rfl rfl (by simp only [List.forall_mem_cons]; exact ⟨rfl, rfl, rfl, rfl, by simp⟩)) ?_
    rintro _ H_25 hO
    replace hO : Own H_25 Z_22 (fz rGNfa v_15 [a] :: box b_13 [.int .i64 (0 : Int), .slice none 0 0, .slice none 0 0, .slice none 0 0] 25 :: box b_11 [.int .i64 a.States, v_1, v_3, v_5] 25 :: fz fGEdge.rep v_5 a.Edges :: fz fInt.rep v_3 a.Ends :: fz fInt.rep v_1 a.Starts :: L) := hO
    refine hl_v (v_assign rfl) rfl ?_
    refine hl_nil ?_
    refine thenQ_n ?_
    refine hw_sub _ (ai_cons (t := 2) rfl (ai_cons (t := 3) rfl ai_nil)) ?_
    refine hw_ret ?_
    refine thenQ_r ?_
    replace hO : Own H_25 Z_22 (own fInt 3 (.slice none 0 0) [] :: fz rGNfa v_15 [a] :: box b_13 [.int .i64 (0 : Int), .slice none 0 0, .slice none 0 0, .slice none 0 0] 25 :: box b_11 [.int .i64 a.States, v_1, v_3, v_5] 25 :: fz fGEdge.rep v_5 a.Edges :: fz fInt.rep v_3 a.Ends :: fz fInt.rep v_1 a.Starts :: L) := hO.nil fInt 3
    replace hO : Own H_25 Z_22 (own fInt 3 (.slice none 0 0) [] :: own fInt 3 (.slice none 0 0) [] :: fz rGNfa v_15 [a] :: box b_13 [.int .i64 (0 : Int), .slice none 0 0, .slice none 0 0, .slice none 0 0] 25 :: box b_11 [.int .i64 a.States, v_1, v_3, v_5] 25 :: fz fGEdge.rep v_5 a.Edges :: fz fInt.rep v_3 a.Ends :: fz fInt.rep v_1 a.Starts :: L) := hO.nil fInt 3
    replace hO : Own H_25 Z_22 (own fGEdge 69 (.slice none 0 0) [] :: own fInt 3 (.slice none 0 0) [] :: own fInt 3 (.slice none 0 0) [] :: fz rGNfa v_15 [a] :: box b_13 [.int .i64 (0 : Int), .slice none 0 0, .slice none 0 0, .slice none 0 0] 25 :: box b_11 [.int .i64 a.States, v_1, v_3, v_5] 25 :: fz fGEdge.rep v_5 a.Edges :: fz fInt.rep v_3 a.Ends :: fz fInt.rep v_1 a.Starts :: L) := hO.nil fGEdge 69
    refine ret_i _ (ra_c rfl (fun w hw => run_loadVar_at (cs := [.int .i64 (0 : Int), .slice none 0 0, .slice none 0 0, .slice none 0 0]) Try.isAgg25 Try.sizeOf25 (Blk.at0 (hO.box 4 rfl)) rfl w hw) (ra_t rfl ra_nil)) ?_
    exact ⟨_, (⟨(0 : Int), [], [], []⟩ : GNfa), 1, .slice none 0 0, .slice none 0 0, .slice none 0 0, hZ, h, rfl, (Own.sel (Ls := [own fGEdge 69 (.slice none 0 0) [], own fInt 3 (.slice none 0 0) [], own fInt 3 (.slice none 0 0) [], fz rGNfa v_15 [a], box b_13 [.int .i64 (0 : Int), .slice none 0 0, .slice none 0 0, .slice none 0 0] 25, box b_11 [.int .i64 a.States, v_1, v_3, v_5] 25, fz fGEdge.rep v_5 a.Edges, fz fInt.rep v_3 a.Ends, fz fInt.rep v_1 a.Starts]) (L := L) [2, 1, 0] rfl hO)⟩
  · replace h := ite_f h hc_24
    refine hw_skip ?_
    refine thenQ_n ?_
    refine hw_seq ?_
    refine hw_region ?_
    refine hl_v (v_fieldA Try.underlying25 rfl Try.sizeOf3 rfl) rfl ?_
    refine hl_v (v_load1 Try.isAgg3 rfl (Blk.cell (hO.box 2 rfl) rfl)) rfl ?_
    refine hl_v (v_assign rfl) rfl ?_
    refine hl_nil ?_
    refine thenQ_n ?_
    refine hw_sub _ (ai_cons (t := 1) rfl (ai_cons (t := 2) rfl (ai_cons (t := 4) rfl ai_nil))) ?_
    refine hw_seq ?_
    refine hw_region ?_
    refine hl_v (v_move rfl) rfl ?_
    obtain ⟨hs_26, h⟩ := h
    refine hl_v (v_add rfl rfl hs_26) rfl ?_
    refine hl_v (v_move rfl) rfl ?_
    refine hl_h (o_lit (g := fInt) (l := [a.States]) (xs := [.tmp 18]) hO Try.underlying22 Try.sizeOf3 Try.zeroValue3 rfl (evs_cons rfl evs_nil) rfl rfl rfl rfl rfl) rfl ?_
    rintro v_28 H_27 hO
    replace hO : Own H_27 Z_22 (own fInt 3 v_28 [a.States] :: fz rGNfa v_15 [a] :: box b_13 [.int .i64 (0 : Int), .slice none 0 0, .slice none 0 0, .slice none 0 0] 25 :: box b_11 [.int .i64 a.States, v_1, v_3, v_5] 25 :: fz fGEdge.rep v_5 a.Edges :: fz fInt.rep v_3 a.Ends :: fz fInt.rep v_1 a.Starts :: L) := hO
    refine hl_v (v_move rfl) rfl ?_
    refine hl_h (o_lit (g := fInt) (l := [a.States]) (xs := [.tmp 20]) hO Try.underlying22 Try.sizeOf3 Try.zeroValue3 rfl (evs_cons rfl evs_nil) rfl rfl rfl rfl rfl) rfl ?_
    rintro v_30 H_29 hO
    replace hO : Own H_29 Z_22 (own fInt 3 v_30 [a.States] :: own fInt 3 v_28 [a.States] :: fz rGNfa v_15 [a] :: box b_13 [.int .i64 (0 : Int), .slice none 0 0, .slice none 0 0, .slice none 0 0] 25 :: box b_11 [.int .i64 a.States, v_1, v_3, v_5] 25 :: fz fGEdge.rep v_5 a.Edges :: fz fInt.rep v_3 a.Ends :: fz fInt.rep v_1 a.Starts :: L) := hO
    have hsh_31 := Sl.sh (hO.osl 1 rfl)
    have hsh_32 := Sl.sh (hO.osl 0 rfl)
    refine hl_v (v_buildF (cs := [.int .i64 (a.States + 1), v_28, v_30, .slice none 0 0]) (xs := [.tmp 17, .tmp 19, .tmp 21]) (is := [0, 1, 2]) rfl (evs_cons rfl (evs_cons rfl (evs_cons rfl evs_nil))) (fun w => by obtain ⟨_, _, _, hw⟩ := hsh_31; (try subst hw); obtain ⟨_, _, _, hw⟩ := hsh_32; (try subst hw); show _ = _; kernel_rfl)) rfl ?_
    have hsh_33 := Sl.sh (hO.osl 1 rfl)
    have hsh_34 := Sl.sh (hO.osl 0 rfl)
    refine hl_v (v_buildF (cs := [.int .i64 (a.States + 1), v_28, v_30, .slice none 0 0, .bool false]) (xs := [.tmp 22]) (is := [0]) rfl (evs_cons rfl evs_nil) (fun w => by obtain ⟨_, _, _, hw⟩ := hsh_33; (try subst hw); obtain ⟨_, _, _, hw⟩ := hsh_34; (try subst hw); show _ = _; kernel_rfl)) rfl ?_
    refine hl_h (o_box (cs := [.int .i64 (a.States + 1), v_28, v_30, .slice none 0 0, .bool false]) hO rfl rfl) rfl ?_
    rintro _ H_35 ⟨b_36, rfl, hO⟩
    replace hO : Own H_35 Z_22 (box b_36 [.int .i64 (a.States + 1), v_28, v_30, .slice none 0 0, .bool false] 77 :: own fInt 3 v_30 [a.States] :: own fInt 3 v_28 [a.States] :: fz rGNfa v_15 [a] :: box b_13 [.int .i64 (0 : Int), .slice none 0 0, .slice none 0 0, .slice none 0 0] 25 :: box b_11 [.int .i64 a.States, v_1, v_3, v_5] 25 :: fz fGEdge.rep v_5 a.Edges :: fz fInt.rep v_3 a.Ends :: fz fInt.rep v_1 a.Starts :: L) := hO
    refine hl_v (v_assign rfl) rfl ?_
    refine hl_nil ?_
    refine thenQ_n ?_
    refine hw_sub _ (ai_cons (t := 1) rfl (ai_cons (t := 2) rfl (ai_cons (t := 4) rfl (ai_cons (t := 5) rfl ai_nil)))) ?_
    refine hw_seq ?_
    refine hw_region ?_
    refine hl_v (v_move rfl) rfl ?_
    refine hl_v (v_loadA Try.isAgg25 Try.sizeOf25 rfl (Blk.at0 (hO.box 5 rfl)) rfl) rfl ?_
    replace hO : Own H_35 Z_22 (own fGEdge 69 (.slice none 0 0) [] :: box b_36 [.int .i64 (a.States + 1), v_28, v_30, .slice none 0 0, .bool false] 77 :: own fInt 3 v_30 [a.States] :: own fInt 3 v_28 [a.States] :: fz rGNfa v_15 [a] :: box b_13 [.int .i64 (0 : Int), .slice none 0 0, .slice none 0 0, .slice none 0 0] 25 :: box b_11 [.int .i64 a.States, v_1, v_3, v_5] 25 :: fz fGEdge.rep v_5 a.Edges :: fz fInt.rep v_3 a.Ends :: fz fInt.rep v_1 a.Starts :: L) := hO.nil fGEdge 69
    obtain ⟨hs_37, h⟩ := h
    refine hl_h (h_call Try.call49 (evs_cons rfl (evs_cons rfl (evs_cons (show _ = some (.int .i64 0) from rfl) evs_nil))) (nbPut_spec (a0 := (⟨(⟨(a.States + 1), [a.States], [a.States], []⟩ : GNfa), false⟩ : Gnfa_builder)) (a1 := a) (a2 := 0) (L := fz rGNfa v_15 [a] :: box b_13 [.int .i64 (0 : Int), .slice none 0 0, .slice none 0 0, .slice none 0 0] 25 :: box b_11 [.int .i64 a.States, v_1, v_3, v_5] 25 :: fz fGEdge.rep v_5 a.Edges :: fz fInt.rep v_3 a.Ends :: fz fInt.rep v_1 a.Starts :: L) hs_37 (Own.sel (Ls := [own fGEdge 69 (.slice none 0 0) [], box b_36 [.int .i64 (a.States + 1), v_28, v_30, .slice none 0 0, .bool false] 77, own fInt 3 v_30 [a.States], own fInt 3 v_28 [a.States], fz rGNfa v_15 [a], box b_13 [.int .i64 (0 : Int), .slice none 0 0, .slice none 0 0, .slice none 0 0] 25, box b_11 [.int .i64 a.States, v_1, v_3, v_5] 25, fz fGEdge.rep v_5 a.Edges, fz fInt.rep v_3 a.Ends, fz fInt.rep v_1 a.Starts]) (L := L) [1, 3, 2, 0, 4, 5, 6, 7, 8, 9] rfl hO) (Fz.of (i := 5) rfl) (Fz.of (i := 4) rfl) (Fz.of (i := 3) rfl))) rfl ?_
    rintro vv H_38 ⟨Z_39, v_41, v_42, v_43, hz_40, hv, hO⟩
    obtain rfl := hv.symm
    replace hZ := fun b hb => hz_40 b (hZ b hb)
    replace hO : Own H_38 Z_39 (box b_36 [.int .i64 (((nbPut (⟨(⟨(a.States + 1), [a.States], [a.States], []⟩ : GNfa), false⟩ : Gnfa_builder) a 0).Nfa).States), v_41, v_42, v_43, .bool ((nbPut (⟨(⟨(a.States + 1), [a.States], [a.States], []⟩ : GNfa), false⟩ : Gnfa_builder) a 0).full)] 77 :: own fInt 3 v_41 (((nbPut (⟨(⟨(a.States + 1), [a.States], [a.States], []⟩ : GNfa), false⟩ : Gnfa_builder) a 0).Nfa).Starts) :: own fInt 3 v_42 (((nbPut (⟨(⟨(a.States + 1), [a.States], [a.States], []⟩ : GNfa), false⟩ : Gnfa_builder) a 0).Nfa).Ends) :: own fGEdge 69 v_43 (((nbPut (⟨(⟨(a.States + 1), [a.States], [a.States], []⟩ : GNfa), false⟩ : Gnfa_builder) a 0).Nfa).Edges) :: fz rGNfa v_15 [a] :: box b_13 [.int .i64 (0 : Int), .slice none 0 0, .slice none 0 0, .slice none 0 0] 25 :: box b_11 [.int .i64 a.States, v_1, v_3, v_5] 25 :: fz fGEdge.rep v_5 a.Edges :: fz fInt.rep v_3 a.Ends :: fz fInt.rep v_1 a.Starts :: L) := hO
    refine hl_nil ?_
    refine thenQ_n ?_
    refine hw_sub _ (ai_cons (t := 1) rfl (ai_cons (t := 2) rfl (ai_cons (t := 4) rfl (ai_cons (t := 5) rfl ai_nil)))) ?_
    refine hw_seq ?_
    refine hw_held2 7 (fun H' => ∃ Z' : Nat → Prop, Own H' Z' (box b_36 [.int .i64 (((nbPut (⟨(⟨(a.States + 1), [a.States], [a.States], []⟩ : GNfa), false⟩ : Gnfa_builder) a 0).Nfa).States), v_41, v_42, v_43, .bool ((nbPut (⟨(⟨(a.States + 1), [a.States], [a.States], []⟩ : GNfa), false⟩ : Gnfa_builder) a 0).full)] 77 :: own fInt 3 v_41 (((nbPut (⟨(⟨(a.States + 1), [a.States], [a.States], []⟩ : GNfa), false⟩ : Gnfa_builder) a 0).Nfa).Starts) :: own fInt 3 v_42 (((nbPut (⟨(⟨(a.States + 1), [a.States], [a.States], []⟩ : GNfa), false⟩ : Gnfa_builder) a 0).Nfa).Ends) :: own fGEdge 69 v_43 (((nbPut (⟨(⟨(a.States + 1), [a.States], [a.States], []⟩ : GNfa), false⟩ : Gnfa_builder) a 0).Nfa).Edges) :: fz rGNfa v_15 [a] :: box b_13 [.int .i64 (0 : Int), .slice none 0 0, .slice none 0 0, .slice none 0 0] 25 :: box b_11 [.int .i64 a.States, v_1, v_3, v_5] 25 :: fz fGEdge.rep v_5 a.Edges :: fz fInt.rep v_3 a.Ends :: fz fInt.rep v_1 a.Starts :: L)) (.step 0 false (.step 1 false (.step 3 false (.step 4 false (.step 2 true (.step 5 true (.step 6 false .done))))))) (.step 7 true .done) Try.mixed (by kernel_rfl) ⟨_, hO⟩ ?_
    refine hd_v rfl (fun _ _ => (v_fieldA Try.underlying25 rfl Try.sizeOf22 rfl)) rfl ?_
    refine hd_v rfl (fun H' hS => by obtain ⟨Z', hO⟩ := hS; exact (v_load1 Try.isAgg22 rfl (Blk.cell (hO.box 6 rfl) rfl))) rfl ?_
    refine hd_v rfl (fun _ _ => (v_fieldA Try.underlying25 rfl Try.sizeOf22 rfl)) rfl ?_
    refine hd_v rfl (fun H' hS => by obtain ⟨Z', hO⟩ := hS; exact (v_load1 Try.isAgg22 rfl (Blk.cell (hO.box 6 rfl) rfl))) rfl ?_
    refine hd_h (h_call Try.call36 (evs_cons rfl evs_nil) (nfaMembers_spec (a0 := a.Starts) hO (Rd.of_fz (i := 9) rfl))) (by rintro vv H_45 ⟨Z_46, b_44, hz_47, hv, hO⟩; obtain rfl := hv.symm; replace hZ := fun b hb => hz_47 b (hZ b hb); exact ⟨_, (Own.sel (Ls := [tbl (Value.int .i64) Value.bool b_44 (membersL a.Starts), box b_36 [.int .i64 (((nbPut (⟨(⟨(a.States + 1), [a.States], [a.States], []⟩ : GNfa), false⟩ : Gnfa_builder) a 0).Nfa).States), v_41, v_42, v_43, .bool ((nbPut (⟨(⟨(a.States + 1), [a.States], [a.States], []⟩ : GNfa), false⟩ : Gnfa_builder) a 0).full)] 77, own fInt 3 v_41 (((nbPut (⟨(⟨(a.States + 1), [a.States], [a.States], []⟩ : GNfa), false⟩ : Gnfa_builder) a 0).Nfa).Starts), own fInt 3 v_42 (((nbPut (⟨(⟨(a.States + 1), [a.States], [a.States], []⟩ : GNfa), false⟩ : Gnfa_builder) a 0).Nfa).Ends), own fGEdge 69 v_43 (((nbPut (⟨(⟨(a.States + 1), [a.States], [a.States], []⟩ : GNfa), false⟩ : Gnfa_builder) a 0).Nfa).Edges), fz rGNfa v_15 [a], box b_13 [.int .i64 (0 : Int), .slice none 0 0, .slice none 0 0, .slice none 0 0] 25, box b_11 [.int .i64 a.States, v_1, v_3, v_5] 25, fz fGEdge.rep v_5 a.Edges, fz fInt.rep v_3 a.Ends, fz fInt.rep v_1 a.Starts]) (L := L) [1, 2, 3, 4, 5, 6, 7, 8, 9, 10] rfl hO)⟩) rfl ?_
    rintro vv H_45 ⟨Z_46, b_44, hz_47, hv, hO⟩
    obtain rfl := hv.symm
    replace hZ := fun b hb => hz_47 b (hZ b hb)
    replace hO : Own H_45 Z_46 (tbl (Value.int .i64) Value.bool b_44 (membersL a.Starts) :: box b_36 [.int .i64 (((nbPut (⟨(⟨(a.States + 1), [a.States], [a.States], []⟩ : GNfa), false⟩ : Gnfa_builder) a 0).Nfa).States), v_41, v_42, v_43, .bool ((nbPut (⟨(⟨(a.States + 1), [a.States], [a.States], []⟩ : GNfa), false⟩ : Gnfa_builder) a 0).full)] 77 :: own fInt 3 v_41 (((nbPut (⟨(⟨(a.States + 1), [a.States], [a.States], []⟩ : GNfa), false⟩ : Gnfa_builder) a 0).Nfa).Starts) :: own fInt 3 v_42 (((nbPut (⟨(⟨(a.States + 1), [a.States], [a.States], []⟩ : GNfa), false⟩ : Gnfa_builder) a 0).Nfa).Ends) :: own fGEdge 69 v_43 (((nbPut (⟨(⟨(a.States + 1), [a.States], [a.States], []⟩ : GNfa), false⟩ : Gnfa_builder) a 0).Nfa).Edges) :: fz rGNfa v_15 [a] :: box b_13 [.int .i64 (0 : Int), .slice none 0 0, .slice none 0 0, .slice none 0 0] 25 :: box b_11 [.int .i64 a.States, v_1, v_3, v_5] 25 :: fz fGEdge.rep v_5 a.Edges :: fz fInt.rep v_3 a.Ends :: fz fInt.rep v_1 a.Starts :: L) := hO
    refine hd_h (h_call Try.call36 (evs_cons rfl evs_nil) (nfaMembers_spec (a0 := a.Ends) hO (Rd.of_fz (i := 9) rfl))) (by rintro vv H_49 ⟨Z_50, b_48, hz_51, hv, hO⟩; obtain rfl := hv.symm; replace hZ := fun b hb => hz_51 b (hZ b hb); exact ⟨_, (Own.sel (Ls := [tbl (Value.int .i64) Value.bool b_48 (membersL a.Ends), tbl (Value.int .i64) Value.bool b_44 (membersL a.Starts), box b_36 [.int .i64 (((nbPut (⟨(⟨(a.States + 1), [a.States], [a.States], []⟩ : GNfa), false⟩ : Gnfa_builder) a 0).Nfa).States), v_41, v_42, v_43, .bool ((nbPut (⟨(⟨(a.States + 1), [a.States], [a.States], []⟩ : GNfa), false⟩ : Gnfa_builder) a 0).full)] 77, own fInt 3 v_41 (((nbPut (⟨(⟨(a.States + 1), [a.States], [a.States], []⟩ : GNfa), false⟩ : Gnfa_builder) a 0).Nfa).Starts), own fInt 3 v_42 (((nbPut (⟨(⟨(a.States + 1), [a.States], [a.States], []⟩ : GNfa), false⟩ : Gnfa_builder) a 0).Nfa).Ends), own fGEdge 69 v_43 (((nbPut (⟨(⟨(a.States + 1), [a.States], [a.States], []⟩ : GNfa), false⟩ : Gnfa_builder) a 0).Nfa).Edges), fz rGNfa v_15 [a], box b_13 [.int .i64 (0 : Int), .slice none 0 0, .slice none 0 0, .slice none 0 0] 25, box b_11 [.int .i64 a.States, v_1, v_3, v_5] 25, fz fGEdge.rep v_5 a.Edges, fz fInt.rep v_3 a.Ends, fz fInt.rep v_1 a.Starts]) (L := L) [2, 3, 4, 5, 6, 7, 8, 9, 10, 11] rfl hO)⟩) rfl ?_
    rintro vv H_49 ⟨Z_50, b_48, hz_51, hv, hO⟩
    obtain rfl := hv.symm
    replace hZ := fun b hb => hz_51 b (hZ b hb)
    replace hO : Own H_49 Z_50 (tbl (Value.int .i64) Value.bool b_48 (membersL a.Ends) :: tbl (Value.int .i64) Value.bool b_44 (membersL a.Starts) :: box b_36 [.int .i64 (((nbPut (⟨(⟨(a.States + 1), [a.States], [a.States], []⟩ : GNfa), false⟩ : Gnfa_builder) a 0).Nfa).States), v_41, v_42, v_43, .bool ((nbPut (⟨(⟨(a.States + 1), [a.States], [a.States], []⟩ : GNfa), false⟩ : Gnfa_builder) a 0).full)] 77 :: own fInt 3 v_41 (((nbPut (⟨(⟨(a.States + 1), [a.States], [a.States], []⟩ : GNfa), false⟩ : Gnfa_builder) a 0).Nfa).Starts) :: own fInt 3 v_42 (((nbPut (⟨(⟨(a.States + 1), [a.States], [a.States], []⟩ : GNfa), false⟩ : Gnfa_builder) a 0).Nfa).Ends) :: own fGEdge 69 v_43 (((nbPut (⟨(⟨(a.States + 1), [a.States], [a.States], []⟩ : GNfa), false⟩ : Gnfa_builder) a 0).Nfa).Edges) :: fz rGNfa v_15 [a] :: box b_13 [.int .i64 (0 : Int), .slice none 0 0, .slice none 0 0, .slice none 0 0] 25 :: box b_11 [.int .i64 a.States, v_1, v_3, v_5] 25 :: fz fGEdge.rep v_5 a.Edges :: fz fInt.rep v_3 a.Ends :: fz fInt.rep v_1 a.Starts :: L) := hO
    refine hd_v rfl (fun _ _ => (v_assign rfl)) rfl ?_
    refine hd_nil ?_
    refine hd_h (OpV.toH (v_assign rfl)) (fun _ _ hR => trivial) rfl ?_
    rintro vv HH ⟨hvv, hHH⟩
    obtain rfl := hvv.symm
    obtain rfl := hHH.symm
    refine hd_nil ?_
    refine thenQ_n ?_
    refine hw_sub _ (ai_cons (t := 1) rfl (ai_cons (t := 2) rfl (ai_cons (t := 4) rfl (ai_cons (t := 5) rfl (ai_cons (t := 6) rfl (ai_cons (t := 7) rfl ai_nil)))))) ?_
    refine hw_seq ?_
    refine hw_seq ?_
    refine hw_region ?_
    refine hl_v (v_fieldA Try.underlying25 rfl Try.sizeOf23 rfl) rfl ?_
    refine hl_v (v_load1 Try.isAgg23 rfl (Blk.cell (hO.box 8 rfl) rfl)) rfl ?_
    have hln_52 := Sl.cap (hO.fsl 9 rfl)
    refine hl_v (v_lenL rfl Try.underlying23 rfl (hO.fsl 9 rfl)) rfl ?_
    refine hl_v (v_move rfl) rfl ?_
    refine hl_nil ?_
    refine thenQ_n ?_
    refine hw_sub _ (ai_cons (t := 2) rfl (ai_cons (t := 4) rfl (ai_cons (t := 5) rfl (ai_cons (t := 6) rfl (ai_cons (t := 7) rfl (ai_cons (t := 35) rfl (ai_cons (t := 36) rfl (ai_cons (t := 37) rfl ai_nil)))))))) ?_
    refine hw_block ?_
    obtain ⟨I_56, h, hI_58⟩ := h
    refine hw_lp (fun n' g' H' => ∃ (x : Gnfa_builder) (k : Nat) (v_53 : Value) (v_54 : Value) (v_55 : Value) (Z' : Nat → Prop), n' = a.Edges.length - k ∧ g' = [(2, ptr b_13 0), (4, .int .i64 a.States), (5, ptr b_36 0), (6, .map (some b_44)), (7, .map (some b_48)), (35, v_5), (36, .int .i64 (a.Edges.length : Int)), (37, .int .i64 (k : Int))] ∧ (∀ b, Z b → Z' b) ∧ I_56 x k ∧ k ≤ a.Edges.length ∧ Own H' Z' (tbl (Value.int .i64) Value.bool b_48 (membersL a.Ends) :: tbl (Value.int .i64) Value.bool b_44 (membersL a.Starts) :: box b_36 [.int .i64 x.Nfa.States, v_53, v_54, v_55, .bool x.full] 77 :: own fInt 3 v_53 x.Nfa.Starts :: own fInt 3 v_54 x.Nfa.Ends :: own fGEdge 69 v_55 x.Nfa.Edges :: box b_13 [.int .i64 (0 : Int), .slice none 0 0, .slice none 0 0, .slice none 0 0] 25 :: fz fGEdge.rep v_5 a.Edges :: L)) _ _ (ai_cons (t := 2) rfl (ai_cons (t := 4) rfl (ai_cons (t := 5) rfl (ai_cons (t := 6) rfl (ai_cons (t := 7) rfl (ai_cons (t := 35) rfl (ai_cons (t := 36) rfl (ai_cons (t := 37) rfl ai_nil)))))))) ⟨(nbPut (⟨(⟨(a.States + 1), [a.States], [a.States], []⟩ : GNfa), false⟩ : Gnfa_builder) a 0), 0, v_41, v_42, v_43, _, rfl, rfl, hZ, h, by omega, (Own.sel (Ls := [tbl (Value.int .i64) Value.bool b_48 (membersL a.Ends), tbl (Value.int .i64) Value.bool b_44 (membersL a.Starts), box b_36 [.int .i64 (((nbPut (⟨(⟨(a.States + 1), [a.States], [a.States], []⟩ : GNfa), false⟩ : Gnfa_builder) a 0).Nfa).States), v_41, v_42, v_43, .bool ((nbPut (⟨(⟨(a.States + 1), [a.States], [a.States], []⟩ : GNfa), false⟩ : Gnfa_builder) a 0).full)] 77, own fInt 3 v_41 (((nbPut (⟨(⟨(a.States + 1), [a.States], [a.States], []⟩ : GNfa), false⟩ : Gnfa_builder) a 0).Nfa).Starts), own fInt 3 v_42 (((nbPut (⟨(⟨(a.States + 1), [a.States], [a.States], []⟩ : GNfa), false⟩ : Gnfa_builder) a 0).Nfa).Ends), own fGEdge 69 v_43 (((nbPut (⟨(⟨(a.States + 1), [a.States], [a.States], []⟩ : GNfa), false⟩ : Gnfa_builder) a 0).Nfa).Edges), fz rGNfa v_15 [a], box b_13 [.int .i64 (0 : Int), .slice none 0 0, .slice none 0 0, .slice none 0 0] 25, box b_11 [.int .i64 a.States, v_1, v_3, v_5] 25, fz fGEdge.rep v_5 a.Edges, fz fInt.rep v_3 a.Ends, fz fInt.rep v_1 a.Starts]) (L := L) [0, 1, 2, 3, 4, 5, 7, 9] rfl hO)⟩ ?_
    rintro _ _ H_59 ⟨x, k, v_53, v_54, v_55, Z_60, rfl, rfl, hZ, h, hb_61, hO⟩
    replace h := hI_58 x k h hb_61
    refine hw_seq ?_
    refine hw_region ?_
    refine hl_v (v_lss rfl rfl) rfl ?_
    refine hl_nil ?_
    refine thenQ_n ?_
    refine hw_sub _ (ai_cons (t := 2) rfl (ai_cons (t := 4) rfl (ai_cons (t := 5) rfl (ai_cons (t := 6) rfl (ai_cons (t := 7) rfl (ai_cons (t := 35) rfl (ai_cons (t := 36) rfl (ai_cons (t := 37) rfl (ai_cons (t := 38) rfl ai_nil))))))))) ?_
    refine hw_seq ?_
    refine hw_cond rfl (fun hc_62 => ?_) (fun hc_62 => ?_)
    · replace h := ite_t h hc_62
      refine hw_skip ?_
      refine thenQ_n ?_
      refine hw_seq ?_
      refine hw_block ?_
      refine hw_seq ?_
      refine hw_region ?_
      refine hl_v (v_ixL Try.underlying23 Try.sizeOf69 rfl rfl (hO.fsl 7 rfl) (by exact ⟨Int.natCast_nonneg _, of_decide_eq_true hc_62⟩)) rfl ?_
      refine hl_v (v_loadFl Try.isAgg69 Try.sizeOf69 rfl (hO.fsl 7 rfl) rfl (by exact ⟨Int.natCast_nonneg _, of_decide_eq_true hc_62⟩)) rfl ?_
      refine hl_h (o_alloc (cs := (fGEdge.enc (⟨(0 : Int), (0 : Int), BSet.zero⟩ : GEdge))) hO Try.zeroValue69 rfl) rfl ?_
      rintro _ H_63 ⟨b_64, rfl, hO⟩
      replace hO : Own H_63 Z_60 (box b_64 (fGEdge.enc (⟨(0 : Int), (0 : Int), BSet.zero⟩ : GEdge)) 69 :: tbl (Value.int .i64) Value.bool b_48 (membersL a.Ends) :: tbl (Value.int .i64) Value.bool b_44 (membersL a.Starts) :: box b_36 [.int .i64 x.Nfa.States, v_53, v_54, v_55, .bool x.full] 77 :: own fInt 3 v_53 x.Nfa.Starts :: own fInt 3 v_54 x.Nfa.Ends :: own fGEdge 69 v_55 x.Nfa.Edges :: box b_13 [.int .i64 (0 : Int), .slice none 0 0, .slice none 0 0, .slice none 0 0] 25 :: fz fGEdge.rep v_5 a.Edges :: L) := hO
      refine hl_s (o_storeA (us := (fGEdge.enc (a.Edges.getD k default))) hO 0 rfl Try.sizeOf69 rfl rfl rfl rfl (by intro u hu; exact (fGEdge).one _ u hu)) ?_
      rintro _ H_65 hO
      replace hO : Own H_65 Z_60 (box b_64 (fGEdge.enc (a.Edges.getD k default)) 69 :: tbl (Value.int .i64) Value.bool b_48 (membersL a.Ends) :: tbl (Value.int .i64) Value.bool b_44 (membersL a.Starts) :: box b_36 [.int .i64 x.Nfa.States, v_53, v_54, v_55, .bool x.full] 77 :: own fInt 3 v_53 x.Nfa.Starts :: own fInt 3 v_54 x.Nfa.Ends :: own fGEdge 69 v_55 x.Nfa.Edges :: box b_13 [.int .i64 (0 : Int), .slice none 0 0, .slice none 0 0, .slice none 0 0] 25 :: fz fGEdge.rep v_5 a.Edges :: L) := hO
      refine hl_nil ?_
      refine thenQ_n ?_
      refine hw_sub _ (ai_cons (t := 2) rfl (ai_cons (t := 4) rfl (ai_cons (t := 5) rfl (ai_cons (t := 6) rfl (ai_cons (t := 7) rfl (ai_cons (t := 9) rfl (ai_cons (t := 35) rfl (ai_cons (t := 36) rfl (ai_cons (t := 37) rfl ai_nil))))))))) ?_
      obtain ⟨K_69, h, hk_72⟩ := h
      refine hw_jn (fun g' H' => ∃ (x2 : Gnfa_builder) (v_66 : Value) (v_67 : Value) (v_68 : Value) (Z' : Nat → Prop), g' = [(2, ptr b_13 0), (4, .int .i64 a.States), (5, ptr b_36 0), (6, .map (some b_44)), (7, .map (some b_48)), (9, ptr b_64 0), (35, v_5), (36, .int .i64 (a.Edges.length : Int)), (37, .int .i64 (k : Int))] ∧ (∀ b, Z b → Z' b) ∧ K_69 x2 ∧ Own H' Z' (box b_36 [.int .i64 x2.Nfa.States, v_66, v_67, v_68, .bool x2.full] 77 :: own fInt 3 v_66 x2.Nfa.Starts :: own fInt 3 v_67 x2.Nfa.Ends :: own fGEdge 69 v_68 x2.Nfa.Edges :: box b_64 (fGEdge.enc (a.Edges.getD k default)) 69 :: tbl (Value.int .i64) Value.bool b_48 (membersL a.Ends) :: tbl (Value.int .i64) Value.bool b_44 (membersL a.Starts) :: box b_13 [.int .i64 (0 : Int), .slice none 0 0, .slice none 0 0, .slice none 0 0] 25 :: fz fGEdge.rep v_5 a.Edges :: L)) ?_ ?_
      · skip
        refine hw_seq ?_
        refine hw_region ?_
        refine hl_v (v_move rfl) rfl ?_
        refine hl_v (v_fieldA Try.underlying69 rfl Try.sizeOf3 rfl) rfl ?_
        refine hl_v (v_load1 Try.isAgg3 rfl (Blk.cell (hO.box 0 rfl) rfl)) rfl ?_
        refine hl_v (v_lookup1 (d := false) (keyInt Try.underlying3) rfl Try.underlying66 Try.zeroValue4 rfl rfl (hO.tbl 2 rfl)) rfl ?_
        refine hl_nil ?_
        refine thenQ_n ?_
        refine hw_sub _ (ai_cons (t := 2) rfl (ai_cons (t := 4) rfl (ai_cons (t := 5) rfl (ai_cons (t := 6) rfl (ai_cons (t := 7) rfl (ai_cons (t := 9) rfl (ai_cons (t := 35) rfl (ai_cons (t := 36) rfl (ai_cons (t := 37) rfl (ai_cons (t := 44) rfl ai_nil)))))))))) ?_
        refine hw_cond rfl (fun hc_73 => ?_) (fun hc_73 => ?_)
        · replace h := ite_t h hc_73
          refine hw_region ?_
          refine hl_v (v_move rfl) rfl ?_
          refine hl_v (v_move rfl) rfl ?_
          refine hl_v (v_fieldA Try.underlying69 rfl Try.sizeOf3 rfl) rfl ?_
          refine hl_v (v_load1 Try.isAgg3 rfl (Blk.cell (hO.box 0 rfl) rfl)) rfl ?_
          refine hl_v (v_fieldA Try.underlying69 rfl Try.sizeOf34 rfl) rfl ?_
          refine hl_v (v_loadA (cs := (sw ((a.Edges.getD k default).Set))) Try.isAgg34 Try.sizeOf34 rfl (Blk.sub (n := 4) (hO.box 0 rfl) rfl) rfl) rfl ?_
          refine hl_h (h_call Try.call43 (evs_cons rfl (evs_cons rfl (evs_cons rfl (evs_cons rfl evs_nil)))) (nbEdge_spec (a0 := x) (a1 := a.States) (a2 := (a.Edges.getD k default).To) (a3 := (a.Edges.getD k default).Set) (L := box b_64 (fGEdge.enc (a.Edges.getD k default)) 69 :: tbl (Value.int .i64) Value.bool b_48 (membersL a.Ends) :: tbl (Value.int .i64) Value.bool b_44 (membersL a.Starts) :: box b_13 [.int .i64 (0 : Int), .slice none 0 0, .slice none 0 0, .slice none 0 0] 25 :: fz fGEdge.rep v_5 a.Edges :: L) (Own.sel (Ls := [box b_64 (fGEdge.enc (a.Edges.getD k default)) 69, tbl (Value.int .i64) Value.bool b_48 (membersL a.Ends), tbl (Value.int .i64) Value.bool b_44 (membersL a.Starts), box b_36 [.int .i64 x.Nfa.States, v_53, v_54, v_55, .bool x.full] 77, own fInt 3 v_53 x.Nfa.Starts, own fInt 3 v_54 x.Nfa.Ends, own fGEdge 69 v_55 x.Nfa.Edges, box b_13 [.int .i64 (0 : Int), .slice none 0 0, .slice none 0 0, .slice none 0 0] 25, fz fGEdge.rep v_5 a.Edges]) (L := L) [3, 4, 5, 6, 0, 1, 2, 7, 8] rfl hO))) rfl ?_
          rintro vv H_74 ⟨Z_75, v_77, v_78, v_79, hz_76, hv, hO⟩
          obtain rfl := hv.symm
          replace hZ := fun b hb => hz_76 b (hZ b hb)
          replace hO : Own H_74 Z_75 (box b_36 [.int .i64 (((nbEdge x ⟨a.States, ((a.Edges.getD k default).To), ((a.Edges.getD k default).Set)⟩).Nfa).States), v_77, v_78, v_79, .bool ((nbEdge x ⟨a.States, ((a.Edges.getD k default).To), ((a.Edges.getD k default).Set)⟩).full)] 77 :: own fInt 3 v_77 (((nbEdge x ⟨a.States, ((a.Edges.getD k default).To), ((a.Edges.getD k default).Set)⟩).Nfa).Starts) :: own fInt 3 v_78 (((nbEdge x ⟨a.States, ((a.Edges.getD k default).To), ((a.Edges.getD k default).Set)⟩).Nfa).Ends) :: own fGEdge 69 v_79 (((nbEdge x ⟨a.States, ((a.Edges.getD k default).To), ((a.Edges.getD k default).Set)⟩).Nfa).Edges) :: box b_64 (fGEdge.enc (a.Edges.getD k default)) 69 :: tbl (Value.int .i64) Value.bool b_48 (membersL a.Ends) :: tbl (Value.int .i64) Value.bool b_44 (membersL a.Starts) :: box b_13 [.int .i64 (0 : Int), .slice none 0 0, .slice none 0 0, .slice none 0 0] 25 :: fz fGEdge.rep v_5 a.Edges :: L) := hO
          refine hl_nil ?_
          refine thenQ_n ?_
          refine ⟨_, (ai_cons (t := 2) rfl (ai_cons (t := 4) rfl (ai_cons (t := 5) rfl (ai_cons (t := 6) rfl (ai_cons (t := 7) rfl (ai_cons (t := 9) rfl (ai_cons (t := 35) rfl (ai_cons (t := 36) rfl (ai_cons (t := 37) rfl ai_nil))))))))), ⟨(nbEdge x ⟨a.States, ((a.Edges.getD k default).To), ((a.Edges.getD k default).Set)⟩), v_77, v_78, v_79, _, rfl, hZ, h, hO⟩⟩
        · replace h := ite_f h hc_73
          refine hw_skip ?_
          refine thenQ_n ?_
          refine ⟨_, (ai_cons (t := 2) rfl (ai_cons (t := 4) rfl (ai_cons (t := 5) rfl (ai_cons (t := 6) rfl (ai_cons (t := 7) rfl (ai_cons (t := 9) rfl (ai_cons (t := 35) rfl (ai_cons (t := 36) rfl (ai_cons (t := 37) rfl ai_nil))))))))), ⟨x, v_53, v_54, v_55, _, rfl, hZ, h, (Own.sel (Ls := [box b_64 (fGEdge.enc (a.Edges.getD k default)) 69, tbl (Value.int .i64) Value.bool b_48 (membersL a.Ends), tbl (Value.int .i64) Value.bool b_44 (membersL a.Starts), box b_36 [.int .i64 x.Nfa.States, v_53, v_54, v_55, .bool x.full] 77, own fInt 3 v_53 x.Nfa.Starts, own fInt 3 v_54 x.Nfa.Ends, own fGEdge 69 v_55 x.Nfa.Edges, box b_13 [.int .i64 (0 : Int), .slice none 0 0, .slice none 0 0, .slice none 0 0] 25, fz fGEdge.rep v_5 a.Edges]) (L := L) [3, 4, 5, 6, 0, 1, 2, 7, 8] rfl hO)⟩⟩
      · rintro _ H_70 ⟨x2, v_66, v_67, v_68, Z_71, rfl, hZ, h, hO⟩
        replace h := hk_72 x2 h
        obtain ⟨K_83, h, hk_86⟩ := h
        refine hw_jn (fun g' H' => ∃ (x3 : Gnfa_builder) (v_80 : Value) (v_81 : Value) (v_82 : Value) (Z' : Nat → Prop), g' = [(2, ptr b_13 0), (4, .int .i64 a.States), (5, ptr b_36 0), (6, .map (some b_44)), (7, .map (some b_48)), (9, ptr b_64 0), (35, v_5), (36, .int .i64 (a.Edges.length : Int)), (37, .int .i64 (k : Int))] ∧ (∀ b, Z b → Z' b) ∧ K_83 x3 ∧ Own H' Z' (box b_36 [.int .i64 x3.Nfa.States, v_80, v_81, v_82, .bool x3.full] 77 :: own fInt 3 v_80 x3.Nfa.Starts :: own fInt 3 v_81 x3.Nfa.Ends :: own fGEdge 69 v_82 x3.Nfa.Edges :: box b_64 (fGEdge.enc (a.Edges.getD k default)) 69 :: tbl (Value.int .i64) Value.bool b_48 (membersL a.Ends) :: tbl (Value.int .i64) Value.bool b_44 (membersL a.Starts) :: box b_13 [.int .i64 (0 : Int), .slice none 0 0, .slice none 0 0, .slice none 0 0] 25 :: fz fGEdge.rep v_5 a.Edges :: L)) ?_ ?_
        · skip
          refine hw_seq ?_
          refine hw_region ?_
          refine hl_v (v_move rfl) rfl ?_
          refine hl_v (v_fieldA Try.underlying69 rfl Try.sizeOf3 rfl) rfl ?_
          refine hl_v (v_load1 Try.isAgg3 rfl (Blk.cell (hO.box 4 rfl) rfl)) rfl ?_
          refine hl_v (v_lookup1 (d := false) (keyInt Try.underlying3) rfl Try.underlying66 Try.zeroValue4 rfl rfl (hO.tbl 5 rfl)) rfl ?_
          refine hl_nil ?_
          refine thenQ_n ?_
          refine hw_sub _ (ai_cons (t := 2) rfl (ai_cons (t := 4) rfl (ai_cons (t := 5) rfl (ai_cons (t := 6) rfl (ai_cons (t := 7) rfl (ai_cons (t := 9) rfl (ai_cons (t := 35) rfl (ai_cons (t := 36) rfl (ai_cons (t := 37) rfl (ai_cons (t := 55) rfl ai_nil)))))))))) ?_
          refine hw_cond rfl (fun hc_87 => ?_) (fun hc_87 => ?_)
          · replace h := ite_t h hc_87
            refine hw_region ?_
            refine hl_v (v_move rfl) rfl ?_
            refine hl_v (v_fieldA Try.underlying69 rfl Try.sizeOf3 rfl) rfl ?_
            refine hl_v (v_load1 Try.isAgg3 rfl (Blk.cell (hO.box 4 rfl) rfl)) rfl ?_
            refine hl_v (v_move rfl) rfl ?_
            refine hl_v (v_fieldA Try.underlying69 rfl Try.sizeOf34 rfl) rfl ?_
            refine hl_v (v_loadA (cs := (sw ((a.Edges.getD k default).Set))) Try.isAgg34 Try.sizeOf34 rfl (Blk.sub (n := 4) (hO.box 4 rfl) rfl) rfl) rfl ?_
            refine hl_h (h_call Try.call43 (evs_cons rfl (evs_cons rfl (evs_cons rfl (evs_cons rfl evs_nil)))) (nbEdge_spec (a0 := x2) (a1 := (a.Edges.getD k default).From) (a2 := a.States) (a3 := (a.Edges.getD k default).Set) (L := box b_64 (fGEdge.enc (a.Edges.getD k default)) 69 :: tbl (Value.int .i64) Value.bool b_48 (membersL a.Ends) :: tbl (Value.int .i64) Value.bool b_44 (membersL a.Starts) :: box b_13 [.int .i64 (0 : Int), .slice none 0 0, .slice none 0 0, .slice none 0 0] 25 :: fz fGEdge.rep v_5 a.Edges :: L) (Own.sel (Ls := [box b_36 [.int .i64 x2.Nfa.States, v_66, v_67, v_68, .bool x2.full] 77, own fInt 3 v_66 x2.Nfa.Starts, own fInt 3 v_67 x2.Nfa.Ends, own fGEdge 69 v_68 x2.Nfa.Edges, box b_64 (fGEdge.enc (a.Edges.getD k default)) 69, tbl (Value.int .i64) Value.bool b_48 (membersL a.Ends), tbl (Value.int .i64) Value.bool b_44 (membersL a.Starts), box b_13 [.int .i64 (0 : Int), .slice none 0 0, .slice none 0 0, .slice none 0 0] 25, fz fGEdge.rep v_5 a.Edges]) (L := L) [0, 1, 2, 3, 4, 5, 6, 7, 8] rfl hO))) rfl ?_
            rintro vv H_88 ⟨Z_89, v_91, v_92, v_93, hz_90, hv, hO⟩
            obtain rfl := hv.symm
            replace hZ := fun b hb => hz_90 b (hZ b hb)
            replace hO : Own H_88 Z_89 (box b_36 [.int .i64 (((nbEdge x2 ⟨((a.Edges.getD k default).From), a.States, ((a.Edges.getD k default).Set)⟩).Nfa).States), v_91, v_92, v_93, .bool ((nbEdge x2 ⟨((a.Edges.getD k default).From), a.States, ((a.Edges.getD k default).Set)⟩).full)] 77 :: own fInt 3 v_91 (((nbEdge x2 ⟨((a.Edges.getD k default).From), a.States, ((a.Edges.getD k default).Set)⟩).Nfa).Starts) :: own fInt 3 v_92 (((nbEdge x2 ⟨((a.Edges.getD k default).From), a.States, ((a.Edges.getD k default).Set)⟩).Nfa).Ends) :: own fGEdge 69 v_93 (((nbEdge x2 ⟨((a.Edges.getD k default).From), a.States, ((a.Edges.getD k default).Set)⟩).Nfa).Edges) :: box b_64 (fGEdge.enc (a.Edges.getD k default)) 69 :: tbl (Value.int .i64) Value.bool b_48 (membersL a.Ends) :: tbl (Value.int .i64) Value.bool b_44 (membersL a.Starts) :: box b_13 [.int .i64 (0 : Int), .slice none 0 0, .slice none 0 0, .slice none 0 0] 25 :: fz fGEdge.rep v_5 a.Edges :: L) := hO
            refine hl_nil ?_
            refine thenQ_n ?_
            refine ⟨_, (ai_cons (t := 2) rfl (ai_cons (t := 4) rfl (ai_cons (t := 5) rfl (ai_cons (t := 6) rfl (ai_cons (t := 7) rfl (ai_cons (t := 9) rfl (ai_cons (t := 35) rfl (ai_cons (t := 36) rfl (ai_cons (t := 37) rfl ai_nil))))))))), ⟨(nbEdge x2 ⟨((a.Edges.getD k default).From), a.States, ((a.Edges.getD k default).Set)⟩), v_91, v_92, v_93, _, rfl, hZ, h, hO⟩⟩
          · replace h := ite_f h hc_87
            refine hw_skip ?_
            refine thenQ_n ?_
            refine ⟨_, (ai_cons (t := 2) rfl (ai_cons (t := 4) rfl (ai_cons (t := 5) rfl (ai_cons (t := 6) rfl (ai_cons (t := 7) rfl (ai_cons (t := 9) rfl (ai_cons (t := 35) rfl (ai_cons (t := 36) rfl (ai_cons (t := 37) rfl ai_nil))))))))), ⟨x2, v_66, v_67, v_68, _, rfl, hZ, h, hO⟩⟩
        · rintro _ H_84 ⟨x3, v_80, v_81, v_82, Z_85, rfl, hZ, h, hO⟩
          replace h := hk_86 x3 h
          refine hw_seq ?_
          refine hw_region ?_
          refine hl_v (v_move rfl) rfl ?_
          refine hl_v (v_fieldA Try.underlying69 rfl Try.sizeOf3 rfl) rfl ?_
          refine hl_v (v_load1 Try.isAgg3 rfl (Blk.cell (hO.box 4 rfl) rfl)) rfl ?_
          refine hl_v (v_lookup1 (d := false) (keyInt Try.underlying3) rfl Try.underlying66 Try.zeroValue4 rfl rfl (hO.tbl 6 rfl)) rfl ?_
          refine hl_v (v_move rfl) rfl ?_
          refine hl_g rfl rfl (fun hg => (v_move rfl)) rfl ?_
          refine hl_g rfl rfl (fun hg => (v_fieldA Try.underlying69 rfl Try.sizeOf3 rfl)) rfl ?_
          refine hl_g rfl rfl (fun hg => (v_load1 Try.isAgg3 (gv_ok rfl hg) (Blk.cell (hO.box 4 rfl) rfl))) rfl ?_
          refine hl_g rfl rfl (fun hg => (v_lookup1 (d := false) (keyInt Try.underlying3) rfl Try.underlying66 Try.zeroValue4 (gv_ok rfl hg) (gv_ok rfl hg) (hO.tbl 5 rfl))) rfl ?_
          refine hl_v (v_and rfl rfl) rfl ?_
          refine hl_nil ?_
          refine thenQ_n ?_
          refine hw_sub _ (ai_cons (t := 2) rfl (ai_cons (t := 4) rfl (ai_cons (t := 5) rfl (ai_cons (t := 6) rfl (ai_cons (t := 7) rfl (ai_cons (t := 9) rfl (ai_cons (t := 35) rfl (ai_cons (t := 36) rfl (ai_cons (t := 37) rfl (ai_cons (t := 72) rfl ai_nil)))))))))) ?_
          refine hw_cond rfl (fun hc_94 => ?_) (fun hc_94 => ?_)
          · replace h := ite_t h hc_94
            refine hw_region ?_
            refine hl_v (v_move rfl) rfl ?_
            refine hl_v (v_move rfl) rfl ?_
            refine hl_v (v_move rfl) rfl ?_
            refine hl_v (v_fieldA Try.underlying69 rfl Try.sizeOf34 rfl) rfl ?_
            refine hl_v (v_loadA (cs := (sw ((a.Edges.getD k default).Set))) Try.isAgg34 Try.sizeOf34 rfl (Blk.sub (n := 4) (hO.box 4 rfl) rfl) rfl) rfl ?_
            refine hl_h (h_call Try.call43 (evs_cons rfl (evs_cons rfl (evs_cons rfl (evs_cons rfl evs_nil)))) (nbEdge_spec (a0 := x3) (a1 := a.States) (a2 := a.States) (a3 := (a.Edges.getD k default).Set) (L := box b_64 (fGEdge.enc (a.Edges.getD k default)) 69 :: tbl (Value.int .i64) Value.bool b_48 (membersL a.Ends) :: tbl (Value.int .i64) Value.bool b_44 (membersL a.Starts) :: box b_13 [.int .i64 (0 : Int), .slice none 0 0, .slice none 0 0, .slice none 0 0] 25 :: fz fGEdge.rep v_5 a.Edges :: L) (Own.sel (Ls := [box b_36 [.int .i64 x3.Nfa.States, v_80, v_81, v_82, .bool x3.full] 77, own fInt 3 v_80 x3.Nfa.Starts, own fInt 3 v_81 x3.Nfa.Ends, own fGEdge 69 v_82 x3.Nfa.Edges, box b_64 (fGEdge.enc (a.Edges.getD k default)) 69, tbl (Value.int .i64) Value.bool b_48 (membersL a.Ends), tbl (Value.int .i64) Value.bool b_44 (membersL a.Starts), box b_13 [.int .i64 (0 : Int), .slice none 0 0, .slice none 0 0, .slice none 0 0] 25, fz fGEdge.rep v_5 a.Edges]) (L := L) [0, 1, 2, 3, 4, 5, 6, 7, 8] rfl hO))) rfl ?_
            rintro vv H_95 ⟨Z_96, v_98, v_99, v_100, hz_97, hv, hO⟩
            obtain rfl := hv.symm
            replace hZ := fun b hb => hz_97 b (hZ b hb)
            replace hO : Own H_95 Z_96 (box b_36 [.int .i64 (((nbEdge x3 ⟨a.States, a.States, ((a.Edges.getD k default).Set)⟩).Nfa).States), v_98, v_99, v_100, .bool ((nbEdge x3 ⟨a.States, a.States, ((a.Edges.getD k default).Set)⟩).full)] 77 :: own fInt 3 v_98 (((nbEdge x3 ⟨a.States, a.States, ((a.Edges.getD k default).Set)⟩).Nfa).Starts) :: own fInt 3 v_99 (((nbEdge x3 ⟨a.States, a.States, ((a.Edges.getD k default).Set)⟩).Nfa).Ends) :: own fGEdge 69 v_100 (((nbEdge x3 ⟨a.States, a.States, ((a.Edges.getD k default).Set)⟩).Nfa).Edges) :: box b_64 (fGEdge.enc (a.Edges.getD k default)) 69 :: tbl (Value.int .i64) Value.bool b_48 (membersL a.Ends) :: tbl (Value.int .i64) Value.bool b_44 (membersL a.Starts) :: box b_13 [.int .i64 (0 : Int), .slice none 0 0, .slice none 0 0, .slice none 0 0] 25 :: fz fGEdge.rep v_5 a.Edges :: L) := hO
            refine hl_nil ?_
            refine blockQ_n ?_
            refine thenQ_n ?_
            refine hw_region ?_
            refine hl_v (v_add rfl rfl (by have hq := of_decide_eq_true hc_62; have hm := hln_52; constructor <;> omega)) rfl ?_
            refine hl_v (v_move rfl) rfl ?_
            refine hl_nil ?_
            refine thenQ_n ?_
            exact ⟨_, _, (ai_cons (t := 2) rfl (ai_cons (t := 4) rfl (ai_cons (t := 5) rfl (ai_cons (t := 6) rfl (ai_cons (t := 7) rfl (ai_cons (t := 35) rfl (ai_cons (t := 36) rfl (ai_cons (t := 37) rfl ai_nil)))))))), ⟨(nbEdge x3 ⟨a.States, a.States, ((a.Edges.getD k default).Set)⟩), k + 1, v_98, v_99, v_100, _, rfl, rfl, hZ, h, (by have hq := of_decide_eq_true hc_62; omega), (Own.sel (Ls := [box b_36 [.int .i64 (((nbEdge x3 ⟨a.States, a.States, ((a.Edges.getD k default).Set)⟩).Nfa).States), v_98, v_99, v_100, .bool ((nbEdge x3 ⟨a.States, a.States, ((a.Edges.getD k default).Set)⟩).full)] 77, own fInt 3 v_98 (((nbEdge x3 ⟨a.States, a.States, ((a.Edges.getD k default).Set)⟩).Nfa).Starts), own fInt 3 v_99 (((nbEdge x3 ⟨a.States, a.States, ((a.Edges.getD k default).Set)⟩).Nfa).Ends), own fGEdge 69 v_100 (((nbEdge x3 ⟨a.States, a.States, ((a.Edges.getD k default).Set)⟩).Nfa).Edges), box b_64 (fGEdge.enc (a.Edges.getD k default)) 69, tbl (Value.int .i64) Value.bool b_48 (membersL a.Ends), tbl (Value.int .i64) Value.bool b_44 (membersL a.Starts), box b_13 [.int .i64 (0 : Int), .slice none 0 0, .slice none 0 0, .slice none 0 0] 25, fz fGEdge.rep v_5 a.Edges]) (L := L) [5, 6, 0, 1, 2, 3, 7, 8] rfl hO)⟩, (by have hq := of_decide_eq_true hc_62; omega)⟩
          · replace h := ite_f h hc_94
            refine hw_skip ?_
            refine blockQ_n ?_
            refine thenQ_n ?_
            refine hw_region ?_
            refine hl_v (v_add rfl rfl (by have hq := of_decide_eq_true hc_62; have hm := hln_52; constructor <;> omega)) rfl ?_
            refine hl_v (v_move rfl) rfl ?_
            refine hl_nil ?_
            refine thenQ_n ?_
            exact ⟨_, _, (ai_cons (t := 2) rfl (ai_cons (t := 4) rfl (ai_cons (t := 5) rfl (ai_cons (t := 6) rfl (ai_cons (t := 7) rfl (ai_cons (t := 35) rfl (ai_cons (t := 36) rfl (ai_cons (t := 37) rfl ai_nil)))))))), ⟨x3, k + 1, v_80, v_81, v_82, _, rfl, rfl, hZ, h, (by have hq := of_decide_eq_true hc_62; omega), (Own.sel (Ls := [box b_36 [.int .i64 x3.Nfa.States, v_80, v_81, v_82, .bool x3.full] 77, own fInt 3 v_80 x3.Nfa.Starts, own fInt 3 v_81 x3.Nfa.Ends, own fGEdge 69 v_82 x3.Nfa.Edges, box b_64 (fGEdge.enc (a.Edges.getD k default)) 69, tbl (Value.int .i64) Value.bool b_48 (membersL a.Ends), tbl (Value.int .i64) Value.bool b_44 (membersL a.Starts), box b_13 [.int .i64 (0 : Int), .slice none 0 0, .slice none 0 0, .slice none 0 0] 25, fz fGEdge.rep v_5 a.Edges]) (L := L) [5, 6, 0, 1, 2, 3, 7, 8] rfl hO)⟩, (by have hq := of_decide_eq_true hc_62; omega)⟩
    · replace h := ite_f h hc_62
      refine hw_exit ?_
      refine thenQ_e ?_
      refine thenQ_e ?_
      refine blockQ_hit ?_
      refine thenQ_n ?_
      refine hw_seq ?_
      refine hw_region ?_
      refine hl_v (v_move rfl) rfl ?_
      refine hl_h (h_call Try.call44 (evs_cons rfl evs_nil) (nbEnd_spec (a0 := x) (L := tbl (Value.int .i64) Value.bool b_48 (membersL a.Ends) :: tbl (Value.int .i64) Value.bool b_44 (membersL a.Starts) :: box b_13 [.int .i64 (0 : Int), .slice none 0 0, .slice none 0 0, .slice none 0 0] 25 :: fz fGEdge.rep v_5 a.Edges :: L) (Own.sel (Ls := [tbl (Value.int .i64) Value.bool b_48 (membersL a.Ends), tbl (Value.int .i64) Value.bool b_44 (membersL a.Starts), box b_36 [.int .i64 x.Nfa.States, v_53, v_54, v_55, .bool x.full] 77, own fInt 3 v_53 x.Nfa.Starts, own fInt 3 v_54 x.Nfa.Ends, own fGEdge 69 v_55 x.Nfa.Edges, box b_13 [.int .i64 (0 : Int), .slice none 0 0, .slice none 0 0, .slice none 0 0] 25, fz fGEdge.rep v_5 a.Edges]) (L := L) [2, 3, 4, 5, 0, 1, 6, 7] rfl hO))) rfl ?_
      rintro vv H_104 ⟨Z_105, v_101, v_102, v_103, hz_106, hv, hO⟩
      obtain rfl := hv.symm
      replace hZ := fun b hb => hz_106 b (hZ b hb)
      replace hO : Own H_104 Z_105 (own fInt 3 v_101 (((nbEnd x).1).Starts) :: own fInt 3 v_102 (((nbEnd x).1).Ends) :: own fGEdge 69 v_103 (((nbEnd x).1).Edges) :: tbl (Value.int .i64) Value.bool b_48 (membersL a.Ends) :: tbl (Value.int .i64) Value.bool b_44 (membersL a.Starts) :: box b_13 [.int .i64 (0 : Int), .slice none 0 0, .slice none 0 0, .slice none 0 0] 25 :: fz fGEdge.rep v_5 a.Edges :: L) := hO
      refine hl_v (v_extract rfl rfl) rfl ?_
      refine hl_v (v_extract rfl rfl) rfl ?_
      refine hl_s (o_storeA (us := [.int .i64 (((nbEnd x).1).States), v_101, v_102, v_103]) hO 5 rfl Try.sizeOf25 rfl rfl rfl rfl (by simp only [List.forall_mem_cons]; exact ⟨rfl, (Sl.one (hO.osl 0 rfl)), (Sl.one (hO.osl 1 rfl)), (Sl.one (hO.osl 2 rfl)), by simp⟩)) ?_
      rintro _ H_107 hO
      replace hO : Own H_107 Z_105 (own fInt 3 v_101 (((nbEnd x).1).Starts) :: own fInt 3 v_102 (((nbEnd x).1).Ends) :: own fGEdge 69 v_103 (((nbEnd x).1).Edges) :: tbl (Value.int .i64) Value.bool b_48 (membersL a.Ends) :: tbl (Value.int .i64) Value.bool b_44 (membersL a.Starts) :: box b_13 [.int .i64 (((nbEnd x).1).States), v_101, v_102, v_103] 25 :: fz fGEdge.rep v_5 a.Edges :: L) := hO
      refine hl_v (v_assign rfl) rfl ?_
      refine hl_nil ?_
      refine thenQ_n ?_
      refine hw_sub _ (ai_cons (t := 2) rfl (ai_cons (t := 3) rfl ai_nil)) ?_
      refine hw_ret ?_
      refine ret_i _ (ra_c rfl (fun w hw => run_loadVar_at (cs := [.int .i64 (((nbEnd x).1).States), v_101, v_102, v_103]) Try.isAgg25 Try.sizeOf25 (Blk.at0 (hO.box 5 rfl)) rfl w hw) (ra_t rfl ra_nil)) ?_
      exact ⟨_, ((nbEnd x).1), (nbEnd x).2, v_101, v_102, v_103, hZ, h, rfl, (Own.sel (Ls := [own fInt 3 v_101 (((nbEnd x).1).Starts), own fInt 3 v_102 (((nbEnd x).1).Ends), own fGEdge 69 v_103 (((nbEnd x).1).Edges), tbl (Value.int .i64) Value.bool b_48 (membersL a.Ends), tbl (Value.int .i64) Value.bool b_44 (membersL a.Starts), box b_13 [.int .i64 (((nbEnd x).1).States), v_101, v_102, v_103] 25, fz fGEdge.rep v_5 a.Edges]) (L := L) [0, 1, 2] rfl hO)⟩
theorem nfaStar_spec {a0 : GNfa} {v_1 : Value} {v_3 : Value} {v_5 : Value} {L : List As} {H : Heap} {Z : Nat → Prop} (hO : Own H Z (L)) (hf_2 : Fz fInt.rep L v_1 a0.Starts) (hf_4 : Fz fInt.rep L v_3 a0.Ends) (hf_6 : Fz fGEdge.rep L v_5 a0.Edges) : HC Try.prog 22 [.agg [.int .i64 a0.States, v_1, v_3, v_5].toArray] H (fun v H' => ∃ (Z' : Nat → Prop) (v_7 : Value) (v_8 : Value) (v_9 : Value), (∀ b, Z b → Z' b) ∧ v = .tuple #[.agg [.int .i64 ((nStar a0).1).States, v_7, v_8, v_9].toArray, .int .i64 ((nStar a0).2)] ∧ Own H' Z' (own fInt 3 v_7 ((nStar a0).1).Starts :: own fInt 3 v_8 ((nStar a0).1).Ends :: own fGEdge 69 v_9 ((nStar a0).1).Edges :: L)) := by
  refine (nfaStar_ok (a := a0) (@nfaStar_wp a0) hO hf_2 hf_4 hf_6).mono ?_
  rintro v H' ⟨Z', r0, r1, v_7, v_8, v_9, hz, hq, hv, hO'⟩
  obtain ⟨rfl, rfl⟩ := hq
  exact ⟨Z', v_7, v_8, v_9, hz, hv, hO'⟩

end Go.Proofs.Ytbaciogbhjcdoaa
