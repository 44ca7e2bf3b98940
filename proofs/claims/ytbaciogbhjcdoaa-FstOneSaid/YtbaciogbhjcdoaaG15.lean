/- Walks: functions do as their plain formulas say. No condition. -/
import Derived.Test.YtbaciogbhjcdoaaG15a
set_option linter.unusedVariables false
set_option linter.unusedSimpArgs false
set_option maxRecDepth 20000
namespace Go.Proofs.Ytbaciogbhjcdoaa
open Go.Proofs
theorem fInP_ok {t : GFst} {v_1 : Value} {v_3 : Value} {v_5 : Value} {Q : GNfa → Int → Prop} {H : Heap} {Z : Nat → Prop} {L : List As} (h : wp_fInP t Q) (hO : Own H Z (L)) (hf_2 : Fz fGTip.rep L v_1 t.Starts) (hf_4 : Fz fGTip.rep L v_3 t.Ends) (hf_6 : Fz fGArc.rep L v_5 t.Arcs) : HC Try.prog 33 [.agg [.int .i64 t.States, v_1, v_3, v_5].toArray] H (fun v H' => ∃ (Z' : Nat → Prop) (r0 : GNfa) (r1 : Int) (v_7 : Value) (v_8 : Value) (v_9 : Value), (∀ b, Z b → Z' b) ∧ Q r0 r1 ∧ v = .tuple #[.agg [.int .i64 r0.States, v_7, v_8, v_9].toArray, .int .i64 r1] ∧ Own H' Z' (own fInt 3 v_7 r0.Starts :: own fInt 3 v_8 r0.Ends :: own fGEdge 69 v_9 r0.Edges :: L)) := by
 replace hO := hO.inZ
 replace hO := Fz.items [_] hf_2 hO
 replace hO := Fz.items [_, _] hf_4 hO
 replace hO := Fz.items [_, _, _] hf_6 hO
 unfold wp_fInP at h
 refine hc_of_hw (N := 44) (rs := [(.cell 2 25), (.tmp 3)]) Try.func33 rfl rfl rfl rfl (hw_seq (hw_region (hl_h (o_box (cs := [.int .i64 t.States, v_1, v_3, v_5]) hO rfl rfl) rfl ?_)))
 rintro _ H_10 ⟨b_11, rfl, hO⟩
 refine hl_h (o_alloc (cs := [.int .i64 (0 : Int), .slice none 0 0, .slice none 0 0, .slice none 0 0]) hO Try.zeroValue25 rfl) rfl ?_
 rintro _ H_12 ⟨b_13, rfl, hO⟩
 refine hl_v (v_assign rfl) rfl (hl_nil (thenQ_n (hw_seq (hw_seq (hw_region (hl_v (v_loadA Try.isAgg48 Try.sizeOf48 rfl (Blk.at0 (hO.box 1 rfl)) rfl) rfl (hl_h (h_call Try.call30 (evs_cons rfl evs_nil) (fCheckP_spec (a0 := t) hO (Fz.of (i := 4) rfl) (Fz.of (i := 3) rfl) (Fz.of (i := 2) rfl))) rfl ?_)))))))
 rintro _ H_14 ⟨Z_15, _, rfl, hO⟩
 refine hl_v (v_assign rfl) rfl (hl_nil (thenQ_n (hw_seq (hw_region (hl_v (v_move rfl) rfl (hl_v (v_neq rfl rfl) rfl (hl_nil (thenQ_n (hw_cond rfl (fun hc_17 => ?_) (fun hc_17 => ?_))))))))))
 ·replace h := ite_t h hc_17
  refine hw_seq (hw_region (hl_v (v_buildF (cs := [.int .i64 (0 : Int), .slice none 0 0, .slice none 0 0, .slice none 0 0]) (xs := []) (is := []) rfl evs_nil (fun w => by show _ = _; kernel_rfl)) rfl (hl_v (v_move rfl) rfl (hl_s (o_storeA (us := [.int .i64 (0 : Int), .slice none 0 0, .slice none 0 0, .slice none 0 0]) hO 0 rfl Try.sizeOf25 rfl rfl rfl rfl (by simp only [List.forall_mem_cons]; exact ⟨rfl, rfl, rfl, rfl, by simp⟩)) ?_))))
  rintro _ H_18 hO
  refine hl_v (v_assign rfl) rfl (hl_nil (thenQ_n (hw_ret (thenQ_r ?_))))
  replace hO := hO.nil fInt 3
  replace hO := hO.nil fInt 3
  replace hO := hO.nil fGEdge 69
  refine ret_i _ (ra_c rfl (fun w hw => run_loadVar_at (cs := [.int .i64 (0 : Int), .slice none 0 0, .slice none 0 0, .slice none 0 0]) Try.isAgg25 Try.sizeOf25 (Blk.at0 (hO.box 3 rfl)) rfl w hw) (ra_t rfl ra_nil)) ?_
  exact ⟨_, (⟨(0 : Int), [], [], []⟩ : GNfa), fCheck t, .slice none 0 0, .slice none 0 0, .slice none 0 0, (hO.inz 8 rfl), h, rfl, (Own.sel (Ls := [own fGEdge 69 (.slice none 0 0) [], own fInt 3 (.slice none 0 0) [], own fInt 3 (.slice none 0 0) [], box b_13 [.int .i64 (0 : Int), .slice none 0 0, .slice none 0 0, .slice none 0 0] 25, box b_11 [.int .i64 t.States, v_1, v_3, v_5] 48, fz fGArc.rep v_5 t.Arcs, fz fGTip.rep v_3 t.Ends, fz fGTip.rep v_1 t.Starts, inZ Z]) (L := L) [2, 1, 0] rfl hO)⟩
 ·replace h := ite_f h hc_17
  refine hw_skip (thenQ_n (hw_seq (hw_hj (fun f' H' => ∃ (v_20 : Value) (v_25 : Value) (b_32 : Nat) (Z' : Nat → Prop), AllIn f' [(1, ptr b_11 0), (2, ptr b_13 0), (5, ptr b_32 0)] ∧ Own H' Z' (box b_32 [.int .i64 t.States, v_20, v_25, .slice none 0 0] 25 :: own fInt 3 v_25 (fStates t.Ends) :: own fInt 3 v_20 (fStates t.Starts) :: box b_13 [.int .i64 (0 : Int), .slice none 0 0, .slice none 0 0, .slice none 0 0] 25 :: box b_11 [.int .i64 t.States, v_1, v_3, v_5] 48 :: fz fGArc.rep v_5 t.Arcs :: fz fGTip.rep v_3 t.Ends :: fz fGTip.rep v_1 t.Starts :: inZ Z :: L)) ?_ ?_)))
  ·refine hw_held2 10 (fun H' => ∃ Z' : Nat → Prop, Own H' Z' (box b_13 [.int .i64 (0 : Int), .slice none 0 0, .slice none 0 0, .slice none 0 0] 25 :: box b_11 [.int .i64 t.States, v_1, v_3, v_5] 48 :: fz fGArc.rep v_5 t.Arcs :: fz fGTip.rep v_3 t.Ends :: fz fGTip.rep v_1 t.Starts :: inZ Z :: L)) (.step 0 false (.step 1 false (.step 2 false (.step 3 false (.step 5 false (.step 6 false (.two 4 9 (.two 7 9 (.step 8 false (.step 9 true .done)) (.step 7 true (.step 8 false .done))) (.step 4 true (.step 7 true (.step 8 false .done)))))))))) (.step 10 true .done) Try.mixed (by kernel_rfl) ⟨_, hO⟩ (hd_v rfl (fun _ _ => (v_fieldA Try.underlying48 rfl Try.sizeOf3 rfl)) rfl (hd_v rfl (fun H' hS => by obtain ⟨Z', hO⟩ := hS; exact (v_load1 Try.isAgg3 rfl (Blk.cell (hO.box 1 rfl) rfl))) rfl (hd_v rfl (fun _ _ => (v_fieldA Try.underlying48 rfl Try.sizeOf45 rfl)) rfl (hd_v rfl (fun H' hS => by obtain ⟨Z', hO⟩ := hS; exact (v_load1 Try.isAgg45 rfl (Blk.cell (hO.box 1 rfl) rfl))) rfl (hd_v rfl (fun _ _ => (v_fieldA Try.underlying48 rfl Try.sizeOf45 rfl)) rfl (hd_v rfl (fun H' hS => by obtain ⟨Z', hO⟩ := hS; exact (v_load1 Try.isAgg45 rfl (Blk.cell (hO.box 1 rfl) rfl))) rfl (hd_two ?_ ?_)))))))
   ·obtain ⟨hs_19, h⟩ := h
    refine hd_h (h_call Try.call71 (evs_cons rfl evs_nil) (fStatesP_spec (a0 := t.Starts) hs_19 hO (Rd.of_fz (i := 4) rfl))) (by rintro v_20 H_21 ⟨Z_22, _, _, rfl, hO⟩; exact ⟨_, (Own.sel (Ls := [own fInt 3 v_20 (fStates t.Starts), box b_13 [.int .i64 (0 : Int), .slice none 0 0, .slice none 0 0, .slice none 0 0] 25, box b_11 [.int .i64 t.States, v_1, v_3, v_5] 48, fz fGArc.rep v_5 t.Arcs, fz fGTip.rep v_3 t.Ends, fz fGTip.rep v_1 t.Starts, inZ Z]) (L := L) [1, 2, 3, 4, 5, 6] rfl hO)⟩) rfl ?_
    rintro v_20 H_21 ⟨Z_22, _, _, rfl, hO⟩
    refine hd_two ?_ ?_
    ·obtain ⟨hs_24, h⟩ := h
     refine hd_h (h_call Try.call71 (evs_cons rfl evs_nil) (fStatesP_spec (a0 := t.Ends) hs_24 hO (Rd.of_fz (i := 4) rfl))) (by rintro v_25 H_26 ⟨Z_27, _, _, rfl, hO⟩; exact ⟨_, (Own.sel (Ls := [own fInt 3 v_25 (fStates t.Ends), own fInt 3 v_20 (fStates t.Starts), box b_13 [.int .i64 (0 : Int), .slice none 0 0, .slice none 0 0, .slice none 0 0] 25, box b_11 [.int .i64 t.States, v_1, v_3, v_5] 48, fz fGArc.rep v_5 t.Arcs, fz fGTip.rep v_3 t.Ends, fz fGTip.rep v_1 t.Starts, inZ Z]) (L := L) [2, 3, 4, 5, 6, 7] rfl hO)⟩) rfl ?_
     rintro v_25 H_26 ⟨Z_27, _, _, rfl, hO⟩
     have hsh_29 := Sl.sh (hO.osl 1 rfl)
     have hsh_30 := Sl.sh (hO.osl 0 rfl)
     refine hd_v rfl (fun _ _ => (v_buildF (cs := [.int .i64 t.States, v_20, v_25, .slice none 0 0]) (xs := [.tmp 15, .tmp 18, .tmp 21]) (is := [0, 1, 2]) rfl (evs_cons rfl (evs_cons rfl (evs_cons rfl evs_nil))) (fun w => by obtain ⟨_, _, _, hw⟩ := hsh_29; (try subst hw); obtain ⟨_, _, _, hw⟩ := hsh_30; (try subst hw); show _ = _; kernel_rfl))) rfl (hd_h (o_alloc (cs := [.int .i64 (0 : Int), .slice none 0 0, .slice none 0 0, .slice none 0 0]) hO Try.zeroValue25 rfl) (by rintro _ H_31 ⟨b_32, rfl, hO⟩; exact ⟨_, (Own.sel (Ls := [box b_32 [.int .i64 (0 : Int), .slice none 0 0, .slice none 0 0, .slice none 0 0] 25, own fInt 3 v_25 (fStates t.Ends), own fInt 3 v_20 (fStates t.Starts), box b_13 [.int .i64 (0 : Int), .slice none 0 0, .slice none 0 0, .slice none 0 0] 25, box b_11 [.int .i64 t.States, v_1, v_3, v_5] 48, fz fGArc.rep v_5 t.Arcs, fz fGTip.rep v_3 t.Ends, fz fGTip.rep v_1 t.Starts, inZ Z]) (L := L) [3, 4, 5, 6, 7, 8] rfl hO)⟩) rfl ?_)
     rintro _ H_31 ⟨b_32, rfl, hO⟩
     refine hd_nil (hd_s (o_storeA (us := [.int .i64 t.States, v_20, v_25, .slice none 0 0]) hO 0 rfl Try.sizeOf25 rfl rfl rfl rfl (by simp only [List.forall_mem_cons]; exact ⟨rfl, (Sl.one (hO.osl 2 rfl)), (Sl.one (hO.osl 1 rfl)), rfl, by simp⟩)) (fun _ _ _ => trivial) ?_)
     rintro _ H_33 hO
     refine hd_nil ?_
     exact ⟨rfl, v_20, v_25, b_32, _, (a_c 1 rfl (a_c 2 rfl (a_c 5 rfl a_n))), hO⟩
    ·refine hd_h (o_alloc (cs := [.int .i64 (0 : Int), .slice none 0 0, .slice none 0 0, .slice none 0 0]) hO Try.zeroValue25 rfl) (by rintro _ H_34 ⟨b_35, rfl, hO⟩; exact ⟨_, (Own.sel (Ls := [box b_35 [.int .i64 (0 : Int), .slice none 0 0, .slice none 0 0, .slice none 0 0] 25, own fInt 3 v_20 (fStates t.Starts), box b_13 [.int .i64 (0 : Int), .slice none 0 0, .slice none 0 0, .slice none 0 0] 25, box b_11 [.int .i64 t.States, v_1, v_3, v_5] 48, fz fGArc.rep v_5 t.Arcs, fz fGTip.rep v_3 t.Ends, fz fGTip.rep v_1 t.Starts, inZ Z]) (L := L) [2, 3, 4, 5, 6, 7] rfl hO)⟩) rfl ?_
     rintro _ H_34 ⟨b_35, rfl, hO⟩
     obtain ⟨hs_36, h⟩ := h
     refine hd_h (h_call Try.call71 (evs_cons rfl evs_nil) (fStatesP_spec (a0 := t.Ends) hs_36 hO (Rd.of_fz (i := 5) rfl))) (by rintro v_37 H_38 ⟨Z_39, _, _, rfl, hO⟩; exact ⟨_, (Own.sel (Ls := [own fInt 3 v_37 (fStates t.Ends), box b_35 [.int .i64 (0 : Int), .slice none 0 0, .slice none 0 0, .slice none 0 0] 25, own fInt 3 v_20 (fStates t.Starts), box b_13 [.int .i64 (0 : Int), .slice none 0 0, .slice none 0 0, .slice none 0 0] 25, box b_11 [.int .i64 t.States, v_1, v_3, v_5] 48, fz fGArc.rep v_5 t.Arcs, fz fGTip.rep v_3 t.Ends, fz fGTip.rep v_1 t.Starts, inZ Z]) (L := L) [3, 4, 5, 6, 7, 8] rfl hO)⟩) rfl ?_
     rintro v_37 H_38 ⟨Z_39, _, _, rfl, hO⟩
     have hsh_41 := Sl.sh (hO.osl 2 rfl)
     have hsh_42 := Sl.sh (hO.osl 0 rfl)
     refine hd_v rfl (fun _ _ => (v_buildF (cs := [.int .i64 t.States, v_20, v_37, .slice none 0 0]) (xs := [.tmp 15, .tmp 18, .tmp 21]) (is := [0, 1, 2]) rfl (evs_cons rfl (evs_cons rfl (evs_cons rfl evs_nil))) (fun w => by obtain ⟨_, _, _, hw⟩ := hsh_41; (try subst hw); obtain ⟨_, _, _, hw⟩ := hsh_42; (try subst hw); show _ = _; kernel_rfl))) rfl (hd_nil (hd_s (o_storeA (us := [.int .i64 t.States, v_20, v_37, .slice none 0 0]) hO 1 rfl Try.sizeOf25 rfl rfl rfl rfl (by simp only [List.forall_mem_cons]; exact ⟨rfl, (Sl.one (hO.osl 2 rfl)), (Sl.one (hO.osl 0 rfl)), rfl, by simp⟩)) (fun _ _ _ => trivial) ?_))
     rintro _ H_43 hO
     refine hd_nil ?_
     exact ⟨rfl, v_20, v_37, b_35, _, (a_c 1 rfl (a_c 2 rfl (a_c 5 rfl a_n))), (Own.sel (Ls := [own fInt 3 v_37 (fStates t.Ends), box b_35 [.int .i64 t.States, v_20, v_37, .slice none 0 0] 25, own fInt 3 v_20 (fStates t.Starts), box b_13 [.int .i64 (0 : Int), .slice none 0 0, .slice none 0 0, .slice none 0 0] 25, box b_11 [.int .i64 t.States, v_1, v_3, v_5] 48, fz fGArc.rep v_5 t.Arcs, fz fGTip.rep v_3 t.Ends, fz fGTip.rep v_1 t.Starts, inZ Z]) (L := L) [1, 0, 2, 3, 4, 5, 6, 7, 8] rfl hO)⟩
   ·refine hd_h (o_alloc (cs := [.int .i64 (0 : Int), .slice none 0 0, .slice none 0 0, .slice none 0 0]) hO Try.zeroValue25 rfl) (by rintro _ H_44 ⟨b_45, rfl, hO⟩; exact ⟨_, (Own.sel (Ls := [box b_45 [.int .i64 (0 : Int), .slice none 0 0, .slice none 0 0, .slice none 0 0] 25, box b_13 [.int .i64 (0 : Int), .slice none 0 0, .slice none 0 0, .slice none 0 0] 25, box b_11 [.int .i64 t.States, v_1, v_3, v_5] 48, fz fGArc.rep v_5 t.Arcs, fz fGTip.rep v_3 t.Ends, fz fGTip.rep v_1 t.Starts, inZ Z]) (L := L) [1, 2, 3, 4, 5, 6] rfl hO)⟩) rfl ?_
    rintro _ H_44 ⟨b_45, rfl, hO⟩
    obtain ⟨hs_46, h⟩ := h
    refine hd_h (h_call Try.call71 (evs_cons rfl evs_nil) (fStatesP_spec (a0 := t.Starts) hs_46 hO (Rd.of_fz (i := 5) rfl))) (by rintro v_47 H_48 ⟨Z_49, _, _, rfl, hO⟩; exact ⟨_, (Own.sel (Ls := [own fInt 3 v_47 (fStates t.Starts), box b_45 [.int .i64 (0 : Int), .slice none 0 0, .slice none 0 0, .slice none 0 0] 25, box b_13 [.int .i64 (0 : Int), .slice none 0 0, .slice none 0 0, .slice none 0 0] 25, box b_11 [.int .i64 t.States, v_1, v_3, v_5] 48, fz fGArc.rep v_5 t.Arcs, fz fGTip.rep v_3 t.Ends, fz fGTip.rep v_1 t.Starts, inZ Z]) (L := L) [2, 3, 4, 5, 6, 7] rfl hO)⟩) rfl ?_
    rintro v_47 H_48 ⟨Z_49, _, _, rfl, hO⟩
    obtain ⟨hs_51, h⟩ := h
    refine hd_h (h_call Try.call71 (evs_cons rfl evs_nil) (fStatesP_spec (a0 := t.Ends) hs_51 hO (Rd.of_fz (i := 5) rfl))) (by rintro v_52 H_53 ⟨Z_54, _, _, rfl, hO⟩; exact ⟨_, (Own.sel (Ls := [own fInt 3 v_52 (fStates t.Ends), own fInt 3 v_47 (fStates t.Starts), box b_45 [.int .i64 (0 : Int), .slice none 0 0, .slice none 0 0, .slice none 0 0] 25, box b_13 [.int .i64 (0 : Int), .slice none 0 0, .slice none 0 0, .slice none 0 0] 25, box b_11 [.int .i64 t.States, v_1, v_3, v_5] 48, fz fGArc.rep v_5 t.Arcs, fz fGTip.rep v_3 t.Ends, fz fGTip.rep v_1 t.Starts, inZ Z]) (L := L) [3, 4, 5, 6, 7, 8] rfl hO)⟩) rfl ?_
    rintro v_52 H_53 ⟨Z_54, _, _, rfl, hO⟩
    have hsh_56 := Sl.sh (hO.osl 1 rfl)
    have hsh_57 := Sl.sh (hO.osl 0 rfl)
    refine hd_v rfl (fun _ _ => (v_buildF (cs := [.int .i64 t.States, v_47, v_52, .slice none 0 0]) (xs := [.tmp 15, .tmp 18, .tmp 21]) (is := [0, 1, 2]) rfl (evs_cons rfl (evs_cons rfl (evs_cons rfl evs_nil))) (fun w => by obtain ⟨_, _, _, hw⟩ := hsh_56; (try subst hw); obtain ⟨_, _, _, hw⟩ := hsh_57; (try subst hw); show _ = _; kernel_rfl))) rfl (hd_nil (hd_s (o_storeA (us := [.int .i64 t.States, v_47, v_52, .slice none 0 0]) hO 2 rfl Try.sizeOf25 rfl rfl rfl rfl (by simp only [List.forall_mem_cons]; exact ⟨rfl, (Sl.one (hO.osl 1 rfl)), (Sl.one (hO.osl 0 rfl)), rfl, by simp⟩)) (fun _ _ _ => trivial) ?_))
    rintro _ H_58 hO
    refine hd_nil ?_
    exact ⟨rfl, v_47, v_52, b_45, _, (a_c 1 rfl (a_c 2 rfl (a_c 5 rfl a_n))), (Own.sel (Ls := [own fInt 3 v_52 (fStates t.Ends), own fInt 3 v_47 (fStates t.Starts), box b_45 [.int .i64 t.States, v_47, v_52, .slice none 0 0] 25, box b_13 [.int .i64 (0 : Int), .slice none 0 0, .slice none 0 0, .slice none 0 0] 25, box b_11 [.int .i64 t.States, v_1, v_3, v_5] 48, fz fGArc.rep v_5 t.Arcs, fz fGTip.rep v_3 t.Ends, fz fGTip.rep v_1 t.Starts, inZ Z]) (L := L) [2, 0, 1, 3, 4, 5, 6, 7, 8] rfl hO)⟩
  ·rintro _ H_59 ⟨v_20, v_25, b_32, Z_60, hai, hO⟩
   obtain ⟨hs_19, h⟩ := h
   obtain ⟨hs_24, h⟩ := h
   refine thenQ_n (hw_sub _ hai (hw_seq (hw_seq (hw_region (hl_v (v_fieldA Try.underlying48 rfl Try.sizeOf46 rfl) rfl (hl_v (v_load1 Try.isAgg46 rfl (Blk.cell (hO.box 4 rfl) rfl)) rfl ?_))))))
   have hln_61 := Sl.cap (hO.fsl 5 rfl)
   refine hl_v (v_lenL rfl Try.underlying46 rfl (hO.fsl 5 rfl)) rfl (hl_v (v_move rfl) rfl (hl_nil (thenQ_n (hw_block ?_))))
   obtain ⟨I_65, h, hI_67⟩ := h
   replace hO := hO.nil fGEdge 69
   refine hw_lp (fun n' g' H' => ∃ (n : GNfa) (k : Nat) (v_62 : Value) (v_63 : Value) (v_64 : Value) (Z' : Nat → Prop), n' = t.Arcs.length - k ∧ g' = [(2, ptr b_13 0), (5, ptr b_32 0), (24, v_5), (25, .int .i64 (t.Arcs.length : Int)), (26, .int .i64 (k : Int))] ∧ I_65 n k ∧ k ≤ t.Arcs.length ∧ Own H' Z' (own fGEdge 69 v_64 n.Edges :: box b_32 [.int .i64 n.States, v_62, v_63, v_64] 25 :: own fInt 3 v_63 n.Ends :: own fInt 3 v_62 n.Starts :: box b_13 [.int .i64 (0 : Int), .slice none 0 0, .slice none 0 0, .slice none 0 0] 25 :: fz fGArc.rep v_5 t.Arcs :: inZ Z :: L)) _ _ (a_c 2 rfl (a_c 5 rfl (a_c 24 rfl (a_c 25 rfl (a_c 26 rfl a_n))))) ⟨(⟨t.States, fStates t.Starts, fStates t.Ends, []⟩ : GNfa), 0, v_20, v_25, .slice none 0 0, _, rfl, rfl, h, by omega, (Own.sel (Ls := [own fGEdge 69 (.slice none 0 0) [], box b_32 [.int .i64 t.States, v_20, v_25, .slice none 0 0] 25, own fInt 3 v_25 (fStates t.Ends), own fInt 3 v_20 (fStates t.Starts), box b_13 [.int .i64 (0 : Int), .slice none 0 0, .slice none 0 0, .slice none 0 0] 25, box b_11 [.int .i64 t.States, v_1, v_3, v_5] 48, fz fGArc.rep v_5 t.Arcs, fz fGTip.rep v_3 t.Ends, fz fGTip.rep v_1 t.Starts, inZ Z]) (L := L) [0, 1, 2, 3, 4, 6, 9] rfl hO)⟩ ?_
   rintro _ _ H_68 ⟨n, k, v_62, v_63, v_64, Z_69, rfl, rfl, h, hb_70, hO⟩
   replace h := hI_67 n k h hb_70
   refine hw_seq (hw_region (hl_v (v_lss rfl rfl) rfl (hl_nil (thenQ_n (hw_seq (hw_cond rfl (fun hc_71 => ?_) (fun hc_71 => ?_)))))))
   ·replace h := ite_t h hc_71
    refine hw_skip (thenQ_n (hw_seq (hw_block (hw_seq (hw_region (hl_v (v_ixL Try.underlying46 Try.sizeOf50 rfl rfl (hO.fsl 5 rfl) (by exact ⟨Int.natCast_nonneg _, of_decide_eq_true hc_71⟩)) rfl (hl_v (v_loadFl Try.isAgg50 Try.sizeOf50 rfl (hO.fsl 5 rfl) rfl (by exact ⟨Int.natCast_nonneg _, of_decide_eq_true hc_71⟩)) rfl (hl_h (o_alloc (cs := (fGArc.enc (⟨(0 : Int), (0 : Int), BSet.zero, ([] : List UInt8), false⟩ : GArc))) hO Try.zeroValue50 rfl) rfl ?_))))))))
    rintro _ H_72 ⟨b_73, rfl, hO⟩
    refine hl_s (o_storeA (us := (fGArc.enc (t.Arcs.getD k default))) hO 0 rfl Try.sizeOf50 rfl rfl rfl rfl (by intro u hu; exact (fGArc).one _ u hu)) ?_
    rintro _ H_74 hO
    refine hl_nil (thenQ_n (hw_region (hl_v (v_fieldA Try.underlying25 rfl Try.sizeOf23 rfl) rfl (hl_v (v_load1 Try.isAgg23 rfl (Blk.cell (hO.box 2 rfl) rfl)) rfl (hl_v (v_fieldA Try.underlying50 rfl Try.sizeOf3 rfl) rfl (hl_v (v_load1 Try.isAgg3 rfl (Blk.cell (hO.box 0 rfl) rfl)) rfl (hl_v (v_fieldA Try.underlying50 rfl Try.sizeOf3 rfl) rfl (hl_v (v_load1 Try.isAgg3 rfl (Blk.cell (hO.box 0 rfl) rfl)) rfl (hl_v (v_fieldA Try.underlying50 rfl Try.sizeOf34 rfl) rfl (hl_v (v_loadA (cs := (sw ((t.Arcs.getD k default).Set))) Try.isAgg34 Try.sizeOf34 rfl (Blk.sub (n := 4) (hO.box 0 rfl) rfl) rfl) rfl (hl_v (v_buildF (cs := (fGEdge.enc (⟨(t.Arcs.getD k default).From, (t.Arcs.getD k default).To, (t.Arcs.getD k default).Set⟩ : GEdge))) (xs := [.tmp 33, .tmp 35, .tmp 37]) (is := [0, 1, 2]) rfl (evs_cons rfl (evs_cons rfl (evs_cons rfl evs_nil))) (fun w => by show _ = _; kernel_rfl)) rfl (hl_h (o_lit (g := fGEdge) (l := [(⟨(t.Arcs.getD k default).From, (t.Arcs.getD k default).To, (t.Arcs.getD k default).Set⟩ : GEdge)]) (xs := [.tmp 38]) hO Try.underlying23 Try.sizeOf69 Try.zeroValue69 rfl (evs_cons rfl evs_nil) rfl rfl rfl rfl rfl) rfl ?_))))))))))))
    rintro v_76 H_75 hO
    obtain ⟨hs_79, h⟩ := h
    refine hl_h (o_append (l2 := [(⟨(t.Arcs.getD k default).From, (t.Arcs.getD k default).To, (t.Arcs.getD k default).Set⟩ : GEdge)]) hO 2 rfl rfl Try.underlying23 Try.type69 rfl rfl rfl rfl rfl rfl rfl (hO.osl 0 rfl) hs_79 (le63 hs_79 rfl)) rfl ?_
    rintro v_78 H_77 hO
    refine hl_v (v_fieldA Try.underlying25 rfl Try.sizeOf23 rfl) rfl (hl_s (o_store1 hO 3 rfl Try.sizeOf23 rfl rfl rfl (Sl.one (hO.osl 2 rfl))) ?_)
    rintro _ H_80 hO
    refine hl_nil (blockQ_n (thenQ_n (hw_region (hl_v (v_add rfl rfl (by have hq := of_decide_eq_true hc_71; have hm := hln_61; constructor <;> omega)) rfl (hl_v (v_move rfl) rfl (hl_nil (thenQ_n ?_)))))))
    exact ⟨_, _, (a_c 2 rfl (a_c 5 rfl (a_c 24 rfl (a_c 25 rfl (a_c 26 rfl a_n))))), ⟨(⟨n.States, n.Starts, n.Ends, (n.Edges ++ [(⟨(t.Arcs.getD k default).From, (t.Arcs.getD k default).To, (t.Arcs.getD k default).Set⟩ : GEdge)])⟩ : GNfa), k + 1, v_62, v_63, v_78, _, rfl, rfl, h, (by have hq := of_decide_eq_true hc_71; omega), (Own.sel (Ls := [own fGEdge 69 v_76 [(⟨(t.Arcs.getD k default).From, (t.Arcs.getD k default).To, (t.Arcs.getD k default).Set⟩ : GEdge)], box b_73 (fGArc.enc (t.Arcs.getD k default)) 50, own fGEdge 69 v_78 (n.Edges ++ [(⟨(t.Arcs.getD k default).From, (t.Arcs.getD k default).To, (t.Arcs.getD k default).Set⟩ : GEdge)]), box b_32 [.int .i64 n.States, v_62, v_63, v_78] 25, own fInt 3 v_63 n.Ends, own fInt 3 v_62 n.Starts, box b_13 [.int .i64 (0 : Int), .slice none 0 0, .slice none 0 0, .slice none 0 0] 25, fz fGArc.rep v_5 t.Arcs, inZ Z]) (L := L) [2, 3, 4, 5, 6, 7, 8] rfl hO)⟩, (by have hq := of_decide_eq_true hc_71; omega)⟩
   ·replace h := ite_f h hc_71
    refine hw_exit (thenQ_e (thenQ_e (blockQ_hit (thenQ_n (hw_seq (hw_region (hl_v (v_loadA Try.isAgg25 Try.sizeOf25 rfl (Blk.at0 (hO.box 1 rfl)) rfl) rfl (hl_s (o_storeA (us := [.int .i64 n.States, v_62, v_63, v_64]) hO 4 rfl Try.sizeOf25 rfl rfl rfl rfl (by simp only [List.forall_mem_cons]; exact ⟨rfl, (Sl.one (hO.osl 3 rfl)), (Sl.one (hO.osl 2 rfl)), (Sl.one (hO.osl 0 rfl)), by simp⟩)) ?_))))))))
    rintro _ H_81 hO
    refine hl_v (v_assign rfl) rfl (hl_nil (thenQ_n (hw_ret (ret_i _ (ra_c rfl (fun w hw => run_loadVar_at (cs := [.int .i64 n.States, v_62, v_63, v_64]) Try.isAgg25 Try.sizeOf25 (Blk.at0 (hO.box 4 rfl)) rfl w hw) (ra_t rfl ra_nil)) ?_))))
    exact ⟨_, n, 0, v_62, v_63, v_64, (hO.inz 6 rfl), h, rfl, (Own.sel (Ls := [own fGEdge 69 v_64 n.Edges, box b_32 [.int .i64 n.States, v_62, v_63, v_64] 25, own fInt 3 v_63 n.Ends, own fInt 3 v_62 n.Starts, box b_13 [.int .i64 n.States, v_62, v_63, v_64] 25, fz fGArc.rep v_5 t.Arcs, inZ Z]) (L := L) [3, 2, 0] rfl hO)⟩
theorem fInP_spec {a0 : GFst} {v_1 : Value} {v_3 : Value} {v_5 : Value} {L : List As} {H : Heap} {Z : Nat → Prop} (hO : Own H Z (L)) (hf_2 : Fz fGTip.rep L v_1 a0.Starts) (hf_4 : Fz fGTip.rep L v_3 a0.Ends) (hf_6 : Fz fGArc.rep L v_5 a0.Arcs) : HC Try.prog 33 [.agg [.int .i64 a0.States, v_1, v_3, v_5].toArray] H (fun v H' => ∃ (Z' : Nat → Prop) (v_7 : Value) (v_8 : Value) (v_9 : Value), (∀ b, Z b → Z' b) ∧ v = .tuple #[.agg [.int .i64 ((fInN a0).1).States, v_7, v_8, v_9].toArray, .int .i64 ((fInN a0).2)] ∧ Own H' Z' (own fInt 3 v_7 ((fInN a0).1).Starts :: own fInt 3 v_8 ((fInN a0).1).Ends :: own fGEdge 69 v_9 ((fInN a0).1).Edges :: L)) := by
  refine (fInP_ok (t := a0) (@fInP_wp a0) hO hf_2 hf_4 hf_6).mono ?_
  rintro v H' ⟨Z', r0, r1, v_7, v_8, v_9, hz, hq, hv, hO'⟩
  obtain ⟨rfl, rfl⟩ := hq
  exact ⟨Z', v_7, v_8, v_9, hz, hv, hO'⟩

theorem fSortP_ok {t : GFst} {v_1 : Value} {v_3 : Value} {v_5 : Value} {Q : GFst → Int → Prop} {H : Heap} {Z : Nat → Prop} {L : List As} (h : wp_fSortP t Q) (hO : Own H Z (L)) (hf_2 : Fz fGTip.rep L v_1 t.Starts) (hf_4 : Fz fGTip.rep L v_3 t.Ends) (hf_6 : Fz fGArc.rep L v_5 t.Arcs) : HC Try.prog 29 [.agg [.int .i64 t.States, v_1, v_3, v_5].toArray] H (fun v H' => ∃ (Z' : Nat → Prop) (r0 : GFst) (r1 : Int) (v_7 : Value) (v_8 : Value) (v_9 : Value), (∀ b, Z b → Z' b) ∧ Q r0 r1 ∧ v = .tuple #[.agg [.int .i64 r0.States, v_7, v_8, v_9].toArray, .int .i64 r1] ∧ Own H' Z' (own fGTip 91 v_7 r0.Starts :: own fGTip 91 v_8 r0.Ends :: own fGArc 50 v_9 r0.Arcs :: L)) := by
 replace hO := hO.inZ
 replace hO := Fz.items [_] hf_2 hO
 replace hO := Fz.items [_, _] hf_4 hO
 replace hO := Fz.items [_, _, _] hf_6 hO
 unfold wp_fSortP at h
 refine hc_of_hw (N := 23) (rs := [(.cell 2 48), (.tmp 3)]) Try.func29 rfl rfl rfl rfl (hw_seq (hw_region (hl_h (o_box (cs := [.int .i64 t.States, v_1, v_3, v_5]) hO rfl rfl) rfl ?_)))
 rintro _ H_10 ⟨b_11, rfl, hO⟩
 refine hl_h (o_alloc (cs := [.int .i64 (0 : Int), .slice none 0 0, .slice none 0 0, .slice none 0 0]) hO Try.zeroValue48 rfl) rfl ?_
 rintro _ H_12 ⟨b_13, rfl, hO⟩
 refine hl_v (v_assign rfl) rfl (hl_nil (thenQ_n (hw_seq (hw_seq (hw_region (hl_v (v_loadA Try.isAgg48 Try.sizeOf48 rfl (Blk.at0 (hO.box 1 rfl)) rfl) rfl (hl_h (h_call Try.call30 (evs_cons rfl evs_nil) (fCheckP_spec (a0 := t) hO (Fz.of (i := 4) rfl) (Fz.of (i := 3) rfl) (Fz.of (i := 2) rfl))) rfl ?_)))))))
 rintro _ H_14 ⟨Z_15, _, rfl, hO⟩
 refine hl_v (v_assign rfl) rfl (hl_nil (thenQ_n (hw_seq (hw_region (hl_v (v_move rfl) rfl (hl_v (v_neq rfl rfl) rfl (hl_nil (thenQ_n (hw_cond rfl (fun hc_17 => ?_) (fun hc_17 => ?_))))))))))
 ·replace h := ite_t h hc_17
  refine hw_seq (hw_region (hl_v (v_buildF (cs := [.int .i64 (0 : Int), .slice none 0 0, .slice none 0 0, .slice none 0 0]) (xs := []) (is := []) rfl evs_nil (fun w => by show _ = _; kernel_rfl)) rfl (hl_v (v_move rfl) rfl (hl_s (o_storeA (us := [.int .i64 (0 : Int), .slice none 0 0, .slice none 0 0, .slice none 0 0]) hO 0 rfl Try.sizeOf48 rfl rfl rfl rfl (by simp only [List.forall_mem_cons]; exact ⟨rfl, rfl, rfl, rfl, by simp⟩)) ?_))))
  rintro _ H_18 hO
  refine hl_v (v_assign rfl) rfl (hl_nil (thenQ_n (hw_ret (thenQ_r ?_))))
  replace hO := hO.nil fGTip 91
  replace hO := hO.nil fGTip 91
  replace hO := hO.nil fGArc 50
  refine ret_i _ (ra_c rfl (fun w hw => run_loadVar_at (cs := [.int .i64 (0 : Int), .slice none 0 0, .slice none 0 0, .slice none 0 0]) Try.isAgg48 Try.sizeOf48 (Blk.at0 (hO.box 3 rfl)) rfl w hw) (ra_t rfl ra_nil)) ?_
  exact ⟨_, (⟨(0 : Int), [], [], []⟩ : GFst), fCheck t, .slice none 0 0, .slice none 0 0, .slice none 0 0, (hO.inz 8 rfl), h, rfl, (Own.sel (Ls := [own fGArc 50 (.slice none 0 0) [], own fGTip 91 (.slice none 0 0) [], own fGTip 91 (.slice none 0 0) [], box b_13 [.int .i64 (0 : Int), .slice none 0 0, .slice none 0 0, .slice none 0 0] 48, box b_11 [.int .i64 t.States, v_1, v_3, v_5] 48, fz fGArc.rep v_5 t.Arcs, fz fGTip.rep v_3 t.Ends, fz fGTip.rep v_1 t.Starts, inZ Z]) (L := L) [2, 1, 0] rfl hO)⟩
 ·replace h := ite_f h hc_17
  refine hw_skip (thenQ_n (hw_seq (hw_held2 12 (fun H' => ∃ Z' : Nat → Prop, Own H' Z' (box b_13 [.int .i64 (0 : Int), .slice none 0 0, .slice none 0 0, .slice none 0 0] 48 :: box b_11 [.int .i64 t.States, v_1, v_3, v_5] 48 :: fz fGArc.rep v_5 t.Arcs :: fz fGTip.rep v_3 t.Ends :: fz fGTip.rep v_1 t.Starts :: inZ Z :: L)) (.step 0 false (.step 1 false (.step 2 false (.step 3 false (.step 5 false (.step 6 false (.step 8 false (.step 9 false (.step 4 true (.step 7 true (.step 10 true (.step 11 false .done)))))))))))) (.step 12 true (.step 13 true .done)) Try.mixed (by kernel_rfl) ⟨_, hO⟩ (hd_v rfl (fun _ _ => (v_fieldA Try.underlying48 rfl Try.sizeOf3 rfl)) rfl (hd_v rfl (fun H' hS => by obtain ⟨Z', hO⟩ := hS; exact (v_load1 Try.isAgg3 rfl (Blk.cell (hO.box 1 rfl) rfl))) rfl (hd_v rfl (fun _ _ => (v_fieldA Try.underlying48 rfl Try.sizeOf45 rfl)) rfl (hd_v rfl (fun H' hS => by obtain ⟨Z', hO⟩ := hS; exact (v_load1 Try.isAgg45 rfl (Blk.cell (hO.box 1 rfl) rfl))) rfl (hd_v rfl (fun _ _ => (v_fieldA Try.underlying48 rfl Try.sizeOf45 rfl)) rfl (hd_v rfl (fun H' hS => by obtain ⟨Z', hO⟩ := hS; exact (v_load1 Try.isAgg45 rfl (Blk.cell (hO.box 1 rfl) rfl))) rfl (hd_v rfl (fun _ _ => (v_fieldA Try.underlying48 rfl Try.sizeOf46 rfl)) rfl (hd_v rfl (fun H' hS => by obtain ⟨Z', hO⟩ := hS; exact (v_load1 Try.isAgg46 rfl (Blk.cell (hO.box 1 rfl) rfl))) rfl ?_)))))))))))
  obtain ⟨hs_19, h⟩ := h
  refine hd_h (h_call Try.call63 (evs_cons rfl (evs_cons rfl evs_nil)) (orderedTip_spec (a0 := t.Starts) hs_19 hO (Rd.of_fz (i := 4) rfl) Try.call64 (fun Ls q0 q1 H Z hO => HC.mono (cmpTips_spec (a0 := q0) (a1 := q1) hO) (fun v H' h => h)))) (by rintro v_20 H_21 ⟨Z_22, _, _, rfl, hO⟩; exact ⟨_, (Own.sel (Ls := [own fGTip 91 v_20 (ordL (fun q0 q1 => (cmpTip q0 q1)) t.Starts), box b_13 [.int .i64 (0 : Int), .slice none 0 0, .slice none 0 0, .slice none 0 0] 48, box b_11 [.int .i64 t.States, v_1, v_3, v_5] 48, fz fGArc.rep v_5 t.Arcs, fz fGTip.rep v_3 t.Ends, fz fGTip.rep v_1 t.Starts, inZ Z]) (L := L) [1, 2, 3, 4, 5, 6] rfl hO)⟩) rfl ?_
  rintro v_20 H_21 ⟨Z_22, _, _, rfl, hO⟩
  obtain ⟨hs_24, h⟩ := h
  refine hd_h (h_call Try.call63 (evs_cons rfl (evs_cons rfl evs_nil)) (orderedTip_spec (a0 := t.Ends) hs_24 hO (Rd.of_fz (i := 4) rfl) Try.call64 (fun Ls q0 q1 H Z hO => HC.mono (cmpTips_spec (a0 := q0) (a1 := q1) hO) (fun v H' h => h)))) (by rintro v_25 H_26 ⟨Z_27, _, _, rfl, hO⟩; exact ⟨_, (Own.sel (Ls := [own fGTip 91 v_25 (ordL (fun q0 q1 => (cmpTip q0 q1)) t.Ends), own fGTip 91 v_20 (ordL (fun q0 q1 => (cmpTip q0 q1)) t.Starts), box b_13 [.int .i64 (0 : Int), .slice none 0 0, .slice none 0 0, .slice none 0 0] 48, box b_11 [.int .i64 t.States, v_1, v_3, v_5] 48, fz fGArc.rep v_5 t.Arcs, fz fGTip.rep v_3 t.Ends, fz fGTip.rep v_1 t.Starts, inZ Z]) (L := L) [2, 3, 4, 5, 6, 7] rfl hO)⟩) rfl ?_
  rintro v_25 H_26 ⟨Z_27, _, _, rfl, hO⟩
  obtain ⟨hs_29, h⟩ := h
  refine hd_h (h_call Try.call65 (evs_cons rfl (evs_cons rfl evs_nil)) (orderedArc_spec (a0 := t.Arcs) hs_29 hO (Rd.of_fz (i := 4) rfl) Try.call66 (fun Ls q0 q1 H Z hO => HC.mono (cmpArcs_spec (a0 := q0) (a1 := q1) hO) (fun v H' h => h)))) (by rintro v_30 H_31 ⟨Z_32, _, _, rfl, hO⟩; exact ⟨_, (Own.sel (Ls := [own fGArc 50 v_30 (ordL (fun q0 q1 => (cmpArc q0 q1)) t.Arcs), own fGTip 91 v_25 (ordL (fun q0 q1 => (cmpTip q0 q1)) t.Ends), own fGTip 91 v_20 (ordL (fun q0 q1 => (cmpTip q0 q1)) t.Starts), box b_13 [.int .i64 (0 : Int), .slice none 0 0, .slice none 0 0, .slice none 0 0] 48, box b_11 [.int .i64 t.States, v_1, v_3, v_5] 48, fz fGArc.rep v_5 t.Arcs, fz fGTip.rep v_3 t.Ends, fz fGTip.rep v_1 t.Starts, inZ Z]) (L := L) [3, 4, 5, 6, 7, 8] rfl hO)⟩) rfl ?_
  rintro v_30 H_31 ⟨Z_32, _, _, rfl, hO⟩
  have hsh_34 := Sl.sh (hO.osl 2 rfl)
  have hsh_35 := Sl.sh (hO.osl 1 rfl)
  have hsh_36 := Sl.sh (hO.osl 0 rfl)
  refine hd_v rfl (fun _ _ => (v_buildF (cs := [.int .i64 t.States, v_20, v_25, v_30]) (xs := [.tmp 12, .tmp 15, .tmp 18, .tmp 21]) (is := [0, 1, 2, 3]) rfl (evs_cons rfl (evs_cons rfl (evs_cons rfl (evs_cons rfl evs_nil)))) (fun w => by obtain ⟨_, _, _, hw⟩ := hsh_34; (try subst hw); obtain ⟨_, _, _, hw⟩ := hsh_35; (try subst hw); obtain ⟨_, _, _, hw⟩ := hsh_36; (try subst hw); show _ = _; kernel_rfl))) rfl (hd_nil (hd_s (o_storeA (us := [.int .i64 t.States, v_20, v_25, v_30]) hO 3 rfl Try.sizeOf48 rfl rfl rfl rfl (by simp only [List.forall_mem_cons]; exact ⟨rfl, (Sl.one (hO.osl 2 rfl)), (Sl.one (hO.osl 1 rfl)), (Sl.one (hO.osl 0 rfl)), by simp⟩)) (fun _ _ _ => trivial) ?_))
  rintro _ H_37 hO
  refine hd_h (OpV.toH (v_assign rfl)) (fun _ _ hR => trivial) rfl ?_
  rintro vv HH ⟨hvv, hHH⟩
  obtain rfl := hvv.symm
  obtain rfl := hHH.symm
  refine hd_nil (thenQ_n (hw_ret (ret_i _ (ra_c rfl (fun w hw => run_loadVar_at (cs := [.int .i64 t.States, v_20, v_25, v_30]) Try.isAgg48 Try.sizeOf48 (Blk.at0 (hO.box 3 rfl)) rfl w hw) (ra_t rfl ra_nil)) ?_)))
  exact ⟨_, (⟨t.States, (ordL (fun q0 q1 => (cmpTip q0 q1)) t.Starts), (ordL (fun q0 q1 => (cmpTip q0 q1)) t.Ends), (ordL (fun q0 q1 => (cmpArc q0 q1)) t.Arcs)⟩ : GFst), 0, v_20, v_25, v_30, (hO.inz 8 rfl), h, rfl, (Own.sel (Ls := [own fGArc 50 v_30 (ordL (fun q0 q1 => (cmpArc q0 q1)) t.Arcs), own fGTip 91 v_25 (ordL (fun q0 q1 => (cmpTip q0 q1)) t.Ends), own fGTip 91 v_20 (ordL (fun q0 q1 => (cmpTip q0 q1)) t.Starts), box b_13 [.int .i64 t.States, v_20, v_25, v_30] 48, box b_11 [.int .i64 t.States, v_1, v_3, v_5] 48, fz fGArc.rep v_5 t.Arcs, fz fGTip.rep v_3 t.Ends, fz fGTip.rep v_1 t.Starts, inZ Z]) (L := L) [2, 1, 0] rfl hO)⟩
theorem fSortP_spec {a0 : GFst} {v_1 : Value} {v_3 : Value} {v_5 : Value} {L : List As} {H : Heap} {Z : Nat → Prop} (hO : Own H Z (L)) (hf_2 : Fz fGTip.rep L v_1 a0.Starts) (hf_4 : Fz fGTip.rep L v_3 a0.Ends) (hf_6 : Fz fGArc.rep L v_5 a0.Arcs) : HC Try.prog 29 [.agg [.int .i64 a0.States, v_1, v_3, v_5].toArray] H (fun v H' => ∃ (Z' : Nat → Prop) (v_7 : Value) (v_8 : Value) (v_9 : Value), (∀ b, Z b → Z' b) ∧ v = .tuple #[.agg [.int .i64 ((fSort a0).1).States, v_7, v_8, v_9].toArray, .int .i64 ((fSort a0).2)] ∧ Own H' Z' (own fGTip 91 v_7 ((fSort a0).1).Starts :: own fGTip 91 v_8 ((fSort a0).1).Ends :: own fGArc 50 v_9 ((fSort a0).1).Arcs :: L)) := by
  refine (fSortP_ok (t := a0) (@fSortP_wp a0) hO hf_2 hf_4 hf_6).mono ?_
  rintro v H' ⟨Z', r0, r1, v_7, v_8, v_9, hz, hq, hv, hO'⟩
  obtain ⟨rfl, rfl⟩ := hq
  exact ⟨Z', v_7, v_8, v_9, hz, hv, hO'⟩

theorem rTexts_ok {a : List (List UInt8)} {b : List (List UInt8)} {v_1 : Value} {v_3 : Value} {Q : Bool → Prop} {H : Heap} {Z : Nat → Prop} {L : List As} (h : wp_rTexts a b Q) (hO : Own H Z (L)) (hr_2 : Rd fStr.rep L v_1 a) (hr_4 : Rd fStr.rep L v_3 b) : HC Try.prog 32 [v_1, v_3] H (fun v H' => ∃ (r0 : Bool) , Q r0 ∧ v = .bool r0 ∧ H' = H) := by
 unfold wp_rTexts at h
 refine hc_of_hw (N := 26) (rs := [(.tmp 4)]) Try.func32 rfl rfl rfl rfl (hw_seq (hw_region (hl_v (v_assign rfl) rfl (hl_nil (thenQ_n (hw_seq (hw_seq (hw_region (hl_v (v_move rfl) rfl ?_)))))))))
 have hln_5 := Sl.cap (Rd.sl hr_2 hO)
 refine hl_v (v_lenL rfl Try.underlying52 rfl (Rd.sl hr_2 hO)) rfl (hl_v (v_move rfl) rfl ?_)
 have hln_6 := Sl.cap (Rd.sl hr_4 hO)
 refine hl_v (v_lenL rfl Try.underlying52 rfl (Rd.sl hr_4 hO)) rfl (hl_v (v_neq rfl rfl) rfl (hl_nil (thenQ_n (hw_cond rfl (fun hc_7 => ?_) (fun hc_7 => ?_)))))
 ·replace h := ite_t h hc_7
  refine hw_seq (hw_region (hl_v (v_assign rfl) rfl (hl_nil (thenQ_n (hw_ret (thenQ_r (ret_i _ (ra_t rfl ra_nil) ?_)))))))
  exact ⟨false, h, rfl, rfl⟩
 ·replace h := ite_f h hc_7
  refine hw_skip (thenQ_n (hw_seq (hw_seq (hw_region (hl_v (v_assign rfl) rfl (hl_nil (thenQ_n (hw_block ?_))))))))
  obtain ⟨I_8, h, hI_10⟩ := h
  refine hw_lp (fun n' g' H' => ∃ (i : Nat) (Z' : Nat → Prop), n' = a.length - i ∧ g' = [(0, v_1), (1, v_3), (5, .int .i64 (i : Int))] ∧ I_8 i ∧ i ≤ a.length ∧ Own H' Z' (L) ∧ H = H') _ _ (a_c 0 rfl (a_c 1 rfl (a_c 5 rfl a_n))) ⟨0, _, rfl, rfl, h, by omega, hO, rfl⟩ ?_
  rintro _ _ H_11 ⟨i, Z_12, rfl, rfl, h, hb_13, hO, rfl⟩
  replace h := hI_10 i h hb_13
  refine hw_seq (hw_seq (hw_region (hl_v (v_move rfl) rfl (hl_v (v_move rfl) rfl (hl_v (v_lenL rfl Try.underlying52 rfl (Rd.sl hr_2 hO)) rfl (hl_v (v_lss rfl rfl) rfl (hl_nil (thenQ_n (hw_cond rfl (fun hc_14 => ?_) (fun hc_14 => ?_))))))))))
  ·replace h := ite_t h hc_14
   refine hw_skip (thenQ_n (hw_seq (hw_block (hw_seq (hw_quiet Try.mixed (by kernel_rfl) (hq_v (v_move rfl) rfl (hq_v (v_move rfl) rfl (hq_v (v_ixL Try.underlying52 Try.sizeOf9 rfl rfl (Rd.sl hr_2 hO) (by exact ⟨Int.natCast_nonneg _, of_decide_eq_true hc_14⟩)) rfl (hq_v (v_loadSc Try.isAgg9 rfl (Rd.sl hr_2 hO) rfl (by exact ⟨Int.natCast_nonneg _, of_decide_eq_true hc_14⟩) rfl) rfl (hq_v (v_move rfl) rfl (hq_v (v_move rfl) rfl ?_)))))))))))
   obtain ⟨hs_15, h⟩ := h
   refine hq_v (v_ixL Try.underlying52 Try.sizeOf9 rfl rfl (Rd.sl hr_4 hO) hs_15) rfl (hq_v (v_loadSc Try.isAgg9 rfl (Rd.sl hr_4 hO) rfl hs_15 rfl) rfl (hq_v (v_neqS rfl rfl) rfl (hq_nil (thenQ_n (hw_sub _ (a_c 0 rfl (a_c 1 rfl (a_c 5 rfl (a_c 25 rfl a_n)))) (hw_cond rfl (fun hc_16 => ?_) (fun hc_16 => ?_)))))))
   ·replace h := ite_t h hc_16
    refine hw_seq (hw_region (hl_v (v_assign rfl) rfl (hl_nil (thenQ_n (hw_ret (blockQ_r (thenQ_r (thenQ_r (blockQ_r (thenQ_r (ret_i _ (ra_t rfl ra_nil) ?_)))))))))))
    exact ⟨false, h, rfl, rfl⟩
   ·replace h := ite_f h hc_16
    refine hw_skip (blockQ_n (thenQ_n (hw_region (hl_v (v_move rfl) rfl (hl_v (v_add rfl rfl (by have hq := of_decide_eq_true hc_14; have hm := hln_5; constructor <;> omega)) rfl (hl_v (v_assign rfl) rfl (hl_nil (thenQ_n ?_))))))))
    exact ⟨_, _, (a_c 0 rfl (a_c 1 rfl (a_c 5 rfl a_n))), ⟨i + 1, _, rfl, rfl, h, (by have hq := of_decide_eq_true hc_14; omega), hO, rfl⟩, (by have hq := of_decide_eq_true hc_14; omega)⟩
  ·replace h := ite_f h hc_14
   refine hw_exit (thenQ_e (thenQ_e (blockQ_hit (thenQ_n (hw_seq (hw_region (hl_v (v_assign rfl) rfl (hl_nil (thenQ_n (hw_ret (ret_i _ (ra_t rfl ra_nil) ?_)))))))))))
   exact ⟨true, h, rfl, rfl⟩
theorem rTexts_spec {a0 : List (List UInt8)} {a1 : List (List UInt8)} {v_1 : Value} {v_3 : Value} {L : List As} {H : Heap} {Z : Nat → Prop} (hO : Own H Z (L)) (hr_2 : Rd fStr.rep L v_1 a0) (hr_4 : Rd fStr.rep L v_3 a1) : HC Try.prog 32 [v_1, v_3] H (fun v H' => v = .bool (decide (a0 = a1)) ∧ H' = H) := by
  refine (rTexts_ok (a := a0) (b := a1) (@rTexts_wp a0 a1) hO hr_2 hr_4).mono ?_
  rintro v H' ⟨r0, hq, hv, hH⟩
  obtain rfl := hq
  exact ⟨hv, hH⟩

theorem rFew15_ok {t : GFst} {v_1 : Value} {v_3 : Value} {v_5 : Value} {Q : Bool → Prop} {H : Heap} {Z : Nat → Prop} {L : List As} (h : wp_rFew15 t Q) (hO : Own H Z (L)) (hf_2 : Fz fGTip.rep L v_1 t.Starts) (hf_4 : Fz fGTip.rep L v_3 t.Ends) (hf_6 : Fz fGArc.rep L v_5 t.Arcs) : HC Try.prog 26 [.agg [.int .i64 t.States, v_1, v_3, v_5].toArray] H (fun v H' => ∃ (Z' : Nat → Prop) (r0 : Bool) , (∀ b, Z b → Z' b) ∧ Q r0 ∧ v = .bool r0 ∧ Own H' Z' (L)) := by
 replace hO := hO.inZ
 replace hO := Fz.items [_] hf_2 hO
 replace hO := Fz.items [_, _] hf_4 hO
 replace hO := Fz.items [_, _, _] hf_6 hO
 unfold wp_rFew15 at h
 refine hc_of_hw (N := 93) (rs := [(.tmp 2)]) Try.func26 rfl rfl rfl rfl (hw_seq (hw_region (hl_h (o_box (cs := [.int .i64 t.States, v_1, v_3, v_5]) hO rfl rfl) rfl ?_)))
 rintro _ H_7 ⟨b_8, rfl, hO⟩
 refine hl_v (v_assign rfl) rfl (hl_nil (thenQ_n (hw_seq (hw_region (hl_v (v_fieldA Try.underlying48 rfl Try.sizeOf45 rfl) rfl (hl_v (v_load1 Try.isAgg45 rfl (Blk.cell (hO.box 0 rfl) rfl)) rfl ?_))))))
 have hln_9 := Sl.cap (hO.fsl 3 rfl)
 refine hl_v (v_lenL rfl Try.underlying45 rfl (hO.fsl 3 rfl)) rfl (hl_v (v_fieldA Try.underlying48 rfl Try.sizeOf45 rfl) rfl (hl_v (v_load1 Try.isAgg45 rfl (Blk.cell (hO.box 0 rfl) rfl)) rfl ?_))
 have hln_10 := Sl.cap (hO.fsl 2 rfl)
 refine hl_v (v_lenL rfl Try.underlying45 rfl (hO.fsl 2 rfl)) rfl ?_
 obtain ⟨hs_11, h⟩ := h
 refine hl_v (v_add rfl rfl hs_11) rfl (hl_v (v_fieldA Try.underlying48 rfl Try.sizeOf46 rfl) rfl (hl_v (v_load1 Try.isAgg46 rfl (Blk.cell (hO.box 0 rfl) rfl)) rfl ?_))
 have hln_12 := Sl.cap (hO.fsl 1 rfl)
 refine hl_v (v_lenL rfl Try.underlying46 rfl (hO.fsl 1 rfl)) rfl ?_
 obtain ⟨hs_13, h⟩ := h
 refine hl_v (v_add rfl rfl hs_13) rfl (hl_v (v_assign rfl) rfl (hl_nil (thenQ_n (hw_sub _ (a_c 1 rfl (a_c 3 rfl a_n)) (hw_seq (hw_seq (hw_region (hl_v (v_assign rfl) rfl (hl_nil (thenQ_n (hw_block ?_)))))))))))
 obtain ⟨I_14, μ_15, h, hI_16⟩ := h
 refine hw_lp (fun n' g' H' => ∃ (n : Int) (i : Int) (Z' : Nat → Prop), n' = μ_15 n i ∧ g' = [(1, ptr b_8 0), (3, .int .i64 n), (4, .int .i64 i)] ∧ I_14 n i ∧ Own H' Z' (box b_8 [.int .i64 t.States, v_1, v_3, v_5] 48 :: fz fGArc.rep v_5 t.Arcs :: fz fGTip.rep v_3 t.Ends :: fz fGTip.rep v_1 t.Starts :: inZ Z :: L)) _ _ (a_c 1 rfl (a_c 3 rfl (a_c 4 rfl a_n))) ⟨(((t.Starts.length : Int) + (t.Ends.length : Int)) + (t.Arcs.length : Int)), 0, _, rfl, rfl, h, hO⟩ ?_
 rintro _ _ H_17 ⟨n, i, Z_18, rfl, rfl, h, hO⟩
 replace h := hI_16 n i h
 refine hw_seq (hw_seq (hw_region (hl_v (v_move rfl) rfl (hl_v (v_fieldA Try.underlying48 rfl Try.sizeOf45 rfl) rfl (hl_v (v_load1 Try.isAgg45 rfl (Blk.cell (hO.box 0 rfl) rfl)) rfl (hl_v (v_lenL rfl Try.underlying45 rfl (hO.fsl 3 rfl)) rfl (hl_v (v_lss rfl rfl) rfl (hl_v (v_move rfl) rfl (hl_g rfl rfl (fun hg => (v_move rfl)) rfl (hl_g rfl rfl (fun hg => (v_leq (gv_ok rfl hg) rfl)) rfl (hl_v (v_and rfl rfl) rfl (hl_nil (thenQ_n (hw_cond rfl (fun hc_20 => ?_) (fun hc_20 => ?_)))))))))))))))
 ·replace h := ite_t h hc_20
  refine hw_skip (thenQ_n (hw_seq (hw_block (hw_region (hl_v (v_move rfl) rfl (hl_v (v_fieldA Try.underlying48 rfl Try.sizeOf45 rfl) rfl (hl_v (v_load1 Try.isAgg45 rfl (Blk.cell (hO.box 0 rfl) rfl)) rfl (hl_v (v_move rfl) rfl ?_))))))))
  obtain ⟨hs_21, h⟩ := h
  refine hl_v (v_ixL Try.underlying45 Try.sizeOf91 rfl rfl (hO.fsl 3 rfl) hs_21) rfl (hl_v (v_fieldA Try.underlying91 rfl Try.sizeOf9 rfl) rfl (hl_v (v_loadSub (j := 1) Try.isAgg9 rfl (hO.fsl 3 rfl) rfl hs_21 rfl) rfl (hl_v (v_lenS rfl Try.underlying9 rfl) rfl ?_)))
  obtain ⟨hs_22, h⟩ := h
  refine hl_v (v_quo rfl rfl hs_22) rfl ?_
  obtain ⟨hs_23, h⟩ := h
  refine hl_v (v_add rfl rfl hs_23) rfl (hl_v (v_assign rfl) rfl (hl_nil (blockQ_n (thenQ_n (hw_region (hl_v (v_move rfl) rfl ?_))))))
  obtain ⟨hs_24, h⟩ := h
  refine hl_v (v_add rfl rfl hs_24) rfl (hl_v (v_assign rfl) rfl (hl_nil (thenQ_n ?_)))
  exact ⟨_, _, (a_c 1 rfl (a_c 3 rfl (a_c 4 rfl a_n))), ⟨(n + ((((t.Starts.getD i.toNat default).Out).length : Int) / 40)), (i + 1), _, rfl, rfl, h.1, hO⟩, h.2⟩
 ·replace h := ite_f h hc_20
  refine hw_exit (thenQ_e (thenQ_e (blockQ_hit (thenQ_n (hw_seq (hw_seq (hw_region (hl_v (v_assign rfl) rfl (hl_nil (thenQ_n (hw_block ?_)))))))))))
  obtain ⟨I_25, μ_26, h, hI_27⟩ := h
  refine hw_lp (fun n' g' H' => ∃ (n2 : Int) (i2 : Int) (Z' : Nat → Prop), n' = μ_26 n2 i2 ∧ g' = [(1, ptr b_8 0), (3, .int .i64 n2), (5, .int .i64 i2)] ∧ I_25 n2 i2 ∧ Own H' Z' (box b_8 [.int .i64 t.States, v_1, v_3, v_5] 48 :: fz fGArc.rep v_5 t.Arcs :: fz fGTip.rep v_3 t.Ends :: fz fGTip.rep v_1 t.Starts :: inZ Z :: L)) _ _ (a_c 1 rfl (a_c 3 rfl (a_c 5 rfl a_n))) ⟨n, 0, _, rfl, rfl, h, hO⟩ ?_
  rintro _ _ H_28 ⟨n2, i2, Z_29, rfl, rfl, h, hO⟩
  replace h := hI_27 n2 i2 h
  refine hw_seq (hw_seq (hw_region (hl_v (v_move rfl) rfl (hl_v (v_fieldA Try.underlying48 rfl Try.sizeOf45 rfl) rfl (hl_v (v_load1 Try.isAgg45 rfl (Blk.cell (hO.box 0 rfl) rfl)) rfl (hl_v (v_lenL rfl Try.underlying45 rfl (hO.fsl 2 rfl)) rfl (hl_v (v_lss rfl rfl) rfl (hl_v (v_move rfl) rfl (hl_g rfl rfl (fun hg => (v_move rfl)) rfl (hl_g rfl rfl (fun hg => (v_leq (gv_ok rfl hg) rfl)) rfl (hl_v (v_and rfl rfl) rfl (hl_nil (thenQ_n (hw_cond rfl (fun hc_31 => ?_) (fun hc_31 => ?_)))))))))))))))
  ·replace h := ite_t h hc_31
   refine hw_skip (thenQ_n (hw_seq (hw_block (hw_region (hl_v (v_move rfl) rfl (hl_v (v_fieldA Try.underlying48 rfl Try.sizeOf45 rfl) rfl (hl_v (v_load1 Try.isAgg45 rfl (Blk.cell (hO.box 0 rfl) rfl)) rfl (hl_v (v_move rfl) rfl ?_))))))))
   obtain ⟨hs_32, h⟩ := h
   refine hl_v (v_ixL Try.underlying45 Try.sizeOf91 rfl rfl (hO.fsl 2 rfl) hs_32) rfl (hl_v (v_fieldA Try.underlying91 rfl Try.sizeOf9 rfl) rfl (hl_v (v_loadSub (j := 1) Try.isAgg9 rfl (hO.fsl 2 rfl) rfl hs_32 rfl) rfl (hl_v (v_lenS rfl Try.underlying9 rfl) rfl ?_)))
   obtain ⟨hs_33, h⟩ := h
   refine hl_v (v_quo rfl rfl hs_33) rfl ?_
   obtain ⟨hs_34, h⟩ := h
   refine hl_v (v_add rfl rfl hs_34) rfl (hl_v (v_assign rfl) rfl (hl_nil (blockQ_n (thenQ_n (hw_region (hl_v (v_move rfl) rfl ?_))))))
   obtain ⟨hs_35, h⟩ := h
   refine hl_v (v_add rfl rfl hs_35) rfl (hl_v (v_assign rfl) rfl (hl_nil (thenQ_n ?_)))
   exact ⟨_, _, (a_c 1 rfl (a_c 3 rfl (a_c 5 rfl a_n))), ⟨(n2 + ((((t.Ends.getD i2.toNat default).Out).length : Int) / 40)), (i2 + 1), _, rfl, rfl, h.1, hO⟩, h.2⟩
  ·replace h := ite_f h hc_31
   refine hw_exit (thenQ_e (thenQ_e (blockQ_hit (thenQ_n (hw_seq (hw_seq (hw_region (hl_v (v_assign rfl) rfl (hl_nil (thenQ_n (hw_block ?_)))))))))))
   obtain ⟨I_36, μ_37, h, hI_38⟩ := h
   refine hw_lp (fun n' g' H' => ∃ (n3 : Int) (i3 : Int) (Z' : Nat → Prop), n' = μ_37 n3 i3 ∧ g' = [(1, ptr b_8 0), (3, .int .i64 n3), (6, .int .i64 i3)] ∧ I_36 n3 i3 ∧ Own H' Z' (box b_8 [.int .i64 t.States, v_1, v_3, v_5] 48 :: fz fGArc.rep v_5 t.Arcs :: fz fGTip.rep v_3 t.Ends :: fz fGTip.rep v_1 t.Starts :: inZ Z :: L)) _ _ (a_c 1 rfl (a_c 3 rfl (a_c 6 rfl a_n))) ⟨n2, 0, _, rfl, rfl, h, hO⟩ ?_
   rintro _ _ H_39 ⟨n3, i3, Z_40, rfl, rfl, h, hO⟩
   replace h := hI_38 n3 i3 h
   refine hw_seq (hw_seq (hw_region (hl_v (v_move rfl) rfl (hl_v (v_fieldA Try.underlying48 rfl Try.sizeOf46 rfl) rfl (hl_v (v_load1 Try.isAgg46 rfl (Blk.cell (hO.box 0 rfl) rfl)) rfl (hl_v (v_lenL rfl Try.underlying46 rfl (hO.fsl 1 rfl)) rfl (hl_v (v_lss rfl rfl) rfl (hl_v (v_move rfl) rfl (hl_g rfl rfl (fun hg => (v_move rfl)) rfl (hl_g rfl rfl (fun hg => (v_leq (gv_ok rfl hg) rfl)) rfl (hl_v (v_and rfl rfl) rfl (hl_nil (thenQ_n (hw_cond rfl (fun hc_42 => ?_) (fun hc_42 => ?_)))))))))))))))
   ·replace h := ite_t h hc_42
    refine hw_skip (thenQ_n (hw_seq (hw_block (hw_region (hl_v (v_move rfl) rfl (hl_v (v_fieldA Try.underlying48 rfl Try.sizeOf46 rfl) rfl (hl_v (v_load1 Try.isAgg46 rfl (Blk.cell (hO.box 0 rfl) rfl)) rfl (hl_v (v_move rfl) rfl ?_))))))))
    obtain ⟨hs_43, h⟩ := h
    refine hl_v (v_ixL Try.underlying46 Try.sizeOf50 rfl rfl (hO.fsl 1 rfl) hs_43) rfl (hl_v (v_fieldA Try.underlying50 rfl Try.sizeOf9 rfl) rfl (hl_v (v_loadSub (j := 6) Try.isAgg9 rfl (hO.fsl 1 rfl) rfl hs_43 rfl) rfl (hl_v (v_lenS rfl Try.underlying9 rfl) rfl ?_)))
    obtain ⟨hs_44, h⟩ := h
    refine hl_v (v_quo rfl rfl hs_44) rfl ?_
    obtain ⟨hs_45, h⟩ := h
    refine hl_v (v_add rfl rfl hs_45) rfl (hl_v (v_assign rfl) rfl (hl_nil (blockQ_n (thenQ_n (hw_region (hl_v (v_move rfl) rfl ?_))))))
    obtain ⟨hs_46, h⟩ := h
    refine hl_v (v_add rfl rfl hs_46) rfl (hl_v (v_assign rfl) rfl (hl_nil (thenQ_n ?_)))
    exact ⟨_, _, (a_c 1 rfl (a_c 3 rfl (a_c 6 rfl a_n))), ⟨(n3 + ((((t.Arcs.getD i3.toNat default).Out).length : Int) / 40)), (i3 + 1), _, rfl, rfl, h.1, hO⟩, h.2⟩
   ·replace h := ite_f h hc_42
    refine hw_exit (thenQ_e (thenQ_e (blockQ_hit (thenQ_n (hw_seq (hw_region (hl_v (v_move rfl) rfl (hl_v (v_leq rfl rfl) rfl (hl_v (v_move rfl) rfl (hl_g rfl rfl (fun hg => (v_fieldA Try.underlying48 rfl Try.sizeOf3 rfl)) rfl (hl_g rfl rfl (fun hg => (v_load1 Try.isAgg3 (gv_ok rfl hg) (Blk.cell (hO.box 0 rfl) rfl))) rfl (hl_g rfl rfl (fun hg => (v_leq (gv_ok rfl hg) rfl)) rfl (hl_g rfl rfl (fun hg => (v_move (gv_ok rfl hg))) rfl (hl_g rfl rfl (fun hg => (v_fieldA Try.underlying48 rfl Try.sizeOf3 rfl)) rfl (hl_g rfl rfl (fun hg => (v_load1 Try.isAgg3 (gv_ok rfl hg) (Blk.cell (hO.box 0 rfl) rfl))) rfl (hl_g rfl rfl (fun hg => (v_gtr (gv_ok rfl hg) rfl)) rfl (hl_g rfl rfl (fun hg => (v_or (gv_ok rfl hg) (gvgb_ok rfl hg))) rfl (hl_v (v_and rfl rfl) rfl (hl_v (v_assign rfl) rfl (hl_nil (thenQ_n (hw_sub _ (a_c 2 rfl a_n) (hw_ret (ret_i _ (ra_t rfl ra_nil) ?_))))))))))))))))))))))))
    exact ⟨_, (decide (n3 ≤ 60) && (decide (t.States ≤ 20) || decide (1024 < t.States))), (hO.inz 4 rfl), h, rfl, (Own.sel (Ls := [box b_8 [.int .i64 t.States, v_1, v_3, v_5] 48, fz fGArc.rep v_5 t.Arcs, fz fGTip.rep v_3 t.Ends, fz fGTip.rep v_1 t.Starts, inZ Z]) (L := L) [] rfl hO)⟩
theorem rFew15_spec {a0 : GFst} {v_1 : Value} {v_3 : Value} {v_5 : Value} {L : List As} (hp : fSane a0) {H : Heap} {Z : Nat → Prop} (hO : Own H Z (L)) (hf_2 : Fz fGTip.rep L v_1 a0.Starts) (hf_4 : Fz fGTip.rep L v_3 a0.Ends) (hf_6 : Fz fGArc.rep L v_5 a0.Arcs) : HC Try.prog 26 [.agg [.int .i64 a0.States, v_1, v_3, v_5].toArray] H (fun v H' => ∃ (Z' : Nat → Prop) , (∀ b, Z b → Z' b) ∧ v = .bool (fFew a0) ∧ Own H' Z' (L)) := by
  refine (rFew15_ok (t := a0) (@rFew15_wp a0 hp) hO hf_2 hf_4 hf_6).mono ?_
  rintro v H' ⟨Z', r0, hz, hq, hv, hO'⟩
  obtain rfl := hq
  exact ⟨Z', hz, hv, hO'⟩

theorem rSameTips_ok {a : List GTip} {b : List GTip} {v_1 : Value} {v_3 : Value} {Q : Bool → Prop} {H : Heap} {Z : Nat → Prop} {L : List As} (h : wp_rSameTips a b Q) (hO : Own H Z (L)) (hr_2 : Rd fGTip.rep L v_1 a) (hr_4 : Rd fGTip.rep L v_3 b) : HC Try.prog 70 [v_1, v_3] H (fun v H' => ∃ (r0 : Bool) , Q r0 ∧ v = .bool r0 ∧ H' = H) := by
 unfold wp_rSameTips at h
 refine hc_of_hw (N := 26) (rs := [(.tmp 4)]) Try.func70 rfl rfl rfl rfl (hw_seq (hw_region (hl_v (v_assign rfl) rfl (hl_nil (thenQ_n (hw_seq (hw_seq (hw_region (hl_v (v_move rfl) rfl ?_)))))))))
 have hln_5 := Sl.cap (Rd.sl hr_2 hO)
 refine hl_v (v_lenL rfl Try.underlying45 rfl (Rd.sl hr_2 hO)) rfl (hl_v (v_move rfl) rfl ?_)
 have hln_6 := Sl.cap (Rd.sl hr_4 hO)
 refine hl_v (v_lenL rfl Try.underlying45 rfl (Rd.sl hr_4 hO)) rfl (hl_v (v_neq rfl rfl) rfl (hl_nil (thenQ_n (hw_cond rfl (fun hc_7 => ?_) (fun hc_7 => ?_)))))
 ·replace h := ite_t h hc_7
  refine hw_seq (hw_region (hl_v (v_assign rfl) rfl (hl_nil (thenQ_n (hw_ret (thenQ_r (ret_i _ (ra_t rfl ra_nil) ?_)))))))
  exact ⟨false, h, rfl, rfl⟩
 ·replace h := ite_f h hc_7
  refine hw_skip (thenQ_n (hw_seq (hw_seq (hw_region (hl_v (v_assign rfl) rfl (hl_nil (thenQ_n (hw_block ?_))))))))
  obtain ⟨I_8, h, hI_10⟩ := h
  refine hw_lp (fun n' g' H' => ∃ (i : Nat) (Z' : Nat → Prop), n' = a.length - i ∧ g' = [(0, v_1), (1, v_3), (5, .int .i64 (i : Int))] ∧ I_8 i ∧ i ≤ a.length ∧ Own H' Z' (L) ∧ H = H') _ _ (a_c 0 rfl (a_c 1 rfl (a_c 5 rfl a_n))) ⟨0, _, rfl, rfl, h, by omega, hO, rfl⟩ ?_
  rintro _ _ H_11 ⟨i, Z_12, rfl, rfl, h, hb_13, hO, rfl⟩
  replace h := hI_10 i h hb_13
  refine hw_seq (hw_seq (hw_region (hl_v (v_move rfl) rfl (hl_v (v_move rfl) rfl (hl_v (v_lenL rfl Try.underlying45 rfl (Rd.sl hr_2 hO)) rfl (hl_v (v_lss rfl rfl) rfl (hl_nil (thenQ_n (hw_cond rfl (fun hc_14 => ?_) (fun hc_14 => ?_))))))))))
  ·replace h := ite_t h hc_14
   refine hw_skip (thenQ_n (hw_seq (hw_block (hw_seq (hw_quiet Try.mixed (by kernel_rfl) (hq_v (v_move rfl) rfl (hq_v (v_move rfl) rfl (hq_v (v_ixL Try.underlying45 Try.sizeOf91 rfl rfl (Rd.sl hr_2 hO) (by exact ⟨Int.natCast_nonneg _, of_decide_eq_true hc_14⟩)) rfl (hq_v (v_loadFl Try.isAgg91 Try.sizeOf91 rfl (Rd.sl hr_2 hO) rfl (by exact ⟨Int.natCast_nonneg _, of_decide_eq_true hc_14⟩)) rfl (hq_v (v_move rfl) rfl (hq_v (v_move rfl) rfl ?_)))))))))))
   obtain ⟨hs_15, h⟩ := h
   refine hq_v (v_ixL Try.underlying45 Try.sizeOf91 rfl rfl (Rd.sl hr_4 hO) hs_15) rfl (hq_v (v_loadFl Try.isAgg91 Try.sizeOf91 rfl (Rd.sl hr_4 hO) rfl hs_15) rfl (hq_v (v_neqRec (by kernel_rfl) rfl rfl (eqv_91_15 _ _)) rfl (hq_nil (thenQ_n (hw_sub _ (a_c 0 rfl (a_c 1 rfl (a_c 5 rfl (a_c 25 rfl a_n)))) (hw_cond rfl (fun hc_16 => ?_) (fun hc_16 => ?_)))))))
   ·replace h := ite_t h hc_16
    refine hw_seq (hw_region (hl_v (v_assign rfl) rfl (hl_nil (thenQ_n (hw_ret (blockQ_r (thenQ_r (thenQ_r (blockQ_r (thenQ_r (ret_i _ (ra_t rfl ra_nil) ?_)))))))))))
    exact ⟨false, h, rfl, rfl⟩
   ·replace h := ite_f h hc_16
    refine hw_skip (blockQ_n (thenQ_n (hw_region (hl_v (v_move rfl) rfl (hl_v (v_add rfl rfl (by have hq := of_decide_eq_true hc_14; have hm := hln_5; constructor <;> omega)) rfl (hl_v (v_assign rfl) rfl (hl_nil (thenQ_n ?_))))))))
    exact ⟨_, _, (a_c 0 rfl (a_c 1 rfl (a_c 5 rfl a_n))), ⟨i + 1, _, rfl, rfl, h, (by have hq := of_decide_eq_true hc_14; omega), hO, rfl⟩, (by have hq := of_decide_eq_true hc_14; omega)⟩
  ·replace h := ite_f h hc_14
   refine hw_exit (thenQ_e (thenQ_e (blockQ_hit (thenQ_n (hw_seq (hw_region (hl_v (v_assign rfl) rfl (hl_nil (thenQ_n (hw_ret (ret_i _ (ra_t rfl ra_nil) ?_)))))))))))
   exact ⟨true, h, rfl, rfl⟩
theorem rSameTips_spec {a0 : List GTip} {a1 : List GTip} {v_1 : Value} {v_3 : Value} {L : List As} {H : Heap} {Z : Nat → Prop} (hO : Own H Z (L)) (hr_2 : Rd fGTip.rep L v_1 a0) (hr_4 : Rd fGTip.rep L v_3 a1) : HC Try.prog 70 [v_1, v_3] H (fun v H' => v = .bool (decide (a0 = a1)) ∧ H' = H) := by
  refine (rSameTips_ok (a := a0) (b := a1) (@rSameTips_wp a0 a1) hO hr_2 hr_4).mono ?_
  rintro v H' ⟨r0, hq, hv, hH⟩
  obtain rfl := hq
  exact ⟨hv, hH⟩

theorem rSame15_ok {a : GFst} {b : GFst} {v_1 : Value} {v_3 : Value} {v_5 : Value} {v_7 : Value} {v_9 : Value} {v_11 : Value} {Q : Bool → Prop} {H : Heap} {Z : Nat → Prop} {L : List As} (h : wp_rSame15 a b Q) (hO : Own H Z (L)) (hf_2 : Fz fGTip.rep L v_1 a.Starts) (hf_4 : Fz fGTip.rep L v_3 a.Ends) (hf_6 : Fz fGArc.rep L v_5 a.Arcs) (hf_8 : Fz fGTip.rep L v_7 b.Starts) (hf_10 : Fz fGTip.rep L v_9 b.Ends) (hf_12 : Fz fGArc.rep L v_11 b.Arcs) : HC Try.prog 31 [.agg [.int .i64 a.States, v_1, v_3, v_5].toArray, .agg [.int .i64 b.States, v_7, v_9, v_11].toArray] H (fun v H' => ∃ (Z' : Nat → Prop) (r0 : Bool) , (∀ b, Z b → Z' b) ∧ Q r0 ∧ v = .bool r0 ∧ Own H' Z' (L)) := by
 replace hO := hO.inZ
 replace hO := Fz.items [_] hf_2 hO
 replace hO := Fz.items [_, _] hf_4 hO
 replace hO := Fz.items [_, _, _] hf_6 hO
 replace hO := Fz.items [_, _, _, _] hf_8 hO
 replace hO := Fz.items [_, _, _, _, _] hf_10 hO
 replace hO := Fz.items [_, _, _, _, _, _] hf_12 hO
 unfold wp_rSame15 at h
 refine hc_of_hw (N := 54) (rs := [(.tmp 4)]) Try.func31 rfl rfl rfl rfl (hw_seq (hw_region (hl_h (o_box (cs := [.int .i64 a.States, v_1, v_3, v_5]) hO rfl rfl) rfl ?_)))
 rintro _ H_13 ⟨b_14, rfl, hO⟩
 refine hl_h (o_box (cs := [.int .i64 b.States, v_7, v_9, v_11]) hO rfl rfl) rfl ?_
 rintro _ H_15 ⟨b_16, rfl, hO⟩
 refine hl_v (v_assign rfl) rfl (hl_nil (thenQ_n (hw_seq (hw_seq (hw_region (hl_v (v_fieldA Try.underlying48 rfl Try.sizeOf3 rfl) rfl (hl_v (v_load1 Try.isAgg3 rfl (Blk.cell (hO.box 1 rfl) rfl)) rfl (hl_v (v_fieldA Try.underlying48 rfl Try.sizeOf3 rfl) rfl (hl_v (v_load1 Try.isAgg3 rfl (Blk.cell (hO.box 0 rfl) rfl)) rfl (hl_v (v_neq rfl rfl) rfl (hl_v (v_move rfl) rfl (hl_g rfl rfl (fun hg => (v_fieldA Try.underlying48 rfl Try.sizeOf45 rfl)) rfl (hl_g rfl rfl (fun hg => (v_load1 Try.isAgg45 (gv_ok rfl hg) (Blk.cell (hO.box 1 rfl) rfl))) rfl (hl_g rfl rfl (fun hg => (v_fieldA Try.underlying48 rfl Try.sizeOf45 rfl)) rfl (hl_g rfl rfl (fun hg => (v_load1 Try.isAgg45 (gv_ok rfl hg) (Blk.cell (hO.box 0 rfl) rfl))) rfl (hl_g rfl rfl (fun hg => (v_call Try.call70 (evs_cons (gv_ok rfl hg) (evs_cons (gv_ok rfl hg) evs_nil)) (rSameTips_spec (a0 := a.Starts) (a1 := b.Starts) hO (Rd.of_fz (i := 7) rfl) (Rd.of_fz (i := 4) rfl)))) rfl (hl_g rfl rfl (fun hg => (v_not (gv_ok rfl hg))) rfl (hl_v (v_or rfl rfl) rfl (hl_v (v_move rfl) rfl (hl_g rfl rfl (fun hg => (v_fieldA Try.underlying48 rfl Try.sizeOf45 rfl)) rfl (hl_g rfl rfl (fun hg => (v_load1 Try.isAgg45 (gv_ok rfl hg) (Blk.cell (hO.box 1 rfl) rfl))) rfl (hl_g rfl rfl (fun hg => (v_fieldA Try.underlying48 rfl Try.sizeOf45 rfl)) rfl (hl_g rfl rfl (fun hg => (v_load1 Try.isAgg45 (gv_ok rfl hg) (Blk.cell (hO.box 0 rfl) rfl))) rfl (hl_g rfl rfl (fun hg => (v_call Try.call70 (evs_cons (gv_ok rfl hg) (evs_cons (gv_ok rfl hg) evs_nil)) (rSameTips_spec (a0 := a.Ends) (a1 := b.Ends) hO (Rd.of_fz (i := 6) rfl) (Rd.of_fz (i := 3) rfl)))) rfl ?_))))))))))))))))))))))))
 refine hl_g rfl rfl (fun hg => (v_not (gv_ok rfl hg))) rfl (hl_v (v_or rfl rfl) rfl (hl_v (v_move rfl) rfl (hl_g rfl rfl (fun hg => (v_fieldA Try.underlying48 rfl Try.sizeOf46 rfl)) rfl (hl_g rfl rfl (fun hg => (v_load1 Try.isAgg46 (gv_ok rfl hg) (Blk.cell (hO.box 1 rfl) rfl))) rfl ?_))))
 have hln_17 := Sl.cap (hO.fsl 5 rfl)
 refine hl_g rfl rfl (fun hg => (v_lenL rfl Try.underlying46 (gv_ok rfl hg) (hO.fsl 5 rfl))) rfl (hl_g rfl rfl (fun hg => (v_fieldA Try.underlying48 rfl Try.sizeOf46 rfl)) rfl (hl_g rfl rfl (fun hg => (v_load1 Try.isAgg46 (gv_ok rfl hg) (Blk.cell (hO.box 0 rfl) rfl))) rfl ?_))
 have hln_18 := Sl.cap (hO.fsl 2 rfl)
 refine hl_g rfl rfl (fun hg => (v_lenL rfl Try.underlying46 (gv_ok rfl hg) (hO.fsl 2 rfl))) rfl (hl_g rfl rfl (fun hg => (v_neq (gv_ok rfl hg) (gv_ok rfl hg))) rfl (hl_v (v_or rfl rfl) rfl (hl_nil (thenQ_n (hw_sub _ (a_c 2 rfl (a_c 3 rfl (a_c 35 rfl a_n))) (hw_cond rfl (fun hc_19 => ?_) (fun hc_19 => ?_)))))))
 ·replace h := ite_t h hc_19
  refine hw_seq (hw_region (hl_v (v_assign rfl) rfl (hl_nil (thenQ_n (hw_ret (thenQ_r (ret_i _ (ra_t rfl ra_nil) ?_)))))))
  exact ⟨_, false, (hO.inz 8 rfl), h, rfl, (Own.sel (Ls := [box b_16 [.int .i64 b.States, v_7, v_9, v_11] 48, box b_14 [.int .i64 a.States, v_1, v_3, v_5] 48, fz fGArc.rep v_11 b.Arcs, fz fGTip.rep v_9 b.Ends, fz fGTip.rep v_7 b.Starts, fz fGArc.rep v_5 a.Arcs, fz fGTip.rep v_3 a.Ends, fz fGTip.rep v_1 a.Starts, inZ Z]) (L := L) [] rfl hO)⟩
 ·replace h := ite_f h hc_19
  refine hw_skip (thenQ_n (hw_seq (hw_seq (hw_region (hl_v (v_assign rfl) rfl (hl_nil (thenQ_n (hw_block ?_))))))))
  obtain ⟨I_20, h, hI_22⟩ := h
  refine hw_lp (fun n' g' H' => ∃ (i : Nat) (Z' : Nat → Prop), n' = a.Arcs.length - i ∧ g' = [(2, ptr b_14 0), (3, ptr b_16 0), (5, .int .i64 (i : Int))] ∧ I_20 i ∧ i ≤ a.Arcs.length ∧ Own H' Z' (box b_16 [.int .i64 b.States, v_7, v_9, v_11] 48 :: box b_14 [.int .i64 a.States, v_1, v_3, v_5] 48 :: fz fGArc.rep v_11 b.Arcs :: fz fGTip.rep v_9 b.Ends :: fz fGTip.rep v_7 b.Starts :: fz fGArc.rep v_5 a.Arcs :: fz fGTip.rep v_3 a.Ends :: fz fGTip.rep v_1 a.Starts :: inZ Z :: L)) _ _ (a_c 2 rfl (a_c 3 rfl (a_c 5 rfl a_n))) ⟨0, _, rfl, rfl, h, by omega, hO⟩ ?_
  rintro _ _ H_23 ⟨i, Z_24, rfl, rfl, h, hb_25, hO⟩
  replace h := hI_22 i h hb_25
  refine hw_seq (hw_seq (hw_region (hl_v (v_move rfl) rfl (hl_v (v_fieldA Try.underlying48 rfl Try.sizeOf46 rfl) rfl (hl_v (v_load1 Try.isAgg46 rfl (Blk.cell (hO.box 1 rfl) rfl)) rfl (hl_v (v_lenL rfl Try.underlying46 rfl (hO.fsl 5 rfl)) rfl (hl_v (v_lss rfl rfl) rfl (hl_nil (thenQ_n (hw_cond rfl (fun hc_26 => ?_) (fun hc_26 => ?_)))))))))))
  ·replace h := ite_t h hc_26
   refine hw_skip (thenQ_n (hw_seq (hw_block (hw_seq (hw_quiet Try.mixed (by kernel_rfl) (hq_v (v_fieldA Try.underlying48 rfl Try.sizeOf46 rfl) rfl (hq_v (v_load1 Try.isAgg46 rfl (Blk.cell (hO.box 1 rfl) rfl)) rfl (hq_v (v_move rfl) rfl (hq_v (v_ixL Try.underlying46 Try.sizeOf50 rfl rfl (hO.fsl 5 rfl) (by exact ⟨Int.natCast_nonneg _, of_decide_eq_true hc_26⟩)) rfl (hq_v (v_loadFl Try.isAgg50 Try.sizeOf50 rfl (hO.fsl 5 rfl) rfl (by exact ⟨Int.natCast_nonneg _, of_decide_eq_true hc_26⟩)) rfl (hq_v (v_fieldA Try.underlying48 rfl Try.sizeOf46 rfl) rfl (hq_v (v_load1 Try.isAgg46 rfl (Blk.cell (hO.box 0 rfl) rfl)) rfl (hq_v (v_move rfl) rfl ?_)))))))))))))
   obtain ⟨hs_27, h⟩ := h
   refine hq_v (v_ixL Try.underlying46 Try.sizeOf50 rfl rfl (hO.fsl 2 rfl) hs_27) rfl (hq_v (v_loadFl Try.isAgg50 Try.sizeOf50 rfl (hO.fsl 2 rfl) rfl hs_27) rfl (hq_v (v_neqRec (by kernel_rfl) rfl rfl (eqv_50_15 _ _)) rfl (hq_nil (thenQ_n (hw_sub _ (a_c 2 rfl (a_c 3 rfl (a_c 5 rfl (a_c 53 rfl a_n)))) (hw_cond rfl (fun hc_28 => ?_) (fun hc_28 => ?_)))))))
   ·replace h := ite_t h hc_28
    refine hw_seq (hw_region (hl_v (v_assign rfl) rfl (hl_nil (thenQ_n (hw_ret (blockQ_r (thenQ_r (thenQ_r (blockQ_r (thenQ_r (ret_i _ (ra_t rfl ra_nil) ?_)))))))))))
    exact ⟨_, false, (hO.inz 8 rfl), h, rfl, (Own.sel (Ls := [box b_16 [.int .i64 b.States, v_7, v_9, v_11] 48, box b_14 [.int .i64 a.States, v_1, v_3, v_5] 48, fz fGArc.rep v_11 b.Arcs, fz fGTip.rep v_9 b.Ends, fz fGTip.rep v_7 b.Starts, fz fGArc.rep v_5 a.Arcs, fz fGTip.rep v_3 a.Ends, fz fGTip.rep v_1 a.Starts, inZ Z]) (L := L) [] rfl hO)⟩
   ·replace h := ite_f h hc_28
    refine hw_skip (blockQ_n (thenQ_n (hw_region (hl_v (v_move rfl) rfl (hl_v (v_add rfl rfl (by have hq := of_decide_eq_true hc_26; have hm := hln_17; constructor <;> omega)) rfl (hl_v (v_assign rfl) rfl (hl_nil (thenQ_n ?_))))))))
    exact ⟨_, _, (a_c 2 rfl (a_c 3 rfl (a_c 5 rfl a_n))), ⟨i + 1, _, rfl, rfl, h, (by have hq := of_decide_eq_true hc_26; omega), hO⟩, (by have hq := of_decide_eq_true hc_26; omega)⟩
  ·replace h := ite_f h hc_26
   refine hw_exit (thenQ_e (thenQ_e (blockQ_hit (thenQ_n (hw_seq (hw_region (hl_v (v_assign rfl) rfl (hl_nil (thenQ_n (hw_ret (ret_i _ (ra_t rfl ra_nil) ?_)))))))))))
   exact ⟨_, true, (hO.inz 8 rfl), h, rfl, (Own.sel (Ls := [box b_16 [.int .i64 b.States, v_7, v_9, v_11] 48, box b_14 [.int .i64 a.States, v_1, v_3, v_5] 48, fz fGArc.rep v_11 b.Arcs, fz fGTip.rep v_9 b.Ends, fz fGTip.rep v_7 b.Starts, fz fGArc.rep v_5 a.Arcs, fz fGTip.rep v_3 a.Ends, fz fGTip.rep v_1 a.Starts, inZ Z]) (L := L) [] rfl hO)⟩
theorem rSame15_spec {a0 : GFst} {a1 : GFst} {v_1 : Value} {v_3 : Value} {v_5 : Value} {v_7 : Value} {v_9 : Value} {v_11 : Value} {L : List As} {H : Heap} {Z : Nat → Prop} (hO : Own H Z (L)) (hf_2 : Fz fGTip.rep L v_1 a0.Starts) (hf_4 : Fz fGTip.rep L v_3 a0.Ends) (hf_6 : Fz fGArc.rep L v_5 a0.Arcs) (hf_8 : Fz fGTip.rep L v_7 a1.Starts) (hf_10 : Fz fGTip.rep L v_9 a1.Ends) (hf_12 : Fz fGArc.rep L v_11 a1.Arcs) : HC Try.prog 31 [.agg [.int .i64 a0.States, v_1, v_3, v_5].toArray, .agg [.int .i64 a1.States, v_7, v_9, v_11].toArray] H (fun v H' => ∃ (Z' : Nat → Prop) , (∀ a1, Z a1 → Z' a1) ∧ v = .bool (decide (a0 = a1)) ∧ Own H' Z' (L)) := by
  refine (rSame15_ok (a := a0) (b := a1) (@rSame15_wp a0 a1) hO hf_2 hf_4 hf_6 hf_8 hf_10 hf_12).mono ?_
  rintro v H' ⟨Z', r0, hz, hq, hv, hO'⟩
  obtain rfl := hq
  exact ⟨Z', hz, hv, hO'⟩

end Go.Proofs.Ytbaciogbhjcdoaa
