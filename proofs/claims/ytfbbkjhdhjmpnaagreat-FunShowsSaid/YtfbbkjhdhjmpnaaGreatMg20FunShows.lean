/- Several texts in one. No condition. -/
import Derived.Test.YtfbbkjhdhjmpnaaGreatMg19FunShows
import Derived.Test.YtfbbkjhdhjmpnaaGreatProg
set_option linter.unusedVariables false
set_option linter.unusedSimpArgs false
set_option maxRecDepth 20000
namespace Go.Proofs.YtfbbkjhdhjmpnaaGreat
open Go.Proofs
theorem lAwake19_ok   {Q : Bool → Prop} {H : Heap} {Z : Nat → Prop} {L : List As} (h : wp_lAwake19 Q) (hO : Own H Z (L))  : HC Tryz.prog 6 [] H (fun v H' => ∃ (Z' : Nat → Prop) (r0 : Bool) , (∀ b, Z b → Z' b) ∧ Q r0 ∧ v = .bool r0 ∧ Own H' Z' (L)) := by
 replace hO := hO.inZ
 unfold wp_lAwake19 at h
 refine hc_of_hw (N := 67) (rs := [(.tmp 0)]) Tryz.func6 rfl rfl rfl rfl (hw_seq (hw_region (hl_v (v_assign rfl) rfl (hl_nil (thenQ_n (hw_seq (hw_region (hl_v (v_buildF (cs := (fGTip.enc (⟨(0 : Int), ([] : List UInt8)⟩ : GTip))) (xs := []) (is := []) rfl evs_nil (fun w => by show _ = _; kernel_rfl)) rfl (hl_h (o_lit (g := fGTip) (l := [(⟨(0 : Int), ([] : List UInt8)⟩ : GTip)]) (xs := [.tmp 9]) hO Tryz.underlying22 Tryz.sizeOf54 Tryz.zeroValue54 rfl (evs_cons rfl evs_nil) rfl rfl rfl rfl rfl) rfl ?_)))))))))
 rintro v_2 H_1 hO
 refine hl_v (v_buildF (cs := (fGTip.enc (⟨1, ([] : List UInt8)⟩ : GTip))) (xs := [_]) (is := [0]) rfl (evs_cons (show _ = some (.int .i64 1) from rfl) evs_nil) (fun w => by show _ = _; kernel_rfl)) rfl (hl_h (o_lit (g := fGTip) (l := [(⟨1, ([] : List UInt8)⟩ : GTip)]) (xs := [.tmp 11]) hO Tryz.underlying22 Tryz.sizeOf54 Tryz.zeroValue54 rfl (evs_cons rfl evs_nil) rfl rfl rfl rfl rfl) rfl ?_)
 rintro v_4 H_3 hO
 refine hl_h (o_lit (g := fByte) (l := [97]) (xs := [_]) hO Tryz.underlying37 Tryz.sizeOf5 Tryz.zeroValue5 rfl (evs_cons (show _ = some (.int .u8 97) from rfl) evs_nil) rfl rfl rfl rfl rfl) rfl ?_
 rintro v_6 H_5 hO
 refine hl_h (h_call Tryz.call12 (evs_cons rfl evs_nil) (setOf_spec (a0 := [97]) hO (Rd.of_own (i := 0) rfl))) rfl ?_
 rintro _ H_7 ⟨Z_8, _, rfl, hO⟩
 refine hl_v (v_buildF (cs := (fGArc.enc (⟨(0 : Int), 1, BSet.ofL [97], [120], false⟩ : GArc))) (xs := [_, .tmp 14, _]) (is := [1, 2, 3]) rfl (evs_cons (show _ = some (.int .i64 1) from rfl) (evs_cons rfl (evs_cons (show _ = some (str [120]) from rfl) evs_nil))) (fun w => by show _ = _; kernel_rfl)) rfl (hl_h (o_lit (g := fByte) (l := [97]) (xs := [_]) hO Tryz.underlying37 Tryz.sizeOf5 Tryz.zeroValue5 rfl (evs_cons (show _ = some (.int .u8 97) from rfl) evs_nil) rfl rfl rfl rfl rfl) rfl ?_)
 rintro v_11 H_10 hO
 refine hl_h (h_call Tryz.call12 (evs_cons rfl evs_nil) (setOf_spec (a0 := [97]) hO (Rd.of_own (i := 0) rfl))) rfl ?_
 rintro _ H_12 ⟨Z_13, _, rfl, hO⟩
 refine hl_v (v_buildF (cs := (fGArc.enc (⟨(0 : Int), 1, BSet.ofL [97], [121], false⟩ : GArc))) (xs := [_, .tmp 17, _]) (is := [1, 2, 3]) rfl (evs_cons (show _ = some (.int .i64 1) from rfl) (evs_cons rfl (evs_cons (show _ = some (str [121]) from rfl) evs_nil))) (fun w => by show _ = _; kernel_rfl)) rfl (hl_h (o_lit (g := fGArc) (l := [(⟨(0 : Int), 1, BSet.ofL [97], [120], false⟩ : GArc), (⟨(0 : Int), 1, BSet.ofL [97], [121], false⟩ : GArc)]) (xs := [.tmp 15, .tmp 18]) hO Tryz.underlying23 Tryz.sizeOf43 Tryz.zeroValue43 rfl (evs_cons rfl (evs_cons rfl evs_nil)) rfl rfl rfl rfl rfl) rfl ?_)
 rintro v_16 H_15 hO
 have hsh_17 := Sl.sh (hO.osl 4 rfl)
 have hsh_18 := Sl.sh (hO.osl 3 rfl)
 have hsh_19 := Sl.sh (hO.osl 0 rfl)
 refine hl_v (v_buildF (cs := [.int .i64 2, v_2, v_4, v_16]) (xs := [_, .tmp 10, .tmp 12, .tmp 19]) (is := [0, 1, 2, 3]) rfl (evs_cons (show _ = some (.int .i64 2) from rfl) (evs_cons rfl (evs_cons rfl (evs_cons rfl evs_nil)))) (fun w => by obtain ⟨_, _, _, hw⟩ := hsh_17; (try subst hw); obtain ⟨_, _, _, hw⟩ := hsh_18; (try subst hw); obtain ⟨_, _, _, hw⟩ := hsh_19; (try subst hw); show _ = _; kernel_rfl)) rfl (hl_h (o_alloc (cs := [.int .i64 (0 : Int), .slice none 0 0, .slice none 0 0, .slice none 0 0]) hO Tryz.zeroValue25 rfl) rfl ?_)
 rintro _ H_20 ⟨b_21, rfl, hO⟩
 refine hl_s (o_storeA (us := [.int .i64 2, v_2, v_4, v_16]) hO 0 rfl Tryz.sizeOf25 rfl rfl rfl rfl (by simp only [List.forall_mem_cons]; exact ⟨rfl, (Sl.one (hO.osl 5 rfl)), (Sl.one (hO.osl 4 rfl)), (Sl.one (hO.osl 1 rfl)), by simp⟩)) ?_
 rintro _ H_22 hO
 refine hl_nil (thenQ_n (hw_seq (hw_region (hl_v (v_loadA Tryz.isAgg25 Tryz.sizeOf25 rfl (Blk.at0 (hO.box 0 rfl)) rfl) rfl ?_))))
 obtain ⟨Z_23, _, hO⟩ := hO.freeze (i := 5) rfl
 obtain ⟨Z_24, _, hO⟩ := hO.freeze (i := 4) rfl
 obtain ⟨Z_25, _, hO⟩ := hO.freeze (i := 1) rfl
 replace hO : Own H_22 Z_25 (box b_21 [.int .i64 2, v_2, v_4, v_16] 25 :: fz fGArc.rep v_16 [(⟨(0 : Int), 1, BSet.ofL [97], [120], false⟩ : GArc), (⟨(0 : Int), 1, BSet.ofL [97], [121], false⟩ : GArc)] :: own fByte 5 v_11 [97] :: own fByte 5 v_6 [97] :: fz fGTip.rep v_4 [(⟨1, ([] : List UInt8)⟩ : GTip)] :: fz fGTip.rep v_2 [(⟨(0 : Int), ([] : List UInt8)⟩ : GTip)] :: inZ Z :: L) := hO
 obtain ⟨hs_26, h⟩ := h
 refine hl_h (h_call Tryz.call13 (evs_cons rfl evs_nil) (funOne_spec (a0 := (⟨2, [(⟨(0 : Int), ([] : List UInt8)⟩ : GTip)], [(⟨1, ([] : List UInt8)⟩ : GTip)], [(⟨(0 : Int), 1, BSet.ofL [97], [120], false⟩ : GArc), (⟨(0 : Int), 1, BSet.ofL [97], [121], false⟩ : GArc)]⟩ : GFst)) hs_26 hO (Fz.of (i := 5) rfl) (Fz.of (i := 4) rfl) (Fz.of (i := 1) rfl))) rfl ?_
 rintro _ H_27 ⟨Z_28, _, rfl, hO⟩
 refine hl_v (v_move rfl) rfl (hl_v (v_extract rfl rfl) rfl (hl_v (v_extract rfl rfl) rfl (hl_v (v_assign rfl) rfl (hl_v (v_assign rfl) rfl (hl_nil (thenQ_n (hw_sub _ (a_c 1 rfl (a_c 2 rfl (a_c 3 rfl a_n))) (hw_seq (hw_region (hl_v (v_loadA Tryz.isAgg25 Tryz.sizeOf25 rfl (Blk.at0 (hO.box 0 rfl)) rfl) rfl (hl_h (h_call Tryz.call5 (evs_cons rfl evs_nil) (funTwo_spec (a0 := (⟨2, [(⟨(0 : Int), ([] : List UInt8)⟩ : GTip)], [(⟨1, ([] : List UInt8)⟩ : GTip)], [(⟨(0 : Int), 1, BSet.ofL [97], [120], false⟩ : GArc), (⟨(0 : Int), 1, BSet.ofL [97], [121], false⟩ : GArc)]⟩ : GFst)) hs_26 hO (Fz.of (i := 5) rfl) (Fz.of (i := 4) rfl) (Fz.of (i := 1) rfl))) rfl ?_)))))))))))
 rintro _ H_30 ⟨Z_31, _, rfl, hO⟩
 refine hl_v (v_move rfl) rfl (hl_v (v_extract rfl rfl) rfl (hl_v (v_extract rfl rfl) rfl (hl_v (v_extract rfl rfl) rfl (hl_v (v_assign rfl) rfl (hl_v (v_assign rfl) rfl (hl_v (v_assign rfl) rfl (hl_nil (thenQ_n (hw_seq (hw_region (hl_v (v_fieldA Tryz.underlying25 rfl Tryz.sizeOf23 rfl) rfl (hl_v (v_load1 Tryz.isAgg23 rfl (Blk.cell (hO.box 0 rfl) rfl)) rfl ?_))))))))))))
 obtain ⟨hs_33, h⟩ := h
 replace hO := Sl.item (slvh_of (hi := 1) (hO.fsl 1 rfl) hs_33 rfl) hO
 refine hl_v (v_sliceLh Tryz.underlying23 Tryz.sizeOf43 rfl rfl (hO.fsl 2 rfl) hs_33) rfl (hl_v (v_fieldA Tryz.underlying25 rfl Tryz.sizeOf23 rfl) rfl (hl_s (o_store1 hO 1 rfl Tryz.sizeOf23 rfl rfl rfl (Sl.one (hO.fsl 0 rfl))) ?_))
 rintro _ H_34 hO
 refine hl_nil (thenQ_n (hw_sub _ (a_c 1 rfl (a_c 2 rfl (a_c 3 rfl (a_c 4 rfl (a_c 5 rfl (a_c 6 rfl a_n)))))) (hw_seq (hw_region (hl_v (v_loadA Tryz.isAgg25 Tryz.sizeOf25 rfl (Blk.at0 (hO.box 1 rfl)) rfl) rfl ?_)))))
 obtain ⟨hs_35, h⟩ := h
 refine hl_h (h_call Tryz.call13 (evs_cons rfl evs_nil) (funOne_spec (a0 := (⟨2, [(⟨(0 : Int), ([] : List UInt8)⟩ : GTip)], [(⟨1, ([] : List UInt8)⟩ : GTip)], ([(⟨(0 : Int), 1, BSet.ofL [97], [120], false⟩ : GArc), (⟨(0 : Int), 1, BSet.ofL [97], [121], false⟩ : GArc)].take 1)⟩ : GFst)) hs_35 hO (Fz.of (i := 6) rfl) (Fz.of (i := 5) rfl) (Fz.of (i := 0) rfl))) rfl ?_
 rintro _ H_36 ⟨Z_37, _, rfl, hO⟩
 refine hl_v (v_move rfl) rfl (hl_v (v_extract rfl rfl) rfl (hl_v (v_extract rfl rfl) rfl (hl_v (v_assign rfl) rfl (hl_v (v_assign rfl) rfl (hl_nil (thenQ_n (hw_seq (hw_region (hl_v (v_move rfl) rfl (hl_v (v_not rfl) rfl (hl_v (v_move rfl) rfl (hl_g rfl rfl (fun hg => (v_move rfl)) rfl (hl_g rfl rfl (fun hg => (v_eql (gv_ok rfl hg) rfl)) rfl (hl_v (v_and rfl rfl) rfl (hl_v (v_move rfl) rfl (hl_g rfl rfl (fun hg => (v_move rfl)) rfl (hl_g rfl rfl (fun hg => (v_eqlS (gv_ok rfl hg) rfl)) rfl (hl_v (v_and rfl rfl) rfl (hl_v (v_move rfl) rfl (hl_g rfl rfl (fun hg => (v_move rfl)) rfl (hl_v (v_and rfl rfl) rfl (hl_v (v_move rfl) rfl (hl_g rfl rfl (fun hg => (v_move rfl)) rfl (hl_g rfl rfl (fun hg => (v_move rfl)) rfl (hl_g rfl rfl (fun hg => (v_eql (gv_ok rfl hg) (gv_ok rfl hg))) rfl (hl_v (v_and rfl rfl) rfl (hl_v (v_move rfl) rfl (hl_g rfl rfl (fun hg => (v_move rfl)) rfl (hl_v (v_and rfl rfl) rfl (hl_v (v_move rfl) rfl (hl_g rfl rfl (fun hg => (v_move rfl)) rfl (hl_g rfl rfl (fun hg => (v_move rfl)) rfl (hl_g rfl rfl (fun hg => (v_eql (gv_ok rfl hg) (gv_ok rfl hg))) rfl (hl_v (v_and rfl rfl) rfl (hl_v (v_assign rfl) rfl (hl_nil (thenQ_n (hw_sub _ (a_c 0 rfl a_n) (hw_ret (ret_i _ (ra_t rfl ra_nil) ?_))))))))))))))))))))))))))))))))))))))))
 exact ⟨_, (((((((!(nOne (⟨2, [(⟨(0 : Int), ([] : List UInt8)⟩ : GTip)], [(⟨1, ([] : List UInt8)⟩ : GTip)], [(⟨(0 : Int), 1, BSet.ofL [97], [120], false⟩ : GArc), (⟨(0 : Int), 1, BSet.ofL [97], [121], false⟩ : GArc)]⟩ : GFst)).1) && decide ((nOne (⟨2, [(⟨(0 : Int), ([] : List UInt8)⟩ : GTip)], [(⟨1, ([] : List UInt8)⟩ : GTip)], [(⟨(0 : Int), 1, BSet.ofL [97], [120], false⟩ : GArc), (⟨(0 : Int), 1, BSet.ofL [97], [121], false⟩ : GArc)]⟩ : GFst)).2 = 0)) && decide ((nTwo (⟨2, [(⟨(0 : Int), ([] : List UInt8)⟩ : GTip)], [(⟨1, ([] : List UInt8)⟩ : GTip)], [(⟨(0 : Int), 1, BSet.ofL [97], [120], false⟩ : GArc), (⟨(0 : Int), 1, BSet.ofL [97], [121], false⟩ : GArc)]⟩ : GFst)).1 = [97])) && (nTwo (⟨2, [(⟨(0 : Int), ([] : List UInt8)⟩ : GTip)], [(⟨1, ([] : List UInt8)⟩ : GTip)], [(⟨(0 : Int), 1, BSet.ofL [97], [120], false⟩ : GArc), (⟨(0 : Int), 1, BSet.ofL [97], [121], false⟩ : GArc)]⟩ : GFst)).2.1) && decide ((nTwo (⟨2, [(⟨(0 : Int), ([] : List UInt8)⟩ : GTip)], [(⟨1, ([] : List UInt8)⟩ : GTip)], [(⟨(0 : Int), 1, BSet.ofL [97], [120], false⟩ : GArc), (⟨(0 : Int), 1, BSet.ofL [97], [121], false⟩ : GArc)]⟩ : GFst)).2.2 = (nOne (⟨2, [(⟨(0 : Int), ([] : List UInt8)⟩ : GTip)], [(⟨1, ([] : List UInt8)⟩ : GTip)], [(⟨(0 : Int), 1, BSet.ofL [97], [120], false⟩ : GArc), (⟨(0 : Int), 1, BSet.ofL [97], [121], false⟩ : GArc)]⟩ : GFst)).2)) && (nOne (⟨2, [(⟨(0 : Int), ([] : List UInt8)⟩ : GTip)], [(⟨1, ([] : List UInt8)⟩ : GTip)], ([(⟨(0 : Int), 1, BSet.ofL [97], [120], false⟩ : GArc), (⟨(0 : Int), 1, BSet.ofL [97], [121], false⟩ : GArc)].take 1)⟩ : GFst)).1) && decide ((nOne (⟨2, [(⟨(0 : Int), ([] : List UInt8)⟩ : GTip)], [(⟨1, ([] : List UInt8)⟩ : GTip)], ([(⟨(0 : Int), 1, BSet.ofL [97], [120], false⟩ : GArc), (⟨(0 : Int), 1, BSet.ofL [97], [121], false⟩ : GArc)].take 1)⟩ : GFst)).2 = (nOne (⟨2, [(⟨(0 : Int), ([] : List UInt8)⟩ : GTip)], [(⟨1, ([] : List UInt8)⟩ : GTip)], [(⟨(0 : Int), 1, BSet.ofL [97], [120], false⟩ : GArc), (⟨(0 : Int), 1, BSet.ofL [97], [121], false⟩ : GArc)]⟩ : GFst)).2)), (hO.inz 7 rfl), h, rfl, (Own.sel (Ls := [fz fGArc.rep (slv v_16 8 0 1) ([(⟨(0 : Int), 1, BSet.ofL [97], [120], false⟩ : GArc), (⟨(0 : Int), 1, BSet.ofL [97], [121], false⟩ : GArc)].take 1), box b_21 [.int .i64 2, v_2, v_4, (slv v_16 8 0 1)] 25, fz fGArc.rep v_16 [(⟨(0 : Int), 1, BSet.ofL [97], [120], false⟩ : GArc), (⟨(0 : Int), 1, BSet.ofL [97], [121], false⟩ : GArc)], own fByte 5 v_11 [97], own fByte 5 v_6 [97], fz fGTip.rep v_4 [(⟨1, ([] : List UInt8)⟩ : GTip)], fz fGTip.rep v_2 [(⟨(0 : Int), ([] : List UInt8)⟩ : GTip)], inZ Z]) (L := L) [] rfl hO)⟩
theorem lAwake19_spec   {L : List As} {H : Heap} {Z : Nat → Prop} (hO : Own H Z (L))  : HC Tryz.prog 6 [] H (fun v H' => ∃ (Z' : Nat → Prop) , (∀ b, Z b → Z' b) ∧ v = .bool (true) ∧ Own H' Z' (L)) := by
  refine (lAwake19_ok  (@lAwake19_wp ) hO).mono ?_
  rintro v H' ⟨Z', r0, hz, hq, hv, hO'⟩
  obtain rfl := hq
  exact ⟨Z', hz, hv, hO'⟩

end Go.Proofs.YtfbbkjhdhjmpnaaGreat

set_option linter.unusedVariables false
set_option linter.unusedSimpArgs false
set_option maxRecDepth 20000
namespace Go.Proofs.YtfbbkjhdhjmpnaaGreat
open Go.Proofs
theorem lFunShows_ok {t : GFst} {w : List UInt8} {v_1 : Value} {v_3 : Value} {v_5 : Value} {Q : Bool → Prop} {H : Heap} {Z : Nat → Prop} {L : List As} (h : wp_lFunShows t w Q) (hO : Own H Z (L)) (hf_2 : Fz fGTip.rep L v_1 t.Starts) (hf_4 : Fz fGTip.rep L v_3 t.Ends) (hf_6 : Fz fGArc.rep L v_5 t.Arcs) : HC Tryz.prog 3 [.agg [.int .i64 t.States, v_1, v_3, v_5].toArray, str w] H (fun v H' => ∃ (Z' : Nat → Prop) (r0 : Bool) , (∀ b, Z b → Z' b) ∧ Q r0 ∧ v = .bool r0 ∧ Own H' Z' (L)) := by
 replace hO := hO.inZ
 replace hO := Fz.items [_] hf_2 hO
 replace hO := Fz.items [_, _] hf_4 hO
 replace hO := Fz.items [_, _, _] hf_6 hO
 unfold wp_lFunShows at h
 refine hc_of_hw (N := 104) (rs := [(.tmp 4)]) Tryz.func3 rfl rfl rfl rfl (hw_seq (hw_region (hl_h (o_box (cs := [.int .i64 t.States, v_1, v_3, v_5]) hO rfl rfl) rfl ?_)))
 rintro _ H_7 ⟨b_8, rfl, hO⟩
 refine hl_v (v_assign rfl) rfl (hl_nil (thenQ_n (hw_seq (hw_seq (hw_region (hl_v (v_loadA Tryz.isAgg25 Tryz.sizeOf25 rfl (Blk.at0 (hO.box 0 rfl)) rfl) rfl ?_))))))
 obtain ⟨hs_9, h⟩ := h
 refine hl_h (h_call Tryz.call4 (evs_cons rfl evs_nil) (rFew19_spec (a0 := t) hs_9 hO (Fz.of (i := 3) rfl) (Fz.of (i := 2) rfl) (Fz.of (i := 1) rfl))) rfl ?_
 rintro _ H_10 ⟨Z_11, _, rfl, hO⟩
 refine hl_v (v_not rfl) rfl (hl_v (v_move rfl) rfl (hl_g rfl rfl (fun hg => (v_move rfl)) rfl (hl_g rfl rfl (fun hg => (v_lenS rfl Tryz.underlying9 (gv_ok rfl hg))) rfl (hl_g rfl rfl (fun hg => (v_gtr (gv_ok rfl hg) rfl)) rfl (hl_v (v_or rfl rfl) rfl (hl_nil (thenQ_n (hw_cond rfl (fun hc_13 => ?_) (fun hc_13 => ?_)))))))))
 ·replace h := ite_t h hc_13
  refine hw_seq (hw_region (hl_v (v_assign rfl) rfl (hl_nil (thenQ_n (hw_ret (thenQ_r (ret_i _ (ra_t rfl ra_nil) ?_)))))))
  exact ⟨_, true, (hO.inz 4 rfl), h, rfl, (Own.sel (Ls := [box b_8 [.int .i64 t.States, v_1, v_3, v_5] 25, fz fGArc.rep v_5 t.Arcs, fz fGTip.rep v_3 t.Ends, fz fGTip.rep v_1 t.Starts, inZ Z]) (L := L) [] rfl hO)⟩
 ·replace h := ite_f h hc_13
  refine hw_skip (thenQ_n (hw_seq (hw_region (hl_v (v_loadA Tryz.isAgg25 Tryz.sizeOf25 rfl (Blk.at0 (hO.box 0 rfl)) rfl) rfl ?_))))
  obtain ⟨hs_14, h⟩ := h
  refine hl_h (h_call Tryz.call5 (evs_cons rfl evs_nil) (funTwo_spec (a0 := t) hs_14 hO (Fz.of (i := 3) rfl) (Fz.of (i := 2) rfl) (Fz.of (i := 1) rfl))) rfl ?_
  rintro _ H_15 ⟨Z_16, _, rfl, hO⟩
  refine hl_v (v_move rfl) rfl (hl_v (v_extract rfl rfl) rfl (hl_v (v_extract rfl rfl) rfl (hl_v (v_extract rfl rfl) rfl (hl_v (v_assign rfl) rfl (hl_v (v_assign rfl) rfl (hl_v (v_assign rfl) rfl (hl_nil (thenQ_n (hw_sub _ (a_c 1 rfl (a_c 2 rfl (a_c 5 rfl (a_c 6 rfl (a_c 7 rfl a_n))))) (hw_seq (hw_seq (hw_region (hl_v (v_move rfl) rfl (hl_v (v_neq rfl rfl) rfl (hl_nil (thenQ_n (hw_cond rfl (fun hc_18 => ?_) (fun hc_18 => ?_))))))))))))))))))
  ·replace h := ite_t h hc_18
   refine hw_seq (hw_region (hl_h (h_call Tryz.call6 evs_nil (lAwake19_spec  hO)) rfl ?_))
   rintro _ H_19 ⟨Z_20, _, rfl, hO⟩
   refine hl_v (v_move rfl) rfl (hl_g rfl rfl (fun hg => (v_move rfl)) rfl (hl_g rfl rfl (fun hg => (v_eqlS rfl rfl)) rfl (hl_v (v_and rfl rfl) rfl (hl_v (v_move rfl) rfl (hl_g rfl rfl (fun hg => (v_move rfl)) rfl (hl_g rfl rfl (fun hg => (v_not (gv_ok rfl hg))) rfl (hl_v (v_and rfl rfl) rfl (hl_v (v_assign rfl) rfl (hl_nil (thenQ_n (hw_sub _ (a_c 4 rfl a_n) (hw_ret (thenQ_r (ret_i _ (ra_t rfl ra_nil) ?_))))))))))))))
   exact ⟨_, (decide ((nTwo t).1 = []) && (!(nTwo t).2.1)), (hO.inz 4 rfl), h, rfl, (Own.sel (Ls := [box b_8 [.int .i64 t.States, v_1, v_3, v_5] 25, fz fGArc.rep v_5 t.Arcs, fz fGTip.rep v_3 t.Ends, fz fGTip.rep v_1 t.Starts, inZ Z]) (L := L) [] rfl hO)⟩
  ·replace h := ite_f h hc_18
   refine hw_skip (thenQ_n (hw_seq (hw_region (hl_v (v_loadA Tryz.isAgg25 Tryz.sizeOf25 rfl (Blk.at0 (hO.box 0 rfl)) rfl) rfl (hl_h (h_call Tryz.call7 (evs_cons rfl evs_nil) (trimP_spec (a0 := t) hO (Fz.of (i := 3) rfl) (Fz.of (i := 2) rfl) (Fz.of (i := 1) rfl))) rfl ?_)))))
   rintro _ H_25 ⟨Z_26, v_22, v_23, v_24, _, rfl, hO⟩
   refine hl_v (v_move rfl) rfl (hl_v (v_extract rfl rfl) rfl (hl_v (v_extract rfl rfl) rfl (hl_h (o_alloc (cs := [.int .i64 (0 : Int), .slice none 0 0, .slice none 0 0, .slice none 0 0]) hO Tryz.zeroValue25 rfl) rfl ?_)))
   rintro _ H_28 ⟨b_29, rfl, hO⟩
   refine hl_s (o_storeA (us := [.int .i64 (((pTrim t).1).States), v_22, v_23, v_24]) hO 0 rfl Tryz.sizeOf25 rfl rfl rfl rfl (by simp only [List.forall_mem_cons]; exact ⟨rfl, (Sl.one (hO.osl 1 rfl)), (Sl.one (hO.osl 2 rfl)), (Sl.one (hO.osl 3 rfl)), by simp⟩)) ?_
   rintro _ H_30 hO
   refine hl_v (v_assign rfl) rfl (hl_nil (thenQ_n (hw_seq (hw_region (hl_v (v_loadA Tryz.isAgg25 Tryz.sizeOf25 rfl (Blk.at0 (hO.box 4 rfl)) rfl) rfl (hl_v (v_move rfl) rfl (hl_h (h_call Tryz.call8 (evs_cons rfl (evs_cons rfl evs_nil)) (fOutsP_spec (a0 := t) (a1 := w) hO (Fz.of (i := 7) rfl) (Fz.of (i := 6) rfl) (Fz.of (i := 5) rfl))) rfl ?_)))))))
   rintro _ H_32 ⟨Z_33, v_31, _, rfl, hO⟩
   refine hl_v (v_move rfl) rfl (hl_v (v_extract rfl rfl) rfl (hl_v (v_extract rfl rfl) rfl (hl_v (v_assign rfl) rfl (hl_v (v_assign rfl) rfl (hl_nil (thenQ_n (hw_sub _ (a_c 2 rfl (a_c 5 rfl (a_c 6 rfl (a_c 8 rfl (a_c 9 rfl (a_c 10 rfl (a_c 11 rfl a_n))))))) (hw_seq (hw_seq (hw_region (hl_v (v_move rfl) rfl (hl_v (v_neq rfl rfl) rfl (hl_v (v_move rfl) rfl (hl_g rfl rfl (fun hg => (v_move rfl)) rfl (hl_g rfl rfl (fun hg => (v_neq (gv_ok rfl hg) rfl)) rfl (hl_v (v_or rfl rfl) rfl (hl_nil (thenQ_n (hw_cond rfl (fun hc_35 => ?_) (fun hc_35 => ?_))))))))))))))))))))
   ·replace h := ite_t h hc_35
    refine hw_seq (hw_region (hl_h (h_call Tryz.call6 evs_nil (lAwake19_spec  hO)) rfl ?_))
    rintro _ H_36 ⟨Z_37, _, rfl, hO⟩
    refine hl_v (v_move rfl) rfl (hl_g rfl rfl (fun hg => (v_move rfl)) rfl (hl_g rfl rfl (fun hg => (v_eql rfl rfl)) rfl (hl_v (v_and rfl rfl) rfl (hl_v (v_assign rfl) rfl (hl_nil (thenQ_n (hw_sub _ (a_c 4 rfl a_n) (hw_ret (thenQ_r (ret_i _ (ra_t rfl ra_nil) ?_))))))))))
    exact ⟨_, decide ((fOuts t w).2 = 2), (hO.inz 9 rfl), h, rfl, (Own.sel (Ls := [own fStr 9 v_31 ((fOuts t w).1), box b_29 [.int .i64 (((pTrim t).1).States), v_22, v_23, v_24] 25, own fGTip 54 v_22 (((pTrim t).1).Starts), own fGTip 54 v_23 (((pTrim t).1).Ends), own fGArc 43 v_24 (((pTrim t).1).Arcs), box b_8 [.int .i64 t.States, v_1, v_3, v_5] 25, fz fGArc.rep v_5 t.Arcs, fz fGTip.rep v_3 t.Ends, fz fGTip.rep v_1 t.Starts, inZ Z]) (L := L) [] rfl hO)⟩
   ·replace h := ite_f h hc_35
    refine hw_skip (thenQ_n (hw_seq (hw_seq (hw_region (hl_v (v_move rfl) rfl (hl_v (v_not rfl) rfl (hl_nil (thenQ_n (hw_sub _ (a_c 2 rfl (a_c 5 rfl (a_c 8 rfl (a_c 10 rfl (a_c 62 rfl a_n))))) (hw_cond rfl (fun hc_39 => ?_) (fun hc_39 => ?_)))))))))))
    ·replace h := ite_t h hc_39
     refine hw_seq (hw_region (hl_h (h_call Tryz.call6 evs_nil (lAwake19_spec  hO)) rfl ?_))
     rintro _ H_40 ⟨Z_41, _, rfl, hO⟩
     refine hl_v (v_move rfl) rfl (hl_g rfl rfl (fun hg => (v_move rfl)) rfl (hl_g rfl rfl (fun hg => (v_eqlS rfl rfl)) rfl (hl_v (v_and rfl rfl) rfl (hl_v (v_move rfl) rfl (hl_g rfl rfl (fun hg => (v_move rfl)) rfl ?_)))))
     have hln_43 := Sl.cap (hO.osl 0 rfl)
     refine hl_g rfl rfl (fun hg => (v_lenL rfl Tryz.underlying33 (gv_ok rfl hg) (hO.osl 0 rfl))) rfl (hl_g rfl rfl (fun hg => (v_leq (gv_ok rfl hg) rfl)) rfl (hl_v (v_and rfl rfl) rfl (hl_v (v_assign rfl) rfl (hl_nil (thenQ_n (hw_sub _ (a_c 4 rfl a_n) (hw_ret (thenQ_r (ret_i _ (ra_t rfl ra_nil) ?_)))))))))
     exact ⟨_, (decide ((nTwo t).1 = []) && decide ((((fOuts t w).1).length : Int) ≤ 1)), (hO.inz 9 rfl), h, rfl, (Own.sel (Ls := [own fStr 9 v_31 ((fOuts t w).1), box b_29 [.int .i64 (((pTrim t).1).States), v_22, v_23, v_24] 25, own fGTip 54 v_22 (((pTrim t).1).Starts), own fGTip 54 v_23 (((pTrim t).1).Ends), own fGArc 43 v_24 (((pTrim t).1).Arcs), box b_8 [.int .i64 t.States, v_1, v_3, v_5] 25, fz fGArc.rep v_5 t.Arcs, fz fGTip.rep v_3 t.Ends, fz fGTip.rep v_1 t.Starts, inZ Z]) (L := L) [] rfl hO)⟩
    ·replace h := ite_f h hc_39
     refine hw_skip (thenQ_n (hw_seq (hw_region (hl_v (v_loadA Tryz.isAgg25 Tryz.sizeOf25 rfl (Blk.at0 (hO.box 5 rfl)) rfl) rfl (hl_v (v_move rfl) rfl (hl_h (h_call Tryz.call8 (evs_cons rfl (evs_cons rfl evs_nil)) (fOutsP_spec (a0 := t) (a1 := (nTwo t).1) hO (Fz.of (i := 8) rfl) (Fz.of (i := 7) rfl) (Fz.of (i := 6) rfl))) rfl ?_))))))
     rintro _ H_45 ⟨Z_46, v_44, _, rfl, hO⟩
     refine hl_v (v_move rfl) rfl (hl_v (v_extract rfl rfl) rfl (hl_v (v_extract rfl rfl) rfl (hl_v (v_assign rfl) rfl (hl_v (v_assign rfl) rfl (hl_nil (thenQ_n (hw_seq (hw_region (hl_h (h_call Tryz.call6 evs_nil (lAwake19_spec  hO)) rfl ?_)))))))))
     rintro _ H_48 ⟨Z_49, _, rfl, hO⟩
     refine hl_v (v_move rfl) rfl (hl_g rfl rfl (fun hg => (v_move rfl)) rfl (hl_g rfl rfl (fun hg => (v_lenS rfl Tryz.underlying9 rfl)) rfl (hl_g rfl rfl (fun hg => (v_fieldA Tryz.underlying25 rfl Tryz.sizeOf3 rfl)) rfl (hl_g rfl rfl (fun hg => (v_load1 Tryz.isAgg3 rfl (Blk.cell (hO.box 2 rfl) rfl))) rfl ?_))))
     obtain ⟨hs_51, h⟩ := h
     refine hl_g rfl rfl (fun hg => (v_mul rfl rfl hs_51)) rfl (hl_g rfl rfl (fun hg => (v_fieldA Tryz.underlying25 rfl Tryz.sizeOf3 rfl)) rfl (hl_g rfl rfl (fun hg => (v_load1 Tryz.isAgg3 rfl (Blk.cell (hO.box 2 rfl) rfl))) rfl ?_))
     obtain ⟨hs_52, h⟩ := h
     refine hl_g rfl rfl (fun hg => (v_mul rfl rfl hs_52)) rfl (hl_g rfl rfl (fun hg => (v_leq rfl rfl)) rfl (hl_v (v_and rfl rfl) rfl (hl_v (v_move rfl) rfl (hl_g rfl rfl (fun hg => (v_move rfl)) rfl (hl_g rfl rfl (fun hg => (v_eql (gv_ok rfl hg) rfl)) rfl (hl_g rfl rfl (fun hg => (v_move (gv_ok rfl hg))) rfl (hl_g rfl rfl (fun hg => (v_move rfl)) rfl (hl_g rfl rfl (fun hg => (v_eql (gv_ok rfl hg) rfl)) rfl (hl_g rfl rfl (fun hg => (v_move (gv_ok rfl hg))) rfl (hl_g rfl rfl (fun hg => (v_move rfl)) rfl ?_))))))))))
     have hln_53 := Sl.cap (hO.osl 0 rfl)
     refine hl_g rfl rfl (fun hg => (v_lenL rfl Tryz.underlying33 (gv_ok rfl hg) (hO.osl 0 rfl))) rfl (hl_g rfl rfl (fun hg => (v_gtr (gv_ok rfl hg) rfl)) rfl (hl_g rfl rfl (fun hg => (v_and (gv_ok rfl hg) (gvgb_ok rfl hg))) rfl (hl_g rfl rfl (fun hg => (v_or (gv_ok rfl hg) (gvgb_ok rfl hg))) rfl (hl_v (v_and rfl rfl) rfl (hl_v (v_assign rfl) rfl (hl_nil (thenQ_n (hw_sub _ (a_c 4 rfl a_n) (hw_ret (ret_i _ (ra_t rfl ra_nil) ?_))))))))))
     exact ⟨_, (decide ((((nTwo t).1).length : Int) ≤ ((3 * ((pTrim t).1).States) * ((pTrim t).1).States)) && (decide ((fOuts t ((nTwo t).1)).2 = 2) || (decide ((fOuts t ((nTwo t).1)).2 = 0) && decide (1 < (((fOuts t ((nTwo t).1)).1).length : Int))))), (hO.inz 10 rfl), h, rfl, (Own.sel (Ls := [own fStr 9 v_44 ((fOuts t ((nTwo t).1)).1), own fStr 9 v_31 ((fOuts t w).1), box b_29 [.int .i64 (((pTrim t).1).States), v_22, v_23, v_24] 25, own fGTip 54 v_22 (((pTrim t).1).Starts), own fGTip 54 v_23 (((pTrim t).1).Ends), own fGArc 43 v_24 (((pTrim t).1).Arcs), box b_8 [.int .i64 t.States, v_1, v_3, v_5] 25, fz fGArc.rep v_5 t.Arcs, fz fGTip.rep v_3 t.Ends, fz fGTip.rep v_1 t.Starts, inZ Z]) (L := L) [] rfl hO)⟩
theorem lFunShows_spec {a0 : GFst} {a1 : List UInt8} {v_1 : Value} {v_3 : Value} {v_5 : Value} {L : List As} (hp : fSane a0) {H : Heap} {Z : Nat → Prop} (hO : Own H Z (L)) (hf_2 : Fz fGTip.rep L v_1 a0.Starts) (hf_4 : Fz fGTip.rep L v_3 a0.Ends) (hf_6 : Fz fGArc.rep L v_5 a0.Arcs) : HC Tryz.prog 3 [.agg [.int .i64 a0.States, v_1, v_3, v_5].toArray, str a1] H (fun v H' => ∃ (Z' : Nat → Prop) , (∀ b, Z b → Z' b) ∧ v = .bool (true) ∧ Own H' Z' (L)) := by
  refine (lFunShows_ok (t := a0) (w := a1) (@lFunShows_wp a0 a1 hp) hO hf_2 hf_4 hf_6).mono ?_
  rintro v H' ⟨Z', r0, hz, hq, hv, hO'⟩
  obtain rfl := hq
  exact ⟨Z', hz, hv, hO'⟩

end Go.Proofs.YtfbbkjhdhjmpnaaGreat
