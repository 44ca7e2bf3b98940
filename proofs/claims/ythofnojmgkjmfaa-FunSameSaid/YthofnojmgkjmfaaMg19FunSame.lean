/- Several texts in one. No condition. -/
import Derived.Test.YthofnojmgkjmfaaMg18FunSame
import Derived.Test.YthofnojmgkjmfaaProg
set_option linter.unusedVariables false
set_option linter.unusedSimpArgs false
set_option maxRecDepth 20000
namespace Go.Proofs.Ythofnojmgkjmfaa
open Go.Proofs
theorem lAwake19_ok   {Q : Bool → Prop} {H : Heap} {Z : Nat → Prop} {L : List As} (h : wp_lAwake19 Q) (hO : Own H Z (L))  : HC Try.prog 12 [] H (fun v H' => ∃ (Z' : Nat → Prop) (r0 : Bool) , (∀ b, Z b → Z' b) ∧ Q r0 ∧ v = .bool r0 ∧ Own H' Z' (L)) := by
 replace hO := hO.inZ
 unfold wp_lAwake19 at h
 refine hc_of_hw (N := 67) (rs := [(.tmp 0)]) Try.func12 rfl rfl rfl rfl (hw_seq (hw_region (hl_v (v_assign rfl) rfl (hl_nil (thenQ_n (hw_seq (hw_region (hl_v (v_buildF (cs := (fGTip.enc (⟨(0 : Int), ([] : List UInt8)⟩ : GTip))) (xs := []) (is := []) rfl evs_nil (fun w => by show _ = _; kernel_rfl)) rfl (hl_h (o_lit (g := fGTip) (l := [(⟨(0 : Int), ([] : List UInt8)⟩ : GTip)]) (xs := [.tmp 9]) hO Try.underlying25 Try.sizeOf45 Try.zeroValue45 rfl (evs_cons rfl evs_nil) rfl rfl rfl rfl rfl) rfl ?_)))))))))
 rintro v_2 H_1 hO
 refine hl_v (v_buildF (cs := (fGTip.enc (⟨1, ([] : List UInt8)⟩ : GTip))) (xs := [_]) (is := [0]) rfl (evs_cons (show _ = some (.int .i64 1) from rfl) evs_nil) (fun w => by show _ = _; kernel_rfl)) rfl (hl_h (o_lit (g := fGTip) (l := [(⟨1, ([] : List UInt8)⟩ : GTip)]) (xs := [.tmp 11]) hO Try.underlying25 Try.sizeOf45 Try.zeroValue45 rfl (evs_cons rfl evs_nil) rfl rfl rfl rfl rfl) rfl ?_)
 rintro v_4 H_3 hO
 refine hl_h (o_lit (g := fByte) (l := [97]) (xs := [_]) hO Try.underlying56 Try.sizeOf5 Try.zeroValue5 rfl (evs_cons (show _ = some (.int .u8 97) from rfl) evs_nil) rfl rfl rfl rfl rfl) rfl ?_
 rintro v_6 H_5 hO
 refine hl_h (h_call Try.call20 (evs_cons rfl evs_nil) (setOf_spec (a0 := [97]) hO (Rd.of_own (i := 0) rfl))) rfl ?_
 rintro _ H_7 ⟨Z_8, _, rfl, hO⟩
 refine hl_v (v_buildF (cs := (fGArc.enc (⟨(0 : Int), 1, BSet.ofL [97], [120], false⟩ : GArc))) (xs := [_, .tmp 14, _]) (is := [1, 2, 3]) rfl (evs_cons (show _ = some (.int .i64 1) from rfl) (evs_cons rfl (evs_cons (show _ = some (str [120]) from rfl) evs_nil))) (fun w => by show _ = _; kernel_rfl)) rfl (hl_h (o_lit (g := fByte) (l := [97]) (xs := [_]) hO Try.underlying56 Try.sizeOf5 Try.zeroValue5 rfl (evs_cons (show _ = some (.int .u8 97) from rfl) evs_nil) rfl rfl rfl rfl rfl) rfl ?_)
 rintro v_11 H_10 hO
 refine hl_h (h_call Try.call20 (evs_cons rfl evs_nil) (setOf_spec (a0 := [97]) hO (Rd.of_own (i := 0) rfl))) rfl ?_
 rintro _ H_12 ⟨Z_13, _, rfl, hO⟩
 refine hl_v (v_buildF (cs := (fGArc.enc (⟨(0 : Int), 1, BSet.ofL [97], [121], false⟩ : GArc))) (xs := [_, .tmp 17, _]) (is := [1, 2, 3]) rfl (evs_cons (show _ = some (.int .i64 1) from rfl) (evs_cons rfl (evs_cons (show _ = some (str [121]) from rfl) evs_nil))) (fun w => by show _ = _; kernel_rfl)) rfl (hl_h (o_lit (g := fGArc) (l := [(⟨(0 : Int), 1, BSet.ofL [97], [120], false⟩ : GArc), (⟨(0 : Int), 1, BSet.ofL [97], [121], false⟩ : GArc)]) (xs := [.tmp 15, .tmp 18]) hO Try.underlying26 Try.sizeOf55 Try.zeroValue55 rfl (evs_cons rfl (evs_cons rfl evs_nil)) rfl rfl rfl rfl rfl) rfl ?_)
 rintro v_16 H_15 hO
 have hsh_17 := Sl.sh (hO.osl 4 rfl)
 have hsh_18 := Sl.sh (hO.osl 3 rfl)
 have hsh_19 := Sl.sh (hO.osl 0 rfl)
 refine hl_v (v_buildF (cs := [.int .i64 2, v_2, v_4, v_16]) (xs := [_, .tmp 10, .tmp 12, .tmp 19]) (is := [0, 1, 2, 3]) rfl (evs_cons (show _ = some (.int .i64 2) from rfl) (evs_cons rfl (evs_cons rfl (evs_cons rfl evs_nil)))) (fun w => by obtain ⟨_, _, _, hw⟩ := hsh_17; (try subst hw); obtain ⟨_, _, _, hw⟩ := hsh_18; (try subst hw); obtain ⟨_, _, _, hw⟩ := hsh_19; (try subst hw); show _ = _; kernel_rfl)) rfl (hl_h (o_alloc (cs := [.int .i64 (0 : Int), .slice none 0 0, .slice none 0 0, .slice none 0 0]) hO Try.zeroValue28 rfl) rfl ?_)
 rintro _ H_20 ⟨b_21, rfl, hO⟩
 refine hl_s (o_storeA (us := [.int .i64 2, v_2, v_4, v_16]) hO 0 rfl Try.sizeOf28 rfl rfl rfl rfl (by simp only [List.forall_mem_cons]; exact ⟨rfl, (Sl.one (hO.osl 5 rfl)), (Sl.one (hO.osl 4 rfl)), (Sl.one (hO.osl 1 rfl)), by simp⟩)) ?_
 rintro _ H_22 hO
 refine hl_nil (thenQ_n (hw_seq (hw_region (hl_v (v_loadA Try.isAgg28 Try.sizeOf28 rfl (Blk.at0 (hO.box 0 rfl)) rfl) rfl ?_))))
 obtain ⟨Z_23, _, hO⟩ := hO.freeze (i := 5) rfl
 obtain ⟨Z_24, _, hO⟩ := hO.freeze (i := 4) rfl
 obtain ⟨Z_25, _, hO⟩ := hO.freeze (i := 1) rfl
 replace hO : Own H_22 Z_25 (box b_21 [.int .i64 2, v_2, v_4, v_16] 28 :: fz fGArc.rep v_16 [(⟨(0 : Int), 1, BSet.ofL [97], [120], false⟩ : GArc), (⟨(0 : Int), 1, BSet.ofL [97], [121], false⟩ : GArc)] :: own fByte 5 v_11 [97] :: own fByte 5 v_6 [97] :: fz fGTip.rep v_4 [(⟨1, ([] : List UInt8)⟩ : GTip)] :: fz fGTip.rep v_2 [(⟨(0 : Int), ([] : List UInt8)⟩ : GTip)] :: inZ Z :: L) := hO
 obtain ⟨hs_26, h⟩ := h
 refine hl_h (h_call Try.call13 (evs_cons rfl evs_nil) (funOne_spec (a0 := (⟨2, [(⟨(0 : Int), ([] : List UInt8)⟩ : GTip)], [(⟨1, ([] : List UInt8)⟩ : GTip)], [(⟨(0 : Int), 1, BSet.ofL [97], [120], false⟩ : GArc), (⟨(0 : Int), 1, BSet.ofL [97], [121], false⟩ : GArc)]⟩ : GFst)) hs_26 hO (Fz.of (i := 5) rfl) (Fz.of (i := 4) rfl) (Fz.of (i := 1) rfl))) rfl ?_
 rintro _ H_27 ⟨Z_28, _, rfl, hO⟩
 refine hl_v (v_move rfl) rfl (hl_v (v_extract rfl rfl) rfl (hl_v (v_extract rfl rfl) rfl (hl_v (v_assign rfl) rfl (hl_v (v_assign rfl) rfl (hl_nil (thenQ_n (hw_sub _ (a_c 1 rfl (a_c 2 rfl (a_c 3 rfl a_n))) (hw_seq (hw_region (hl_v (v_loadA Try.isAgg28 Try.sizeOf28 rfl (Blk.at0 (hO.box 0 rfl)) rfl) rfl (hl_h (h_call Try.call26 (evs_cons rfl evs_nil) (funTwo_spec (a0 := (⟨2, [(⟨(0 : Int), ([] : List UInt8)⟩ : GTip)], [(⟨1, ([] : List UInt8)⟩ : GTip)], [(⟨(0 : Int), 1, BSet.ofL [97], [120], false⟩ : GArc), (⟨(0 : Int), 1, BSet.ofL [97], [121], false⟩ : GArc)]⟩ : GFst)) hs_26 hO (Fz.of (i := 5) rfl) (Fz.of (i := 4) rfl) (Fz.of (i := 1) rfl))) rfl ?_)))))))))))
 rintro _ H_30 ⟨Z_31, _, rfl, hO⟩
 refine hl_v (v_move rfl) rfl (hl_v (v_extract rfl rfl) rfl (hl_v (v_extract rfl rfl) rfl (hl_v (v_extract rfl rfl) rfl (hl_v (v_assign rfl) rfl (hl_v (v_assign rfl) rfl (hl_v (v_assign rfl) rfl (hl_nil (thenQ_n (hw_seq (hw_region (hl_v (v_fieldA Try.underlying28 rfl Try.sizeOf26 rfl) rfl (hl_v (v_load1 Try.isAgg26 rfl (Blk.cell (hO.box 0 rfl) rfl)) rfl ?_))))))))))))
 obtain ⟨hs_33, h⟩ := h
 replace hO := Sl.item (slvh_of (hi := 1) (hO.fsl 1 rfl) hs_33 rfl) hO
 refine hl_v (v_sliceLh Try.underlying26 Try.sizeOf55 rfl rfl (hO.fsl 2 rfl) hs_33) rfl (hl_v (v_fieldA Try.underlying28 rfl Try.sizeOf26 rfl) rfl (hl_s (o_store1 hO 1 rfl Try.sizeOf26 rfl rfl rfl (Sl.one (hO.fsl 0 rfl))) ?_))
 rintro _ H_34 hO
 refine hl_nil (thenQ_n (hw_sub _ (a_c 1 rfl (a_c 2 rfl (a_c 3 rfl (a_c 4 rfl (a_c 5 rfl (a_c 6 rfl a_n)))))) (hw_seq (hw_region (hl_v (v_loadA Try.isAgg28 Try.sizeOf28 rfl (Blk.at0 (hO.box 1 rfl)) rfl) rfl ?_)))))
 obtain ⟨hs_35, h⟩ := h
 refine hl_h (h_call Try.call13 (evs_cons rfl evs_nil) (funOne_spec (a0 := (⟨2, [(⟨(0 : Int), ([] : List UInt8)⟩ : GTip)], [(⟨1, ([] : List UInt8)⟩ : GTip)], ([(⟨(0 : Int), 1, BSet.ofL [97], [120], false⟩ : GArc), (⟨(0 : Int), 1, BSet.ofL [97], [121], false⟩ : GArc)].take 1)⟩ : GFst)) hs_35 hO (Fz.of (i := 6) rfl) (Fz.of (i := 5) rfl) (Fz.of (i := 0) rfl))) rfl ?_
 rintro _ H_36 ⟨Z_37, _, rfl, hO⟩
 refine hl_v (v_move rfl) rfl (hl_v (v_extract rfl rfl) rfl (hl_v (v_extract rfl rfl) rfl (hl_v (v_assign rfl) rfl (hl_v (v_assign rfl) rfl (hl_nil (thenQ_n (hw_seq (hw_region (hl_v (v_move rfl) rfl (hl_v (v_not rfl) rfl (hl_v (v_move rfl) rfl (hl_g rfl rfl (fun hg => (v_move rfl)) rfl (hl_g rfl rfl (fun hg => (v_eql (gv_ok rfl hg) rfl)) rfl (hl_v (v_and rfl rfl) rfl (hl_v (v_move rfl) rfl (hl_g rfl rfl (fun hg => (v_move rfl)) rfl (hl_g rfl rfl (fun hg => (v_eqlS (gv_ok rfl hg) rfl)) rfl (hl_v (v_and rfl rfl) rfl (hl_v (v_move rfl) rfl (hl_g rfl rfl (fun hg => (v_move rfl)) rfl (hl_v (v_and rfl rfl) rfl (hl_v (v_move rfl) rfl (hl_g rfl rfl (fun hg => (v_move rfl)) rfl (hl_g rfl rfl (fun hg => (v_move rfl)) rfl (hl_g rfl rfl (fun hg => (v_eql (gv_ok rfl hg) (gv_ok rfl hg))) rfl (hl_v (v_and rfl rfl) rfl (hl_v (v_move rfl) rfl (hl_g rfl rfl (fun hg => (v_move rfl)) rfl (hl_v (v_and rfl rfl) rfl (hl_v (v_move rfl) rfl (hl_g rfl rfl (fun hg => (v_move rfl)) rfl (hl_g rfl rfl (fun hg => (v_move rfl)) rfl (hl_g rfl rfl (fun hg => (v_eql (gv_ok rfl hg) (gv_ok rfl hg))) rfl (hl_v (v_and rfl rfl) rfl (hl_v (v_assign rfl) rfl (hl_nil (thenQ_n (hw_sub _ (a_c 0 rfl a_n) (hw_ret (ret_i _ (ra_t rfl ra_nil) ?_))))))))))))))))))))))))))))))))))))))))
 exact ⟨_, (((((((!(nOne (⟨2, [(⟨(0 : Int), ([] : List UInt8)⟩ : GTip)], [(⟨1, ([] : List UInt8)⟩ : GTip)], [(⟨(0 : Int), 1, BSet.ofL [97], [120], false⟩ : GArc), (⟨(0 : Int), 1, BSet.ofL [97], [121], false⟩ : GArc)]⟩ : GFst)).1) && decide ((nOne (⟨2, [(⟨(0 : Int), ([] : List UInt8)⟩ : GTip)], [(⟨1, ([] : List UInt8)⟩ : GTip)], [(⟨(0 : Int), 1, BSet.ofL [97], [120], false⟩ : GArc), (⟨(0 : Int), 1, BSet.ofL [97], [121], false⟩ : GArc)]⟩ : GFst)).2 = 0)) && decide ((nTwo (⟨2, [(⟨(0 : Int), ([] : List UInt8)⟩ : GTip)], [(⟨1, ([] : List UInt8)⟩ : GTip)], [(⟨(0 : Int), 1, BSet.ofL [97], [120], false⟩ : GArc), (⟨(0 : Int), 1, BSet.ofL [97], [121], false⟩ : GArc)]⟩ : GFst)).1 = [97])) && (nTwo (⟨2, [(⟨(0 : Int), ([] : List UInt8)⟩ : GTip)], [(⟨1, ([] : List UInt8)⟩ : GTip)], [(⟨(0 : Int), 1, BSet.ofL [97], [120], false⟩ : GArc), (⟨(0 : Int), 1, BSet.ofL [97], [121], false⟩ : GArc)]⟩ : GFst)).2.1) && decide ((nTwo (⟨2, [(⟨(0 : Int), ([] : List UInt8)⟩ : GTip)], [(⟨1, ([] : List UInt8)⟩ : GTip)], [(⟨(0 : Int), 1, BSet.ofL [97], [120], false⟩ : GArc), (⟨(0 : Int), 1, BSet.ofL [97], [121], false⟩ : GArc)]⟩ : GFst)).2.2 = (nOne (⟨2, [(⟨(0 : Int), ([] : List UInt8)⟩ : GTip)], [(⟨1, ([] : List UInt8)⟩ : GTip)], [(⟨(0 : Int), 1, BSet.ofL [97], [120], false⟩ : GArc), (⟨(0 : Int), 1, BSet.ofL [97], [121], false⟩ : GArc)]⟩ : GFst)).2)) && (nOne (⟨2, [(⟨(0 : Int), ([] : List UInt8)⟩ : GTip)], [(⟨1, ([] : List UInt8)⟩ : GTip)], ([(⟨(0 : Int), 1, BSet.ofL [97], [120], false⟩ : GArc), (⟨(0 : Int), 1, BSet.ofL [97], [121], false⟩ : GArc)].take 1)⟩ : GFst)).1) && decide ((nOne (⟨2, [(⟨(0 : Int), ([] : List UInt8)⟩ : GTip)], [(⟨1, ([] : List UInt8)⟩ : GTip)], ([(⟨(0 : Int), 1, BSet.ofL [97], [120], false⟩ : GArc), (⟨(0 : Int), 1, BSet.ofL [97], [121], false⟩ : GArc)].take 1)⟩ : GFst)).2 = (nOne (⟨2, [(⟨(0 : Int), ([] : List UInt8)⟩ : GTip)], [(⟨1, ([] : List UInt8)⟩ : GTip)], [(⟨(0 : Int), 1, BSet.ofL [97], [120], false⟩ : GArc), (⟨(0 : Int), 1, BSet.ofL [97], [121], false⟩ : GArc)]⟩ : GFst)).2)), (hO.inz 7 rfl), h, rfl, (Own.sel (Ls := [fz fGArc.rep (slv v_16 8 0 1) ([(⟨(0 : Int), 1, BSet.ofL [97], [120], false⟩ : GArc), (⟨(0 : Int), 1, BSet.ofL [97], [121], false⟩ : GArc)].take 1), box b_21 [.int .i64 2, v_2, v_4, (slv v_16 8 0 1)] 28, fz fGArc.rep v_16 [(⟨(0 : Int), 1, BSet.ofL [97], [120], false⟩ : GArc), (⟨(0 : Int), 1, BSet.ofL [97], [121], false⟩ : GArc)], own fByte 5 v_11 [97], own fByte 5 v_6 [97], fz fGTip.rep v_4 [(⟨1, ([] : List UInt8)⟩ : GTip)], fz fGTip.rep v_2 [(⟨(0 : Int), ([] : List UInt8)⟩ : GTip)], inZ Z]) (L := L) [] rfl hO)⟩
theorem lAwake19_spec   {L : List As} {H : Heap} {Z : Nat → Prop} (hO : Own H Z (L))  : HC Try.prog 12 [] H (fun v H' => ∃ (Z' : Nat → Prop) , (∀ b, Z b → Z' b) ∧ v = .bool (true) ∧ Own H' Z' (L)) := by
  refine (lAwake19_ok  (@lAwake19_wp ) hO).mono ?_
  rintro v H' ⟨Z', r0, hz, hq, hv, hO'⟩
  obtain rfl := hq
  exact ⟨Z', hz, hv, hO'⟩

theorem lFunSame_ok {t : GFst} {v_1 : Value} {v_3 : Value} {v_5 : Value} {Q : Bool → Prop} {H : Heap} {Z : Nat → Prop} {L : List As} (h : wp_lFunSame t Q) (hO : Own H Z (L)) (hf_2 : Fz fGTip.rep L v_1 t.Starts) (hf_4 : Fz fGTip.rep L v_3 t.Ends) (hf_6 : Fz fGArc.rep L v_5 t.Arcs) : HC Try.prog 4 [.agg [.int .i64 t.States, v_1, v_3, v_5].toArray] H (fun v H' => ∃ (Z' : Nat → Prop) (r0 : Bool) , (∀ b, Z b → Z' b) ∧ Q r0 ∧ v = .bool r0 ∧ Own H' Z' (L)) := by
 replace hO := hO.inZ
 replace hO := Fz.items [_] hf_2 hO
 replace hO := Fz.items [_, _] hf_4 hO
 replace hO := Fz.items [_, _, _] hf_6 hO
 unfold wp_lFunSame at h
 refine hc_of_hw (N := 46) (rs := [(.tmp 2)]) Try.func4 rfl rfl rfl rfl (hw_seq (hw_region (hl_h (o_box (cs := [.int .i64 t.States, v_1, v_3, v_5]) hO rfl rfl) rfl ?_)))
 rintro _ H_7 ⟨b_8, rfl, hO⟩
 refine hl_v (v_assign rfl) rfl (hl_nil (thenQ_n (hw_seq (hw_seq (hw_region (hl_v (v_loadA Try.isAgg28 Try.sizeOf28 rfl (Blk.at0 (hO.box 0 rfl)) rfl) rfl ?_))))))
 obtain ⟨hs_9, h⟩ := h
 refine hl_h (h_call Try.call9 (evs_cons rfl evs_nil) (rFew15_spec (a0 := t) hs_9 hO (Fz.of (i := 3) rfl) (Fz.of (i := 2) rfl) (Fz.of (i := 1) rfl))) rfl ?_
 rintro _ H_10 ⟨Z_11, _, rfl, hO⟩
 refine hl_v (v_not rfl) rfl (hl_v (v_move rfl) rfl (hl_g rfl rfl (fun hg => (v_loadA Try.isAgg28 Try.sizeOf28 rfl (Blk.at0 (hO.box 0 rfl)) rfl)) rfl ?_))
 obtain ⟨hs_13, h⟩ := h
 refine hl_gc (v := .bool (f19Few t)) (R := fun H' => ∃ Z' : Nat → Prop, Own H' Z' (box b_8 [.int .i64 t.States, v_1, v_3, v_5] 28 :: fz fGArc.rep v_5 t.Arcs :: fz fGTip.rep v_3 t.Ends :: fz fGTip.rep v_1 t.Starts :: inZ Z :: L)) rfl rfl (fun hg => OpH.mono (h_call Try.call10 (evs_cons (gv_ok rfl hg) evs_nil) (rFew19_spec (a0 := t) (hs_13 (gb_bool hg)) hO (Fz.of (i := 3) rfl) (Fz.of (i := 2) rfl) (Fz.of (i := 1) rfl))) (g_c)) ⟨_, hO⟩ rfl ?_
 rintro H_14 ⟨Z_15, hO⟩
 refine hl_g rfl rfl (fun hg => (v_not (gv_ok rfl hg))) rfl (hl_v (v_or rfl rfl) rfl (hl_nil (thenQ_n (hw_cond rfl (fun hc_17 => ?_) (fun hc_17 => ?_)))))
 ·replace h := ite_t h hc_17
  refine hw_seq (hw_region (hl_v (v_assign rfl) rfl (hl_nil (thenQ_n (hw_ret (thenQ_r (ret_i _ (ra_t rfl ra_nil) ?_)))))))
  exact ⟨_, true, (hO.inz 4 rfl), h, rfl, (Own.sel (Ls := [box b_8 [.int .i64 t.States, v_1, v_3, v_5] 28, fz fGArc.rep v_5 t.Arcs, fz fGTip.rep v_3 t.Ends, fz fGTip.rep v_1 t.Starts, inZ Z]) (L := L) [] rfl hO)⟩
 ·replace h := ite_f h hc_17
  refine hw_skip (thenQ_n (hw_seq (hw_region (hl_v (v_loadA Try.isAgg28 Try.sizeOf28 rfl (Blk.at0 (hO.box 0 rfl)) rfl) rfl (hl_h (h_call Try.call11 (evs_cons rfl evs_nil) (trimP_spec (a0 := t) hO (Fz.of (i := 3) rfl) (Fz.of (i := 2) rfl) (Fz.of (i := 1) rfl))) rfl ?_)))))
  rintro _ H_21 ⟨Z_22, v_18, v_19, v_20, _, rfl, hO⟩
  refine hl_v (v_move rfl) rfl (hl_v (v_extract rfl rfl) rfl (hl_v (v_extract rfl rfl) rfl (hl_h (o_alloc (cs := [.int .i64 (0 : Int), .slice none 0 0, .slice none 0 0, .slice none 0 0]) hO Try.zeroValue28 rfl) rfl ?_)))
  rintro _ H_24 ⟨b_25, rfl, hO⟩
  refine hl_s (o_storeA (us := [.int .i64 (((pTrim t).1).States), v_18, v_19, v_20]) hO 0 rfl Try.sizeOf28 rfl rfl rfl rfl (by simp only [List.forall_mem_cons]; exact ⟨rfl, (Sl.one (hO.osl 1 rfl)), (Sl.one (hO.osl 2 rfl)), (Sl.one (hO.osl 3 rfl)), by simp⟩)) ?_
  rintro _ H_26 hO
  refine hl_v (v_assign rfl) rfl (hl_nil (thenQ_n (hw_sub _ (a_c 1 rfl (a_c 3 rfl (a_c 4 rfl a_n))) (hw_seq (hw_seq (hw_region (hl_v (v_move rfl) rfl (hl_v (v_neq rfl rfl) rfl (hl_nil (thenQ_n (hw_cond rfl (fun hc_27 => ?_) (fun hc_27 => ?_))))))))))))
  ·replace h := ite_t h hc_27
   refine hw_seq (hw_region (hl_h (h_call Try.call12 evs_nil (lAwake19_spec  hO)) rfl ?_))
   rintro _ H_28 ⟨Z_29, _, rfl, hO⟩
   refine hl_v (v_assign rfl) rfl (hl_nil (thenQ_n (hw_ret (thenQ_r (ret_i _ (ra_t rfl ra_nil) ?_)))))
   exact ⟨_, true, (hO.inz 8 rfl), h, rfl, (Own.sel (Ls := [box b_25 [.int .i64 (((pTrim t).1).States), v_18, v_19, v_20] 28, own fGTip 45 v_18 (((pTrim t).1).Starts), own fGTip 45 v_19 (((pTrim t).1).Ends), own fGArc 55 v_20 (((pTrim t).1).Arcs), box b_8 [.int .i64 t.States, v_1, v_3, v_5] 28, fz fGArc.rep v_5 t.Arcs, fz fGTip.rep v_3 t.Ends, fz fGTip.rep v_1 t.Starts, inZ Z]) (L := L) [] rfl hO)⟩
  ·replace h := ite_f h hc_27
   refine hw_skip (thenQ_n (hw_seq (hw_region (hl_v (v_loadA Try.isAgg28 Try.sizeOf28 rfl (Blk.at0 (hO.box 4 rfl)) rfl) rfl ?_))))
   obtain ⟨hs_31, h⟩ := h
   refine hl_h (h_call Try.call13 (evs_cons rfl evs_nil) (funOne_spec (a0 := t) hs_31 hO (Fz.of (i := 7) rfl) (Fz.of (i := 6) rfl) (Fz.of (i := 5) rfl))) rfl ?_
   rintro _ H_32 ⟨Z_33, _, rfl, hO⟩
   refine hl_v (v_move rfl) rfl (hl_v (v_extract rfl rfl) rfl (hl_v (v_extract rfl rfl) rfl (hl_v (v_assign rfl) rfl (hl_v (v_assign rfl) rfl (hl_nil (thenQ_n (hw_seq (hw_region (hl_v (v_loadA Try.isAgg28 Try.sizeOf28 rfl (Blk.at0 (hO.box 0 rfl)) rfl) rfl ?_)))))))))
   obtain ⟨Z_35, _, hO⟩ := hO.freeze (i := 1) rfl
   obtain ⟨Z_36, _, hO⟩ := hO.freeze (i := 2) rfl
   obtain ⟨Z_37, _, hO⟩ := hO.freeze (i := 3) rfl
   replace hO : Own H_32 Z_37 (box b_25 [.int .i64 (((pTrim t).1).States), v_18, v_19, v_20] 28 :: fz fGTip.rep v_18 (((pTrim t).1).Starts) :: fz fGTip.rep v_19 (((pTrim t).1).Ends) :: fz fGArc.rep v_20 (((pTrim t).1).Arcs) :: box b_8 [.int .i64 t.States, v_1, v_3, v_5] 28 :: fz fGArc.rep v_5 t.Arcs :: fz fGTip.rep v_3 t.Ends :: fz fGTip.rep v_1 t.Starts :: inZ Z :: L) := hO
   obtain ⟨hs_38, h⟩ := h
   refine hl_h (h_call Try.call13 (evs_cons rfl evs_nil) (funOne_spec (a0 := ((pTrim t).1)) hs_38 hO (Fz.of (i := 1) rfl) (Fz.of (i := 2) rfl) (Fz.of (i := 3) rfl))) rfl ?_
   rintro _ H_39 ⟨Z_40, _, rfl, hO⟩
   refine hl_v (v_move rfl) rfl (hl_v (v_extract rfl rfl) rfl (hl_v (v_extract rfl rfl) rfl (hl_v (v_assign rfl) rfl (hl_v (v_assign rfl) rfl (hl_nil (thenQ_n (hw_sub _ (a_c 5 rfl (a_c 6 rfl (a_c 7 rfl (a_c 8 rfl a_n)))) (hw_seq (hw_region (hl_h (h_call Try.call12 evs_nil (lAwake19_spec  hO)) rfl ?_))))))))))
   rintro _ H_42 ⟨Z_43, _, rfl, hO⟩
   refine hl_v (v_move rfl) rfl (hl_g rfl rfl (fun hg => (v_move rfl)) rfl (hl_g rfl rfl (fun hg => (v_move rfl)) rfl (hl_g rfl rfl (fun hg => (v_eqlb Try.underlying4 rfl rfl)) rfl (hl_v (v_and rfl rfl) rfl (hl_v (v_move rfl) rfl (hl_g rfl rfl (fun hg => (v_move rfl)) rfl (hl_g rfl rfl (fun hg => (v_move rfl)) rfl (hl_g rfl rfl (fun hg => (v_eql (gv_ok rfl hg) (gv_ok rfl hg))) rfl (hl_v (v_and rfl rfl) rfl (hl_v (v_assign rfl) rfl (hl_nil (thenQ_n (hw_sub _ (a_c 2 rfl a_n) (hw_ret (ret_i _ (ra_t rfl ra_nil) ?_)))))))))))))))
   exact ⟨_, (((nOne t).1 == (nOne ((pTrim t).1)).1) && decide ((nOne t).2 = (nOne ((pTrim t).1)).2)), (hO.inz 8 rfl), h, rfl, (Own.sel (Ls := [box b_25 [.int .i64 (((pTrim t).1).States), v_18, v_19, v_20] 28, fz fGTip.rep v_18 (((pTrim t).1).Starts), fz fGTip.rep v_19 (((pTrim t).1).Ends), fz fGArc.rep v_20 (((pTrim t).1).Arcs), box b_8 [.int .i64 t.States, v_1, v_3, v_5] 28, fz fGArc.rep v_5 t.Arcs, fz fGTip.rep v_3 t.Ends, fz fGTip.rep v_1 t.Starts, inZ Z]) (L := L) [] rfl hO)⟩
theorem lFunSame_spec {a0 : GFst} {v_1 : Value} {v_3 : Value} {v_5 : Value} {L : List As} (hp : fSane a0) {H : Heap} {Z : Nat → Prop} (hO : Own H Z (L)) (hf_2 : Fz fGTip.rep L v_1 a0.Starts) (hf_4 : Fz fGTip.rep L v_3 a0.Ends) (hf_6 : Fz fGArc.rep L v_5 a0.Arcs) : HC Try.prog 4 [.agg [.int .i64 a0.States, v_1, v_3, v_5].toArray] H (fun v H' => ∃ (Z' : Nat → Prop) , (∀ b, Z b → Z' b) ∧ v = .bool (true) ∧ Own H' Z' (L)) := by
  refine (lFunSame_ok (t := a0) (@lFunSame_wp a0 hp) hO hf_2 hf_4 hf_6).mono ?_
  rintro v H' ⟨Z', r0, hz, hq, hv, hO'⟩
  obtain rfl := hq
  exact ⟨Z', hz, hv, hO'⟩

end Go.Proofs.Ythofnojmgkjmfaa
