/- Walks: functions do as their plain formulas say. No condition. -/
import Derived.Test.YtbaciogbhjcdoaaProg
import Derived.Test.YtbaciogbhjcdoaaClr
import Derived.Test.YtbaciogbhjcdoaaP15l
import Derived.Test.YtbaciogbhjcdoaaG15
set_option linter.unusedVariables false
set_option linter.unusedSimpArgs false
set_option maxRecDepth 20000
namespace Go.Proofs.Ytbaciogbhjcdoaa
open Go.Proofs
theorem lAwake15_ok   {Q : Bool → Prop} {H : Heap} {Z : Nat → Prop} {L : List As} (h : wp_lAwake15 Q) (hO : Own H Z (L))  : HC Try.prog 28 [] H (fun v H' => ∃ (Z' : Nat → Prop) (r0 : Bool) , (∀ b, Z b → Z' b) ∧ Q r0 ∧ v = .bool r0 ∧ Own H' Z' (L)) := by
 replace hO := hO.inZ
 unfold wp_lAwake15 at h
 refine hc_of_hw (N := 40) (rs := [(.tmp 0)]) Try.func28 rfl rfl rfl rfl (hw_seq (hw_region (hl_v (v_assign rfl) rfl (hl_nil (thenQ_n (hw_seq (hw_region (hl_v (v_buildF (cs := (fGTip.enc (⟨(0 : Int), ([] : List UInt8)⟩ : GTip))) (xs := []) (is := []) rfl evs_nil (fun w => by show _ = _; kernel_rfl)) rfl (hl_h (o_lit (g := fGTip) (l := [(⟨(0 : Int), ([] : List UInt8)⟩ : GTip)]) (xs := [.tmp 6]) hO Try.underlying45 Try.sizeOf91 Try.zeroValue91 rfl (evs_cons rfl evs_nil) rfl rfl rfl rfl rfl) rfl ?_)))))))))
 rintro v_2 H_1 hO
 refine hl_v (v_buildF (cs := (fGTip.enc (⟨1, [121]⟩ : GTip))) (xs := [_, _]) (is := [0, 1]) rfl (evs_cons (show _ = some (.int .i64 1) from rfl) (evs_cons (show _ = some (str [121]) from rfl) evs_nil)) (fun w => by show _ = _; kernel_rfl)) rfl (hl_h (o_lit (g := fGTip) (l := [(⟨1, [121]⟩ : GTip)]) (xs := [.tmp 8]) hO Try.underlying45 Try.sizeOf91 Try.zeroValue91 rfl (evs_cons rfl evs_nil) rfl rfl rfl rfl rfl) rfl ?_)
 rintro v_4 H_3 hO
 refine hl_h (o_lit (g := fByte) (l := [97]) (xs := [_]) hO Try.underlying94 Try.sizeOf5 Try.zeroValue5 rfl (evs_cons (show _ = some (.int .u8 97) from rfl) evs_nil) rfl rfl rfl rfl rfl) rfl ?_
 rintro v_6 H_5 hO
 refine hl_h (h_call Try.call42 (evs_cons rfl evs_nil) (setOf_spec (a0 := [97]) hO (Rd.of_own (i := 0) rfl))) rfl ?_
 rintro _ H_7 ⟨Z_8, _, rfl, hO⟩
 refine hl_v (v_buildF (cs := (fGArc.enc (⟨(0 : Int), 1, BSet.ofL [97], [120], true⟩ : GArc))) (xs := [_, .tmp 11, _, _]) (is := [1, 2, 3, 4]) rfl (evs_cons (show _ = some (.int .i64 1) from rfl) (evs_cons rfl (evs_cons (show _ = some (str [120]) from rfl) (evs_cons (show _ = some (.bool true) from rfl) evs_nil)))) (fun w => by show _ = _; kernel_rfl)) rfl (hl_h (o_lit (g := fGArc) (l := [(⟨(0 : Int), 1, BSet.ofL [97], [120], true⟩ : GArc)]) (xs := [.tmp 12]) hO Try.underlying46 Try.sizeOf50 Try.zeroValue50 rfl (evs_cons rfl evs_nil) rfl rfl rfl rfl rfl) rfl ?_)
 rintro v_11 H_10 hO
 have hsh_12 := Sl.sh (hO.osl 3 rfl)
 have hsh_13 := Sl.sh (hO.osl 2 rfl)
 have hsh_14 := Sl.sh (hO.osl 0 rfl)
 refine hl_v (v_buildF (cs := [.int .i64 2, v_2, v_4, v_11]) (xs := [_, .tmp 7, .tmp 9, .tmp 13]) (is := [0, 1, 2, 3]) rfl (evs_cons (show _ = some (.int .i64 2) from rfl) (evs_cons rfl (evs_cons rfl (evs_cons rfl evs_nil)))) (fun w => by obtain ⟨_, _, _, hw⟩ := hsh_12; (try subst hw); obtain ⟨_, _, _, hw⟩ := hsh_13; (try subst hw); obtain ⟨_, _, _, hw⟩ := hsh_14; (try subst hw); show _ = _; kernel_rfl)) rfl (hl_h (o_alloc (cs := [.int .i64 (0 : Int), .slice none 0 0, .slice none 0 0, .slice none 0 0]) hO Try.zeroValue48 rfl) rfl ?_)
 rintro _ H_15 ⟨b_16, rfl, hO⟩
 refine hl_s (o_storeA (us := [.int .i64 2, v_2, v_4, v_11]) hO 0 rfl Try.sizeOf48 rfl rfl rfl rfl (by simp only [List.forall_mem_cons]; exact ⟨rfl, (Sl.one (hO.osl 4 rfl)), (Sl.one (hO.osl 3 rfl)), (Sl.one (hO.osl 1 rfl)), by simp⟩)) ?_
 rintro _ H_17 hO
 refine hl_nil (thenQ_n (hw_seq (hw_region (hl_v (v_loadA Try.isAgg48 Try.sizeOf48 rfl (Blk.at0 (hO.box 0 rfl)) rfl) rfl ?_))))
 obtain ⟨Z_18, _, hO⟩ := hO.freeze (i := 4) rfl
 obtain ⟨Z_19, _, hO⟩ := hO.freeze (i := 3) rfl
 obtain ⟨Z_20, _, hO⟩ := hO.freeze (i := 1) rfl
 replace hO : Own H_17 Z_20 (box b_16 [.int .i64 2, v_2, v_4, v_11] 48 :: fz fGArc.rep v_11 [(⟨(0 : Int), 1, BSet.ofL [97], [120], true⟩ : GArc)] :: own fByte 5 v_6 [97] :: fz fGTip.rep v_4 [(⟨1, [121]⟩ : GTip)] :: fz fGTip.rep v_2 [(⟨(0 : Int), ([] : List UInt8)⟩ : GTip)] :: inZ Z :: L) := hO
 refine hl_h (h_call Try.call27 (evs_cons rfl (evs_cons (show _ = some (str [97]) from rfl) evs_nil)) (fOutsP_spec (a0 := (⟨2, [(⟨(0 : Int), ([] : List UInt8)⟩ : GTip)], [(⟨1, [121]⟩ : GTip)], [(⟨(0 : Int), 1, BSet.ofL [97], [120], true⟩ : GArc)]⟩ : GFst)) (a1 := [97]) hO (Fz.of (i := 4) rfl) (Fz.of (i := 3) rfl) (Fz.of (i := 1) rfl))) rfl ?_
 rintro _ H_22 ⟨Z_23, v_21, _, rfl, hO⟩
 refine hl_v (v_move rfl) rfl (hl_v (v_extract rfl rfl) rfl (hl_v (v_extract rfl rfl) rfl (hl_v (v_assign rfl) rfl (hl_v (v_assign rfl) rfl (hl_nil (thenQ_n (hw_sub _ (a_c 1 rfl (a_c 2 rfl (a_c 3 rfl a_n))) (hw_seq (hw_region (hl_v (v_loadA Try.isAgg48 Try.sizeOf48 rfl (Blk.at0 (hO.box 1 rfl)) rfl) rfl (hl_h (h_call Try.call62 (evs_cons rfl (evs_cons (show _ = some (str [97]) from rfl) (evs_cons (show _ = some (str [120, 97, 121]) from rfl) evs_nil))) (fHasP_spec (a0 := (⟨2, [(⟨(0 : Int), ([] : List UInt8)⟩ : GTip)], [(⟨1, [121]⟩ : GTip)], [(⟨(0 : Int), 1, BSet.ofL [97], [120], true⟩ : GArc)]⟩ : GFst)) (a1 := [97]) (a2 := [120, 97, 121]) hO (Fz.of (i := 5) rfl) (Fz.of (i := 4) rfl) (Fz.of (i := 2) rfl))) rfl ?_)))))))))))
 rintro _ H_25 ⟨Z_26, _, rfl, hO⟩
 refine hl_v (v_move rfl) rfl (hl_v (v_extract rfl rfl) rfl (hl_v (v_extract rfl rfl) rfl (hl_v (v_assign rfl) rfl (hl_v (v_assign rfl) rfl (hl_nil (thenQ_n (hw_seq (hw_region (hl_v (v_move rfl) rfl (hl_h (o_lit (g := fStr) (l := [[120, 97, 121]]) (xs := [_]) hO Try.underlying52 Try.sizeOf9 Try.zeroValue9 rfl (evs_cons (show _ = some (str [120, 97, 121]) from rfl) evs_nil) rfl rfl rfl rfl rfl) rfl ?_))))))))))
 rintro v_29 H_28 hO
 refine hl_v (v_call Try.call32 (evs_cons rfl (evs_cons rfl evs_nil)) (rTexts_spec (a0 := (fOuts (⟨2, [(⟨(0 : Int), ([] : List UInt8)⟩ : GTip)], [(⟨1, [121]⟩ : GTip)], [(⟨(0 : Int), 1, BSet.ofL [97], [120], true⟩ : GArc)]⟩ : GFst) [97]).1) (a1 := [[120, 97, 121]]) hO (Rd.of_own (i := 1) rfl) (Rd.of_own (i := 0) rfl))) rfl (hl_v (v_move rfl) rfl (hl_g rfl rfl (fun hg => (v_move rfl)) rfl (hl_g rfl rfl (fun hg => (v_eql (gv_ok rfl hg) rfl)) rfl (hl_v (v_and rfl rfl) rfl (hl_v (v_move rfl) rfl (hl_g rfl rfl (fun hg => (v_move rfl)) rfl (hl_v (v_and rfl rfl) rfl (hl_v (v_move rfl) rfl (hl_g rfl rfl (fun hg => (v_move rfl)) rfl (hl_g rfl rfl (fun hg => (v_move rfl)) rfl (hl_g rfl rfl (fun hg => (v_eql (gv_ok rfl hg) (gv_ok rfl hg))) rfl (hl_v (v_and rfl rfl) rfl (hl_v (v_assign rfl) rfl (hl_nil (thenQ_n (hw_sub _ (a_c 0 rfl a_n) (hw_ret (ret_i _ (ra_t rfl ra_nil) ?_))))))))))))))))))
 exact ⟨_, (((decide (((fOuts (⟨2, [(⟨(0 : Int), ([] : List UInt8)⟩ : GTip)], [(⟨1, [121]⟩ : GTip)], [(⟨(0 : Int), 1, BSet.ofL [97], [120], true⟩ : GArc)]⟩ : GFst) [97]).1) = [[120, 97, 121]]) && decide ((fOuts (⟨2, [(⟨(0 : Int), ([] : List UInt8)⟩ : GTip)], [(⟨1, [121]⟩ : GTip)], [(⟨(0 : Int), 1, BSet.ofL [97], [120], true⟩ : GArc)]⟩ : GFst) [97]).2 = 0)) && (fHas (⟨2, [(⟨(0 : Int), ([] : List UInt8)⟩ : GTip)], [(⟨1, [121]⟩ : GTip)], [(⟨(0 : Int), 1, BSet.ofL [97], [120], true⟩ : GArc)]⟩ : GFst) [97] [120, 97, 121]).1) && decide ((fHas (⟨2, [(⟨(0 : Int), ([] : List UInt8)⟩ : GTip)], [(⟨1, [121]⟩ : GTip)], [(⟨(0 : Int), 1, BSet.ofL [97], [120], true⟩ : GArc)]⟩ : GFst) [97] [120, 97, 121]).2 = (fOuts (⟨2, [(⟨(0 : Int), ([] : List UInt8)⟩ : GTip)], [(⟨1, [121]⟩ : GTip)], [(⟨(0 : Int), 1, BSet.ofL [97], [120], true⟩ : GArc)]⟩ : GFst) [97]).2)), (hO.inz 7 rfl), h, rfl, (Own.sel (Ls := [own fStr 9 v_29 [[120, 97, 121]], own fStr 9 v_21 ((fOuts (⟨2, [(⟨(0 : Int), ([] : List UInt8)⟩ : GTip)], [(⟨1, [121]⟩ : GTip)], [(⟨(0 : Int), 1, BSet.ofL [97], [120], true⟩ : GArc)]⟩ : GFst) [97]).1), box b_16 [.int .i64 2, v_2, v_4, v_11] 48, fz fGArc.rep v_11 [(⟨(0 : Int), 1, BSet.ofL [97], [120], true⟩ : GArc)], own fByte 5 v_6 [97], fz fGTip.rep v_4 [(⟨1, [121]⟩ : GTip)], fz fGTip.rep v_2 [(⟨(0 : Int), ([] : List UInt8)⟩ : GTip)], inZ Z]) (L := L) [] rfl hO)⟩
theorem lAwake15_spec   {L : List As} {H : Heap} {Z : Nat → Prop} (hO : Own H Z (L))  : HC Try.prog 28 [] H (fun v H' => ∃ (Z' : Nat → Prop) , (∀ b, Z b → Z' b) ∧ v = .bool (true) ∧ Own H' Z' (L)) := by
  refine (lAwake15_ok  (@lAwake15_wp ) hO).mono ?_
  rintro v H' ⟨Z', r0, hz, hq, hv, hO'⟩
  obtain rfl := hq
  exact ⟨Z', hz, hv, hO'⟩

theorem lFstOne_ok {t : GFst} {x : GArc} {w : List UInt8} {v_1 : Value} {v_3 : Value} {v_5 : Value} {Q : Bool → Prop} {H : Heap} {Z : Nat → Prop} {L : List As} (h : wp_lFstOne t x w Q) (hO : Own H Z (L)) (hf_2 : Fz fGTip.rep L v_1 t.Starts) (hf_4 : Fz fGTip.rep L v_3 t.Ends) (hf_6 : Fz fGArc.rep L v_5 t.Arcs) : HC Try.prog 6 [.agg [.int .i64 t.States, v_1, v_3, v_5].toArray, .agg (fGArc.enc x).toArray, str w] H (fun v H' => ∃ (Z' : Nat → Prop) (r0 : Bool) , (∀ b, Z b → Z' b) ∧ Q r0 ∧ v = .bool r0 ∧ Own H' Z' (L)) := by
 replace hO := hO.inZ
 replace hO := Fz.items [_] hf_2 hO
 replace hO := Fz.items [_, _] hf_4 hO
 replace hO := Fz.items [_, _, _] hf_6 hO
 unfold wp_lFstOne at h
 refine hc_of_hw (N := 94) (rs := [(.tmp 6)]) Try.func6 rfl rfl rfl rfl (hw_seq (hw_region (hl_h (o_box (cs := [.int .i64 t.States, v_1, v_3, v_5]) hO rfl rfl) rfl ?_)))
 rintro _ H_7 ⟨b_8, rfl, hO⟩
 refine hl_h (o_box (cs := (fGArc.enc x)) hO rfl rfl) rfl ?_
 rintro _ H_9 ⟨b_10, rfl, hO⟩
 refine hl_v (v_assign rfl) rfl (hl_nil (thenQ_n (hw_seq (hw_seq (hw_region (hl_v (v_loadA Try.isAgg48 Try.sizeOf48 rfl (Blk.at0 (hO.box 1 rfl)) rfl) rfl ?_))))))
 obtain ⟨hs_11, h⟩ := h
 refine hl_h (h_call Try.call26 (evs_cons rfl evs_nil) (rFew15_spec (a0 := t) hs_11 hO (Fz.of (i := 4) rfl) (Fz.of (i := 3) rfl) (Fz.of (i := 2) rfl))) rfl ?_
 rintro _ H_12 ⟨Z_13, _, rfl, hO⟩
 refine hl_v (v_not rfl) rfl (hl_v (v_move rfl) rfl (hl_g rfl rfl (fun hg => (v_fieldA Try.underlying50 rfl Try.sizeOf9 rfl)) rfl (hl_g rfl rfl (fun hg => (v_load1 Try.isAgg9 (gv_ok rfl hg) (Blk.cell (hO.box 0 rfl) rfl))) rfl (hl_g rfl rfl (fun hg => (v_lenS rfl Try.underlying9 (gv_ok rfl hg))) rfl (hl_g rfl rfl (fun hg => (v_gtr (gv_ok rfl hg) rfl)) rfl (hl_v (v_or rfl rfl) rfl (hl_v (v_move rfl) rfl (hl_g rfl rfl (fun hg => (v_move rfl)) rfl (hl_g rfl rfl (fun hg => (v_lenS rfl Try.underlying9 (gv_ok rfl hg))) rfl (hl_g rfl rfl (fun hg => (v_gtr (gv_ok rfl hg) rfl)) rfl (hl_v (v_or rfl rfl) rfl (hl_nil (thenQ_n (hw_sub _ (a_c 2 rfl (a_c 3 rfl (a_c 4 rfl (a_c 27 rfl a_n)))) (hw_cond rfl (fun hc_15 => ?_) (fun hc_15 => ?_))))))))))))))))
 ·replace h := ite_t h hc_15
  refine hw_seq (hw_region (hl_v (v_assign rfl) rfl (hl_nil (thenQ_n (hw_ret (thenQ_r (ret_i _ (ra_t rfl ra_nil) ?_)))))))
  exact ⟨_, true, (hO.inz 5 rfl), h, rfl, (Own.sel (Ls := [box b_10 (fGArc.enc x) 50, box b_8 [.int .i64 t.States, v_1, v_3, v_5] 48, fz fGArc.rep v_5 t.Arcs, fz fGTip.rep v_3 t.Ends, fz fGTip.rep v_1 t.Starts, inZ Z]) (L := L) [] rfl hO)⟩
 ·replace h := ite_f h hc_15
  refine hw_skip (thenQ_n (hw_seq (hw_region (hl_v (v_loadA Try.isAgg48 Try.sizeOf48 rfl (Blk.at0 (hO.box 1 rfl)) rfl) rfl (hl_h (o_alloc (cs := [.int .i64 (0 : Int), .slice none 0 0, .slice none 0 0, .slice none 0 0]) hO Try.zeroValue48 rfl) rfl ?_)))))
  rintro _ H_16 ⟨b_17, rfl, hO⟩
  refine hl_s (o_storeA (us := [.int .i64 t.States, v_1, v_3, v_5]) hO 0 rfl Try.sizeOf48 rfl rfl rfl rfl (by simp only [List.forall_mem_cons]; exact ⟨rfl, (Sl.one (hO.fsl 5 rfl)), (Sl.one (hO.fsl 4 rfl)), (Sl.one (hO.fsl 3 rfl)), by simp⟩)) ?_
  rintro _ H_18 hO
  refine hl_nil (thenQ_n (hw_seq (hw_hj (fun f' H' => ∃ (v_25 : Value) (v_27 : Value) (Z' : Nat → Prop), AllIn f' [(2, str w), (3, ptr b_8 0), (7, ptr b_17 0)] ∧ Own H' Z' (own fGArc 50 v_25 [x] :: own fGArc 50 v_27 (([] ++ t.Arcs) ++ [x]) :: box b_17 [.int .i64 t.States, v_1, v_3, v_27] 48 :: box b_10 (fGArc.enc x) 50 :: box b_8 [.int .i64 t.States, v_1, v_3, v_5] 48 :: fz fGArc.rep v_5 t.Arcs :: fz fGTip.rep v_3 t.Ends :: fz fGTip.rep v_1 t.Starts :: inZ Z :: L)) ?_ ?_)))
  ·refine hw_held2 7 (fun H' => ∃ Z' : Nat → Prop, Own H' Z' (box b_17 [.int .i64 t.States, v_1, v_3, v_5] 48 :: box b_10 (fGArc.enc x) 50 :: box b_8 [.int .i64 t.States, v_1, v_3, v_5] 48 :: fz fGArc.rep v_5 t.Arcs :: fz fGTip.rep v_3 t.Ends :: fz fGTip.rep v_1 t.Starts :: inZ Z :: L)) (.step 1 false (.step 2 false (.step 4 false (.two 0 5 (.two 3 5 (.step 5 true (.step 6 true .done)) (.step 3 true (.step 6 true .done))) (.step 0 true (.step 3 true (.step 6 true .done))))))) (.step 7 true (.step 8 true .done)) Try.mixed (by kernel_rfl) ⟨_, hO⟩ (hd_v rfl (fun _ _ => (v_fieldA Try.underlying48 rfl Try.sizeOf46 rfl)) rfl (hd_v rfl (fun H' hS => by obtain ⟨Z', hO⟩ := hS; exact (v_load1 Try.isAgg46 rfl (Blk.cell (hO.box 2 rfl) rfl))) rfl (hd_v rfl (fun H' hS => by obtain ⟨Z', hO⟩ := hS; exact (v_loadA Try.isAgg50 Try.sizeOf50 rfl (Blk.at0 (hO.box 1 rfl)) rfl)) rfl (hd_two ?_ ?_))))
   ·refine hd_h (o_lit0 (g := fGArc) hO Try.underlying46 Try.sizeOf50) (by rintro v_20 H_19 hO; exact ⟨_, (Own.sel (Ls := [own fGArc 50 v_20 [], box b_17 [.int .i64 t.States, v_1, v_3, v_5] 48, box b_10 (fGArc.enc x) 50, box b_8 [.int .i64 t.States, v_1, v_3, v_5] 48, fz fGArc.rep v_5 t.Arcs, fz fGTip.rep v_3 t.Ends, fz fGTip.rep v_1 t.Starts, inZ Z]) (L := L) [1, 2, 3, 4, 5, 6, 7] rfl hO)⟩) rfl ?_
    rintro v_20 H_19 hO
    refine hd_two ?_ ?_
    ·obtain ⟨hs_23, h⟩ := h
     refine hd_h (o_append (l2 := t.Arcs) hO 0 rfl rfl Try.underlying46 Try.type50 rfl rfl rfl rfl rfl rfl rfl (hO.fsl 4 rfl) hs_23 (le63 hs_23 rfl)) (by rintro v_22 H_21 hO; exact ⟨_, (Own.sel (Ls := [own fGArc 50 v_22 ([] ++ t.Arcs), box b_17 [.int .i64 t.States, v_1, v_3, v_5] 48, box b_10 (fGArc.enc x) 50, box b_8 [.int .i64 t.States, v_1, v_3, v_5] 48, fz fGArc.rep v_5 t.Arcs, fz fGTip.rep v_3 t.Ends, fz fGTip.rep v_1 t.Starts, inZ Z]) (L := L) [1, 2, 3, 4, 5, 6, 7] rfl hO)⟩) rfl ?_
     rintro v_22 H_21 hO
     refine hd_h (o_lit (g := fGArc) (l := [x]) (xs := [.tmp 33]) hO Try.underlying46 Try.sizeOf50 Try.zeroValue50 rfl (evs_cons rfl evs_nil) rfl rfl rfl rfl rfl) (by rintro v_25 H_24 hO; exact ⟨_, (Own.sel (Ls := [own fGArc 50 v_25 [x], own fGArc 50 v_22 ([] ++ t.Arcs), box b_17 [.int .i64 t.States, v_1, v_3, v_5] 48, box b_10 (fGArc.enc x) 50, box b_8 [.int .i64 t.States, v_1, v_3, v_5] 48, fz fGArc.rep v_5 t.Arcs, fz fGTip.rep v_3 t.Ends, fz fGTip.rep v_1 t.Starts, inZ Z]) (L := L) [2, 3, 4, 5, 6, 7, 8] rfl hO)⟩) rfl ?_
     rintro v_25 H_24 hO
     obtain ⟨hs_28, h⟩ := h
     refine hd_h (o_append (l2 := [x]) hO 1 rfl rfl Try.underlying46 Try.type50 rfl rfl rfl rfl rfl rfl rfl (hO.osl 0 rfl) hs_28 (le63 hs_28 rfl)) (by rintro v_27 H_26 hO; exact ⟨_, (Own.sel (Ls := [own fGArc 50 v_25 [x], own fGArc 50 v_27 (([] ++ t.Arcs) ++ [x]), box b_17 [.int .i64 t.States, v_1, v_3, v_5] 48, box b_10 (fGArc.enc x) 50, box b_8 [.int .i64 t.States, v_1, v_3, v_5] 48, fz fGArc.rep v_5 t.Arcs, fz fGTip.rep v_3 t.Ends, fz fGTip.rep v_1 t.Starts, inZ Z]) (L := L) [2, 3, 4, 5, 6, 7, 8] rfl hO)⟩) rfl ?_
     rintro v_27 H_26 hO
     refine hd_nil (hd_h (OpV.toH (v_fieldA Try.underlying48 rfl Try.sizeOf46 rfl)) (fun _ _ hR => trivial) rfl ?_)
     rintro vv HH ⟨hvv, hHH⟩
     obtain rfl := hvv.symm
     obtain rfl := hHH.symm
     refine hd_s (o_store1 hO 2 rfl Try.sizeOf46 rfl rfl rfl (Sl.one (hO.osl 1 rfl))) (fun _ _ _ => trivial) ?_
     rintro _ H_29 hO
     replace hO : Own H_29 Z_13 (own fGArc 50 v_25 [x] :: own fGArc 50 v_27 (([] ++ t.Arcs) ++ [x]) :: box b_17 [.int .i64 t.States, v_1, v_3, v_27] 48 :: box b_10 (fGArc.enc x) 50 :: box b_8 [.int .i64 t.States, v_1, v_3, v_5] 48 :: fz fGArc.rep v_5 t.Arcs :: fz fGTip.rep v_3 t.Ends :: fz fGTip.rep v_1 t.Starts :: inZ Z :: L) := hO
     refine hd_nil ?_
     exact ⟨rfl, v_25, v_27, _, (a_c 2 rfl (a_c 3 rfl (a_c 7 rfl a_n))), hO⟩
    ·refine hd_h (o_lit (g := fGArc) (l := [x]) (xs := [.tmp 33]) hO Try.underlying46 Try.sizeOf50 Try.zeroValue50 rfl (evs_cons rfl evs_nil) rfl rfl rfl rfl rfl) (by rintro v_31 H_30 hO; exact ⟨_, (Own.sel (Ls := [own fGArc 50 v_31 [x], own fGArc 50 v_20 [], box b_17 [.int .i64 t.States, v_1, v_3, v_5] 48, box b_10 (fGArc.enc x) 50, box b_8 [.int .i64 t.States, v_1, v_3, v_5] 48, fz fGArc.rep v_5 t.Arcs, fz fGTip.rep v_3 t.Ends, fz fGTip.rep v_1 t.Starts, inZ Z]) (L := L) [2, 3, 4, 5, 6, 7, 8] rfl hO)⟩) rfl ?_
     rintro v_31 H_30 hO
     obtain ⟨hs_34, h⟩ := h
     refine hd_h (o_append (l2 := t.Arcs) hO 1 rfl rfl Try.underlying46 Try.type50 rfl rfl rfl rfl rfl rfl rfl (hO.fsl 5 rfl) hs_34 (le63 hs_34 rfl)) (by rintro v_33 H_32 hO; exact ⟨_, (Own.sel (Ls := [own fGArc 50 v_31 [x], own fGArc 50 v_33 ([] ++ t.Arcs), box b_17 [.int .i64 t.States, v_1, v_3, v_5] 48, box b_10 (fGArc.enc x) 50, box b_8 [.int .i64 t.States, v_1, v_3, v_5] 48, fz fGArc.rep v_5 t.Arcs, fz fGTip.rep v_3 t.Ends, fz fGTip.rep v_1 t.Starts, inZ Z]) (L := L) [2, 3, 4, 5, 6, 7, 8] rfl hO)⟩) rfl ?_
     rintro v_33 H_32 hO
     obtain ⟨hs_37, h⟩ := h
     refine hd_h (o_append (l2 := [x]) hO 1 rfl rfl Try.underlying46 Try.type50 rfl rfl rfl rfl rfl rfl rfl (hO.osl 0 rfl) hs_37 (le63 hs_37 rfl)) (by rintro v_36 H_35 hO; exact ⟨_, (Own.sel (Ls := [own fGArc 50 v_31 [x], own fGArc 50 v_36 (([] ++ t.Arcs) ++ [x]), box b_17 [.int .i64 t.States, v_1, v_3, v_5] 48, box b_10 (fGArc.enc x) 50, box b_8 [.int .i64 t.States, v_1, v_3, v_5] 48, fz fGArc.rep v_5 t.Arcs, fz fGTip.rep v_3 t.Ends, fz fGTip.rep v_1 t.Starts, inZ Z]) (L := L) [2, 3, 4, 5, 6, 7, 8] rfl hO)⟩) rfl ?_
     rintro v_36 H_35 hO
     refine hd_nil (hd_h (OpV.toH (v_fieldA Try.underlying48 rfl Try.sizeOf46 rfl)) (fun _ _ hR => trivial) rfl ?_)
     rintro vv HH ⟨hvv, hHH⟩
     obtain rfl := hvv.symm
     obtain rfl := hHH.symm
     refine hd_s (o_store1 hO 2 rfl Try.sizeOf46 rfl rfl rfl (Sl.one (hO.osl 1 rfl))) (fun _ _ _ => trivial) ?_
     rintro _ H_38 hO
     replace hO : Own H_38 Z_13 (own fGArc 50 v_31 [x] :: own fGArc 50 v_36 (([] ++ t.Arcs) ++ [x]) :: box b_17 [.int .i64 t.States, v_1, v_3, v_36] 48 :: box b_10 (fGArc.enc x) 50 :: box b_8 [.int .i64 t.States, v_1, v_3, v_5] 48 :: fz fGArc.rep v_5 t.Arcs :: fz fGTip.rep v_3 t.Ends :: fz fGTip.rep v_1 t.Starts :: inZ Z :: L) := hO
     refine hd_nil ?_
     exact ⟨rfl, v_31, v_36, _, (a_c 2 rfl (a_c 3 rfl (a_c 7 rfl a_n))), hO⟩
   ·refine hd_h (o_lit (g := fGArc) (l := [x]) (xs := [.tmp 33]) hO Try.underlying46 Try.sizeOf50 Try.zeroValue50 rfl (evs_cons rfl evs_nil) rfl rfl rfl rfl rfl) (by rintro v_40 H_39 hO; exact ⟨_, (Own.sel (Ls := [own fGArc 50 v_40 [x], box b_17 [.int .i64 t.States, v_1, v_3, v_5] 48, box b_10 (fGArc.enc x) 50, box b_8 [.int .i64 t.States, v_1, v_3, v_5] 48, fz fGArc.rep v_5 t.Arcs, fz fGTip.rep v_3 t.Ends, fz fGTip.rep v_1 t.Starts, inZ Z]) (L := L) [1, 2, 3, 4, 5, 6, 7] rfl hO)⟩) rfl ?_
    rintro v_40 H_39 hO
    refine hd_h (o_lit0 (g := fGArc) hO Try.underlying46 Try.sizeOf50) (by rintro v_42 H_41 hO; exact ⟨_, (Own.sel (Ls := [own fGArc 50 v_42 [], own fGArc 50 v_40 [x], box b_17 [.int .i64 t.States, v_1, v_3, v_5] 48, box b_10 (fGArc.enc x) 50, box b_8 [.int .i64 t.States, v_1, v_3, v_5] 48, fz fGArc.rep v_5 t.Arcs, fz fGTip.rep v_3 t.Ends, fz fGTip.rep v_1 t.Starts, inZ Z]) (L := L) [2, 3, 4, 5, 6, 7, 8] rfl hO)⟩) rfl ?_
    rintro v_42 H_41 hO
    obtain ⟨hs_45, h⟩ := h
    refine hd_h (o_append (l2 := t.Arcs) hO 0 rfl rfl Try.underlying46 Try.type50 rfl rfl rfl rfl rfl rfl rfl (hO.fsl 5 rfl) hs_45 (le63 hs_45 rfl)) (by rintro v_44 H_43 hO; exact ⟨_, (Own.sel (Ls := [own fGArc 50 v_44 ([] ++ t.Arcs), own fGArc 50 v_40 [x], box b_17 [.int .i64 t.States, v_1, v_3, v_5] 48, box b_10 (fGArc.enc x) 50, box b_8 [.int .i64 t.States, v_1, v_3, v_5] 48, fz fGArc.rep v_5 t.Arcs, fz fGTip.rep v_3 t.Ends, fz fGTip.rep v_1 t.Starts, inZ Z]) (L := L) [2, 3, 4, 5, 6, 7, 8] rfl hO)⟩) rfl ?_
    rintro v_44 H_43 hO
    obtain ⟨hs_48, h⟩ := h
    refine hd_h (o_append (l2 := [x]) hO 0 rfl rfl Try.underlying46 Try.type50 rfl rfl rfl rfl rfl rfl rfl (hO.osl 1 rfl) hs_48 (le63 hs_48 rfl)) (by rintro v_47 H_46 hO; exact ⟨_, (Own.sel (Ls := [own fGArc 50 v_47 (([] ++ t.Arcs) ++ [x]), own fGArc 50 v_40 [x], box b_17 [.int .i64 t.States, v_1, v_3, v_5] 48, box b_10 (fGArc.enc x) 50, box b_8 [.int .i64 t.States, v_1, v_3, v_5] 48, fz fGArc.rep v_5 t.Arcs, fz fGTip.rep v_3 t.Ends, fz fGTip.rep v_1 t.Starts, inZ Z]) (L := L) [2, 3, 4, 5, 6, 7, 8] rfl hO)⟩) rfl ?_
    rintro v_47 H_46 hO
    refine hd_nil (hd_h (OpV.toH (v_fieldA Try.underlying48 rfl Try.sizeOf46 rfl)) (fun _ _ hR => trivial) rfl ?_)
    rintro vv HH ⟨hvv, hHH⟩
    obtain rfl := hvv.symm
    obtain rfl := hHH.symm
    refine hd_s (o_store1 hO 2 rfl Try.sizeOf46 rfl rfl rfl (Sl.one (hO.osl 0 rfl))) (fun _ _ _ => trivial) ?_
    rintro _ H_49 hO
    replace hO : Own H_49 Z_13 (own fGArc 50 v_47 (([] ++ t.Arcs) ++ [x]) :: own fGArc 50 v_40 [x] :: box b_17 [.int .i64 t.States, v_1, v_3, v_47] 48 :: box b_10 (fGArc.enc x) 50 :: box b_8 [.int .i64 t.States, v_1, v_3, v_5] 48 :: fz fGArc.rep v_5 t.Arcs :: fz fGTip.rep v_3 t.Ends :: fz fGTip.rep v_1 t.Starts :: inZ Z :: L) := hO
    refine hd_nil ?_
    exact ⟨rfl, v_40, v_47, _, (a_c 2 rfl (a_c 3 rfl (a_c 7 rfl a_n))), (Own.sel (Ls := [own fGArc 50 v_47 (([] ++ t.Arcs) ++ [x]), own fGArc 50 v_40 [x], box b_17 [.int .i64 t.States, v_1, v_3, v_47] 48, box b_10 (fGArc.enc x) 50, box b_8 [.int .i64 t.States, v_1, v_3, v_5] 48, fz fGArc.rep v_5 t.Arcs, fz fGTip.rep v_3 t.Ends, fz fGTip.rep v_1 t.Starts, inZ Z]) (L := L) [1, 0, 2, 3, 4, 5, 6, 7, 8] rfl hO)⟩
  ·rintro _ H_50 ⟨v_25, v_27, Z_51, hai, hO⟩
   obtain ⟨hs_23, h⟩ := h
   obtain ⟨hs_28, h⟩ := h
   refine thenQ_n (hw_sub _ hai (hw_seq (hw_region (hl_v (v_loadA Try.isAgg48 Try.sizeOf48 rfl (Blk.at0 (hO.box 4 rfl)) rfl) rfl (hl_v (v_move rfl) rfl (hl_h (h_call Try.call27 (evs_cons rfl (evs_cons rfl evs_nil)) (fOutsP_spec (a0 := t) (a1 := w) hO (Fz.of (i := 7) rfl) (Fz.of (i := 6) rfl) (Fz.of (i := 5) rfl))) rfl ?_))))))
   rintro _ H_53 ⟨Z_54, v_52, _, rfl, hO⟩
   refine hl_v (v_move rfl) rfl (hl_v (v_extract rfl rfl) rfl (hl_v (v_extract rfl rfl) rfl (hl_v (v_assign rfl) rfl (hl_v (v_assign rfl) rfl (hl_nil (thenQ_n (hw_seq (hw_region (hl_v (v_loadA Try.isAgg48 Try.sizeOf48 rfl (Blk.at0 (hO.box 3 rfl)) rfl) rfl (hl_v (v_move rfl) rfl ?_))))))))))
   obtain ⟨Z_56, _, hO⟩ := hO.freeze (i := 2) rfl
   refine hl_h (h_call Try.call27 (evs_cons rfl (evs_cons rfl evs_nil)) (fOutsP_spec (a0 := (⟨t.States, t.Starts, t.Ends, (([] ++ t.Arcs) ++ [x])⟩ : GFst)) (a1 := w) hO (Fz.of (i := 8) rfl) (Fz.of (i := 7) rfl) (Fz.of (i := 2) rfl))) rfl ?_
   rintro _ H_58 ⟨Z_59, v_57, _, rfl, hO⟩
   refine hl_v (v_move rfl) rfl (hl_v (v_extract rfl rfl) rfl (hl_v (v_extract rfl rfl) rfl (hl_v (v_assign rfl) rfl (hl_v (v_assign rfl) rfl (hl_nil (thenQ_n (hw_sub _ (a_c 8 rfl (a_c 9 rfl (a_c 10 rfl (a_c 11 rfl a_n)))) (hw_seq (hw_seq (hw_region (hl_v (v_move rfl) rfl (hl_v (v_neq rfl rfl) rfl (hl_v (v_move rfl) rfl (hl_g rfl rfl (fun hg => (v_move rfl)) rfl (hl_g rfl rfl (fun hg => (v_neq (gv_ok rfl hg) rfl)) rfl (hl_v (v_or rfl rfl) rfl (hl_nil (thenQ_n (hw_cond rfl (fun hc_61 => ?_) (fun hc_61 => ?_))))))))))))))))))))
   ·replace h := ite_t h hc_61
    refine hw_seq (hw_region (hl_h (h_call Try.call28 evs_nil (lAwake15_spec  hO)) rfl ?_))
    rintro _ H_62 ⟨Z_63, _, rfl, hO⟩
    refine hl_v (v_move rfl) rfl (hl_g rfl rfl (fun hg => (v_move rfl)) rfl (hl_g rfl rfl (fun hg => (v_eql (gv_ok rfl hg) rfl)) rfl (hl_g rfl rfl (fun hg => (v_move (gv_ok rfl hg))) rfl (hl_g rfl rfl (fun hg => (v_move rfl)) rfl (hl_g rfl rfl (fun hg => (v_neq (gv_ok rfl hg) rfl)) rfl (hl_g rfl rfl (fun hg => (v_or (gv_ok rfl hg) (gvgb_ok rfl hg))) rfl (hl_v (v_and rfl rfl) rfl (hl_v (v_assign rfl) rfl (hl_nil (thenQ_n (hw_sub _ (a_c 6 rfl a_n) (hw_ret (thenQ_r (ret_i _ (ra_t rfl ra_nil) ?_))))))))))))))
    exact ⟨_, (true && (decide ((fOuts t w).2 = 0) || (!decide ((fOuts (⟨t.States, t.Starts, t.Ends, (([] ++ t.Arcs) ++ [x])⟩ : GFst) w).2 = 0)))), (hO.inz 10 rfl), h, rfl, (Own.sel (Ls := [own fStr 9 v_57 ((fOuts (⟨t.States, t.Starts, t.Ends, (([] ++ t.Arcs) ++ [x])⟩ : GFst) w).1), own fStr 9 v_52 ((fOuts t w).1), own fGArc 50 v_25 [x], fz fGArc.rep v_27 (([] ++ t.Arcs) ++ [x]), box b_17 [.int .i64 t.States, v_1, v_3, v_27] 48, box b_10 (fGArc.enc x) 50, box b_8 [.int .i64 t.States, v_1, v_3, v_5] 48, fz fGArc.rep v_5 t.Arcs, fz fGTip.rep v_3 t.Ends, fz fGTip.rep v_1 t.Starts, inZ Z]) (L := L) [] rfl hO)⟩
   ·replace h := ite_f h hc_61
    refine hw_skip (thenQ_n (hw_seq (hw_region (hl_v (v_assign rfl) rfl (hl_nil (thenQ_n (hw_seq (hw_seq (hw_region (hl_v (v_assign rfl) rfl (hl_nil (thenQ_n (hw_block ?_)))))))))))))
    obtain ⟨I_65, μ_66, h, hI_67⟩ := h
    refine hw_lp (fun n' g' H' => ∃ (k : Int) (i : Int) (Z' : Nat → Prop), n' = μ_66 k i ∧ g' = [(8, v_52), (10, v_57), (12, .int .i64 k), (13, .int .i64 i)] ∧ I_65 k i ∧ Own H' Z' (own fStr 9 v_57 ((fOuts (⟨t.States, t.Starts, t.Ends, (([] ++ t.Arcs) ++ [x])⟩ : GFst) w).1) :: own fStr 9 v_52 ((fOuts t w).1) :: inZ Z :: L)) _ _ (a_c 8 rfl (a_c 10 rfl (a_c 12 rfl (a_c 13 rfl a_n)))) ⟨0, 0, _, rfl, rfl, h, (Own.sel (Ls := [own fStr 9 v_57 ((fOuts (⟨t.States, t.Starts, t.Ends, (([] ++ t.Arcs) ++ [x])⟩ : GFst) w).1), own fStr 9 v_52 ((fOuts t w).1), own fGArc 50 v_25 [x], fz fGArc.rep v_27 (([] ++ t.Arcs) ++ [x]), box b_17 [.int .i64 t.States, v_1, v_3, v_27] 48, box b_10 (fGArc.enc x) 50, box b_8 [.int .i64 t.States, v_1, v_3, v_5] 48, fz fGArc.rep v_5 t.Arcs, fz fGTip.rep v_3 t.Ends, fz fGTip.rep v_1 t.Starts, inZ Z]) (L := L) [0, 1, 10] rfl hO)⟩ ?_
    rintro _ _ H_68 ⟨k, i, Z_69, rfl, rfl, h, hO⟩
    replace h := hI_67 k i h
    refine hw_seq (hw_seq (hw_region (hl_v (v_move rfl) rfl (hl_v (v_move rfl) rfl ?_))))
    have hln_71 := Sl.cap (hO.osl 0 rfl)
    refine hl_v (v_lenL rfl Try.underlying52 rfl (hO.osl 0 rfl)) rfl (hl_v (v_lss rfl rfl) rfl (hl_v (v_move rfl) rfl (hl_g rfl rfl (fun hg => (v_move rfl)) rfl (hl_g rfl rfl (fun hg => (v_move rfl)) rfl ?_))))
    have hln_72 := Sl.cap (hO.osl 1 rfl)
    refine hl_g rfl rfl (fun hg => (v_lenL rfl Try.underlying52 (gv_ok rfl hg) (hO.osl 1 rfl))) rfl (hl_g rfl rfl (fun hg => (v_lss (gv_ok rfl hg) (gv_ok rfl hg))) rfl (hl_v (v_and rfl rfl) rfl (hl_nil (thenQ_n (hw_cond rfl (fun hc_73 => ?_) (fun hc_73 => ?_))))))
    ·replace h := ite_t h hc_73
     refine hw_skip (thenQ_n (hw_seq (hw_block (hw_seq (hw_quiet Try.mixed (by kernel_rfl) (hq_v (v_move rfl) rfl (hq_v (v_move rfl) rfl ?_)))))))
     obtain ⟨hs_74, h⟩ := h
     refine hq_v (v_ixL Try.underlying52 Try.sizeOf9 rfl rfl (hO.osl 0 rfl) hs_74) rfl (hq_v (v_loadSc Try.isAgg9 rfl (hO.osl 0 rfl) rfl hs_74 rfl) rfl (hq_v (v_move rfl) rfl (hq_v (v_move rfl) rfl ?_)))
     obtain ⟨hs_75, h⟩ := h
     refine hq_v (v_ixL Try.underlying52 Try.sizeOf9 rfl rfl (hO.osl 1 rfl) hs_75) rfl (hq_v (v_loadSc Try.isAgg9 rfl (hO.osl 1 rfl) rfl hs_75 rfl) rfl (hq_v (v_eqlS rfl rfl) rfl (hq_nil (thenQ_n (hw_sub _ (a_c 8 rfl (a_c 10 rfl (a_c 12 rfl (a_c 13 rfl (a_c 84 rfl a_n))))) (hw_cond rfl (fun hc_76 => ?_) (fun hc_76 => ?_)))))))
     ·replace h := ite_t h hc_76
      refine hw_region (hl_v (v_move rfl) rfl ?_)
      obtain ⟨hs_77, h⟩ := h
      refine hl_v (v_add rfl rfl hs_77) rfl (hl_v (v_assign rfl) rfl (hl_nil (blockQ_n (thenQ_n (hw_region (hl_v (v_move rfl) rfl ?_))))))
      obtain ⟨hs_78, h⟩ := h
      refine hl_v (v_add rfl rfl hs_78) rfl (hl_v (v_assign rfl) rfl (hl_nil (thenQ_n ?_)))
      exact ⟨_, _, (a_c 8 rfl (a_c 10 rfl (a_c 12 rfl (a_c 13 rfl a_n)))), ⟨(k + 1), (i + 1), _, rfl, rfl, h.1, hO⟩, h.2⟩
     ·replace h := ite_f h hc_76
      refine hw_skip (blockQ_n (thenQ_n (hw_region (hl_v (v_move rfl) rfl ?_))))
      obtain ⟨hs_79, h⟩ := h
      refine hl_v (v_add rfl rfl hs_79) rfl (hl_v (v_assign rfl) rfl (hl_nil (thenQ_n ?_)))
      exact ⟨_, _, (a_c 8 rfl (a_c 10 rfl (a_c 12 rfl (a_c 13 rfl a_n)))), ⟨k, (i + 1), _, rfl, rfl, h.1, hO⟩, h.2⟩
    ·replace h := ite_f h hc_73
     refine hw_exit (thenQ_e (thenQ_e (blockQ_hit (thenQ_n (hw_seq (hw_region (hl_h (h_call Try.call28 evs_nil (lAwake15_spec  hO)) rfl ?_)))))))
     rintro _ H_80 ⟨Z_81, _, rfl, hO⟩
     refine hl_v (v_move rfl) rfl (hl_g rfl rfl (fun hg => (v_move rfl)) rfl (hl_g rfl rfl (fun hg => (v_move rfl)) rfl (hl_g rfl rfl (fun hg => (v_lenL rfl Try.underlying52 (gv_ok rfl hg) (hO.osl 1 rfl))) rfl (hl_g rfl rfl (fun hg => (v_eql (gv_ok rfl hg) (gv_ok rfl hg))) rfl (hl_v (v_and rfl rfl) rfl (hl_v (v_assign rfl) rfl (hl_nil (thenQ_n (hw_sub _ (a_c 6 rfl a_n) (hw_ret (ret_i _ (ra_t rfl ra_nil) ?_)))))))))))
     exact ⟨_, (true && decide (k = (((fOuts t w).1).length : Int))), (hO.inz 2 rfl), h, rfl, (Own.sel (Ls := [own fStr 9 v_57 ((fOuts (⟨t.States, t.Starts, t.Ends, (([] ++ t.Arcs) ++ [x])⟩ : GFst) w).1), own fStr 9 v_52 ((fOuts t w).1), inZ Z]) (L := L) [] rfl hO)⟩
theorem lFstOne_spec {a0 : GFst} {a1 : GArc} {a2 : List UInt8} {v_1 : Value} {v_3 : Value} {v_5 : Value} {L : List As} (hp : fSane a0 ∧ a1.Out.length ≤ 140737488351232) {H : Heap} {Z : Nat → Prop} (hO : Own H Z (L)) (hf_2 : Fz fGTip.rep L v_1 a0.Starts) (hf_4 : Fz fGTip.rep L v_3 a0.Ends) (hf_6 : Fz fGArc.rep L v_5 a0.Arcs) : HC Try.prog 6 [.agg [.int .i64 a0.States, v_1, v_3, v_5].toArray, .agg (fGArc.enc a1).toArray, str a2] H (fun v H' => ∃ (Z' : Nat → Prop) , (∀ b, Z b → Z' b) ∧ v = .bool (true) ∧ Own H' Z' (L)) := by
  refine (lFstOne_ok (t := a0) (x := a1) (w := a2) (@lFstOne_wp a0 a1 a2 hp) hO hf_2 hf_4 hf_6).mono ?_
  rintro v H' ⟨Z', r0, hz, hq, hv, hO'⟩
  obtain rfl := hq
  exact ⟨Z', hz, hv, hO'⟩

theorem lFstSort_ok {t : GFst} {w : List UInt8} {xat : Int} {v_1 : Value} {v_3 : Value} {v_5 : Value} {Q : Bool → Prop} {H : Heap} {Z : Nat → Prop} {L : List As} (h : wp_lFstSort t w xat Q) (hO : Own H Z (L)) (hf_2 : Fz fGTip.rep L v_1 t.Starts) (hf_4 : Fz fGTip.rep L v_3 t.Ends) (hf_6 : Fz fGArc.rep L v_5 t.Arcs) : HC Try.prog 7 [.agg [.int .i64 t.States, v_1, v_3, v_5].toArray, str w, .int .i64 xat] H (fun v H' => ∃ (Z' : Nat → Prop) (r0 : Bool) , (∀ b, Z b → Z' b) ∧ Q r0 ∧ v = .bool r0 ∧ Own H' Z' (L)) := by
 replace hO := hO.inZ
 replace hO := Fz.items [_] hf_2 hO
 replace hO := Fz.items [_, _] hf_4 hO
 replace hO := Fz.items [_, _, _] hf_6 hO
 unfold wp_lFstSort at h
 refine hc_of_hw (N := 115) (rs := [(.tmp 6)]) Try.func7 rfl rfl rfl rfl (hw_seq (hw_region (hl_h (o_box (cs := [.int .i64 t.States, v_1, v_3, v_5]) hO rfl rfl) rfl ?_)))
 rintro _ H_7 ⟨b_8, rfl, hO⟩
 refine hl_v (v_assign rfl) rfl (hl_nil (thenQ_n (hw_seq (hw_seq (hw_region (hl_v (v_loadA Try.isAgg48 Try.sizeOf48 rfl (Blk.at0 (hO.box 0 rfl)) rfl) rfl ?_))))))
 obtain ⟨hs_9, h⟩ := h
 refine hl_h (h_call Try.call26 (evs_cons rfl evs_nil) (rFew15_spec (a0 := t) hs_9 hO (Fz.of (i := 3) rfl) (Fz.of (i := 2) rfl) (Fz.of (i := 1) rfl))) rfl ?_
 rintro _ H_10 ⟨Z_11, _, rfl, hO⟩
 refine hl_v (v_not rfl) rfl (hl_v (v_move rfl) rfl (hl_g rfl rfl (fun hg => (v_move rfl)) rfl (hl_g rfl rfl (fun hg => (v_lenS rfl Try.underlying9 (gv_ok rfl hg))) rfl (hl_g rfl rfl (fun hg => (v_gtr (gv_ok rfl hg) rfl)) rfl (hl_v (v_or rfl rfl) rfl (hl_nil (thenQ_n (hw_cond rfl (fun hc_13 => ?_) (fun hc_13 => ?_)))))))))
 ·replace h := ite_t h hc_13
  refine hw_seq (hw_region (hl_v (v_assign rfl) rfl (hl_nil (thenQ_n (hw_ret (thenQ_r (ret_i _ (ra_t rfl ra_nil) ?_)))))))
  exact ⟨_, true, (hO.inz 4 rfl), h, rfl, (Own.sel (Ls := [box b_8 [.int .i64 t.States, v_1, v_3, v_5] 48, fz fGArc.rep v_5 t.Arcs, fz fGTip.rep v_3 t.Ends, fz fGTip.rep v_1 t.Starts, inZ Z]) (L := L) [] rfl hO)⟩
 ·replace h := ite_f h hc_13
  refine hw_skip (thenQ_n (hw_seq (hw_region (hl_v (v_loadA Try.isAgg48 Try.sizeOf48 rfl (Blk.at0 (hO.box 0 rfl)) rfl) rfl (hl_h (h_call Try.call29 (evs_cons rfl evs_nil) (fSortP_spec (a0 := t) hO (Fz.of (i := 3) rfl) (Fz.of (i := 2) rfl) (Fz.of (i := 1) rfl))) rfl ?_)))))
  rintro _ H_17 ⟨Z_18, v_14, v_15, v_16, _, rfl, hO⟩
  refine hl_v (v_move rfl) rfl (hl_v (v_extract rfl rfl) rfl (hl_v (v_extract rfl rfl) rfl (hl_h (o_alloc (cs := [.int .i64 (0 : Int), .slice none 0 0, .slice none 0 0, .slice none 0 0]) hO Try.zeroValue48 rfl) rfl ?_)))
  rintro _ H_20 ⟨b_21, rfl, hO⟩
  refine hl_s (o_storeA (us := [.int .i64 (((fSort t).1).States), v_14, v_15, v_16]) hO 0 rfl Try.sizeOf48 rfl rfl rfl rfl (by simp only [List.forall_mem_cons]; exact ⟨rfl, (Sl.one (hO.osl 1 rfl)), (Sl.one (hO.osl 2 rfl)), (Sl.one (hO.osl 3 rfl)), by simp⟩)) ?_
  rintro _ H_22 hO
  refine hl_v (v_assign rfl) rfl (hl_nil (thenQ_n (hw_sub _ (a_c 1 rfl (a_c 2 rfl (a_c 3 rfl (a_c 7 rfl (a_c 8 rfl a_n))))) (hw_seq (hw_seq (hw_region (hl_v (v_move rfl) rfl (hl_v (v_neq rfl rfl) rfl (hl_nil (thenQ_n (hw_cond rfl (fun hc_23 => ?_) (fun hc_23 => ?_))))))))))))
  ·replace h := ite_t h hc_23
   refine hw_seq (hw_region (hl_h (h_call Try.call28 evs_nil (lAwake15_spec  hO)) rfl ?_))
   rintro _ H_24 ⟨Z_25, _, rfl, hO⟩
   refine hl_v (v_move rfl) rfl (hl_g rfl rfl (fun hg => (v_loadA Try.isAgg48 Try.sizeOf48 rfl (Blk.at0 (hO.box 4 rfl)) rfl)) rfl (hl_gc (v := .int .i64 (fCheck t)) (R := fun H' => ∃ Z' : Nat → Prop, Own H' Z' (box b_21 [.int .i64 (((fSort t).1).States), v_14, v_15, v_16] 48 :: own fGTip 91 v_14 (((fSort t).1).Starts) :: own fGTip 91 v_15 (((fSort t).1).Ends) :: own fGArc 50 v_16 (((fSort t).1).Arcs) :: box b_8 [.int .i64 t.States, v_1, v_3, v_5] 48 :: fz fGArc.rep v_5 t.Arcs :: fz fGTip.rep v_3 t.Ends :: fz fGTip.rep v_1 t.Starts :: inZ Z :: L)) rfl rfl (fun hg => OpH.mono (h_call Try.call30 (evs_cons (gv_ok rfl hg) evs_nil) (fCheckP_spec (a0 := t) hO (Fz.of (i := 7) rfl) (Fz.of (i := 6) rfl) (Fz.of (i := 5) rfl))) (g_c)) ⟨_, hO⟩ rfl ?_))
   rintro H_27 ⟨Z_28, hO⟩
   refine hl_g rfl rfl (fun hg => (v_move rfl)) rfl (hl_g rfl rfl (fun hg => (v_eql (gv_ok rfl hg) (gv_ok rfl hg))) rfl (hl_v (v_and rfl rfl) rfl (hl_v (v_assign rfl) rfl (hl_nil (thenQ_n (hw_sub _ (a_c 6 rfl a_n) (hw_ret (thenQ_r (ret_i _ (ra_t rfl ra_nil) ?_)))))))))
   exact ⟨_, (true && decide (fCheck t = (fSort t).2)), (hO.inz 8 rfl), h, rfl, (Own.sel (Ls := [box b_21 [.int .i64 (((fSort t).1).States), v_14, v_15, v_16] 48, own fGTip 91 v_14 (((fSort t).1).Starts), own fGTip 91 v_15 (((fSort t).1).Ends), own fGArc 50 v_16 (((fSort t).1).Arcs), box b_8 [.int .i64 t.States, v_1, v_3, v_5] 48, fz fGArc.rep v_5 t.Arcs, fz fGTip.rep v_3 t.Ends, fz fGTip.rep v_1 t.Starts, inZ Z]) (L := L) [] rfl hO)⟩
  ·replace h := ite_f h hc_23
   refine hw_skip (thenQ_n (hw_seq (hw_region (hl_v (v_loadA Try.isAgg48 Try.sizeOf48 rfl (Blk.at0 (hO.box 0 rfl)) rfl) rfl ?_))))
   obtain ⟨Z_30, _, hO⟩ := hO.freeze (i := 1) rfl
   obtain ⟨Z_31, _, hO⟩ := hO.freeze (i := 2) rfl
   obtain ⟨Z_32, _, hO⟩ := hO.freeze (i := 3) rfl
   replace hO : Own H_22 Z_32 (box b_21 [.int .i64 (((fSort t).1).States), v_14, v_15, v_16] 48 :: fz fGTip.rep v_14 (((fSort t).1).Starts) :: fz fGTip.rep v_15 (((fSort t).1).Ends) :: fz fGArc.rep v_16 (((fSort t).1).Arcs) :: box b_8 [.int .i64 t.States, v_1, v_3, v_5] 48 :: fz fGArc.rep v_5 t.Arcs :: fz fGTip.rep v_3 t.Ends :: fz fGTip.rep v_1 t.Starts :: inZ Z :: L) := hO
   refine hl_h (h_call Try.call29 (evs_cons rfl evs_nil) (fSortP_spec (a0 := ((fSort t).1)) hO (Fz.of (i := 1) rfl) (Fz.of (i := 2) rfl) (Fz.of (i := 3) rfl))) rfl ?_
   rintro _ H_36 ⟨Z_37, v_33, v_34, v_35, _, rfl, hO⟩
   refine hl_v (v_move rfl) rfl (hl_v (v_extract rfl rfl) rfl (hl_v (v_extract rfl rfl) rfl (hl_h (o_alloc (cs := [.int .i64 (0 : Int), .slice none 0 0, .slice none 0 0, .slice none 0 0]) hO Try.zeroValue48 rfl) rfl ?_)))
   rintro _ H_39 ⟨b_40, rfl, hO⟩
   refine hl_s (o_storeA (us := [.int .i64 (((fSort ((fSort t).1)).1).States), v_33, v_34, v_35]) hO 0 rfl Try.sizeOf48 rfl rfl rfl rfl (by simp only [List.forall_mem_cons]; exact ⟨rfl, (Sl.one (hO.osl 1 rfl)), (Sl.one (hO.osl 2 rfl)), (Sl.one (hO.osl 3 rfl)), by simp⟩)) ?_
   rintro _ H_41 hO
   refine hl_v (v_assign rfl) rfl (hl_nil (thenQ_n (hw_seq (hw_region (hl_v (v_loadA Try.isAgg48 Try.sizeOf48 rfl (Blk.at0 (hO.box 8 rfl)) rfl) rfl (hl_v (v_move rfl) rfl (hl_h (h_call Try.call27 (evs_cons rfl (evs_cons rfl evs_nil)) (fOutsP_spec (a0 := t) (a1 := w) hO (Fz.of (i := 11) rfl) (Fz.of (i := 10) rfl) (Fz.of (i := 9) rfl))) rfl ?_)))))))
   rintro _ H_43 ⟨Z_44, v_42, _, rfl, hO⟩
   refine hl_v (v_move rfl) rfl (hl_v (v_extract rfl rfl) rfl (hl_v (v_extract rfl rfl) rfl (hl_v (v_assign rfl) rfl (hl_v (v_assign rfl) rfl (hl_nil (thenQ_n (hw_sub _ (a_c 1 rfl (a_c 2 rfl (a_c 3 rfl (a_c 7 rfl (a_c 9 rfl (a_c 10 rfl (a_c 11 rfl (a_c 12 rfl a_n)))))))) (hw_seq (hw_region (hl_v (v_loadA Try.isAgg48 Try.sizeOf48 rfl (Blk.at0 (hO.box 5 rfl)) rfl) rfl (hl_v (v_move rfl) rfl (hl_h (h_call Try.call27 (evs_cons rfl (evs_cons rfl evs_nil)) (fOutsP_spec (a0 := ((fSort t).1)) (a1 := w) hO (Fz.of (i := 6) rfl) (Fz.of (i := 7) rfl) (Fz.of (i := 8) rfl))) rfl ?_))))))))))))
   rintro _ H_47 ⟨Z_48, v_46, _, rfl, hO⟩
   refine hl_v (v_move rfl) rfl (hl_v (v_extract rfl rfl) rfl (hl_v (v_extract rfl rfl) rfl (hl_v (v_assign rfl) rfl (hl_v (v_assign rfl) rfl (hl_nil (thenQ_n (hw_sub _ (a_c 2 rfl (a_c 3 rfl (a_c 7 rfl (a_c 9 rfl (a_c 10 rfl (a_c 11 rfl (a_c 12 rfl (a_c 13 rfl (a_c 14 rfl a_n))))))))) (hw_seq (hw_seq (hw_region (hl_v (v_move rfl) rfl (hl_v (v_neq rfl rfl) rfl (hl_v (v_move rfl) rfl (hl_g rfl rfl (fun hg => (v_loadA Try.isAgg48 Try.sizeOf48 rfl (Blk.at0 (hO.box 6 rfl)) rfl)) rfl (hl_g rfl rfl (fun hg => (v_loadA Try.isAgg48 Try.sizeOf48 rfl (Blk.at0 (hO.box 2 rfl)) rfl)) rfl ?_)))))))))))))))
   obtain ⟨Z_50, _, hO⟩ := hO.freeze (i := 3) rfl
   obtain ⟨Z_51, _, hO⟩ := hO.freeze (i := 4) rfl
   obtain ⟨Z_52, _, hO⟩ := hO.freeze (i := 5) rfl
   replace hO : Own H_47 Z_52 (own fStr 9 v_46 ((fOuts ((fSort t).1) w).1) :: own fStr 9 v_42 ((fOuts t w).1) :: box b_40 [.int .i64 (((fSort ((fSort t).1)).1).States), v_33, v_34, v_35] 48 :: fz fGTip.rep v_33 (((fSort ((fSort t).1)).1).Starts) :: fz fGTip.rep v_34 (((fSort ((fSort t).1)).1).Ends) :: fz fGArc.rep v_35 (((fSort ((fSort t).1)).1).Arcs) :: box b_21 [.int .i64 (((fSort t).1).States), v_14, v_15, v_16] 48 :: fz fGTip.rep v_14 (((fSort t).1).Starts) :: fz fGTip.rep v_15 (((fSort t).1).Ends) :: fz fGArc.rep v_16 (((fSort t).1).Arcs) :: box b_8 [.int .i64 t.States, v_1, v_3, v_5] 48 :: fz fGArc.rep v_5 t.Arcs :: fz fGTip.rep v_3 t.Ends :: fz fGTip.rep v_1 t.Starts :: inZ Z :: L) := hO
   refine hl_gc (v := .bool (decide (((fSort t).1) = ((fSort ((fSort t).1)).1)))) (R := fun H' => ∃ Z' : Nat → Prop, Own H' Z' (own fStr 9 v_46 ((fOuts ((fSort t).1) w).1) :: own fStr 9 v_42 ((fOuts t w).1) :: box b_40 [.int .i64 (((fSort ((fSort t).1)).1).States), v_33, v_34, v_35] 48 :: fz fGTip.rep v_33 (((fSort ((fSort t).1)).1).Starts) :: fz fGTip.rep v_34 (((fSort ((fSort t).1)).1).Ends) :: fz fGArc.rep v_35 (((fSort ((fSort t).1)).1).Arcs) :: box b_21 [.int .i64 (((fSort t).1).States), v_14, v_15, v_16] 48 :: fz fGTip.rep v_14 (((fSort t).1).Starts) :: fz fGTip.rep v_15 (((fSort t).1).Ends) :: fz fGArc.rep v_16 (((fSort t).1).Arcs) :: box b_8 [.int .i64 t.States, v_1, v_3, v_5] 48 :: fz fGArc.rep v_5 t.Arcs :: fz fGTip.rep v_3 t.Ends :: fz fGTip.rep v_1 t.Starts :: inZ Z :: L)) rfl rfl (fun hg => OpH.mono (h_call Try.call31 (evs_cons (gv_ok rfl hg) (evs_cons (gv_ok rfl hg) evs_nil)) (rSame15_spec (a0 := ((fSort t).1)) (a1 := ((fSort ((fSort t).1)).1)) hO (Fz.of (i := 7) rfl) (Fz.of (i := 8) rfl) (Fz.of (i := 9) rfl) (Fz.of (i := 3) rfl) (Fz.of (i := 4) rfl) (Fz.of (i := 5) rfl))) (g_c)) ⟨_, hO⟩ rfl ?_
   rintro H_53 ⟨Z_54, hO⟩
   refine hl_g rfl rfl (fun hg => (v_not (gv_ok rfl hg))) rfl (hl_v (v_or rfl rfl) rfl (hl_v (v_move rfl) rfl (hl_g rfl rfl (fun hg => (v_move rfl)) rfl (hl_g rfl rfl (fun hg => (v_move rfl)) rfl (hl_g rfl rfl (fun hg => (v_neq (gv_ok rfl hg) (gv_ok rfl hg))) rfl (hl_v (v_or rfl rfl) rfl (hl_v (v_move rfl) rfl (hl_g rfl rfl (fun hg => (v_move rfl)) rfl (hl_g rfl rfl (fun hg => (v_move rfl)) rfl (hl_g rfl rfl (fun hg => (v_call Try.call32 (evs_cons (gv_ok rfl hg) (evs_cons (gv_ok rfl hg) evs_nil)) (rTexts_spec (a0 := (fOuts t w).1) (a1 := (fOuts ((fSort t).1) w).1) hO (Rd.of_own (i := 1) rfl) (Rd.of_own (i := 0) rfl)))) rfl (hl_g rfl rfl (fun hg => (v_not (gv_ok rfl hg))) rfl (hl_v (v_or rfl rfl) rfl (hl_nil (thenQ_n (hw_sub _ (a_c 2 rfl (a_c 3 rfl (a_c 7 rfl (a_c 75 rfl a_n)))) (hw_cond rfl (fun hc_56 => ?_) (fun hc_56 => ?_)))))))))))))))))
   ·replace h := ite_t h hc_56
    refine hw_seq (hw_region (hl_v (v_assign rfl) rfl (hl_nil (thenQ_n (hw_ret (thenQ_r (ret_i _ (ra_t rfl ra_nil) ?_)))))))
    exact ⟨_, false, (hO.inz 14 rfl), h, rfl, (Own.sel (Ls := [own fStr 9 v_46 ((fOuts ((fSort t).1) w).1), own fStr 9 v_42 ((fOuts t w).1), box b_40 [.int .i64 (((fSort ((fSort t).1)).1).States), v_33, v_34, v_35] 48, fz fGTip.rep v_33 (((fSort ((fSort t).1)).1).Starts), fz fGTip.rep v_34 (((fSort ((fSort t).1)).1).Ends), fz fGArc.rep v_35 (((fSort ((fSort t).1)).1).Arcs), box b_21 [.int .i64 (((fSort t).1).States), v_14, v_15, v_16] 48, fz fGTip.rep v_14 (((fSort t).1).Starts), fz fGTip.rep v_15 (((fSort t).1).Ends), fz fGArc.rep v_16 (((fSort t).1).Arcs), box b_8 [.int .i64 t.States, v_1, v_3, v_5] 48, fz fGArc.rep v_5 t.Arcs, fz fGTip.rep v_3 t.Ends, fz fGTip.rep v_1 t.Starts, inZ Z]) (L := L) [] rfl hO)⟩
   ·replace h := ite_f h hc_56
    refine hw_skip (thenQ_n (hw_seq (hw_seq (hw_region (hl_v (v_move rfl) rfl (hl_v (v_lss rfl rfl) rfl (hl_v (v_move rfl) rfl (hl_g rfl rfl (fun hg => (v_move rfl)) rfl (hl_g rfl rfl (fun hg => (v_fieldA Try.underlying48 rfl Try.sizeOf46 rfl)) rfl (hl_g rfl rfl (fun hg => (v_load1 Try.isAgg46 (gv_ok rfl hg) (Blk.cell (hO.box 10 rfl) rfl))) rfl ?_))))))))))
    have hln_57 := Sl.cap (hO.fsl 11 rfl)
    refine hl_g rfl rfl (fun hg => (v_lenL rfl Try.underlying46 (gv_ok rfl hg) (hO.fsl 11 rfl))) rfl (hl_g rfl rfl (fun hg => (v_geq (gv_ok rfl hg) (gv_ok rfl hg))) rfl (hl_v (v_or rfl rfl) rfl (hl_nil (thenQ_n (hw_cond rfl (fun hc_58 => ?_) (fun hc_58 => ?_))))))
    ·replace h := ite_t h hc_58
     refine hw_seq (hw_region (hl_h (h_call Try.call28 evs_nil (lAwake15_spec  hO)) rfl ?_))
     rintro _ H_59 ⟨Z_60, _, rfl, hO⟩
     refine hl_v (v_assign rfl) rfl (hl_nil (thenQ_n (hw_sub _ (a_c 6 rfl a_n) (hw_ret (thenQ_r (ret_i _ (ra_t rfl ra_nil) ?_))))))
     exact ⟨_, true, (hO.inz 14 rfl), h, rfl, (Own.sel (Ls := [own fStr 9 v_46 ((fOuts ((fSort t).1) w).1), own fStr 9 v_42 ((fOuts t w).1), box b_40 [.int .i64 (((fSort ((fSort t).1)).1).States), v_33, v_34, v_35] 48, fz fGTip.rep v_33 (((fSort ((fSort t).1)).1).Starts), fz fGTip.rep v_34 (((fSort ((fSort t).1)).1).Ends), fz fGArc.rep v_35 (((fSort ((fSort t).1)).1).Arcs), box b_21 [.int .i64 (((fSort t).1).States), v_14, v_15, v_16] 48, fz fGTip.rep v_14 (((fSort t).1).Starts), fz fGTip.rep v_15 (((fSort t).1).Ends), fz fGArc.rep v_16 (((fSort t).1).Arcs), box b_8 [.int .i64 t.States, v_1, v_3, v_5] 48, fz fGArc.rep v_5 t.Arcs, fz fGTip.rep v_3 t.Ends, fz fGTip.rep v_1 t.Starts, inZ Z]) (L := L) [] rfl hO)⟩
    ·replace h := ite_f h hc_58
     refine hw_skip (thenQ_n (hw_seq (hw_region (hl_v (v_loadA Try.isAgg48 Try.sizeOf48 rfl (Blk.at0 (hO.box 10 rfl)) rfl) rfl (hl_h (o_alloc (cs := [.int .i64 (0 : Int), .slice none 0 0, .slice none 0 0, .slice none 0 0]) hO Try.zeroValue48 rfl) rfl ?_)))))
     rintro _ H_62 ⟨b_63, rfl, hO⟩
     refine hl_s (o_storeA (us := [.int .i64 t.States, v_1, v_3, v_5]) hO 0 rfl Try.sizeOf48 rfl rfl rfl rfl (by simp only [List.forall_mem_cons]; exact ⟨rfl, (Sl.one (hO.fsl 14 rfl)), (Sl.one (hO.fsl 13 rfl)), (Sl.one (hO.fsl 12 rfl)), by simp⟩)) ?_
     rintro _ H_64 hO
     refine hl_nil (thenQ_n (hw_sub _ (a_c 2 rfl (a_c 3 rfl (a_c 7 rfl (a_c 15 rfl a_n)))) (hw_seq (hw_region (hl_v (v_fieldA Try.underlying48 rfl Try.sizeOf46 rfl) rfl (hl_v (v_load1 Try.isAgg46 rfl (Blk.cell (hO.box 11 rfl) rfl)) rfl (hl_v (v_move rfl) rfl ?_)))))))
     obtain ⟨hs_65, h⟩ := h
     refine hl_v (v_ixL Try.underlying46 Try.sizeOf50 rfl rfl (hO.fsl 12 rfl) hs_65) rfl (hl_v (v_loadFl Try.isAgg50 Try.sizeOf50 rfl (hO.fsl 12 rfl) rfl hs_65) rfl (hl_h (o_lit (g := fGArc) (l := [(t.Arcs.getD xat.toNat default)]) (xs := [.tmp 91]) hO Try.underlying46 Try.sizeOf50 Try.zeroValue50 rfl (evs_cons rfl evs_nil) rfl rfl rfl rfl rfl) rfl ?_))
     rintro v_67 H_66 hO
     refine hl_v (v_fieldA Try.underlying48 rfl Try.sizeOf46 rfl) rfl (hl_s (o_store1 hO 1 rfl Try.sizeOf46 rfl rfl rfl (Sl.one (hO.osl 0 rfl))) ?_)
     rintro _ H_68 hO
     refine hl_nil (thenQ_n (hw_seq (hw_region (hl_v (v_fieldA Try.underlying48 rfl Try.sizeOf46 rfl) rfl (hl_v (v_load1 Try.isAgg46 rfl (Blk.cell (hO.box 1 rfl) rfl)) rfl (hl_v (v_fieldA Try.underlying48 rfl Try.sizeOf46 rfl) rfl (hl_v (v_load1 Try.isAgg46 rfl (Blk.cell (hO.box 12 rfl) rfl)) rfl ?_)))))))
     obtain ⟨hs_71, h⟩ := h
     refine hl_h (o_append (l2 := t.Arcs) hO 0 rfl rfl Try.underlying46 Try.type50 rfl rfl rfl rfl rfl rfl rfl (hO.fsl 13 rfl) hs_71 (le63 hs_71 rfl)) rfl ?_
     rintro v_70 H_69 hO
     refine hl_v (v_fieldA Try.underlying48 rfl Try.sizeOf46 rfl) rfl (hl_s (o_store1 hO 1 rfl Try.sizeOf46 rfl rfl rfl (Sl.one (hO.osl 0 rfl))) ?_)
     rintro _ H_72 hO
     replace hO : Own H_72 Z_54 (own fGArc 50 v_70 ([(t.Arcs.getD xat.toNat default)] ++ t.Arcs) :: box b_63 [.int .i64 t.States, v_1, v_3, v_70] 48 :: own fStr 9 v_46 ((fOuts ((fSort t).1) w).1) :: own fStr 9 v_42 ((fOuts t w).1) :: box b_40 [.int .i64 (((fSort ((fSort t).1)).1).States), v_33, v_34, v_35] 48 :: fz fGTip.rep v_33 (((fSort ((fSort t).1)).1).Starts) :: fz fGTip.rep v_34 (((fSort ((fSort t).1)).1).Ends) :: fz fGArc.rep v_35 (((fSort ((fSort t).1)).1).Arcs) :: box b_21 [.int .i64 (((fSort t).1).States), v_14, v_15, v_16] 48 :: fz fGTip.rep v_14 (((fSort t).1).Starts) :: fz fGTip.rep v_15 (((fSort t).1).Ends) :: fz fGArc.rep v_16 (((fSort t).1).Arcs) :: box b_8 [.int .i64 t.States, v_1, v_3, v_5] 48 :: fz fGArc.rep v_5 t.Arcs :: fz fGTip.rep v_3 t.Ends :: fz fGTip.rep v_1 t.Starts :: inZ Z :: L) := hO
     refine hl_nil (thenQ_n (hw_sub _ (a_c 7 rfl (a_c 15 rfl a_n)) (hw_seq (hw_region (hl_v (v_loadA Try.isAgg48 Try.sizeOf48 rfl (Blk.at0 (hO.box 1 rfl)) rfl) rfl ?_)))))
     obtain ⟨Z_73, _, hO⟩ := hO.freeze (i := 0) rfl
     refine hl_h (h_call Try.call29 (evs_cons rfl evs_nil) (fSortP_spec (a0 := (⟨t.States, t.Starts, t.Ends, ([(t.Arcs.getD xat.toNat default)] ++ t.Arcs)⟩ : GFst)) hO (Fz.of (i := 15) rfl) (Fz.of (i := 14) rfl) (Fz.of (i := 0) rfl))) rfl ?_
     rintro _ H_77 ⟨Z_78, v_74, v_75, v_76, _, rfl, hO⟩
     refine hl_v (v_move rfl) rfl (hl_v (v_extract rfl rfl) rfl (hl_v (v_extract rfl rfl) rfl (hl_h (o_alloc (cs := [.int .i64 (0 : Int), .slice none 0 0, .slice none 0 0, .slice none 0 0]) hO Try.zeroValue48 rfl) rfl ?_)))
     rintro _ H_80 ⟨b_81, rfl, hO⟩
     refine hl_s (o_storeA (us := [.int .i64 (((fSort (⟨t.States, t.Starts, t.Ends, ([(t.Arcs.getD xat.toNat default)] ++ t.Arcs)⟩ : GFst)).1).States), v_74, v_75, v_76]) hO 0 rfl Try.sizeOf48 rfl rfl rfl rfl (by simp only [List.forall_mem_cons]; exact ⟨rfl, (Sl.one (hO.osl 1 rfl)), (Sl.one (hO.osl 2 rfl)), (Sl.one (hO.osl 3 rfl)), by simp⟩)) ?_
     rintro _ H_82 hO
     refine hl_v (v_assign rfl) rfl (hl_nil (thenQ_n (hw_seq (hw_region (hl_h (h_call Try.call28 evs_nil (lAwake15_spec  hO)) rfl ?_)))))
     rintro _ H_83 ⟨Z_84, _, rfl, hO⟩
     refine hl_v (v_move rfl) rfl (hl_g rfl rfl (fun hg => (v_move rfl)) rfl (hl_g rfl rfl (fun hg => (v_eql (gv_ok rfl hg) rfl)) rfl (hl_v (v_and rfl rfl) rfl (hl_v (v_move rfl) rfl (hl_g rfl rfl (fun hg => (v_loadA Try.isAgg48 Try.sizeOf48 rfl (Blk.at0 (hO.box 0 rfl)) rfl)) rfl (hl_g rfl rfl (fun hg => (v_loadA Try.isAgg48 Try.sizeOf48 rfl (Blk.at0 (hO.box 12 rfl)) rfl)) rfl ?_))))))
     obtain ⟨Z_86, _, hO⟩ := hO.freeze (i := 1) rfl
     obtain ⟨Z_87, _, hO⟩ := hO.freeze (i := 2) rfl
     replace hO : Own H_83 Z_87 (box b_81 [.int .i64 (((fSort (⟨t.States, t.Starts, t.Ends, ([(t.Arcs.getD xat.toNat default)] ++ t.Arcs)⟩ : GFst)).1).States), v_74, v_75, v_76] 48 :: fz fGTip.rep v_74 (((fSort (⟨t.States, t.Starts, t.Ends, ([(t.Arcs.getD xat.toNat default)] ++ t.Arcs)⟩ : GFst)).1).Starts) :: fz fGTip.rep v_75 (((fSort (⟨t.States, t.Starts, t.Ends, ([(t.Arcs.getD xat.toNat default)] ++ t.Arcs)⟩ : GFst)).1).Ends) :: own fGArc 50 v_76 (((fSort (⟨t.States, t.Starts, t.Ends, ([(t.Arcs.getD xat.toNat default)] ++ t.Arcs)⟩ : GFst)).1).Arcs) :: fz fGArc.rep v_70 ([(t.Arcs.getD xat.toNat default)] ++ t.Arcs) :: box b_63 [.int .i64 t.States, v_1, v_3, v_70] 48 :: own fStr 9 v_46 ((fOuts ((fSort t).1) w).1) :: own fStr 9 v_42 ((fOuts t w).1) :: box b_40 [.int .i64 (((fSort ((fSort t).1)).1).States), v_33, v_34, v_35] 48 :: fz fGTip.rep v_33 (((fSort ((fSort t).1)).1).Starts) :: fz fGTip.rep v_34 (((fSort ((fSort t).1)).1).Ends) :: fz fGArc.rep v_35 (((fSort ((fSort t).1)).1).Arcs) :: box b_21 [.int .i64 (((fSort t).1).States), v_14, v_15, v_16] 48 :: fz fGTip.rep v_14 (((fSort t).1).Starts) :: fz fGTip.rep v_15 (((fSort t).1).Ends) :: fz fGArc.rep v_16 (((fSort t).1).Arcs) :: box b_8 [.int .i64 t.States, v_1, v_3, v_5] 48 :: fz fGArc.rep v_5 t.Arcs :: fz fGTip.rep v_3 t.Ends :: fz fGTip.rep v_1 t.Starts :: inZ Z :: L) := hO
     obtain ⟨Z_88, _, hO⟩ := hO.freeze (i := 3) rfl
     refine hl_gc (v := .bool (decide (((fSort (⟨t.States, t.Starts, t.Ends, ([(t.Arcs.getD xat.toNat default)] ++ t.Arcs)⟩ : GFst)).1) = ((fSort t).1)))) (R := fun H' => ∃ Z' : Nat → Prop, Own H' Z' (box b_81 [.int .i64 (((fSort (⟨t.States, t.Starts, t.Ends, ([(t.Arcs.getD xat.toNat default)] ++ t.Arcs)⟩ : GFst)).1).States), v_74, v_75, v_76] 48 :: fz fGTip.rep v_74 (((fSort (⟨t.States, t.Starts, t.Ends, ([(t.Arcs.getD xat.toNat default)] ++ t.Arcs)⟩ : GFst)).1).Starts) :: fz fGTip.rep v_75 (((fSort (⟨t.States, t.Starts, t.Ends, ([(t.Arcs.getD xat.toNat default)] ++ t.Arcs)⟩ : GFst)).1).Ends) :: fz fGArc.rep v_76 (((fSort (⟨t.States, t.Starts, t.Ends, ([(t.Arcs.getD xat.toNat default)] ++ t.Arcs)⟩ : GFst)).1).Arcs) :: fz fGArc.rep v_70 ([(t.Arcs.getD xat.toNat default)] ++ t.Arcs) :: box b_63 [.int .i64 t.States, v_1, v_3, v_70] 48 :: own fStr 9 v_46 ((fOuts ((fSort t).1) w).1) :: own fStr 9 v_42 ((fOuts t w).1) :: box b_40 [.int .i64 (((fSort ((fSort t).1)).1).States), v_33, v_34, v_35] 48 :: fz fGTip.rep v_33 (((fSort ((fSort t).1)).1).Starts) :: fz fGTip.rep v_34 (((fSort ((fSort t).1)).1).Ends) :: fz fGArc.rep v_35 (((fSort ((fSort t).1)).1).Arcs) :: box b_21 [.int .i64 (((fSort t).1).States), v_14, v_15, v_16] 48 :: fz fGTip.rep v_14 (((fSort t).1).Starts) :: fz fGTip.rep v_15 (((fSort t).1).Ends) :: fz fGArc.rep v_16 (((fSort t).1).Arcs) :: box b_8 [.int .i64 t.States, v_1, v_3, v_5] 48 :: fz fGArc.rep v_5 t.Arcs :: fz fGTip.rep v_3 t.Ends :: fz fGTip.rep v_1 t.Starts :: inZ Z :: L)) rfl rfl (fun hg => OpH.mono (h_call Try.call31 (evs_cons (gv_ok rfl hg) (evs_cons (gv_ok rfl hg) evs_nil)) (rSame15_spec (a0 := ((fSort (⟨t.States, t.Starts, t.Ends, ([(t.Arcs.getD xat.toNat default)] ++ t.Arcs)⟩ : GFst)).1)) (a1 := ((fSort t).1)) hO (Fz.of (i := 1) rfl) (Fz.of (i := 2) rfl) (Fz.of (i := 3) rfl) (Fz.of (i := 13) rfl) (Fz.of (i := 14) rfl) (Fz.of (i := 15) rfl))) (g_c)) ⟨_, hO⟩ rfl ?_
     rintro H_89 ⟨Z_90, hO⟩
     refine hl_v (v_and rfl rfl) rfl (hl_v (v_assign rfl) rfl (hl_nil (thenQ_n (hw_sub _ (a_c 6 rfl a_n) (hw_ret (ret_i _ (ra_t rfl ra_nil) ?_))))))
     exact ⟨_, ((true && decide ((fSort (⟨t.States, t.Starts, t.Ends, ([(t.Arcs.getD xat.toNat default)] ++ t.Arcs)⟩ : GFst)).2 = 0)) && decide (((fSort (⟨t.States, t.Starts, t.Ends, ([(t.Arcs.getD xat.toNat default)] ++ t.Arcs)⟩ : GFst)).1) = ((fSort t).1))), (hO.inz 20 rfl), h, rfl, (Own.sel (Ls := [box b_81 [.int .i64 (((fSort (⟨t.States, t.Starts, t.Ends, ([(t.Arcs.getD xat.toNat default)] ++ t.Arcs)⟩ : GFst)).1).States), v_74, v_75, v_76] 48, fz fGTip.rep v_74 (((fSort (⟨t.States, t.Starts, t.Ends, ([(t.Arcs.getD xat.toNat default)] ++ t.Arcs)⟩ : GFst)).1).Starts), fz fGTip.rep v_75 (((fSort (⟨t.States, t.Starts, t.Ends, ([(t.Arcs.getD xat.toNat default)] ++ t.Arcs)⟩ : GFst)).1).Ends), fz fGArc.rep v_76 (((fSort (⟨t.States, t.Starts, t.Ends, ([(t.Arcs.getD xat.toNat default)] ++ t.Arcs)⟩ : GFst)).1).Arcs), fz fGArc.rep v_70 ([(t.Arcs.getD xat.toNat default)] ++ t.Arcs), box b_63 [.int .i64 t.States, v_1, v_3, v_70] 48, own fStr 9 v_46 ((fOuts ((fSort t).1) w).1), own fStr 9 v_42 ((fOuts t w).1), box b_40 [.int .i64 (((fSort ((fSort t).1)).1).States), v_33, v_34, v_35] 48, fz fGTip.rep v_33 (((fSort ((fSort t).1)).1).Starts), fz fGTip.rep v_34 (((fSort ((fSort t).1)).1).Ends), fz fGArc.rep v_35 (((fSort ((fSort t).1)).1).Arcs), box b_21 [.int .i64 (((fSort t).1).States), v_14, v_15, v_16] 48, fz fGTip.rep v_14 (((fSort t).1).Starts), fz fGTip.rep v_15 (((fSort t).1).Ends), fz fGArc.rep v_16 (((fSort t).1).Arcs), box b_8 [.int .i64 t.States, v_1, v_3, v_5] 48, fz fGArc.rep v_5 t.Arcs, fz fGTip.rep v_3 t.Ends, fz fGTip.rep v_1 t.Starts, inZ Z]) (L := L) [] rfl hO)⟩
theorem lFstSort_spec {a0 : GFst} {a1 : List UInt8} {a2 : Int} {v_1 : Value} {v_3 : Value} {v_5 : Value} {L : List As} (hp : fSane a0) {H : Heap} {Z : Nat → Prop} (hO : Own H Z (L)) (hf_2 : Fz fGTip.rep L v_1 a0.Starts) (hf_4 : Fz fGTip.rep L v_3 a0.Ends) (hf_6 : Fz fGArc.rep L v_5 a0.Arcs) : HC Try.prog 7 [.agg [.int .i64 a0.States, v_1, v_3, v_5].toArray, str a1, .int .i64 a2] H (fun v H' => ∃ (Z' : Nat → Prop) , (∀ b, Z b → Z' b) ∧ v = .bool (true) ∧ Own H' Z' (L)) := by
  refine (lFstSort_ok (t := a0) (w := a1) (xat := a2) (@lFstSort_wp a0 a1 a2 hp) hO hf_2 hf_4 hf_6).mono ?_
  rintro v H' ⟨Z', r0, hz, hq, hv, hO'⟩
  obtain rfl := hq
  exact ⟨Z', hz, hv, hO'⟩

theorem lFstIn_ok {t : GFst} {w : List UInt8} {v_1 : Value} {v_3 : Value} {v_5 : Value} {Q : Bool → Prop} {H : Heap} {Z : Nat → Prop} {L : List As} (h : wp_lFstIn t w Q) (hO : Own H Z (L)) (hf_2 : Fz fGTip.rep L v_1 t.Starts) (hf_4 : Fz fGTip.rep L v_3 t.Ends) (hf_6 : Fz fGArc.rep L v_5 t.Arcs) : HC Try.prog 8 [.agg [.int .i64 t.States, v_1, v_3, v_5].toArray, str w] H (fun v H' => ∃ (Z' : Nat → Prop) (r0 : Bool) , (∀ b, Z b → Z' b) ∧ Q r0 ∧ v = .bool r0 ∧ Own H' Z' (L)) := by
 replace hO := hO.inZ
 replace hO := Fz.items [_] hf_2 hO
 replace hO := Fz.items [_, _] hf_4 hO
 replace hO := Fz.items [_, _, _] hf_6 hO
 unfold wp_lFstIn at h
 refine hc_of_hw (N := 74) (rs := [(.tmp 4)]) Try.func8 rfl rfl rfl rfl (hw_seq (hw_region (hl_h (o_box (cs := [.int .i64 t.States, v_1, v_3, v_5]) hO rfl rfl) rfl ?_)))
 rintro _ H_7 ⟨b_8, rfl, hO⟩
 refine hl_v (v_assign rfl) rfl (hl_nil (thenQ_n (hw_seq (hw_seq (hw_region (hl_v (v_loadA Try.isAgg48 Try.sizeOf48 rfl (Blk.at0 (hO.box 0 rfl)) rfl) rfl ?_))))))
 obtain ⟨hs_9, h⟩ := h
 refine hl_h (h_call Try.call26 (evs_cons rfl evs_nil) (rFew15_spec (a0 := t) hs_9 hO (Fz.of (i := 3) rfl) (Fz.of (i := 2) rfl) (Fz.of (i := 1) rfl))) rfl ?_
 rintro _ H_10 ⟨Z_11, _, rfl, hO⟩
 refine hl_v (v_not rfl) rfl (hl_v (v_move rfl) rfl (hl_g rfl rfl (fun hg => (v_move rfl)) rfl (hl_g rfl rfl (fun hg => (v_lenS rfl Try.underlying9 (gv_ok rfl hg))) rfl (hl_g rfl rfl (fun hg => (v_gtr (gv_ok rfl hg) rfl)) rfl (hl_v (v_or rfl rfl) rfl (hl_nil (thenQ_n (hw_cond rfl (fun hc_13 => ?_) (fun hc_13 => ?_)))))))))
 ·replace h := ite_t h hc_13
  refine hw_seq (hw_region (hl_v (v_assign rfl) rfl (hl_nil (thenQ_n (hw_ret (thenQ_r (ret_i _ (ra_t rfl ra_nil) ?_)))))))
  exact ⟨_, true, (hO.inz 4 rfl), h, rfl, (Own.sel (Ls := [box b_8 [.int .i64 t.States, v_1, v_3, v_5] 48, fz fGArc.rep v_5 t.Arcs, fz fGTip.rep v_3 t.Ends, fz fGTip.rep v_1 t.Starts, inZ Z]) (L := L) [] rfl hO)⟩
 ·replace h := ite_f h hc_13
  refine hw_skip (thenQ_n (hw_seq (hw_region (hl_v (v_loadA Try.isAgg48 Try.sizeOf48 rfl (Blk.at0 (hO.box 0 rfl)) rfl) rfl (hl_v (v_move rfl) rfl (hl_h (h_call Try.call27 (evs_cons rfl (evs_cons rfl evs_nil)) (fOutsP_spec (a0 := t) (a1 := w) hO (Fz.of (i := 3) rfl) (Fz.of (i := 2) rfl) (Fz.of (i := 1) rfl))) rfl ?_))))))
  rintro _ H_15 ⟨Z_16, v_14, _, rfl, hO⟩
  refine hl_v (v_move rfl) rfl (hl_v (v_extract rfl rfl) rfl (hl_v (v_extract rfl rfl) rfl (hl_v (v_assign rfl) rfl (hl_v (v_assign rfl) rfl (hl_nil (thenQ_n (hw_sub _ (a_c 1 rfl (a_c 2 rfl (a_c 5 rfl (a_c 6 rfl a_n)))) (hw_seq (hw_region (hl_v (v_loadA Try.isAgg48 Try.sizeOf48 rfl (Blk.at0 (hO.box 1 rfl)) rfl) rfl (hl_h (h_call Try.call33 (evs_cons rfl evs_nil) (fInP_spec (a0 := t) hO (Fz.of (i := 4) rfl) (Fz.of (i := 3) rfl) (Fz.of (i := 2) rfl))) rfl ?_)))))))))))
  rintro _ H_21 ⟨Z_22, v_18, v_19, v_20, _, rfl, hO⟩
  refine hl_v (v_move rfl) rfl (hl_v (v_extract rfl rfl) rfl (hl_v (v_extract rfl rfl) rfl (hl_h (o_alloc (cs := [.int .i64 (0 : Int), .slice none 0 0, .slice none 0 0, .slice none 0 0]) hO Try.zeroValue25 rfl) rfl ?_)))
  rintro _ H_24 ⟨b_25, rfl, hO⟩
  refine hl_s (o_storeA (us := [.int .i64 (((fInN t).1).States), v_18, v_19, v_20]) hO 0 rfl Try.sizeOf25 rfl rfl rfl rfl (by simp only [List.forall_mem_cons]; exact ⟨rfl, (Sl.one (hO.osl 1 rfl)), (Sl.one (hO.osl 2 rfl)), (Sl.one (hO.osl 3 rfl)), by simp⟩)) ?_
  rintro _ H_26 hO
  refine hl_v (v_assign rfl) rfl (hl_nil (thenQ_n (hw_seq (hw_seq (hw_region (hl_v (v_move rfl) rfl (hl_v (v_neq rfl rfl) rfl (hl_v (v_move rfl) rfl (hl_g rfl rfl (fun hg => (v_move rfl)) rfl (hl_g rfl rfl (fun hg => (v_neq (gv_ok rfl hg) rfl)) rfl (hl_v (v_or rfl rfl) rfl (hl_nil (thenQ_n (hw_sub _ (a_c 1 rfl (a_c 5 rfl (a_c 6 rfl (a_c 7 rfl (a_c 8 rfl (a_c 35 rfl a_n)))))) (hw_cond rfl (fun hc_27 => ?_) (fun hc_27 => ?_))))))))))))))))
  ·replace h := ite_t h hc_27
   refine hw_seq (hw_region (hl_h (h_call Try.call28 evs_nil (lAwake15_spec  hO)) rfl ?_))
   rintro _ H_28 ⟨Z_29, _, rfl, hO⟩
   refine hl_v (v_move rfl) rfl (hl_g rfl rfl (fun hg => (v_move rfl)) rfl ?_)
   have hln_31 := Sl.cap (hO.osl 4 rfl)
   refine hl_g rfl rfl (fun hg => (v_lenL rfl Try.underlying52 (gv_ok rfl hg) (hO.osl 4 rfl))) rfl (hl_g rfl rfl (fun hg => (v_eql (gv_ok rfl hg) rfl)) rfl (hl_v (v_and rfl rfl) rfl (hl_v (v_move rfl) rfl (hl_g rfl rfl (fun hg => (v_move rfl)) rfl (hl_g rfl rfl (fun hg => (v_move rfl)) rfl (hl_g rfl rfl (fun hg => (v_eql (gv_ok rfl hg) (gv_ok rfl hg))) rfl (hl_g rfl rfl (fun hg => (v_move (gv_ok rfl hg))) rfl (hl_g rfl rfl (fun hg => (v_move rfl)) rfl (hl_g rfl rfl (fun hg => (v_eql (gv_ok rfl hg) rfl)) rfl (hl_g rfl rfl (fun hg => (v_or (gv_ok rfl hg) (gvgb_ok rfl hg))) rfl (hl_v (v_and rfl rfl) rfl (hl_v (v_assign rfl) rfl (hl_nil (thenQ_n (hw_sub _ (a_c 4 rfl a_n) (hw_ret (thenQ_r (ret_i _ (ra_t rfl ra_nil) ?_))))))))))))))))))
   exact ⟨_, ((true && decide ((((fOuts t w).1).length : Int) = 0)) && (decide ((fOuts t w).2 = (fInN t).2) || decide ((fOuts t w).2 = 2))), (hO.inz 9 rfl), h, rfl, (Own.sel (Ls := [box b_25 [.int .i64 (((fInN t).1).States), v_18, v_19, v_20] 25, own fInt 3 v_18 (((fInN t).1).Starts), own fInt 3 v_19 (((fInN t).1).Ends), own fGEdge 69 v_20 (((fInN t).1).Edges), own fStr 9 v_14 ((fOuts t w).1), box b_8 [.int .i64 t.States, v_1, v_3, v_5] 48, fz fGArc.rep v_5 t.Arcs, fz fGTip.rep v_3 t.Ends, fz fGTip.rep v_1 t.Starts, inZ Z]) (L := L) [] rfl hO)⟩
  ·replace h := ite_f h hc_27
   refine hw_skip (thenQ_n (hw_seq (hw_region (hl_v (v_loadA Try.isAgg25 Try.sizeOf25 rfl (Blk.at0 (hO.box 0 rfl)) rfl) rfl (hl_v (v_move rfl) rfl ?_)))))
   obtain ⟨Z_32, _, hO⟩ := hO.freeze (i := 1) rfl
   obtain ⟨Z_33, _, hO⟩ := hO.freeze (i := 2) rfl
   obtain ⟨Z_34, _, hO⟩ := hO.freeze (i := 3) rfl
   replace hO : Own H_26 Z_34 (box b_25 [.int .i64 (((fInN t).1).States), v_18, v_19, v_20] 25 :: fz fInt.rep v_18 (((fInN t).1).Starts) :: fz fInt.rep v_19 (((fInN t).1).Ends) :: fz fGEdge.rep v_20 (((fInN t).1).Edges) :: own fStr 9 v_14 ((fOuts t w).1) :: box b_8 [.int .i64 t.States, v_1, v_3, v_5] 48 :: fz fGArc.rep v_5 t.Arcs :: fz fGTip.rep v_3 t.Ends :: fz fGTip.rep v_1 t.Starts :: inZ Z :: L) := hO
   obtain ⟨hs_35, h⟩ := h
   refine hl_h (h_call Try.call10 (evs_cons rfl (evs_cons rfl evs_nil)) (nfaTakes_spec (a0 := ((fInN t).1)) (a1 := w) hs_35 hO (Fz.of (i := 1) rfl) (Fz.of (i := 2) rfl) (Fz.of (i := 3) rfl))) rfl ?_
   rintro _ H_36 ⟨Z_37, _, rfl, hO⟩
   refine hl_v (v_move rfl) rfl (hl_v (v_extract rfl rfl) rfl (hl_v (v_extract rfl rfl) rfl (hl_v (v_assign rfl) rfl (hl_v (v_assign rfl) rfl (hl_nil (thenQ_n (hw_seq (hw_region (hl_h (h_call Try.call28 evs_nil (lAwake15_spec  hO)) rfl ?_)))))))))
   rintro _ H_39 ⟨Z_40, _, rfl, hO⟩
   refine hl_v (v_move rfl) rfl (hl_g rfl rfl (fun hg => (v_loadA Try.isAgg25 Try.sizeOf25 rfl (Blk.at0 (hO.box 0 rfl)) rfl)) rfl (hl_gc (v := .int .i64 (nCheck ((fInN t).1))) (R := fun H' => ∃ Z' : Nat → Prop, Own H' Z' (box b_25 [.int .i64 (((fInN t).1).States), v_18, v_19, v_20] 25 :: fz fInt.rep v_18 (((fInN t).1).Starts) :: fz fInt.rep v_19 (((fInN t).1).Ends) :: fz fGEdge.rep v_20 (((fInN t).1).Edges) :: own fStr 9 v_14 ((fOuts t w).1) :: box b_8 [.int .i64 t.States, v_1, v_3, v_5] 48 :: fz fGArc.rep v_5 t.Arcs :: fz fGTip.rep v_3 t.Ends :: fz fGTip.rep v_1 t.Starts :: inZ Z :: L)) rfl rfl (fun hg => OpH.mono (h_call Try.call34 (evs_cons (gv_ok rfl hg) evs_nil) (nfaCheck_spec (a0 := ((fInN t).1)) hO (Fz.of (i := 1) rfl) (Fz.of (i := 2) rfl) (Fz.of (i := 3) rfl))) (g_c)) ⟨_, hO⟩ rfl ?_))
   rintro H_42 ⟨Z_43, hO⟩
   refine hl_g rfl rfl (fun hg => (v_eql (gv_ok rfl hg) rfl)) rfl (hl_v (v_and rfl rfl) rfl (hl_v (v_move rfl) rfl (hl_g rfl rfl (fun hg => (v_move rfl)) rfl (hl_g rfl rfl (fun hg => (v_eql (gv_ok rfl hg) rfl)) rfl (hl_v (v_and rfl rfl) rfl (hl_v (v_move rfl) rfl (hl_g rfl rfl (fun hg => (v_move rfl)) rfl (hl_g rfl rfl (fun hg => (v_move rfl)) rfl ?_))))))))
   have hln_45 := Sl.cap (hO.osl 4 rfl)
   refine hl_g rfl rfl (fun hg => (v_lenL rfl Try.underlying52 (gv_ok rfl hg) (hO.osl 4 rfl))) rfl (hl_g rfl rfl (fun hg => (v_gtr (gv_ok rfl hg) rfl)) rfl (hl_g rfl rfl (fun hg => (v_eqlb Try.underlying4 (gv_ok rfl hg) (gv_ok rfl hg))) rfl (hl_v (v_and rfl rfl) rfl (hl_v (v_assign rfl) rfl (hl_nil (thenQ_n (hw_sub _ (a_c 4 rfl a_n) (hw_ret (ret_i _ (ra_t rfl ra_nil) ?_)))))))))
   exact ⟨_, (((true && decide (nCheck ((fInN t).1) = 0)) && decide ((nTakes ((fInN t).1) w).2 = 0)) && ((nTakes ((fInN t).1) w).1 == decide (0 < (((fOuts t w).1).length : Int)))), (hO.inz 9 rfl), h, rfl, (Own.sel (Ls := [box b_25 [.int .i64 (((fInN t).1).States), v_18, v_19, v_20] 25, fz fInt.rep v_18 (((fInN t).1).Starts), fz fInt.rep v_19 (((fInN t).1).Ends), fz fGEdge.rep v_20 (((fInN t).1).Edges), own fStr 9 v_14 ((fOuts t w).1), box b_8 [.int .i64 t.States, v_1, v_3, v_5] 48, fz fGArc.rep v_5 t.Arcs, fz fGTip.rep v_3 t.Ends, fz fGTip.rep v_1 t.Starts, inZ Z]) (L := L) [] rfl hO)⟩
theorem lFstIn_spec {a0 : GFst} {a1 : List UInt8} {v_1 : Value} {v_3 : Value} {v_5 : Value} {L : List As} (hp : fSane a0) {H : Heap} {Z : Nat → Prop} (hO : Own H Z (L)) (hf_2 : Fz fGTip.rep L v_1 a0.Starts) (hf_4 : Fz fGTip.rep L v_3 a0.Ends) (hf_6 : Fz fGArc.rep L v_5 a0.Arcs) : HC Try.prog 8 [.agg [.int .i64 a0.States, v_1, v_3, v_5].toArray, str a1] H (fun v H' => ∃ (Z' : Nat → Prop) , (∀ b, Z b → Z' b) ∧ v = .bool (true) ∧ Own H' Z' (L)) := by
  refine (lFstIn_ok (t := a0) (w := a1) (@lFstIn_wp a0 a1 hp) hO hf_2 hf_4 hf_6).mono ?_
  rintro v H' ⟨Z', r0, hz, hq, hv, hO'⟩
  obtain rfl := hq
  exact ⟨Z', hz, hv, hO'⟩

end Go.Proofs.Ytbaciogbhjcdoaa
