/- Walks: functions do as their plain formulas say. No condition. -/
import Derived.Test.YtbaciogbhjcdoaaProg
import Derived.Test.YtbaciogbhjcdoaaSep4
import Derived.Test.YtbaciogbhjcdoaaP10p
import Derived.Test.YtbaciogbhjcdoaaSep5
import Derived.Test.YtbaciogbhjcdoaaG10l
set_option linter.unusedVariables false
set_option linter.unusedSimpArgs false
set_option maxRecDepth 20000
namespace Go.Proofs.Ytbaciogbhjcdoaa
open Go.Proofs
theorem lTk_ok {n : GNfa} {w : List UInt8} {v_1 : Value} {v_3 : Value} {v_5 : Value} {Q : Bool → Prop} {H : Heap} {Z : Nat → Prop} {L : List As} (h : wp_lTk n w Q) (hO : Own H Z (L)) (hf_2 : Fz fInt.rep L v_1 n.Starts) (hf_4 : Fz fInt.rep L v_3 n.Ends) (hf_6 : Fz fGEdge.rep L v_5 n.Edges) : HC Try.prog 14 [.agg [.int .i64 n.States, v_1, v_3, v_5].toArray, str w] H (fun v H' => ∃ (Z' : Nat → Prop) (r0 : Bool) , (∀ b, Z b → Z' b) ∧ Q r0 ∧ v = .bool r0 ∧ Own H' Z' (L)) := by
  have hZ : ∀ b, Z b → Z b := fun _ h => h
  replace hO := Fz.item hf_2 hO
  replace hO := Fz.items [_] hf_4 hO
  replace hO := Fz.items [_, _] hf_6 hO
  unfold wp_lTk at h
  refine hc_of_hw (N := 18) (rs := [(.tmp 4)]) Try.func14 rfl rfl rfl rfl ?_
  refine hw_seq ?_
  refine hw_region ?_
  refine hl_h (o_box (cs := [.int .i64 n.States, v_1, v_3, v_5]) hO rfl rfl) rfl ?_
  rintro _ H_7 ⟨b_8, rfl, hO⟩
  replace hO : Own H_7 Z (box b_8 [.int .i64 n.States, v_1, v_3, v_5] 25 :: fz fGEdge.rep v_5 n.Edges :: fz fInt.rep v_3 n.Ends :: fz fInt.rep v_1 n.Starts :: L) := hO
  refine hl_v (v_assign rfl) rfl ?_
  refine hl_nil ?_
  refine thenQ_n ?_
  refine hw_sub _ (ai_cons (t := 1) rfl (ai_cons (t := 2) rfl ai_nil)) ?_
  refine hw_seq ?_
  refine hw_region ?_
  refine hl_v (v_loadA Try.isAgg25 Try.sizeOf25 rfl (Blk.at0 (hO.box 0 rfl)) rfl) rfl ?_
  refine hl_v (v_move rfl) rfl ?_
  obtain ⟨hs_9, h⟩ := h
  refine hl_h (h_call Try.call10 (evs_cons rfl (evs_cons rfl evs_nil)) (nfaTakes_spec (a0 := n) (a1 := w) hs_9 hO (Fz.of (i := 3) rfl) (Fz.of (i := 2) rfl) (Fz.of (i := 1) rfl))) rfl ?_
  rintro vv H_10 ⟨Z_11, hz_12, hv, hO⟩
  obtain rfl := hv.symm
  replace hZ := fun b hb => hz_12 b (hZ b hb)
  replace hO : Own H_10 Z_11 (box b_8 [.int .i64 n.States, v_1, v_3, v_5] 25 :: fz fGEdge.rep v_5 n.Edges :: fz fInt.rep v_3 n.Ends :: fz fInt.rep v_1 n.Starts :: L) := hO
  refine hl_v (v_move rfl) rfl ?_
  refine hl_v (v_extract rfl rfl) rfl ?_
  refine hl_v (v_extract rfl rfl) rfl ?_
  refine hl_v (v_assign rfl) rfl ?_
  refine hl_v (v_assign rfl) rfl ?_
  refine hl_nil ?_
  refine thenQ_n ?_
  refine hw_sub _ (ai_cons (t := 5) rfl (ai_cons (t := 6) rfl ai_nil)) ?_
  refine hw_seq ?_
  refine hw_region ?_
  refine hl_v (v_move rfl) rfl ?_
  refine hl_v (v_move rfl) rfl ?_
  refine hl_g rfl rfl (fun hg => (v_move rfl)) rfl ?_
  refine hl_g rfl rfl (fun hg => (v_eql (gv_ok rfl hg) rfl)) rfl ?_
  refine hl_v (v_and rfl rfl) rfl ?_
  refine hl_v (v_assign rfl) rfl ?_
  refine hl_nil ?_
  refine thenQ_n ?_
  refine hw_sub _ (ai_cons (t := 4) rfl ai_nil) ?_
  refine hw_ret ?_
  refine ret_i _ (ra_t rfl ra_nil) ?_
  exact ⟨_, ((nTakes n w).1 && decide ((nTakes n w).2 = 0)), hZ, h, rfl, (Own.sel (Ls := [box b_8 [.int .i64 n.States, v_1, v_3, v_5] 25, fz fGEdge.rep v_5 n.Edges, fz fInt.rep v_3 n.Ends, fz fInt.rep v_1 n.Starts]) (L := L) [] rfl hO)⟩
theorem lTk_spec {a0 : GNfa} {a1 : List UInt8} {v_1 : Value} {v_3 : Value} {v_5 : Value} {L : List As} (hp : a1.length ≤ 140737488351232) {H : Heap} {Z : Nat → Prop} (hO : Own H Z (L)) (hf_2 : Fz fInt.rep L v_1 a0.Starts) (hf_4 : Fz fInt.rep L v_3 a0.Ends) (hf_6 : Fz fGEdge.rep L v_5 a0.Edges) : HC Try.prog 14 [.agg [.int .i64 a0.States, v_1, v_3, v_5].toArray, str a1] H (fun v H' => ∃ (Z' : Nat → Prop) , (∀ b, Z b → Z' b) ∧ v = .bool (nTk a0 a1) ∧ Own H' Z' (L)) := by
  refine (lTk_ok (n := a0) (w := a1) (@lTk_wp a0 a1 hp) hO hf_2 hf_4 hf_6).mono ?_
  rintro v H' ⟨Z', r0, hz, hq, hv, hO'⟩
  obtain rfl := hq
  exact ⟨Z', hz, hv, hO'⟩

theorem lNfaParts_ok {a : GNfa} {b : GNfa} {s : List UInt8} {t : BSet} {w : List UInt8} {v_1 : Value} {v_3 : Value} {v_5 : Value} {v_7 : Value} {v_9 : Value} {v_11 : Value} {Q : Bool → Prop} {H : Heap} {Z : Nat → Prop} {L : List As} (h : wp_lNfaParts a b s t w Q) (hO : Own H Z (L)) (hf_2 : Fz fInt.rep L v_1 a.Starts) (hf_4 : Fz fInt.rep L v_3 a.Ends) (hf_6 : Fz fGEdge.rep L v_5 a.Edges) (hf_8 : Fz fInt.rep L v_7 b.Starts) (hf_10 : Fz fInt.rep L v_9 b.Ends) (hf_12 : Fz fGEdge.rep L v_11 b.Edges) : HC Try.prog 4 [.agg [.int .i64 a.States, v_1, v_3, v_5].toArray, .agg [.int .i64 b.States, v_7, v_9, v_11].toArray, str s, sv t, str w] H (fun v H' => ∃ (Z' : Nat → Prop) (r0 : Bool) , (∀ b, Z b → Z' b) ∧ Q r0 ∧ v = .bool r0 ∧ Own H' Z' (L)) := by
  have hZ : ∀ b, Z b → Z b := fun _ h => h
  replace hO := Fz.item hf_2 hO
  replace hO := Fz.items [_] hf_4 hO
  replace hO := Fz.items [_, _] hf_6 hO
  replace hO := Fz.items [_, _, _] hf_8 hO
  replace hO := Fz.items [_, _, _, _] hf_10 hO
  replace hO := Fz.items [_, _, _, _, _] hf_12 hO
  unfold wp_lNfaParts at h
  refine hc_of_hw (N := 137) (rs := [(.tmp 10)]) Try.func4 rfl rfl rfl rfl ?_
  refine hw_seq ?_
  refine hw_region ?_
  refine hl_h (o_box (cs := [.int .i64 a.States, v_1, v_3, v_5]) hO rfl rfl) rfl ?_
  rintro _ H_13 ⟨b_14, rfl, hO⟩
  replace hO : Own H_13 Z (box b_14 [.int .i64 a.States, v_1, v_3, v_5] 25 :: fz fGEdge.rep v_11 b.Edges :: fz fInt.rep v_9 b.Ends :: fz fInt.rep v_7 b.Starts :: fz fGEdge.rep v_5 a.Edges :: fz fInt.rep v_3 a.Ends :: fz fInt.rep v_1 a.Starts :: L) := hO
  refine hl_h (o_box (cs := [.int .i64 b.States, v_7, v_9, v_11]) hO rfl rfl) rfl ?_
  rintro _ H_15 ⟨b_16, rfl, hO⟩
  replace hO : Own H_15 Z (box b_16 [.int .i64 b.States, v_7, v_9, v_11] 25 :: box b_14 [.int .i64 a.States, v_1, v_3, v_5] 25 :: fz fGEdge.rep v_11 b.Edges :: fz fInt.rep v_9 b.Ends :: fz fInt.rep v_7 b.Starts :: fz fGEdge.rep v_5 a.Edges :: fz fInt.rep v_3 a.Ends :: fz fInt.rep v_1 a.Starts :: L) := hO
  refine hl_h (o_box (cs := (sw t)) hO rfl rfl) rfl ?_
  rintro _ H_17 ⟨b_18, rfl, hO⟩
  replace hO : Own H_17 Z (box b_18 (sw t) 34 :: box b_16 [.int .i64 b.States, v_7, v_9, v_11] 25 :: box b_14 [.int .i64 a.States, v_1, v_3, v_5] 25 :: fz fGEdge.rep v_11 b.Edges :: fz fInt.rep v_9 b.Ends :: fz fInt.rep v_7 b.Starts :: fz fGEdge.rep v_5 a.Edges :: fz fInt.rep v_3 a.Ends :: fz fInt.rep v_1 a.Starts :: L) := hO
  refine hl_v (v_assign rfl) rfl ?_
  refine hl_nil ?_
  refine thenQ_n ?_
  refine hw_sub _ (ai_cons (t := 2) rfl (ai_cons (t := 4) rfl (ai_cons (t := 5) rfl (ai_cons (t := 6) rfl (ai_cons (t := 8) rfl ai_nil))))) ?_
  refine hw_seq ?_
  refine hw_seq ?_
  refine hw_region ?_
  refine hl_v (v_loadA Try.isAgg25 Try.sizeOf25 rfl (Blk.at0 (hO.box 2 rfl)) rfl) rfl ?_
  obtain ⟨hs_19, h⟩ := h
  refine hl_h (h_call Try.call9 (evs_cons rfl evs_nil) (rFew_spec (a0 := a) hs_19 hO (Fz.of (i := 8) rfl) (Fz.of (i := 7) rfl) (Fz.of (i := 6) rfl))) rfl ?_
  rintro vv H_20 ⟨Z_21, hz_22, hv, hO⟩
  obtain rfl := hv.symm
  replace hZ := fun b hb => hz_22 b (hZ b hb)
  replace hO : Own H_20 Z_21 (box b_18 (sw t) 34 :: box b_16 [.int .i64 b.States, v_7, v_9, v_11] 25 :: box b_14 [.int .i64 a.States, v_1, v_3, v_5] 25 :: fz fGEdge.rep v_11 b.Edges :: fz fInt.rep v_9 b.Ends :: fz fInt.rep v_7 b.Starts :: fz fGEdge.rep v_5 a.Edges :: fz fInt.rep v_3 a.Ends :: fz fInt.rep v_1 a.Starts :: L) := hO
  refine hl_v (v_not rfl) rfl ?_
  refine hl_v (v_move rfl) rfl ?_
  refine hl_g rfl rfl (fun hg => (v_loadA Try.isAgg25 Try.sizeOf25 rfl (Blk.at0 (hO.box 1 rfl)) rfl)) rfl ?_
  obtain ⟨hs_23, h⟩ := h
  refine hl_gc (v := .bool (nFew b)) (R := fun H' => ∃ Z' : Nat → Prop, (∀ b, Z_21 b → Z' b) ∧ Own H' Z' (box b_18 (sw t) 34 :: box b_16 [.int .i64 b.States, v_7, v_9, v_11] 25 :: box b_14 [.int .i64 a.States, v_1, v_3, v_5] 25 :: fz fGEdge.rep v_11 b.Edges :: fz fInt.rep v_9 b.Ends :: fz fInt.rep v_7 b.Starts :: fz fGEdge.rep v_5 a.Edges :: fz fInt.rep v_3 a.Ends :: fz fInt.rep v_1 a.Starts :: L)) rfl rfl (fun hg => OpH.mono (h_call Try.call9 (evs_cons (gv_ok rfl hg) evs_nil) (rFew_spec (a0 := b) (hs_23 (gb_bool hg)) hO (Fz.of (i := 5) rfl) (Fz.of (i := 4) rfl) (Fz.of (i := 3) rfl))) (by rintro _ H' ⟨Z', hz, rfl, hO⟩; exact ⟨rfl, Z', hz, hO⟩)) ⟨_, fun _ h => h, hO⟩ rfl ?_
  rintro H_24 ⟨Z_25, hz_26, hO⟩
  replace hZ := fun b hb => hz_26 b (hZ b hb)
  replace hO : Own H_24 Z_25 (box b_18 (sw t) 34 :: box b_16 [.int .i64 b.States, v_7, v_9, v_11] 25 :: box b_14 [.int .i64 a.States, v_1, v_3, v_5] 25 :: fz fGEdge.rep v_11 b.Edges :: fz fInt.rep v_9 b.Ends :: fz fInt.rep v_7 b.Starts :: fz fGEdge.rep v_5 a.Edges :: fz fInt.rep v_3 a.Ends :: fz fInt.rep v_1 a.Starts :: L) := hO
  refine hl_g rfl rfl (fun hg => (v_not (gv_ok rfl hg))) rfl ?_
  refine hl_v (v_or rfl rfl) rfl ?_
  refine hl_v (v_move rfl) rfl ?_
  refine hl_g rfl rfl (fun hg => (v_move rfl)) rfl ?_
  refine hl_g rfl rfl (fun hg => (v_lenS rfl Try.underlying9 (gv_ok rfl hg))) rfl ?_
  refine hl_g rfl rfl (fun hg => (v_gtr (gv_ok rfl hg) rfl)) rfl ?_
  refine hl_v (v_or rfl rfl) rfl ?_
  refine hl_v (v_move rfl) rfl ?_
  refine hl_g rfl rfl (fun hg => (v_move rfl)) rfl ?_
  refine hl_g rfl rfl (fun hg => (v_lenS rfl Try.underlying9 (gv_ok rfl hg))) rfl ?_
  refine hl_g rfl rfl (fun hg => (v_gtr (gv_ok rfl hg) rfl)) rfl ?_
  refine hl_v (v_or rfl rfl) rfl ?_
  refine hl_nil ?_
  refine thenQ_n ?_
  refine hw_sub _ (ai_cons (t := 2) rfl (ai_cons (t := 4) rfl (ai_cons (t := 5) rfl (ai_cons (t := 6) rfl (ai_cons (t := 8) rfl (ai_cons (t := 36) rfl ai_nil)))))) ?_
  refine hw_cond rfl (fun hc_27 => ?_) (fun hc_27 => ?_)
  · replace h := ite_t h hc_27
    refine hw_seq ?_
    refine hw_region ?_
    refine hl_v (v_assign rfl) rfl ?_
    refine hl_nil ?_
    refine thenQ_n ?_
    refine hw_sub _ (ai_cons (t := 10) rfl ai_nil) ?_
    refine hw_ret ?_
    refine thenQ_r ?_
    refine ret_i _ (ra_t rfl ra_nil) ?_
    exact ⟨_, true, hZ, h, rfl, (Own.sel (Ls := [box b_18 (sw t) 34, box b_16 [.int .i64 b.States, v_7, v_9, v_11] 25, box b_14 [.int .i64 a.States, v_1, v_3, v_5] 25, fz fGEdge.rep v_11 b.Edges, fz fInt.rep v_9 b.Ends, fz fInt.rep v_7 b.Starts, fz fGEdge.rep v_5 a.Edges, fz fInt.rep v_3 a.Ends, fz fInt.rep v_1 a.Starts]) (L := L) [] rfl hO)⟩
  · replace h := ite_f h hc_27
    refine hw_skip ?_
    refine thenQ_n ?_
    refine hw_seq ?_
    refine hw_region ?_
    refine hl_v (v_move rfl) rfl ?_
    refine hl_h (h_call Try.call13 (evs_cons rfl evs_nil) (nfaText_spec (a0 := s) hO)) rfl ?_
    rintro vv H_31 ⟨Z_32, v_28, v_29, v_30, hz_33, hv, hO⟩
    obtain rfl := hv.symm
    replace hZ := fun b hb => hz_33 b (hZ b hb)
    replace hO : Own H_31 Z_32 (own fInt 3 v_28 (((nText s).1).Starts) :: own fInt 3 v_29 (((nText s).1).Ends) :: own fGEdge 69 v_30 (((nText s).1).Edges) :: box b_18 (sw t) 34 :: box b_16 [.int .i64 b.States, v_7, v_9, v_11] 25 :: box b_14 [.int .i64 a.States, v_1, v_3, v_5] 25 :: fz fGEdge.rep v_11 b.Edges :: fz fInt.rep v_9 b.Ends :: fz fInt.rep v_7 b.Starts :: fz fGEdge.rep v_5 a.Edges :: fz fInt.rep v_3 a.Ends :: fz fInt.rep v_1 a.Starts :: L) := hO
    refine hl_v (v_move rfl) rfl ?_
    refine hl_v (v_extract rfl rfl) rfl ?_
    refine hl_v (v_extract rfl rfl) rfl ?_
    refine hl_h (o_alloc (cs := [.int .i64 (0 : Int), .slice none 0 0, .slice none 0 0, .slice none 0 0]) hO Try.zeroValue25 rfl) rfl ?_
    rintro _ H_34 ⟨b_35, rfl, hO⟩
    replace hO : Own H_34 Z_32 (box b_35 [.int .i64 (0 : Int), .slice none 0 0, .slice none 0 0, .slice none 0 0] 25 :: own fInt 3 v_28 (((nText s).1).Starts) :: own fInt 3 v_29 (((nText s).1).Ends) :: own fGEdge 69 v_30 (((nText s).1).Edges) :: box b_18 (sw t) 34 :: box b_16 [.int .i64 b.States, v_7, v_9, v_11] 25 :: box b_14 [.int .i64 a.States, v_1, v_3, v_5] 25 :: fz fGEdge.rep v_11 b.Edges :: fz fInt.rep v_9 b.Ends :: fz fInt.rep v_7 b.Starts :: fz fGEdge.rep v_5 a.Edges :: fz fInt.rep v_3 a.Ends :: fz fInt.rep v_1 a.Starts :: L) := hO
    refine hl_s (o_storeA (us := [.int .i64 (((nText s).1).States), v_28, v_29, v_30]) hO 0 rfl Try.sizeOf25 rfl rfl rfl rfl (by simp only [List.forall_mem_cons]; exact ⟨rfl, (Sl.one (hO.osl 1 rfl)), (Sl.one (hO.osl 2 rfl)), (Sl.one (hO.osl 3 rfl)), by simp⟩)) ?_
    rintro _ H_36 hO
    replace hO : Own H_36 Z_32 (box b_35 [.int .i64 (((nText s).1).States), v_28, v_29, v_30] 25 :: own fInt 3 v_28 (((nText s).1).Starts) :: own fInt 3 v_29 (((nText s).1).Ends) :: own fGEdge 69 v_30 (((nText s).1).Edges) :: box b_18 (sw t) 34 :: box b_16 [.int .i64 b.States, v_7, v_9, v_11] 25 :: box b_14 [.int .i64 a.States, v_1, v_3, v_5] 25 :: fz fGEdge.rep v_11 b.Edges :: fz fInt.rep v_9 b.Ends :: fz fInt.rep v_7 b.Starts :: fz fGEdge.rep v_5 a.Edges :: fz fInt.rep v_3 a.Ends :: fz fInt.rep v_1 a.Starts :: L) := hO
    refine hl_v (v_assign rfl) rfl ?_
    refine hl_nil ?_
    refine thenQ_n ?_
    refine hw_sub _ (ai_cons (t := 2) rfl (ai_cons (t := 4) rfl (ai_cons (t := 5) rfl (ai_cons (t := 6) rfl (ai_cons (t := 8) rfl (ai_cons (t := 11) rfl (ai_cons (t := 12) rfl ai_nil))))))) ?_
    refine hw_seq ?_
    refine hw_seq ?_
    refine hw_held (fun H' => ∃ Z' : Nat → Prop, Own H' Z' (box b_35 [.int .i64 (((nText s).1).States), v_28, v_29, v_30] 25 :: box b_18 (sw t) 34 :: box b_16 [.int .i64 b.States, v_7, v_9, v_11] 25 :: box b_14 [.int .i64 a.States, v_1, v_3, v_5] 25 :: fz fGEdge.rep v_11 b.Edges :: fz fInt.rep v_9 b.Ends :: fz fInt.rep v_7 b.Starts :: fz fGEdge.rep v_5 a.Edges :: fz fInt.rep v_3 a.Ends :: fz fInt.rep v_1 a.Starts :: L)) (.step 0 false (.step 1 false (.step 2 false (.step 3 false (.step 4 false (.step 5 true (.step 6 false (.step 7 false (.step 8 false (.step 9 false (.step 10 false (.step 12 false (.step 13 false (.step 14 false (.step 11 true (.step 15 false (.step 16 false (.step 17 false (.step 18 false (.step 20 false (.step 22 false (.step 23 false (.step 24 false (.step 19 true (.step 21 true (.step 25 false (.step 26 false (.step 27 false (.step 28 false (.step 29 true (.step 30 false (.step 31 false (.step 32 false .done))))))))))))))))))))))))))))))))) Try.mixed (by kernel_rfl) ⟨_, (Own.sel (Ls := [box b_35 [.int .i64 (((nText s).1).States), v_28, v_29, v_30] 25, own fInt 3 v_28 (((nText s).1).Starts), own fInt 3 v_29 (((nText s).1).Ends), own fGEdge 69 v_30 (((nText s).1).Edges), box b_18 (sw t) 34, box b_16 [.int .i64 b.States, v_7, v_9, v_11] 25, box b_14 [.int .i64 a.States, v_1, v_3, v_5] 25, fz fGEdge.rep v_11 b.Edges, fz fInt.rep v_9 b.Ends, fz fInt.rep v_7 b.Starts, fz fGEdge.rep v_5 a.Edges, fz fInt.rep v_3 a.Ends, fz fInt.rep v_1 a.Starts]) (L := L) [0, 4, 5, 6, 7, 8, 9, 10, 11, 12] rfl hO)⟩ ?_
    refine hd_v rfl (fun H' hS => by obtain ⟨Z', hO⟩ := hS; exact (v_move rfl)) rfl ?_
    refine hd_v rfl (fun H' hS => by obtain ⟨Z', hO⟩ := hS; exact (v_neq rfl rfl)) rfl ?_
    refine hd_v rfl (fun H' hS => by obtain ⟨Z', hO⟩ := hS; exact (v_move rfl)) rfl ?_
    refine hd_g rfl rfl rfl (fun hg H' hS => by obtain ⟨Z', hO⟩ := hS; exact (v_loadA Try.isAgg25 Try.sizeOf25 rfl (Blk.at0 (hO.box 0 rfl)) rfl)) rfl ?_
    refine hd_g rfl rfl rfl (fun hg H' hS => by obtain ⟨Z', hO⟩ := hS; exact (v_move rfl)) rfl ?_
    obtain ⟨Z_38, hz_37, hO⟩ := hO.freeze (i := 1) rfl
    replace hZ := fun b hb => hz_37 b (hZ b hb)
    replace hO : Own H_36 Z_38 (box b_35 [.int .i64 (((nText s).1).States), v_28, v_29, v_30] 25 :: fz fInt.rep v_28 (((nText s).1).Starts) :: own fInt 3 v_29 (((nText s).1).Ends) :: own fGEdge 69 v_30 (((nText s).1).Edges) :: box b_18 (sw t) 34 :: box b_16 [.int .i64 b.States, v_7, v_9, v_11] 25 :: box b_14 [.int .i64 a.States, v_1, v_3, v_5] 25 :: fz fGEdge.rep v_11 b.Edges :: fz fInt.rep v_9 b.Ends :: fz fInt.rep v_7 b.Starts :: fz fGEdge.rep v_5 a.Edges :: fz fInt.rep v_3 a.Ends :: fz fInt.rep v_1 a.Starts :: L) := hO
    obtain ⟨Z_40, hz_39, hO⟩ := hO.freeze (i := 2) rfl
    replace hZ := fun b hb => hz_39 b (hZ b hb)
    replace hO : Own H_36 Z_40 (box b_35 [.int .i64 (((nText s).1).States), v_28, v_29, v_30] 25 :: fz fInt.rep v_28 (((nText s).1).Starts) :: fz fInt.rep v_29 (((nText s).1).Ends) :: own fGEdge 69 v_30 (((nText s).1).Edges) :: box b_18 (sw t) 34 :: box b_16 [.int .i64 b.States, v_7, v_9, v_11] 25 :: box b_14 [.int .i64 a.States, v_1, v_3, v_5] 25 :: fz fGEdge.rep v_11 b.Edges :: fz fInt.rep v_9 b.Ends :: fz fInt.rep v_7 b.Starts :: fz fGEdge.rep v_5 a.Edges :: fz fInt.rep v_3 a.Ends :: fz fInt.rep v_1 a.Starts :: L) := hO
    obtain ⟨Z_42, hz_41, hO⟩ := hO.freeze (i := 3) rfl
    replace hZ := fun b hb => hz_41 b (hZ b hb)
    replace hO : Own H_36 Z_42 (box b_35 [.int .i64 (((nText s).1).States), v_28, v_29, v_30] 25 :: fz fInt.rep v_28 (((nText s).1).Starts) :: fz fInt.rep v_29 (((nText s).1).Ends) :: fz fGEdge.rep v_30 (((nText s).1).Edges) :: box b_18 (sw t) 34 :: box b_16 [.int .i64 b.States, v_7, v_9, v_11] 25 :: box b_14 [.int .i64 a.States, v_1, v_3, v_5] 25 :: fz fGEdge.rep v_11 b.Edges :: fz fInt.rep v_9 b.Ends :: fz fInt.rep v_7 b.Starts :: fz fGEdge.rep v_5 a.Edges :: fz fInt.rep v_3 a.Ends :: fz fInt.rep v_1 a.Starts :: L) := hO
    obtain ⟨hs_43, h⟩ := h
    refine hd_gc (v := .bool (nTk ((nText s).1) s)) (R := fun H' => ∃ Z' : Nat → Prop, (∀ b, Z_42 b → Z' b) ∧ Own H' Z' (box b_35 [.int .i64 (((nText s).1).States), v_28, v_29, v_30] 25 :: fz fInt.rep v_28 (((nText s).1).Starts) :: fz fInt.rep v_29 (((nText s).1).Ends) :: fz fGEdge.rep v_30 (((nText s).1).Edges) :: box b_18 (sw t) 34 :: box b_16 [.int .i64 b.States, v_7, v_9, v_11] 25 :: box b_14 [.int .i64 a.States, v_1, v_3, v_5] 25 :: fz fGEdge.rep v_11 b.Edges :: fz fInt.rep v_9 b.Ends :: fz fInt.rep v_7 b.Starts :: fz fGEdge.rep v_5 a.Edges :: fz fInt.rep v_3 a.Ends :: fz fInt.rep v_1 a.Starts :: L)) rfl rfl (fun hg => OpH.mono (h_call Try.call14 (evs_cons (gv_ok rfl hg) (evs_cons (gv_ok rfl hg) evs_nil)) (lTk_spec (a0 := ((nText s).1)) (a1 := s) (hs_43 (gb_bool hg)) hO (Fz.of (i := 1) rfl) (Fz.of (i := 2) rfl) (Fz.of (i := 3) rfl))) (by rintro _ H' ⟨Z', hz, rfl, hO⟩; exact ⟨rfl, Z', hz, hO⟩)) ⟨_, fun _ h => h, hO⟩ (fun H' hR => by obtain ⟨Z', _, hO⟩ := hR; exact ⟨Z', (Own.sel (Ls := [box b_35 [.int .i64 (((nText s).1).States), v_28, v_29, v_30] 25, fz fInt.rep v_28 (((nText s).1).Starts), fz fInt.rep v_29 (((nText s).1).Ends), fz fGEdge.rep v_30 (((nText s).1).Edges), box b_18 (sw t) 34, box b_16 [.int .i64 b.States, v_7, v_9, v_11] 25, box b_14 [.int .i64 a.States, v_1, v_3, v_5] 25, fz fGEdge.rep v_11 b.Edges, fz fInt.rep v_9 b.Ends, fz fInt.rep v_7 b.Starts, fz fGEdge.rep v_5 a.Edges, fz fInt.rep v_3 a.Ends, fz fInt.rep v_1 a.Starts]) (L := L) [0, 4, 5, 6, 7, 8, 9, 10, 11, 12] rfl hO)⟩) rfl ?_
    rintro H_44 ⟨Z_45, hz_46, hO⟩
    replace hZ := fun b hb => hz_46 b (hZ b hb)
    replace hO : Own H_44 Z_45 (box b_35 [.int .i64 (((nText s).1).States), v_28, v_29, v_30] 25 :: fz fInt.rep v_28 (((nText s).1).Starts) :: fz fInt.rep v_29 (((nText s).1).Ends) :: fz fGEdge.rep v_30 (((nText s).1).Edges) :: box b_18 (sw t) 34 :: box b_16 [.int .i64 b.States, v_7, v_9, v_11] 25 :: box b_14 [.int .i64 a.States, v_1, v_3, v_5] 25 :: fz fGEdge.rep v_11 b.Edges :: fz fInt.rep v_9 b.Ends :: fz fInt.rep v_7 b.Starts :: fz fGEdge.rep v_5 a.Edges :: fz fInt.rep v_3 a.Ends :: fz fInt.rep v_1 a.Starts :: L) := hO
    refine hd_g rfl rfl rfl (fun hg H' hS => by obtain ⟨Z', hO⟩ := hS; exact (v_not (gv_ok rfl hg))) rfl ?_
    refine hd_v rfl (fun H' hS => by obtain ⟨Z', hO⟩ := hS; exact (v_or rfl rfl)) rfl ?_
    refine hd_v rfl (fun H' hS => by obtain ⟨Z', hO⟩ := hS; exact (v_move rfl)) rfl ?_
    refine hd_g rfl rfl rfl (fun hg H' hS => by obtain ⟨Z', hO⟩ := hS; exact (v_loadA Try.isAgg25 Try.sizeOf25 rfl (Blk.at0 (hO.box 0 rfl)) rfl)) rfl ?_
    refine hd_g rfl rfl rfl (fun hg H' hS => by obtain ⟨Z', hO⟩ := hS; exact (v_move rfl)) rfl ?_
    refine hd_g rfl rfl rfl (fun hg H' hS => by obtain ⟨Z', hO⟩ := hS; exact (v_move rfl)) rfl ?_
    refine hd_g rfl rfl rfl (fun hg H' hS => by obtain ⟨Z', hO⟩ := hS; exact (v_move rfl)) rfl ?_
    refine hd_g rfl rfl rfl (fun hg H' hS => by obtain ⟨Z', hO⟩ := hS; exact (v_eqlS (gv_ok rfl hg) (gv_ok rfl hg))) rfl ?_
    obtain ⟨hs_47, h⟩ := h
    refine hd_gc (v := .bool (nTk ((nText s).1) w)) (R := fun H' => ∃ Z' : Nat → Prop, (∀ b, Z_45 b → Z' b) ∧ Own H' Z' (box b_35 [.int .i64 (((nText s).1).States), v_28, v_29, v_30] 25 :: fz fInt.rep v_28 (((nText s).1).Starts) :: fz fInt.rep v_29 (((nText s).1).Ends) :: fz fGEdge.rep v_30 (((nText s).1).Edges) :: box b_18 (sw t) 34 :: box b_16 [.int .i64 b.States, v_7, v_9, v_11] 25 :: box b_14 [.int .i64 a.States, v_1, v_3, v_5] 25 :: fz fGEdge.rep v_11 b.Edges :: fz fInt.rep v_9 b.Ends :: fz fInt.rep v_7 b.Starts :: fz fGEdge.rep v_5 a.Edges :: fz fInt.rep v_3 a.Ends :: fz fInt.rep v_1 a.Starts :: L)) rfl rfl (fun hg => OpH.mono (h_call Try.call14 (evs_cons (gv_ok rfl hg) (evs_cons (gv_ok rfl hg) evs_nil)) (lTk_spec (a0 := ((nText s).1)) (a1 := w) (hs_47 (gb_bool hg)) hO (Fz.of (i := 1) rfl) (Fz.of (i := 2) rfl) (Fz.of (i := 3) rfl))) (by rintro _ H' ⟨Z', hz, rfl, hO⟩; exact ⟨rfl, Z', hz, hO⟩)) ⟨_, fun _ h => h, hO⟩ (fun H' hR => by obtain ⟨Z', _, hO⟩ := hR; exact ⟨Z', (Own.sel (Ls := [box b_35 [.int .i64 (((nText s).1).States), v_28, v_29, v_30] 25, fz fInt.rep v_28 (((nText s).1).Starts), fz fInt.rep v_29 (((nText s).1).Ends), fz fGEdge.rep v_30 (((nText s).1).Edges), box b_18 (sw t) 34, box b_16 [.int .i64 b.States, v_7, v_9, v_11] 25, box b_14 [.int .i64 a.States, v_1, v_3, v_5] 25, fz fGEdge.rep v_11 b.Edges, fz fInt.rep v_9 b.Ends, fz fInt.rep v_7 b.Starts, fz fGEdge.rep v_5 a.Edges, fz fInt.rep v_3 a.Ends, fz fInt.rep v_1 a.Starts]) (L := L) [0, 4, 5, 6, 7, 8, 9, 10, 11, 12] rfl hO)⟩) rfl ?_
    rintro H_48 ⟨Z_49, hz_50, hO⟩
    replace hZ := fun b hb => hz_50 b (hZ b hb)
    replace hO : Own H_48 Z_49 (box b_35 [.int .i64 (((nText s).1).States), v_28, v_29, v_30] 25 :: fz fInt.rep v_28 (((nText s).1).Starts) :: fz fInt.rep v_29 (((nText s).1).Ends) :: fz fGEdge.rep v_30 (((nText s).1).Edges) :: box b_18 (sw t) 34 :: box b_16 [.int .i64 b.States, v_7, v_9, v_11] 25 :: box b_14 [.int .i64 a.States, v_1, v_3, v_5] 25 :: fz fGEdge.rep v_11 b.Edges :: fz fInt.rep v_9 b.Ends :: fz fInt.rep v_7 b.Starts :: fz fGEdge.rep v_5 a.Edges :: fz fInt.rep v_3 a.Ends :: fz fInt.rep v_1 a.Starts :: L) := hO
    refine hd_g rfl rfl rfl (fun hg H' hS => by obtain ⟨Z', hO⟩ := hS; exact (v_neqb Try.underlying4 (gv_ok rfl hg) (gv_ok rfl hg))) rfl ?_
    refine hd_v rfl (fun H' hS => by obtain ⟨Z', hO⟩ := hS; exact (v_or rfl rfl)) rfl ?_
    refine hd_v rfl (fun H' hS => by obtain ⟨Z', hO⟩ := hS; exact (v_move rfl)) rfl ?_
    refine hd_g rfl rfl rfl (fun hg H' hS => by obtain ⟨Z', hO⟩ := hS; exact (v_loadA Try.isAgg34 Try.sizeOf34 rfl (Blk.at0 (hO.box 1 rfl)) rfl)) rfl ?_
    refine hd_g rfl rfl rfl (fun hg H' hS => by obtain ⟨Z', hO⟩ := hS; exact (v_move rfl)) rfl ?_
    refine hd_g rfl rfl rfl (fun hg H' hS => by obtain ⟨Z', hO⟩ := hS; exact (v_move rfl)) rfl ?_
    refine hd_g rfl rfl rfl (fun hg H' hS => by obtain ⟨Z', hO⟩ := hS; exact (v_lenS rfl Try.underlying9 (gv_ok rfl hg))) rfl ?_
    refine hd_g rfl rfl rfl (fun hg H' hS => by obtain ⟨Z', hO⟩ := hS; exact (v_eql (gv_ok rfl hg) rfl)) rfl ?_
    refine hd_gm (R := fun vv H' => ∃ (Z' : Nat → Prop) (v_57 : Value) (v_58 : Value) (v_59 : Value), (∀ b, Z_49 b → Z' b) ∧ vv = .agg [.int .i64 ((if (((!decide ((nText s).2 = 0)) || (!nTk ((nText s).1) s)) || (!(nTk ((nText s).1) w == decide (s = w)))) = false then nSet t else (⟨(0 : Int), [], [], []⟩ : GNfa)).States), v_57, v_58, v_59].toArray ∧ Own H' Z' (fz fInt.rep v_57 ((if (((!decide ((nText s).2 = 0)) || (!nTk ((nText s).1) s)) || (!(nTk ((nText s).1) w == decide (s = w)))) = false then nSet t else (⟨(0 : Int), [], [], []⟩ : GNfa)).Starts) :: fz fInt.rep v_58 ((if (((!decide ((nText s).2 = 0)) || (!nTk ((nText s).1) s)) || (!(nTk ((nText s).1) w == decide (s = w)))) = false then nSet t else (⟨(0 : Int), [], [], []⟩ : GNfa)).Ends) :: fz fGEdge.rep v_59 ((if (((!decide ((nText s).2 = 0)) || (!nTk ((nText s).1) s)) || (!(nTk ((nText s).1) w == decide (s = w)))) = false then nSet t else (⟨(0 : Int), [], [], []⟩ : GNfa)).Edges) :: box b_35 [.int .i64 (((nText s).1).States), v_28, v_29, v_30] 25 :: fz fInt.rep v_28 (((nText s).1).Starts) :: fz fInt.rep v_29 (((nText s).1).Ends) :: fz fGEdge.rep v_30 (((nText s).1).Edges) :: box b_18 (sw t) 34 :: box b_16 [.int .i64 b.States, v_7, v_9, v_11] 25 :: box b_14 [.int .i64 a.States, v_1, v_3, v_5] 25 :: fz fGEdge.rep v_11 b.Edges :: fz fInt.rep v_9 b.Ends :: fz fInt.rep v_7 b.Starts :: fz fGEdge.rep v_5 a.Edges :: fz fInt.rep v_3 a.Ends :: fz fInt.rep v_1 a.Starts :: L)) rfl rfl (fun hg => OpH.mono (h_call Try.call15 (evs_cons (gv_ok rfl hg) evs_nil) (nfaSet_spec (a0 := t) hO)) (by rintro vv H' ⟨Z', v_57, v_58, v_59, hz, hv, hO⟩; obtain ⟨Z0', hz0', hO⟩ := Own.freeze (i := 0) hO rfl; obtain ⟨Z1', hz1', hO⟩ := Own.freeze (i := 1) hO rfl; obtain ⟨Z2', hz2', hO⟩ := Own.freeze (i := 2) hO rfl; have hG := (gb_bool hg); exact ⟨_, v_57, v_58, v_59, fun b hb => hz2' b (hz1' b (hz0' b (hz b hb))), (by rw [hv]; simp only [if_pos hG]), (by simp only [if_pos hG]; exact hO)⟩)) (fun hg => by have hG := gb_boolf hg; exact ⟨_, Z_49, (.slice none 0 0), (.slice none 0 0), (.slice none 0 0), fun _ h => h, rfl, (by simp only [if_neg hG]; exact (Fz.nil.item (Fz.nil.item (Fz.nil.item hO))))⟩) (fun vv H' hR => by obtain ⟨Z', v_57, v_58, v_59, _, _, hO⟩ := hR; exact ⟨Z', (Own.sel (Ls := [fz fInt.rep v_57 ((if (((!decide ((nText s).2 = 0)) || (!nTk ((nText s).1) s)) || (!(nTk ((nText s).1) w == decide (s = w)))) = false then nSet t else (⟨(0 : Int), [], [], []⟩ : GNfa)).Starts), fz fInt.rep v_58 ((if (((!decide ((nText s).2 = 0)) || (!nTk ((nText s).1) s)) || (!(nTk ((nText s).1) w == decide (s = w)))) = false then nSet t else (⟨(0 : Int), [], [], []⟩ : GNfa)).Ends), fz fGEdge.rep v_59 ((if (((!decide ((nText s).2 = 0)) || (!nTk ((nText s).1) s)) || (!(nTk ((nText s).1) w == decide (s = w)))) = false then nSet t else (⟨(0 : Int), [], [], []⟩ : GNfa)).Edges), box b_35 [.int .i64 (((nText s).1).States), v_28, v_29, v_30] 25, fz fInt.rep v_28 (((nText s).1).Starts), fz fInt.rep v_29 (((nText s).1).Ends), fz fGEdge.rep v_30 (((nText s).1).Edges), box b_18 (sw t) 34, box b_16 [.int .i64 b.States, v_7, v_9, v_11] 25, box b_14 [.int .i64 a.States, v_1, v_3, v_5] 25, fz fGEdge.rep v_11 b.Edges, fz fInt.rep v_9 b.Ends, fz fInt.rep v_7 b.Starts, fz fGEdge.rep v_5 a.Edges, fz fInt.rep v_3 a.Ends, fz fInt.rep v_1 a.Starts]) (L := L) [3, 7, 8, 9, 10, 11, 12, 13, 14, 15] rfl hO)⟩) rfl ?_
    rintro _ H_54 ⟨Z_55, v_57, v_58, v_59, hz_56, rfl, hO⟩
    replace hZ := fun b hb => hz_56 b (hZ b hb)
    replace hO : Own H_54 Z_55 (fz fInt.rep v_57 ((if (((!decide ((nText s).2 = 0)) || (!nTk ((nText s).1) s)) || (!(nTk ((nText s).1) w == decide (s = w)))) = false then nSet t else (⟨(0 : Int), [], [], []⟩ : GNfa)).Starts) :: fz fInt.rep v_58 ((if (((!decide ((nText s).2 = 0)) || (!nTk ((nText s).1) s)) || (!(nTk ((nText s).1) w == decide (s = w)))) = false then nSet t else (⟨(0 : Int), [], [], []⟩ : GNfa)).Ends) :: fz fGEdge.rep v_59 ((if (((!decide ((nText s).2 = 0)) || (!nTk ((nText s).1) s)) || (!(nTk ((nText s).1) w == decide (s = w)))) = false then nSet t else (⟨(0 : Int), [], [], []⟩ : GNfa)).Edges) :: box b_35 [.int .i64 (((nText s).1).States), v_28, v_29, v_30] 25 :: fz fInt.rep v_28 (((nText s).1).Starts) :: fz fInt.rep v_29 (((nText s).1).Ends) :: fz fGEdge.rep v_30 (((nText s).1).Edges) :: box b_18 (sw t) 34 :: box b_16 [.int .i64 b.States, v_7, v_9, v_11] 25 :: box b_14 [.int .i64 a.States, v_1, v_3, v_5] 25 :: fz fGEdge.rep v_11 b.Edges :: fz fInt.rep v_9 b.Ends :: fz fInt.rep v_7 b.Starts :: fz fGEdge.rep v_5 a.Edges :: fz fInt.rep v_3 a.Ends :: fz fInt.rep v_1 a.Starts :: L) := hO
    obtain ⟨hs_60, h⟩ := h
    refine hd_gc (v := .bool (nTk (if (((!decide ((nText s).2 = 0)) || (!nTk ((nText s).1) s)) || (!(nTk ((nText s).1) w == decide (s = w)))) = false then nSet t else (⟨(0 : Int), [], [], []⟩ : GNfa)) w)) (R := fun H' => ∃ Z' : Nat → Prop, (∀ b, Z_55 b → Z' b) ∧ Own H' Z' (fz fInt.rep v_57 ((if (((!decide ((nText s).2 = 0)) || (!nTk ((nText s).1) s)) || (!(nTk ((nText s).1) w == decide (s = w)))) = false then nSet t else (⟨(0 : Int), [], [], []⟩ : GNfa)).Starts) :: fz fInt.rep v_58 ((if (((!decide ((nText s).2 = 0)) || (!nTk ((nText s).1) s)) || (!(nTk ((nText s).1) w == decide (s = w)))) = false then nSet t else (⟨(0 : Int), [], [], []⟩ : GNfa)).Ends) :: fz fGEdge.rep v_59 ((if (((!decide ((nText s).2 = 0)) || (!nTk ((nText s).1) s)) || (!(nTk ((nText s).1) w == decide (s = w)))) = false then nSet t else (⟨(0 : Int), [], [], []⟩ : GNfa)).Edges) :: box b_35 [.int .i64 (((nText s).1).States), v_28, v_29, v_30] 25 :: fz fInt.rep v_28 (((nText s).1).Starts) :: fz fInt.rep v_29 (((nText s).1).Ends) :: fz fGEdge.rep v_30 (((nText s).1).Edges) :: box b_18 (sw t) 34 :: box b_16 [.int .i64 b.States, v_7, v_9, v_11] 25 :: box b_14 [.int .i64 a.States, v_1, v_3, v_5] 25 :: fz fGEdge.rep v_11 b.Edges :: fz fInt.rep v_9 b.Ends :: fz fInt.rep v_7 b.Starts :: fz fGEdge.rep v_5 a.Edges :: fz fInt.rep v_3 a.Ends :: fz fInt.rep v_1 a.Starts :: L)) rfl rfl (fun hg => OpH.mono (h_call Try.call14 (evs_cons (gv_ok rfl hg) (evs_cons (gv_ok rfl hg) evs_nil)) (lTk_spec (a0 := (if (((!decide ((nText s).2 = 0)) || (!nTk ((nText s).1) s)) || (!(nTk ((nText s).1) w == decide (s = w)))) = false then nSet t else (⟨(0 : Int), [], [], []⟩ : GNfa))) (a1 := w) (hs_60 (gb_bool hg)) hO (Fz.of (i := 0) rfl) (Fz.of (i := 1) rfl) (Fz.of (i := 2) rfl))) (by rintro _ H' ⟨Z', hz, rfl, hO⟩; exact ⟨rfl, Z', hz, hO⟩)) ⟨_, fun _ h => h, hO⟩ (fun H' hR => by obtain ⟨Z', _, hO⟩ := hR; exact ⟨Z', (Own.sel (Ls := [fz fInt.rep v_57 ((if (((!decide ((nText s).2 = 0)) || (!nTk ((nText s).1) s)) || (!(nTk ((nText s).1) w == decide (s = w)))) = false then nSet t else (⟨(0 : Int), [], [], []⟩ : GNfa)).Starts), fz fInt.rep v_58 ((if (((!decide ((nText s).2 = 0)) || (!nTk ((nText s).1) s)) || (!(nTk ((nText s).1) w == decide (s = w)))) = false then nSet t else (⟨(0 : Int), [], [], []⟩ : GNfa)).Ends), fz fGEdge.rep v_59 ((if (((!decide ((nText s).2 = 0)) || (!nTk ((nText s).1) s)) || (!(nTk ((nText s).1) w == decide (s = w)))) = false then nSet t else (⟨(0 : Int), [], [], []⟩ : GNfa)).Edges), box b_35 [.int .i64 (((nText s).1).States), v_28, v_29, v_30] 25, fz fInt.rep v_28 (((nText s).1).Starts), fz fInt.rep v_29 (((nText s).1).Ends), fz fGEdge.rep v_30 (((nText s).1).Edges), box b_18 (sw t) 34, box b_16 [.int .i64 b.States, v_7, v_9, v_11] 25, box b_14 [.int .i64 a.States, v_1, v_3, v_5] 25, fz fGEdge.rep v_11 b.Edges, fz fInt.rep v_9 b.Ends, fz fInt.rep v_7 b.Starts, fz fGEdge.rep v_5 a.Edges, fz fInt.rep v_3 a.Ends, fz fInt.rep v_1 a.Starts]) (L := L) [3, 7, 8, 9, 10, 11, 12, 13, 14, 15] rfl hO)⟩) rfl ?_
    rintro H_61 ⟨Z_62, hz_63, hO⟩
    replace hZ := fun b hb => hz_63 b (hZ b hb)
    replace hO : Own H_61 Z_62 (fz fInt.rep v_57 ((if (((!decide ((nText s).2 = 0)) || (!nTk ((nText s).1) s)) || (!(nTk ((nText s).1) w == decide (s = w)))) = false then nSet t else (⟨(0 : Int), [], [], []⟩ : GNfa)).Starts) :: fz fInt.rep v_58 ((if (((!decide ((nText s).2 = 0)) || (!nTk ((nText s).1) s)) || (!(nTk ((nText s).1) w == decide (s = w)))) = false then nSet t else (⟨(0 : Int), [], [], []⟩ : GNfa)).Ends) :: fz fGEdge.rep v_59 ((if (((!decide ((nText s).2 = 0)) || (!nTk ((nText s).1) s)) || (!(nTk ((nText s).1) w == decide (s = w)))) = false then nSet t else (⟨(0 : Int), [], [], []⟩ : GNfa)).Edges) :: box b_35 [.int .i64 (((nText s).1).States), v_28, v_29, v_30] 25 :: fz fInt.rep v_28 (((nText s).1).Starts) :: fz fInt.rep v_29 (((nText s).1).Ends) :: fz fGEdge.rep v_30 (((nText s).1).Edges) :: box b_18 (sw t) 34 :: box b_16 [.int .i64 b.States, v_7, v_9, v_11] 25 :: box b_14 [.int .i64 a.States, v_1, v_3, v_5] 25 :: fz fGEdge.rep v_11 b.Edges :: fz fInt.rep v_9 b.Ends :: fz fInt.rep v_7 b.Starts :: fz fGEdge.rep v_5 a.Edges :: fz fInt.rep v_3 a.Ends :: fz fInt.rep v_1 a.Starts :: L) := hO
    refine hd_g rfl rfl rfl (fun hg H' hS => by obtain ⟨Z', hO⟩ := hS; exact (v_move (gv_ok rfl hg))) rfl ?_
    refine hd_g rfl rfl rfl (fun hg H' hS => by obtain ⟨Z', hO⟩ := hS; exact (v_loadA Try.isAgg34 Try.sizeOf34 rfl (Blk.at0 (hO.box 1 rfl)) rfl)) rfl ?_
    refine hd_g rfl rfl rfl (fun hg H' hS => by obtain ⟨Z', hO⟩ := hS; exact (v_move rfl)) rfl ?_
    obtain ⟨hs_64, h⟩ := h
    refine hd_g rfl rfl rfl (fun hg H' hS => by obtain ⟨Z', hO⟩ := hS; exact (v_idxS Try.underlying9 (gv_ok rfl hg) rfl (hs_64 ⟨(gb_bool (gb_gv hg).2), (gb_bool (gb_gv hg).1)⟩))) rfl ?_
    refine hd_gc (v := .bool (t.has (w.getD 0 0).toNat)) (R := fun H' => ∃ Z' : Nat → Prop, (∀ b, Z_62 b → Z' b) ∧ Own H' Z' (fz fInt.rep v_57 ((if (((!decide ((nText s).2 = 0)) || (!nTk ((nText s).1) s)) || (!(nTk ((nText s).1) w == decide (s = w)))) = false then nSet t else (⟨(0 : Int), [], [], []⟩ : GNfa)).Starts) :: fz fInt.rep v_58 ((if (((!decide ((nText s).2 = 0)) || (!nTk ((nText s).1) s)) || (!(nTk ((nText s).1) w == decide (s = w)))) = false then nSet t else (⟨(0 : Int), [], [], []⟩ : GNfa)).Ends) :: fz fGEdge.rep v_59 ((if (((!decide ((nText s).2 = 0)) || (!nTk ((nText s).1) s)) || (!(nTk ((nText s).1) w == decide (s = w)))) = false then nSet t else (⟨(0 : Int), [], [], []⟩ : GNfa)).Edges) :: box b_35 [.int .i64 (((nText s).1).States), v_28, v_29, v_30] 25 :: fz fInt.rep v_28 (((nText s).1).Starts) :: fz fInt.rep v_29 (((nText s).1).Ends) :: fz fGEdge.rep v_30 (((nText s).1).Edges) :: box b_18 (sw t) 34 :: box b_16 [.int .i64 b.States, v_7, v_9, v_11] 25 :: box b_14 [.int .i64 a.States, v_1, v_3, v_5] 25 :: fz fGEdge.rep v_11 b.Edges :: fz fInt.rep v_9 b.Ends :: fz fInt.rep v_7 b.Starts :: fz fGEdge.rep v_5 a.Edges :: fz fInt.rep v_3 a.Ends :: fz fInt.rep v_1 a.Starts :: L)) rfl rfl (fun hg => OpH.mono (h_call Try.call16 (evs_cons (gv_ok rfl hg) (evs_cons (gv_ok rfl hg) evs_nil)) (setHas_spec (a0 := t) (a1 := (w.getD 0 0)) hO)) (by rintro _ H' ⟨Z', hz, rfl, hO⟩; exact ⟨rfl, Z', hz, hO⟩)) ⟨_, fun _ h => h, hO⟩ (fun H' hR => by obtain ⟨Z', _, hO⟩ := hR; exact ⟨Z', (Own.sel (Ls := [fz fInt.rep v_57 ((if (((!decide ((nText s).2 = 0)) || (!nTk ((nText s).1) s)) || (!(nTk ((nText s).1) w == decide (s = w)))) = false then nSet t else (⟨(0 : Int), [], [], []⟩ : GNfa)).Starts), fz fInt.rep v_58 ((if (((!decide ((nText s).2 = 0)) || (!nTk ((nText s).1) s)) || (!(nTk ((nText s).1) w == decide (s = w)))) = false then nSet t else (⟨(0 : Int), [], [], []⟩ : GNfa)).Ends), fz fGEdge.rep v_59 ((if (((!decide ((nText s).2 = 0)) || (!nTk ((nText s).1) s)) || (!(nTk ((nText s).1) w == decide (s = w)))) = false then nSet t else (⟨(0 : Int), [], [], []⟩ : GNfa)).Edges), box b_35 [.int .i64 (((nText s).1).States), v_28, v_29, v_30] 25, fz fInt.rep v_28 (((nText s).1).Starts), fz fInt.rep v_29 (((nText s).1).Ends), fz fGEdge.rep v_30 (((nText s).1).Edges), box b_18 (sw t) 34, box b_16 [.int .i64 b.States, v_7, v_9, v_11] 25, box b_14 [.int .i64 a.States, v_1, v_3, v_5] 25, fz fGEdge.rep v_11 b.Edges, fz fInt.rep v_9 b.Ends, fz fInt.rep v_7 b.Starts, fz fGEdge.rep v_5 a.Edges, fz fInt.rep v_3 a.Ends, fz fInt.rep v_1 a.Starts]) (L := L) [3, 7, 8, 9, 10, 11, 12, 13, 14, 15] rfl hO)⟩) rfl ?_
    rintro H_65 ⟨Z_66, hz_67, hO⟩
    replace hZ := fun b hb => hz_67 b (hZ b hb)
    replace hO : Own H_65 Z_66 (fz fInt.rep v_57 ((if (((!decide ((nText s).2 = 0)) || (!nTk ((nText s).1) s)) || (!(nTk ((nText s).1) w == decide (s = w)))) = false then nSet t else (⟨(0 : Int), [], [], []⟩ : GNfa)).Starts) :: fz fInt.rep v_58 ((if (((!decide ((nText s).2 = 0)) || (!nTk ((nText s).1) s)) || (!(nTk ((nText s).1) w == decide (s = w)))) = false then nSet t else (⟨(0 : Int), [], [], []⟩ : GNfa)).Ends) :: fz fGEdge.rep v_59 ((if (((!decide ((nText s).2 = 0)) || (!nTk ((nText s).1) s)) || (!(nTk ((nText s).1) w == decide (s = w)))) = false then nSet t else (⟨(0 : Int), [], [], []⟩ : GNfa)).Edges) :: box b_35 [.int .i64 (((nText s).1).States), v_28, v_29, v_30] 25 :: fz fInt.rep v_28 (((nText s).1).Starts) :: fz fInt.rep v_29 (((nText s).1).Ends) :: fz fGEdge.rep v_30 (((nText s).1).Edges) :: box b_18 (sw t) 34 :: box b_16 [.int .i64 b.States, v_7, v_9, v_11] 25 :: box b_14 [.int .i64 a.States, v_1, v_3, v_5] 25 :: fz fGEdge.rep v_11 b.Edges :: fz fInt.rep v_9 b.Ends :: fz fInt.rep v_7 b.Starts :: fz fGEdge.rep v_5 a.Edges :: fz fInt.rep v_3 a.Ends :: fz fInt.rep v_1 a.Starts :: L) := hO
    refine hd_g rfl rfl rfl (fun hg H' hS => by obtain ⟨Z', hO⟩ := hS; exact (v_and (gv_ok rfl hg) (gvgb_ok rfl hg))) rfl ?_
    refine hd_g rfl rfl rfl (fun hg H' hS => by obtain ⟨Z', hO⟩ := hS; exact (v_neqb Try.underlying4 (gv_ok rfl hg) (gv_ok rfl hg))) rfl ?_
    refine hd_v rfl (fun H' hS => by obtain ⟨Z', hO⟩ := hS; exact (v_or rfl rfl)) rfl ?_
    refine hd_nil ?_
    refine thenQ_n ?_
    refine hw_sub _ (ai_cons (t := 4) rfl (ai_cons (t := 5) rfl (ai_cons (t := 6) rfl (ai_cons (t := 74) rfl ai_nil)))) ?_
    refine hw_cond rfl (fun hc_68 => ?_) (fun hc_68 => ?_)
    · replace h := ite_t h hc_68
      refine hw_seq ?_
      refine hw_region ?_
      refine hl_v (v_assign rfl) rfl ?_
      refine hl_nil ?_
      refine thenQ_n ?_
      refine hw_sub _ (ai_cons (t := 10) rfl ai_nil) ?_
      refine hw_ret ?_
      refine thenQ_r ?_
      refine ret_i _ (ra_t rfl ra_nil) ?_
      exact ⟨_, false, hZ, h, rfl, (Own.sel (Ls := [fz fInt.rep v_57 ((if (((!decide ((nText s).2 = 0)) || (!nTk ((nText s).1) s)) || (!(nTk ((nText s).1) w == decide (s = w)))) = false then nSet t else (⟨(0 : Int), [], [], []⟩ : GNfa)).Starts), fz fInt.rep v_58 ((if (((!decide ((nText s).2 = 0)) || (!nTk ((nText s).1) s)) || (!(nTk ((nText s).1) w == decide (s = w)))) = false then nSet t else (⟨(0 : Int), [], [], []⟩ : GNfa)).Ends), fz fGEdge.rep v_59 ((if (((!decide ((nText s).2 = 0)) || (!nTk ((nText s).1) s)) || (!(nTk ((nText s).1) w == decide (s = w)))) = false then nSet t else (⟨(0 : Int), [], [], []⟩ : GNfa)).Edges), box b_35 [.int .i64 (((nText s).1).States), v_28, v_29, v_30] 25, fz fInt.rep v_28 (((nText s).1).Starts), fz fInt.rep v_29 (((nText s).1).Ends), fz fGEdge.rep v_30 (((nText s).1).Edges), box b_18 (sw t) 34, box b_16 [.int .i64 b.States, v_7, v_9, v_11] 25, box b_14 [.int .i64 a.States, v_1, v_3, v_5] 25, fz fGEdge.rep v_11 b.Edges, fz fInt.rep v_9 b.Ends, fz fInt.rep v_7 b.Starts, fz fGEdge.rep v_5 a.Edges, fz fInt.rep v_3 a.Ends, fz fInt.rep v_1 a.Starts]) (L := L) [] rfl hO)⟩
    · replace h := ite_f h hc_68
      refine hw_skip ?_
      refine thenQ_n ?_
      refine hw_seq ?_
      refine hw_region ?_
      refine hl_v (v_loadA Try.isAgg25 Try.sizeOf25 rfl (Blk.at0 (hO.box 9 rfl)) rfl) rfl ?_
      refine hl_v (v_loadA Try.isAgg25 Try.sizeOf25 rfl (Blk.at0 (hO.box 8 rfl)) rfl) rfl ?_
      refine hl_h (h_call Try.call17 (evs_cons rfl (evs_cons rfl evs_nil)) (nfaCat_spec (a0 := a) (a1 := b) hO (Fz.of (i := 15) rfl) (Fz.of (i := 14) rfl) (Fz.of (i := 13) rfl) (Fz.of (i := 12) rfl) (Fz.of (i := 11) rfl) (Fz.of (i := 10) rfl))) rfl ?_
      rintro vv H_72 ⟨Z_73, v_69, v_70, v_71, hz_74, hv, hO⟩
      obtain rfl := hv.symm
      replace hZ := fun b hb => hz_74 b (hZ b hb)
      replace hO : Own H_72 Z_73 (own fInt 3 v_69 (((nCat a b).1).Starts) :: own fInt 3 v_70 (((nCat a b).1).Ends) :: own fGEdge 69 v_71 (((nCat a b).1).Edges) :: fz fInt.rep v_57 ((if (((!decide ((nText s).2 = 0)) || (!nTk ((nText s).1) s)) || (!(nTk ((nText s).1) w == decide (s = w)))) = false then nSet t else (⟨(0 : Int), [], [], []⟩ : GNfa)).Starts) :: fz fInt.rep v_58 ((if (((!decide ((nText s).2 = 0)) || (!nTk ((nText s).1) s)) || (!(nTk ((nText s).1) w == decide (s = w)))) = false then nSet t else (⟨(0 : Int), [], [], []⟩ : GNfa)).Ends) :: fz fGEdge.rep v_59 ((if (((!decide ((nText s).2 = 0)) || (!nTk ((nText s).1) s)) || (!(nTk ((nText s).1) w == decide (s = w)))) = false then nSet t else (⟨(0 : Int), [], [], []⟩ : GNfa)).Edges) :: box b_35 [.int .i64 (((nText s).1).States), v_28, v_29, v_30] 25 :: fz fInt.rep v_28 (((nText s).1).Starts) :: fz fInt.rep v_29 (((nText s).1).Ends) :: fz fGEdge.rep v_30 (((nText s).1).Edges) :: box b_18 (sw t) 34 :: box b_16 [.int .i64 b.States, v_7, v_9, v_11] 25 :: box b_14 [.int .i64 a.States, v_1, v_3, v_5] 25 :: fz fGEdge.rep v_11 b.Edges :: fz fInt.rep v_9 b.Ends :: fz fInt.rep v_7 b.Starts :: fz fGEdge.rep v_5 a.Edges :: fz fInt.rep v_3 a.Ends :: fz fInt.rep v_1 a.Starts :: L) := hO
      refine hl_v (v_move rfl) rfl ?_
      refine hl_v (v_extract rfl rfl) rfl ?_
      refine hl_v (v_extract rfl rfl) rfl ?_
      refine hl_h (o_alloc (cs := [.int .i64 (0 : Int), .slice none 0 0, .slice none 0 0, .slice none 0 0]) hO Try.zeroValue25 rfl) rfl ?_
      rintro _ H_75 ⟨b_76, rfl, hO⟩
      replace hO : Own H_75 Z_73 (box b_76 [.int .i64 (0 : Int), .slice none 0 0, .slice none 0 0, .slice none 0 0] 25 :: own fInt 3 v_69 (((nCat a b).1).Starts) :: own fInt 3 v_70 (((nCat a b).1).Ends) :: own fGEdge 69 v_71 (((nCat a b).1).Edges) :: fz fInt.rep v_57 ((if (((!decide ((nText s).2 = 0)) || (!nTk ((nText s).1) s)) || (!(nTk ((nText s).1) w == decide (s = w)))) = false then nSet t else (⟨(0 : Int), [], [], []⟩ : GNfa)).Starts) :: fz fInt.rep v_58 ((if (((!decide ((nText s).2 = 0)) || (!nTk ((nText s).1) s)) || (!(nTk ((nText s).1) w == decide (s = w)))) = false then nSet t else (⟨(0 : Int), [], [], []⟩ : GNfa)).Ends) :: fz fGEdge.rep v_59 ((if (((!decide ((nText s).2 = 0)) || (!nTk ((nText s).1) s)) || (!(nTk ((nText s).1) w == decide (s = w)))) = false then nSet t else (⟨(0 : Int), [], [], []⟩ : GNfa)).Edges) :: box b_35 [.int .i64 (((nText s).1).States), v_28, v_29, v_30] 25 :: fz fInt.rep v_28 (((nText s).1).Starts) :: fz fInt.rep v_29 (((nText s).1).Ends) :: fz fGEdge.rep v_30 (((nText s).1).Edges) :: box b_18 (sw t) 34 :: box b_16 [.int .i64 b.States, v_7, v_9, v_11] 25 :: box b_14 [.int .i64 a.States, v_1, v_3, v_5] 25 :: fz fGEdge.rep v_11 b.Edges :: fz fInt.rep v_9 b.Ends :: fz fInt.rep v_7 b.Starts :: fz fGEdge.rep v_5 a.Edges :: fz fInt.rep v_3 a.Ends :: fz fInt.rep v_1 a.Starts :: L) := hO
      refine hl_s (o_storeA (us := [.int .i64 (((nCat a b).1).States), v_69, v_70, v_71]) hO 0 rfl Try.sizeOf25 rfl rfl rfl rfl (by simp only [List.forall_mem_cons]; exact ⟨rfl, (Sl.one (hO.osl 1 rfl)), (Sl.one (hO.osl 2 rfl)), (Sl.one (hO.osl 3 rfl)), by simp⟩)) ?_
      rintro _ H_77 hO
      replace hO : Own H_77 Z_73 (box b_76 [.int .i64 (((nCat a b).1).States), v_69, v_70, v_71] 25 :: own fInt 3 v_69 (((nCat a b).1).Starts) :: own fInt 3 v_70 (((nCat a b).1).Ends) :: own fGEdge 69 v_71 (((nCat a b).1).Edges) :: fz fInt.rep v_57 ((if (((!decide ((nText s).2 = 0)) || (!nTk ((nText s).1) s)) || (!(nTk ((nText s).1) w == decide (s = w)))) = false then nSet t else (⟨(0 : Int), [], [], []⟩ : GNfa)).Starts) :: fz fInt.rep v_58 ((if (((!decide ((nText s).2 = 0)) || (!nTk ((nText s).1) s)) || (!(nTk ((nText s).1) w == decide (s = w)))) = false then nSet t else (⟨(0 : Int), [], [], []⟩ : GNfa)).Ends) :: fz fGEdge.rep v_59 ((if (((!decide ((nText s).2 = 0)) || (!nTk ((nText s).1) s)) || (!(nTk ((nText s).1) w == decide (s = w)))) = false then nSet t else (⟨(0 : Int), [], [], []⟩ : GNfa)).Edges) :: box b_35 [.int .i64 (((nText s).1).States), v_28, v_29, v_30] 25 :: fz fInt.rep v_28 (((nText s).1).Starts) :: fz fInt.rep v_29 (((nText s).1).Ends) :: fz fGEdge.rep v_30 (((nText s).1).Edges) :: box b_18 (sw t) 34 :: box b_16 [.int .i64 b.States, v_7, v_9, v_11] 25 :: box b_14 [.int .i64 a.States, v_1, v_3, v_5] 25 :: fz fGEdge.rep v_11 b.Edges :: fz fInt.rep v_9 b.Ends :: fz fInt.rep v_7 b.Starts :: fz fGEdge.rep v_5 a.Edges :: fz fInt.rep v_3 a.Ends :: fz fInt.rep v_1 a.Starts :: L) := hO
      refine hl_v (v_assign rfl) rfl ?_
      refine hl_nil ?_
      refine thenQ_n ?_
      refine hw_sub _ (ai_cons (t := 4) rfl (ai_cons (t := 5) rfl (ai_cons (t := 6) rfl (ai_cons (t := 13) rfl (ai_cons (t := 14) rfl ai_nil))))) ?_
      refine hw_seq ?_
      refine hw_region ?_
      refine hl_v (v_loadA Try.isAgg25 Try.sizeOf25 rfl (Blk.at0 (hO.box 13 rfl)) rfl) rfl ?_
      refine hl_v (v_loadA Try.isAgg25 Try.sizeOf25 rfl (Blk.at0 (hO.box 12 rfl)) rfl) rfl ?_
      refine hl_h (h_call Try.call18 (evs_cons rfl (evs_cons rfl evs_nil)) (nfaAlt_spec (a0 := a) (a1 := b) hO (Fz.of (i := 19) rfl) (Fz.of (i := 18) rfl) (Fz.of (i := 17) rfl) (Fz.of (i := 16) rfl) (Fz.of (i := 15) rfl) (Fz.of (i := 14) rfl))) rfl ?_
      rintro vv H_81 ⟨Z_82, v_78, v_79, v_80, hz_83, hv, hO⟩
      obtain rfl := hv.symm
      replace hZ := fun b hb => hz_83 b (hZ b hb)
      replace hO : Own H_81 Z_82 (own fInt 3 v_78 (((nAlt a b).1).Starts) :: own fInt 3 v_79 (((nAlt a b).1).Ends) :: own fGEdge 69 v_80 (((nAlt a b).1).Edges) :: box b_76 [.int .i64 (((nCat a b).1).States), v_69, v_70, v_71] 25 :: own fInt 3 v_69 (((nCat a b).1).Starts) :: own fInt 3 v_70 (((nCat a b).1).Ends) :: own fGEdge 69 v_71 (((nCat a b).1).Edges) :: fz fInt.rep v_57 ((if (((!decide ((nText s).2 = 0)) || (!nTk ((nText s).1) s)) || (!(nTk ((nText s).1) w == decide (s = w)))) = false then nSet t else (⟨(0 : Int), [], [], []⟩ : GNfa)).Starts) :: fz fInt.rep v_58 ((if (((!decide ((nText s).2 = 0)) || (!nTk ((nText s).1) s)) || (!(nTk ((nText s).1) w == decide (s = w)))) = false then nSet t else (⟨(0 : Int), [], [], []⟩ : GNfa)).Ends) :: fz fGEdge.rep v_59 ((if (((!decide ((nText s).2 = 0)) || (!nTk ((nText s).1) s)) || (!(nTk ((nText s).1) w == decide (s = w)))) = false then nSet t else (⟨(0 : Int), [], [], []⟩ : GNfa)).Edges) :: box b_35 [.int .i64 (((nText s).1).States), v_28, v_29, v_30] 25 :: fz fInt.rep v_28 (((nText s).1).Starts) :: fz fInt.rep v_29 (((nText s).1).Ends) :: fz fGEdge.rep v_30 (((nText s).1).Edges) :: box b_18 (sw t) 34 :: box b_16 [.int .i64 b.States, v_7, v_9, v_11] 25 :: box b_14 [.int .i64 a.States, v_1, v_3, v_5] 25 :: fz fGEdge.rep v_11 b.Edges :: fz fInt.rep v_9 b.Ends :: fz fInt.rep v_7 b.Starts :: fz fGEdge.rep v_5 a.Edges :: fz fInt.rep v_3 a.Ends :: fz fInt.rep v_1 a.Starts :: L) := hO
      refine hl_v (v_move rfl) rfl ?_
      refine hl_v (v_extract rfl rfl) rfl ?_
      refine hl_v (v_extract rfl rfl) rfl ?_
      refine hl_h (o_alloc (cs := [.int .i64 (0 : Int), .slice none 0 0, .slice none 0 0, .slice none 0 0]) hO Try.zeroValue25 rfl) rfl ?_
      rintro _ H_84 ⟨b_85, rfl, hO⟩
      replace hO : Own H_84 Z_82 (box b_85 [.int .i64 (0 : Int), .slice none 0 0, .slice none 0 0, .slice none 0 0] 25 :: own fInt 3 v_78 (((nAlt a b).1).Starts) :: own fInt 3 v_79 (((nAlt a b).1).Ends) :: own fGEdge 69 v_80 (((nAlt a b).1).Edges) :: box b_76 [.int .i64 (((nCat a b).1).States), v_69, v_70, v_71] 25 :: own fInt 3 v_69 (((nCat a b).1).Starts) :: own fInt 3 v_70 (((nCat a b).1).Ends) :: own fGEdge 69 v_71 (((nCat a b).1).Edges) :: fz fInt.rep v_57 ((if (((!decide ((nText s).2 = 0)) || (!nTk ((nText s).1) s)) || (!(nTk ((nText s).1) w == decide (s = w)))) = false then nSet t else (⟨(0 : Int), [], [], []⟩ : GNfa)).Starts) :: fz fInt.rep v_58 ((if (((!decide ((nText s).2 = 0)) || (!nTk ((nText s).1) s)) || (!(nTk ((nText s).1) w == decide (s = w)))) = false then nSet t else (⟨(0 : Int), [], [], []⟩ : GNfa)).Ends) :: fz fGEdge.rep v_59 ((if (((!decide ((nText s).2 = 0)) || (!nTk ((nText s).1) s)) || (!(nTk ((nText s).1) w == decide (s = w)))) = false then nSet t else (⟨(0 : Int), [], [], []⟩ : GNfa)).Edges) :: box b_35 [.int .i64 (((nText s).1).States), v_28, v_29, v_30] 25 :: fz fInt.rep v_28 (((nText s).1).Starts) :: fz fInt.rep v_29 (((nText s).1).Ends) :: fz fGEdge.rep v_30 (((nText s).1).Edges) :: box b_18 (sw t) 34 :: box b_16 [.int .i64 b.States, v_7, v_9, v_11] 25 :: box b_14 [.int .i64 a.States, v_1, v_3, v_5] 25 :: fz fGEdge.rep v_11 b.Edges :: fz fInt.rep v_9 b.Ends :: fz fInt.rep v_7 b.Starts :: fz fGEdge.rep v_5 a.Edges :: fz fInt.rep v_3 a.Ends :: fz fInt.rep v_1 a.Starts :: L) := hO
      refine hl_s (o_storeA (us := [.int .i64 (((nAlt a b).1).States), v_78, v_79, v_80]) hO 0 rfl Try.sizeOf25 rfl rfl rfl rfl (by simp only [List.forall_mem_cons]; exact ⟨rfl, (Sl.one (hO.osl 1 rfl)), (Sl.one (hO.osl 2 rfl)), (Sl.one (hO.osl 3 rfl)), by simp⟩)) ?_
      rintro _ H_86 hO
      replace hO : Own H_86 Z_82 (box b_85 [.int .i64 (((nAlt a b).1).States), v_78, v_79, v_80] 25 :: own fInt 3 v_78 (((nAlt a b).1).Starts) :: own fInt 3 v_79 (((nAlt a b).1).Ends) :: own fGEdge 69 v_80 (((nAlt a b).1).Edges) :: box b_76 [.int .i64 (((nCat a b).1).States), v_69, v_70, v_71] 25 :: own fInt 3 v_69 (((nCat a b).1).Starts) :: own fInt 3 v_70 (((nCat a b).1).Ends) :: own fGEdge 69 v_71 (((nCat a b).1).Edges) :: fz fInt.rep v_57 ((if (((!decide ((nText s).2 = 0)) || (!nTk ((nText s).1) s)) || (!(nTk ((nText s).1) w == decide (s = w)))) = false then nSet t else (⟨(0 : Int), [], [], []⟩ : GNfa)).Starts) :: fz fInt.rep v_58 ((if (((!decide ((nText s).2 = 0)) || (!nTk ((nText s).1) s)) || (!(nTk ((nText s).1) w == decide (s = w)))) = false then nSet t else (⟨(0 : Int), [], [], []⟩ : GNfa)).Ends) :: fz fGEdge.rep v_59 ((if (((!decide ((nText s).2 = 0)) || (!nTk ((nText s).1) s)) || (!(nTk ((nText s).1) w == decide (s = w)))) = false then nSet t else (⟨(0 : Int), [], [], []⟩ : GNfa)).Edges) :: box b_35 [.int .i64 (((nText s).1).States), v_28, v_29, v_30] 25 :: fz fInt.rep v_28 (((nText s).1).Starts) :: fz fInt.rep v_29 (((nText s).1).Ends) :: fz fGEdge.rep v_30 (((nText s).1).Edges) :: box b_18 (sw t) 34 :: box b_16 [.int .i64 b.States, v_7, v_9, v_11] 25 :: box b_14 [.int .i64 a.States, v_1, v_3, v_5] 25 :: fz fGEdge.rep v_11 b.Edges :: fz fInt.rep v_9 b.Ends :: fz fInt.rep v_7 b.Starts :: fz fGEdge.rep v_5 a.Edges :: fz fInt.rep v_3 a.Ends :: fz fInt.rep v_1 a.Starts :: L) := hO
      refine hl_v (v_assign rfl) rfl ?_
      refine hl_nil ?_
      refine thenQ_n ?_
      refine hw_sub _ (ai_cons (t := 4) rfl (ai_cons (t := 5) rfl (ai_cons (t := 6) rfl (ai_cons (t := 13) rfl (ai_cons (t := 14) rfl (ai_cons (t := 15) rfl (ai_cons (t := 16) rfl ai_nil))))))) ?_
      refine hw_seq ?_
      refine hw_seq ?_
      refine hw_region ?_
      refine hl_v (v_move rfl) rfl ?_
      refine hl_v (v_neq rfl rfl) rfl ?_
      refine hl_v (v_move rfl) rfl ?_
      refine hl_g rfl rfl (fun hg => (v_move rfl)) rfl ?_
      refine hl_g rfl rfl (fun hg => (v_neq (gv_ok rfl hg) rfl)) rfl ?_
      refine hl_v (v_or rfl rfl) rfl ?_
      refine hl_nil ?_
      refine thenQ_n ?_
      refine hw_sub _ (ai_cons (t := 4) rfl (ai_cons (t := 5) rfl (ai_cons (t := 6) rfl (ai_cons (t := 13) rfl (ai_cons (t := 15) rfl (ai_cons (t := 92) rfl ai_nil)))))) ?_
      refine hw_cond rfl (fun hc_87 => ?_) (fun hc_87 => ?_)
      · replace h := ite_t h hc_87
        refine hw_seq ?_
        refine hw_region ?_
        refine hl_h (h_call Try.call12 evs_nil (lAwake_spec  hO)) rfl ?_
        rintro vv H_88 ⟨Z_89, hz_90, hv, hO⟩
        obtain rfl := hv.symm
        replace hZ := fun b hb => hz_90 b (hZ b hb)
        replace hO : Own H_88 Z_89 (box b_85 [.int .i64 (((nAlt a b).1).States), v_78, v_79, v_80] 25 :: own fInt 3 v_78 (((nAlt a b).1).Starts) :: own fInt 3 v_79 (((nAlt a b).1).Ends) :: own fGEdge 69 v_80 (((nAlt a b).1).Edges) :: box b_76 [.int .i64 (((nCat a b).1).States), v_69, v_70, v_71] 25 :: own fInt 3 v_69 (((nCat a b).1).Starts) :: own fInt 3 v_70 (((nCat a b).1).Ends) :: own fGEdge 69 v_71 (((nCat a b).1).Edges) :: fz fInt.rep v_57 ((if (((!decide ((nText s).2 = 0)) || (!nTk ((nText s).1) s)) || (!(nTk ((nText s).1) w == decide (s = w)))) = false then nSet t else (⟨(0 : Int), [], [], []⟩ : GNfa)).Starts) :: fz fInt.rep v_58 ((if (((!decide ((nText s).2 = 0)) || (!nTk ((nText s).1) s)) || (!(nTk ((nText s).1) w == decide (s = w)))) = false then nSet t else (⟨(0 : Int), [], [], []⟩ : GNfa)).Ends) :: fz fGEdge.rep v_59 ((if (((!decide ((nText s).2 = 0)) || (!nTk ((nText s).1) s)) || (!(nTk ((nText s).1) w == decide (s = w)))) = false then nSet t else (⟨(0 : Int), [], [], []⟩ : GNfa)).Edges) :: box b_35 [.int .i64 (((nText s).1).States), v_28, v_29, v_30] 25 :: fz fInt.rep v_28 (((nText s).1).Starts) :: fz fInt.rep v_29 (((nText s).1).Ends) :: fz fGEdge.rep v_30 (((nText s).1).Edges) :: box b_18 (sw t) 34 :: box b_16 [.int .i64 b.States, v_7, v_9, v_11] 25 :: box b_14 [.int .i64 a.States, v_1, v_3, v_5] 25 :: fz fGEdge.rep v_11 b.Edges :: fz fInt.rep v_9 b.Ends :: fz fInt.rep v_7 b.Starts :: fz fGEdge.rep v_5 a.Edges :: fz fInt.rep v_3 a.Ends :: fz fInt.rep v_1 a.Starts :: L) := hO
        refine hl_v (v_assign rfl) rfl ?_
        refine hl_nil ?_
        refine thenQ_n ?_
        refine hw_sub _ (ai_cons (t := 10) rfl ai_nil) ?_
        refine hw_ret ?_
        refine thenQ_r ?_
        refine ret_i _ (ra_t rfl ra_nil) ?_
        exact ⟨_, true, hZ, h, rfl, (Own.sel (Ls := [box b_85 [.int .i64 (((nAlt a b).1).States), v_78, v_79, v_80] 25, own fInt 3 v_78 (((nAlt a b).1).Starts), own fInt 3 v_79 (((nAlt a b).1).Ends), own fGEdge 69 v_80 (((nAlt a b).1).Edges), box b_76 [.int .i64 (((nCat a b).1).States), v_69, v_70, v_71] 25, own fInt 3 v_69 (((nCat a b).1).Starts), own fInt 3 v_70 (((nCat a b).1).Ends), own fGEdge 69 v_71 (((nCat a b).1).Edges), fz fInt.rep v_57 ((if (((!decide ((nText s).2 = 0)) || (!nTk ((nText s).1) s)) || (!(nTk ((nText s).1) w == decide (s = w)))) = false then nSet t else (⟨(0 : Int), [], [], []⟩ : GNfa)).Starts), fz fInt.rep v_58 ((if (((!decide ((nText s).2 = 0)) || (!nTk ((nText s).1) s)) || (!(nTk ((nText s).1) w == decide (s = w)))) = false then nSet t else (⟨(0 : Int), [], [], []⟩ : GNfa)).Ends), fz fGEdge.rep v_59 ((if (((!decide ((nText s).2 = 0)) || (!nTk ((nText s).1) s)) || (!(nTk ((nText s).1) w == decide (s = w)))) = false then nSet t else (⟨(0 : Int), [], [], []⟩ : GNfa)).Edges), box b_35 [.int .i64 (((nText s).1).States), v_28, v_29, v_30] 25, fz fInt.rep v_28 (((nText s).1).Starts), fz fInt.rep v_29 (((nText s).1).Ends), fz fGEdge.rep v_30 (((nText s).1).Edges), box b_18 (sw t) 34, box b_16 [.int .i64 b.States, v_7, v_9, v_11] 25, box b_14 [.int .i64 a.States, v_1, v_3, v_5] 25, fz fGEdge.rep v_11 b.Edges, fz fInt.rep v_9 b.Ends, fz fInt.rep v_7 b.Starts, fz fGEdge.rep v_5 a.Edges, fz fInt.rep v_3 a.Ends, fz fInt.rep v_1 a.Starts]) (L := L) [] rfl hO)⟩
      · replace h := ite_f h hc_87
        refine hw_skip ?_
        refine thenQ_n ?_
        refine hw_seq ?_
        refine hw_region ?_
        refine hl_v (v_assign rfl) rfl ?_
        refine hl_nil ?_
        refine thenQ_n ?_
        refine hw_sub _ (ai_cons (t := 4) rfl (ai_cons (t := 5) rfl (ai_cons (t := 6) rfl (ai_cons (t := 13) rfl (ai_cons (t := 15) rfl (ai_cons (t := 17) rfl ai_nil)))))) ?_
        refine hw_seq ?_
        refine hw_seq ?_
        refine hw_region ?_
        refine hl_v (v_assign rfl) rfl ?_
        refine hl_nil ?_
        refine thenQ_n ?_
        refine hw_sub _ (ai_cons (t := 4) rfl (ai_cons (t := 5) rfl (ai_cons (t := 6) rfl (ai_cons (t := 13) rfl (ai_cons (t := 15) rfl (ai_cons (t := 17) rfl (ai_cons (t := 18) rfl ai_nil))))))) ?_
        refine hw_block ?_
        obtain ⟨I_91, μ_92, h, hI_93⟩ := h
        refine hw_lp (fun n' g' H' => ∃ (parted : Bool) (i : Int) (Z' : Nat → Prop), n' = μ_92 parted i ∧ g' = [(4, str w), (5, ptr b_14 0), (6, ptr b_16 0), (13, ptr b_76 0), (15, ptr b_85 0), (17, .bool parted), (18, .int .i64 i)] ∧ (∀ b, Z b → Z' b) ∧ I_91 parted i ∧ Own H' Z' (box b_85 [.int .i64 (((nAlt a b).1).States), v_78, v_79, v_80] 25 :: own fInt 3 v_78 (((nAlt a b).1).Starts) :: own fInt 3 v_79 (((nAlt a b).1).Ends) :: own fGEdge 69 v_80 (((nAlt a b).1).Edges) :: box b_76 [.int .i64 (((nCat a b).1).States), v_69, v_70, v_71] 25 :: own fInt 3 v_69 (((nCat a b).1).Starts) :: own fInt 3 v_70 (((nCat a b).1).Ends) :: own fGEdge 69 v_71 (((nCat a b).1).Edges) :: box b_16 [.int .i64 b.States, v_7, v_9, v_11] 25 :: box b_14 [.int .i64 a.States, v_1, v_3, v_5] 25 :: fz fGEdge.rep v_11 b.Edges :: fz fInt.rep v_9 b.Ends :: fz fInt.rep v_7 b.Starts :: fz fGEdge.rep v_5 a.Edges :: fz fInt.rep v_3 a.Ends :: fz fInt.rep v_1 a.Starts :: L)) _ _ (ai_cons (t := 4) rfl (ai_cons (t := 5) rfl (ai_cons (t := 6) rfl (ai_cons (t := 13) rfl (ai_cons (t := 15) rfl (ai_cons (t := 17) rfl (ai_cons (t := 18) rfl ai_nil))))))) ⟨false, 0, _, rfl, rfl, hZ, h, (Own.sel (Ls := [box b_85 [.int .i64 (((nAlt a b).1).States), v_78, v_79, v_80] 25, own fInt 3 v_78 (((nAlt a b).1).Starts), own fInt 3 v_79 (((nAlt a b).1).Ends), own fGEdge 69 v_80 (((nAlt a b).1).Edges), box b_76 [.int .i64 (((nCat a b).1).States), v_69, v_70, v_71] 25, own fInt 3 v_69 (((nCat a b).1).Starts), own fInt 3 v_70 (((nCat a b).1).Ends), own fGEdge 69 v_71 (((nCat a b).1).Edges), fz fInt.rep v_57 ((if (((!decide ((nText s).2 = 0)) || (!nTk ((nText s).1) s)) || (!(nTk ((nText s).1) w == decide (s = w)))) = false then nSet t else (⟨(0 : Int), [], [], []⟩ : GNfa)).Starts), fz fInt.rep v_58 ((if (((!decide ((nText s).2 = 0)) || (!nTk ((nText s).1) s)) || (!(nTk ((nText s).1) w == decide (s = w)))) = false then nSet t else (⟨(0 : Int), [], [], []⟩ : GNfa)).Ends), fz fGEdge.rep v_59 ((if (((!decide ((nText s).2 = 0)) || (!nTk ((nText s).1) s)) || (!(nTk ((nText s).1) w == decide (s = w)))) = false then nSet t else (⟨(0 : Int), [], [], []⟩ : GNfa)).Edges), box b_35 [.int .i64 (((nText s).1).States), v_28, v_29, v_30] 25, fz fInt.rep v_28 (((nText s).1).Starts), fz fInt.rep v_29 (((nText s).1).Ends), fz fGEdge.rep v_30 (((nText s).1).Edges), box b_18 (sw t) 34, box b_16 [.int .i64 b.States, v_7, v_9, v_11] 25, box b_14 [.int .i64 a.States, v_1, v_3, v_5] 25, fz fGEdge.rep v_11 b.Edges, fz fInt.rep v_9 b.Ends, fz fInt.rep v_7 b.Starts, fz fGEdge.rep v_5 a.Edges, fz fInt.rep v_3 a.Ends, fz fInt.rep v_1 a.Starts]) (L := L) [0, 1, 2, 3, 4, 5, 6, 7, 16, 17, 18, 19, 20, 21, 22, 23] rfl hO)⟩ ?_
        rintro _ _ H_94 ⟨parted, i, Z_95, rfl, rfl, hZ, h, hO⟩
        replace h := hI_93 parted i h
        refine hw_seq ?_
        refine hw_seq ?_
        refine hw_region ?_
        refine hl_v (v_move rfl) rfl ?_
        refine hl_v (v_move rfl) rfl ?_
        refine hl_v (v_lenS rfl Try.underlying9 rfl) rfl ?_
        refine hl_v (v_leq rfl rfl) rfl ?_
        refine hl_nil ?_
        refine thenQ_n ?_
        refine hw_sub _ (ai_cons (t := 4) rfl (ai_cons (t := 5) rfl (ai_cons (t := 6) rfl (ai_cons (t := 13) rfl (ai_cons (t := 15) rfl (ai_cons (t := 17) rfl (ai_cons (t := 18) rfl (ai_cons (t := 97) rfl ai_nil)))))))) ?_
        refine hw_cond rfl (fun hc_97 => ?_) (fun hc_97 => ?_)
        · replace h := ite_t h hc_97
          refine hw_skip ?_
          refine thenQ_n ?_
          refine hw_seq ?_
          refine hw_block ?_
          refine hw_held2 15 (fun H' => ∃ Z' : Nat → Prop, Own H' Z' (box b_85 [.int .i64 (((nAlt a b).1).States), v_78, v_79, v_80] 25 :: own fInt 3 v_78 (((nAlt a b).1).Starts) :: own fInt 3 v_79 (((nAlt a b).1).Ends) :: own fGEdge 69 v_80 (((nAlt a b).1).Edges) :: box b_76 [.int .i64 (((nCat a b).1).States), v_69, v_70, v_71] 25 :: own fInt 3 v_69 (((nCat a b).1).Starts) :: own fInt 3 v_70 (((nCat a b).1).Ends) :: own fGEdge 69 v_71 (((nCat a b).1).Edges) :: box b_16 [.int .i64 b.States, v_7, v_9, v_11] 25 :: box b_14 [.int .i64 a.States, v_1, v_3, v_5] 25 :: fz fGEdge.rep v_11 b.Edges :: fz fInt.rep v_9 b.Ends :: fz fInt.rep v_7 b.Starts :: fz fGEdge.rep v_5 a.Edges :: fz fInt.rep v_3 a.Ends :: fz fInt.rep v_1 a.Starts :: L)) (.step 0 false (.step 1 false (.step 2 false (.step 3 false (.step 4 false (.step 5 false (.step 6 true (.step 7 false (.step 8 false (.step 9 false (.step 10 false (.step 11 false (.step 12 true (.step 13 false (.step 14 false .done))))))))))))))) (.step 15 true .done) Try.mixed (by kernel_rfl) ⟨_, hO⟩ ?_
          refine hd_v rfl (fun H' hS => by obtain ⟨Z', hO⟩ := hS; exact (v_move rfl)) rfl ?_
          refine hd_v rfl (fun H' hS => by obtain ⟨Z', hO⟩ := hS; exact (v_move rfl)) rfl ?_
          refine hd_g rfl rfl rfl (fun hg H' hS => by obtain ⟨Z', hO⟩ := hS; exact (v_loadA Try.isAgg25 Try.sizeOf25 rfl (Blk.at0 (hO.box 9 rfl)) rfl)) rfl ?_
          refine hd_g rfl rfl rfl (fun hg H' hS => by obtain ⟨Z', hO⟩ := hS; exact (v_move rfl)) rfl ?_
          refine hd_g rfl rfl rfl (fun hg H' hS => by obtain ⟨Z', hO⟩ := hS; exact (v_move rfl)) rfl ?_
          obtain ⟨hs_98, h⟩ := h
          refine hd_g rfl rfl rfl (fun hg H' hS => by obtain ⟨Z', hO⟩ := hS; exact (v_sliceSh Try.underlying9 (gv_ok rfl hg) (gv_ok rfl hg) (hs_98 (gb_bool hg)))) rfl ?_
          obtain ⟨hs_99, h⟩ := h
          refine hd_gc (v := .bool (nTk a (w.take i.toNat))) (R := fun H' => ∃ Z' : Nat → Prop, (∀ b, Z_95 b → Z' b) ∧ Own H' Z' (box b_85 [.int .i64 (((nAlt a b).1).States), v_78, v_79, v_80] 25 :: own fInt 3 v_78 (((nAlt a b).1).Starts) :: own fInt 3 v_79 (((nAlt a b).1).Ends) :: own fGEdge 69 v_80 (((nAlt a b).1).Edges) :: box b_76 [.int .i64 (((nCat a b).1).States), v_69, v_70, v_71] 25 :: own fInt 3 v_69 (((nCat a b).1).Starts) :: own fInt 3 v_70 (((nCat a b).1).Ends) :: own fGEdge 69 v_71 (((nCat a b).1).Edges) :: box b_16 [.int .i64 b.States, v_7, v_9, v_11] 25 :: box b_14 [.int .i64 a.States, v_1, v_3, v_5] 25 :: fz fGEdge.rep v_11 b.Edges :: fz fInt.rep v_9 b.Ends :: fz fInt.rep v_7 b.Starts :: fz fGEdge.rep v_5 a.Edges :: fz fInt.rep v_3 a.Ends :: fz fInt.rep v_1 a.Starts :: L)) rfl rfl (fun hg => OpH.mono (h_call Try.call14 (evs_cons (gv_ok rfl hg) (evs_cons (gv_ok rfl hg) evs_nil)) (lTk_spec (a0 := a) (a1 := (w.take i.toNat)) (hs_99 (gb_bool hg)) hO (Fz.of (i := 15) rfl) (Fz.of (i := 14) rfl) (Fz.of (i := 13) rfl))) (by rintro _ H' ⟨Z', hz, rfl, hO⟩; exact ⟨rfl, Z', hz, hO⟩)) ⟨_, fun _ h => h, hO⟩ (fun H' hR => by obtain ⟨Z', _, hO⟩ := hR; exact ⟨Z', hO⟩) rfl ?_
          rintro H_100 ⟨Z_101, hz_102, hO⟩
          replace hZ := fun b hb => hz_102 b (hZ b hb)
          replace hO : Own H_100 Z_101 (box b_85 [.int .i64 (((nAlt a b).1).States), v_78, v_79, v_80] 25 :: own fInt 3 v_78 (((nAlt a b).1).Starts) :: own fInt 3 v_79 (((nAlt a b).1).Ends) :: own fGEdge 69 v_80 (((nAlt a b).1).Edges) :: box b_76 [.int .i64 (((nCat a b).1).States), v_69, v_70, v_71] 25 :: own fInt 3 v_69 (((nCat a b).1).Starts) :: own fInt 3 v_70 (((nCat a b).1).Ends) :: own fGEdge 69 v_71 (((nCat a b).1).Edges) :: box b_16 [.int .i64 b.States, v_7, v_9, v_11] 25 :: box b_14 [.int .i64 a.States, v_1, v_3, v_5] 25 :: fz fGEdge.rep v_11 b.Edges :: fz fInt.rep v_9 b.Ends :: fz fInt.rep v_7 b.Starts :: fz fGEdge.rep v_5 a.Edges :: fz fInt.rep v_3 a.Ends :: fz fInt.rep v_1 a.Starts :: L) := hO
          refine hd_g rfl rfl rfl (fun hg H' hS => by obtain ⟨Z', hO⟩ := hS; exact (v_move (gv_ok rfl hg))) rfl ?_
          refine hd_g rfl rfl rfl (fun hg H' hS => by obtain ⟨Z', hO⟩ := hS; exact (v_loadA Try.isAgg25 Try.sizeOf25 rfl (Blk.at0 (hO.box 8 rfl)) rfl)) rfl ?_
          refine hd_g rfl rfl rfl (fun hg H' hS => by obtain ⟨Z', hO⟩ := hS; exact (v_move rfl)) rfl ?_
          refine hd_g rfl rfl rfl (fun hg H' hS => by obtain ⟨Z', hO⟩ := hS; exact (v_move rfl)) rfl ?_
          obtain ⟨hs_103, h⟩ := h
          refine hd_g rfl rfl rfl (fun hg H' hS => by obtain ⟨Z', hO⟩ := hS; exact (v_sliceSl Try.underlying9 (gv_ok rfl hg) (gv_ok rfl hg) (hs_103 ⟨(gb_bool (gb_gv hg).2), (gb_bool (gb_gv hg).1)⟩))) rfl ?_
          obtain ⟨hs_104, h⟩ := h
          refine hd_gc (v := .bool (nTk b (w.drop i.toNat))) (R := fun H' => ∃ Z' : Nat → Prop, (∀ b, Z_101 b → Z' b) ∧ Own H' Z' (box b_85 [.int .i64 (((nAlt a b).1).States), v_78, v_79, v_80] 25 :: own fInt 3 v_78 (((nAlt a b).1).Starts) :: own fInt 3 v_79 (((nAlt a b).1).Ends) :: own fGEdge 69 v_80 (((nAlt a b).1).Edges) :: box b_76 [.int .i64 (((nCat a b).1).States), v_69, v_70, v_71] 25 :: own fInt 3 v_69 (((nCat a b).1).Starts) :: own fInt 3 v_70 (((nCat a b).1).Ends) :: own fGEdge 69 v_71 (((nCat a b).1).Edges) :: box b_16 [.int .i64 b.States, v_7, v_9, v_11] 25 :: box b_14 [.int .i64 a.States, v_1, v_3, v_5] 25 :: fz fGEdge.rep v_11 b.Edges :: fz fInt.rep v_9 b.Ends :: fz fInt.rep v_7 b.Starts :: fz fGEdge.rep v_5 a.Edges :: fz fInt.rep v_3 a.Ends :: fz fInt.rep v_1 a.Starts :: L)) rfl rfl (fun hg => OpH.mono (h_call Try.call14 (evs_cons (gv_ok rfl hg) (evs_cons (gv_ok rfl hg) evs_nil)) (lTk_spec (a0 := b) (a1 := (w.drop i.toNat)) (hs_104 ⟨(gb_bool (gb_gv hg).2), (gb_bool (gb_gv hg).1)⟩) hO (Fz.of (i := 12) rfl) (Fz.of (i := 11) rfl) (Fz.of (i := 10) rfl))) (by rintro _ H' ⟨Z', hz, rfl, hO⟩; exact ⟨rfl, Z', hz, hO⟩)) ⟨_, fun _ h => h, hO⟩ (fun H' hR => by obtain ⟨Z', _, hO⟩ := hR; exact ⟨Z', hO⟩) rfl ?_
          rintro H_105 ⟨Z_106, hz_107, hO⟩
          replace hZ := fun b hb => hz_107 b (hZ b hb)
          replace hO : Own H_105 Z_106 (box b_85 [.int .i64 (((nAlt a b).1).States), v_78, v_79, v_80] 25 :: own fInt 3 v_78 (((nAlt a b).1).Starts) :: own fInt 3 v_79 (((nAlt a b).1).Ends) :: own fGEdge 69 v_80 (((nAlt a b).1).Edges) :: box b_76 [.int .i64 (((nCat a b).1).States), v_69, v_70, v_71] 25 :: own fInt 3 v_69 (((nCat a b).1).Starts) :: own fInt 3 v_70 (((nCat a b).1).Ends) :: own fGEdge 69 v_71 (((nCat a b).1).Edges) :: box b_16 [.int .i64 b.States, v_7, v_9, v_11] 25 :: box b_14 [.int .i64 a.States, v_1, v_3, v_5] 25 :: fz fGEdge.rep v_11 b.Edges :: fz fInt.rep v_9 b.Ends :: fz fInt.rep v_7 b.Starts :: fz fGEdge.rep v_5 a.Edges :: fz fInt.rep v_3 a.Ends :: fz fInt.rep v_1 a.Starts :: L) := hO
          refine hd_g rfl rfl rfl (fun hg H' hS => by obtain ⟨Z', hO⟩ := hS; exact (v_and (gv_ok rfl hg) (gvgb_ok rfl hg))) rfl ?_
          refine hd_v rfl (fun H' hS => by obtain ⟨Z', hO⟩ := hS; exact (v_or rfl rfl)) rfl ?_
          refine hd_nil ?_
          refine hd_h (OpV.toH (v_assign rfl)) (fun _ _ hR => trivial) rfl ?_
          rintro _ HH ⟨rfl, hHH⟩
          obtain rfl := hHH.symm
          refine hd_nil ?_
          refine blockQ_n ?_
          refine thenQ_n ?_
          refine hw_region ?_
          refine hl_v (v_move rfl) rfl ?_
          obtain ⟨hs_108, h⟩ := h
          refine hl_v (v_add rfl rfl hs_108) rfl ?_
          refine hl_v (v_assign rfl) rfl ?_
          refine hl_nil ?_
          refine thenQ_n ?_
          exact ⟨_, _, (ai_cons (t := 4) rfl (ai_cons (t := 5) rfl (ai_cons (t := 6) rfl (ai_cons (t := 13) rfl (ai_cons (t := 15) rfl (ai_cons (t := 17) rfl (ai_cons (t := 18) rfl ai_nil))))))), ⟨(parted || (nTk a (w.take i.toNat) && nTk b (w.drop i.toNat))), (i + 1), _, rfl, rfl, hZ, h.1, hO⟩, h.2⟩
        · replace h := ite_f h hc_97
          refine hw_exit ?_
          refine thenQ_e ?_
          refine thenQ_e ?_
          refine blockQ_hit ?_
          refine thenQ_n ?_
          refine hw_seq ?_
          refine hw_held2 22 (fun H' => ∃ Z' : Nat → Prop, Own H' Z' (box b_85 [.int .i64 (((nAlt a b).1).States), v_78, v_79, v_80] 25 :: box b_76 [.int .i64 (((nCat a b).1).States), v_69, v_70, v_71] 25 :: box b_16 [.int .i64 b.States, v_7, v_9, v_11] 25 :: box b_14 [.int .i64 a.States, v_1, v_3, v_5] 25 :: fz fGEdge.rep v_11 b.Edges :: fz fInt.rep v_9 b.Ends :: fz fInt.rep v_7 b.Starts :: fz fGEdge.rep v_5 a.Edges :: fz fInt.rep v_3 a.Ends :: fz fInt.rep v_1 a.Starts :: L)) (.step 0 true (.step 1 false (.step 2 false (.step 3 false (.step 5 false (.step 4 true (.step 6 false (.step 7 false (.step 8 false (.step 9 false (.step 10 false (.step 12 false (.step 13 false (.step 11 true (.step 14 true (.step 15 false (.step 16 false (.step 17 false (.step 18 true (.step 19 false (.step 20 false (.step 21 false .done)))))))))))))))))))))) (.step 22 true .done) Try.mixed (by kernel_rfl) ⟨_, (Own.sel (Ls := [box b_85 [.int .i64 (((nAlt a b).1).States), v_78, v_79, v_80] 25, own fInt 3 v_78 (((nAlt a b).1).Starts), own fInt 3 v_79 (((nAlt a b).1).Ends), own fGEdge 69 v_80 (((nAlt a b).1).Edges), box b_76 [.int .i64 (((nCat a b).1).States), v_69, v_70, v_71] 25, own fInt 3 v_69 (((nCat a b).1).Starts), own fInt 3 v_70 (((nCat a b).1).Ends), own fGEdge 69 v_71 (((nCat a b).1).Edges), box b_16 [.int .i64 b.States, v_7, v_9, v_11] 25, box b_14 [.int .i64 a.States, v_1, v_3, v_5] 25, fz fGEdge.rep v_11 b.Edges, fz fInt.rep v_9 b.Ends, fz fInt.rep v_7 b.Starts, fz fGEdge.rep v_5 a.Edges, fz fInt.rep v_3 a.Ends, fz fInt.rep v_1 a.Starts]) (L := L) [0, 4, 8, 9, 10, 11, 12, 13, 14, 15] rfl hO)⟩ ?_
          refine hd_h (h_call Try.call12 evs_nil (lAwake_spec  hO)) (by rintro vv H_109 ⟨Z_110, hz_111, hv, hO⟩; obtain rfl := hv.symm; replace hZ := fun b hb => hz_111 b (hZ b hb); replace hO : Own H_109 Z_110 (box b_85 [.int .i64 (((nAlt a b).1).States), v_78, v_79, v_80] 25 :: own fInt 3 v_78 (((nAlt a b).1).Starts) :: own fInt 3 v_79 (((nAlt a b).1).Ends) :: own fGEdge 69 v_80 (((nAlt a b).1).Edges) :: box b_76 [.int .i64 (((nCat a b).1).States), v_69, v_70, v_71] 25 :: own fInt 3 v_69 (((nCat a b).1).Starts) :: own fInt 3 v_70 (((nCat a b).1).Ends) :: own fGEdge 69 v_71 (((nCat a b).1).Edges) :: box b_16 [.int .i64 b.States, v_7, v_9, v_11] 25 :: box b_14 [.int .i64 a.States, v_1, v_3, v_5] 25 :: fz fGEdge.rep v_11 b.Edges :: fz fInt.rep v_9 b.Ends :: fz fInt.rep v_7 b.Starts :: fz fGEdge.rep v_5 a.Edges :: fz fInt.rep v_3 a.Ends :: fz fInt.rep v_1 a.Starts :: L) := hO; exact ⟨_, (Own.sel (Ls := [box b_85 [.int .i64 (((nAlt a b).1).States), v_78, v_79, v_80] 25, own fInt 3 v_78 (((nAlt a b).1).Starts), own fInt 3 v_79 (((nAlt a b).1).Ends), own fGEdge 69 v_80 (((nAlt a b).1).Edges), box b_76 [.int .i64 (((nCat a b).1).States), v_69, v_70, v_71] 25, own fInt 3 v_69 (((nCat a b).1).Starts), own fInt 3 v_70 (((nCat a b).1).Ends), own fGEdge 69 v_71 (((nCat a b).1).Edges), box b_16 [.int .i64 b.States, v_7, v_9, v_11] 25, box b_14 [.int .i64 a.States, v_1, v_3, v_5] 25, fz fGEdge.rep v_11 b.Edges, fz fInt.rep v_9 b.Ends, fz fInt.rep v_7 b.Starts, fz fGEdge.rep v_5 a.Edges, fz fInt.rep v_3 a.Ends, fz fInt.rep v_1 a.Starts]) (L := L) [0, 4, 8, 9, 10, 11, 12, 13, 14, 15] rfl hO)⟩) rfl ?_
          rintro vv H_109 ⟨Z_110, hz_111, hv, hO⟩
          obtain rfl := hv.symm
          replace hZ := fun b hb => hz_111 b (hZ b hb)
          replace hO : Own H_109 Z_110 (box b_85 [.int .i64 (((nAlt a b).1).States), v_78, v_79, v_80] 25 :: own fInt 3 v_78 (((nAlt a b).1).Starts) :: own fInt 3 v_79 (((nAlt a b).1).Ends) :: own fGEdge 69 v_80 (((nAlt a b).1).Edges) :: box b_76 [.int .i64 (((nCat a b).1).States), v_69, v_70, v_71] 25 :: own fInt 3 v_69 (((nCat a b).1).Starts) :: own fInt 3 v_70 (((nCat a b).1).Ends) :: own fGEdge 69 v_71 (((nCat a b).1).Edges) :: box b_16 [.int .i64 b.States, v_7, v_9, v_11] 25 :: box b_14 [.int .i64 a.States, v_1, v_3, v_5] 25 :: fz fGEdge.rep v_11 b.Edges :: fz fInt.rep v_9 b.Ends :: fz fInt.rep v_7 b.Starts :: fz fGEdge.rep v_5 a.Edges :: fz fInt.rep v_3 a.Ends :: fz fInt.rep v_1 a.Starts :: L) := hO
          refine hd_v rfl (fun H' hS => by obtain ⟨Z', hO⟩ := hS; exact (v_move rfl)) rfl ?_
          refine hd_g rfl rfl rfl (fun hg H' hS => by obtain ⟨Z', hO⟩ := hS; exact (v_loadA Try.isAgg25 Try.sizeOf25 rfl (Blk.at0 (hO.box 1 rfl)) rfl)) rfl ?_
          refine hd_g rfl rfl rfl (fun hg H' hS => by obtain ⟨Z', hO⟩ := hS; exact (v_move rfl)) rfl ?_
          refine hd_g rfl rfl rfl (fun hg H' hS => by obtain ⟨Z', hO⟩ := hS; exact (v_move rfl)) rfl ?_
          obtain ⟨Z_113, hz_112, hO⟩ := hO.freeze (i := 5) rfl
          replace hZ := fun b hb => hz_112 b (hZ b hb)
          replace hO : Own H_109 Z_113 (box b_85 [.int .i64 (((nAlt a b).1).States), v_78, v_79, v_80] 25 :: own fInt 3 v_78 (((nAlt a b).1).Starts) :: own fInt 3 v_79 (((nAlt a b).1).Ends) :: own fGEdge 69 v_80 (((nAlt a b).1).Edges) :: box b_76 [.int .i64 (((nCat a b).1).States), v_69, v_70, v_71] 25 :: fz fInt.rep v_69 (((nCat a b).1).Starts) :: own fInt 3 v_70 (((nCat a b).1).Ends) :: own fGEdge 69 v_71 (((nCat a b).1).Edges) :: box b_16 [.int .i64 b.States, v_7, v_9, v_11] 25 :: box b_14 [.int .i64 a.States, v_1, v_3, v_5] 25 :: fz fGEdge.rep v_11 b.Edges :: fz fInt.rep v_9 b.Ends :: fz fInt.rep v_7 b.Starts :: fz fGEdge.rep v_5 a.Edges :: fz fInt.rep v_3 a.Ends :: fz fInt.rep v_1 a.Starts :: L) := hO
          obtain ⟨Z_115, hz_114, hO⟩ := hO.freeze (i := 6) rfl
          replace hZ := fun b hb => hz_114 b (hZ b hb)
          replace hO : Own H_109 Z_115 (box b_85 [.int .i64 (((nAlt a b).1).States), v_78, v_79, v_80] 25 :: own fInt 3 v_78 (((nAlt a b).1).Starts) :: own fInt 3 v_79 (((nAlt a b).1).Ends) :: own fGEdge 69 v_80 (((nAlt a b).1).Edges) :: box b_76 [.int .i64 (((nCat a b).1).States), v_69, v_70, v_71] 25 :: fz fInt.rep v_69 (((nCat a b).1).Starts) :: fz fInt.rep v_70 (((nCat a b).1).Ends) :: own fGEdge 69 v_71 (((nCat a b).1).Edges) :: box b_16 [.int .i64 b.States, v_7, v_9, v_11] 25 :: box b_14 [.int .i64 a.States, v_1, v_3, v_5] 25 :: fz fGEdge.rep v_11 b.Edges :: fz fInt.rep v_9 b.Ends :: fz fInt.rep v_7 b.Starts :: fz fGEdge.rep v_5 a.Edges :: fz fInt.rep v_3 a.Ends :: fz fInt.rep v_1 a.Starts :: L) := hO
          obtain ⟨Z_117, hz_116, hO⟩ := hO.freeze (i := 7) rfl
          replace hZ := fun b hb => hz_116 b (hZ b hb)
          replace hO : Own H_109 Z_117 (box b_85 [.int .i64 (((nAlt a b).1).States), v_78, v_79, v_80] 25 :: own fInt 3 v_78 (((nAlt a b).1).Starts) :: own fInt 3 v_79 (((nAlt a b).1).Ends) :: own fGEdge 69 v_80 (((nAlt a b).1).Edges) :: box b_76 [.int .i64 (((nCat a b).1).States), v_69, v_70, v_71] 25 :: fz fInt.rep v_69 (((nCat a b).1).Starts) :: fz fInt.rep v_70 (((nCat a b).1).Ends) :: fz fGEdge.rep v_71 (((nCat a b).1).Edges) :: box b_16 [.int .i64 b.States, v_7, v_9, v_11] 25 :: box b_14 [.int .i64 a.States, v_1, v_3, v_5] 25 :: fz fGEdge.rep v_11 b.Edges :: fz fInt.rep v_9 b.Ends :: fz fInt.rep v_7 b.Starts :: fz fGEdge.rep v_5 a.Edges :: fz fInt.rep v_3 a.Ends :: fz fInt.rep v_1 a.Starts :: L) := hO
          obtain ⟨hs_118, h⟩ := h
          refine hd_gc (v := .bool (nTk ((nCat a b).1) w)) (R := fun H' => ∃ Z' : Nat → Prop, (∀ b, Z_117 b → Z' b) ∧ Own H' Z' (box b_85 [.int .i64 (((nAlt a b).1).States), v_78, v_79, v_80] 25 :: own fInt 3 v_78 (((nAlt a b).1).Starts) :: own fInt 3 v_79 (((nAlt a b).1).Ends) :: own fGEdge 69 v_80 (((nAlt a b).1).Edges) :: box b_76 [.int .i64 (((nCat a b).1).States), v_69, v_70, v_71] 25 :: fz fInt.rep v_69 (((nCat a b).1).Starts) :: fz fInt.rep v_70 (((nCat a b).1).Ends) :: fz fGEdge.rep v_71 (((nCat a b).1).Edges) :: box b_16 [.int .i64 b.States, v_7, v_9, v_11] 25 :: box b_14 [.int .i64 a.States, v_1, v_3, v_5] 25 :: fz fGEdge.rep v_11 b.Edges :: fz fInt.rep v_9 b.Ends :: fz fInt.rep v_7 b.Starts :: fz fGEdge.rep v_5 a.Edges :: fz fInt.rep v_3 a.Ends :: fz fInt.rep v_1 a.Starts :: L)) rfl rfl (fun hg => OpH.mono (h_call Try.call14 (evs_cons (gv_ok rfl hg) (evs_cons (gv_ok rfl hg) evs_nil)) (lTk_spec (a0 := ((nCat a b).1)) (a1 := w) (hs_118 (gb_bool hg)) hO (Fz.of (i := 5) rfl) (Fz.of (i := 6) rfl) (Fz.of (i := 7) rfl))) (by rintro _ H' ⟨Z', hz, rfl, hO⟩; exact ⟨rfl, Z', hz, hO⟩)) ⟨_, fun _ h => h, hO⟩ (fun H' hR => by obtain ⟨Z', _, hO⟩ := hR; exact ⟨Z', (Own.sel (Ls := [box b_85 [.int .i64 (((nAlt a b).1).States), v_78, v_79, v_80] 25, own fInt 3 v_78 (((nAlt a b).1).Starts), own fInt 3 v_79 (((nAlt a b).1).Ends), own fGEdge 69 v_80 (((nAlt a b).1).Edges), box b_76 [.int .i64 (((nCat a b).1).States), v_69, v_70, v_71] 25, fz fInt.rep v_69 (((nCat a b).1).Starts), fz fInt.rep v_70 (((nCat a b).1).Ends), fz fGEdge.rep v_71 (((nCat a b).1).Edges), box b_16 [.int .i64 b.States, v_7, v_9, v_11] 25, box b_14 [.int .i64 a.States, v_1, v_3, v_5] 25, fz fGEdge.rep v_11 b.Edges, fz fInt.rep v_9 b.Ends, fz fInt.rep v_7 b.Starts, fz fGEdge.rep v_5 a.Edges, fz fInt.rep v_3 a.Ends, fz fInt.rep v_1 a.Starts]) (L := L) [0, 4, 8, 9, 10, 11, 12, 13, 14, 15] rfl hO)⟩) rfl ?_
          rintro H_119 ⟨Z_120, hz_121, hO⟩
          replace hZ := fun b hb => hz_121 b (hZ b hb)
          replace hO : Own H_119 Z_120 (box b_85 [.int .i64 (((nAlt a b).1).States), v_78, v_79, v_80] 25 :: own fInt 3 v_78 (((nAlt a b).1).Starts) :: own fInt 3 v_79 (((nAlt a b).1).Ends) :: own fGEdge 69 v_80 (((nAlt a b).1).Edges) :: box b_76 [.int .i64 (((nCat a b).1).States), v_69, v_70, v_71] 25 :: fz fInt.rep v_69 (((nCat a b).1).Starts) :: fz fInt.rep v_70 (((nCat a b).1).Ends) :: fz fGEdge.rep v_71 (((nCat a b).1).Edges) :: box b_16 [.int .i64 b.States, v_7, v_9, v_11] 25 :: box b_14 [.int .i64 a.States, v_1, v_3, v_5] 25 :: fz fGEdge.rep v_11 b.Edges :: fz fInt.rep v_9 b.Ends :: fz fInt.rep v_7 b.Starts :: fz fGEdge.rep v_5 a.Edges :: fz fInt.rep v_3 a.Ends :: fz fInt.rep v_1 a.Starts :: L) := hO
          refine hd_g rfl rfl rfl (fun hg H' hS => by obtain ⟨Z', hO⟩ := hS; exact (v_eqlb Try.underlying4 (gv_ok rfl hg) (gv_ok rfl hg))) rfl ?_
          refine hd_v rfl (fun H' hS => by obtain ⟨Z', hO⟩ := hS; exact (v_and rfl rfl)) rfl ?_
          refine hd_v rfl (fun H' hS => by obtain ⟨Z', hO⟩ := hS; exact (v_move rfl)) rfl ?_
          refine hd_g rfl rfl rfl (fun hg H' hS => by obtain ⟨Z', hO⟩ := hS; exact (v_loadA Try.isAgg25 Try.sizeOf25 rfl (Blk.at0 (hO.box 0 rfl)) rfl)) rfl ?_
          refine hd_g rfl rfl rfl (fun hg H' hS => by obtain ⟨Z', hO⟩ := hS; exact (v_move rfl)) rfl ?_
          refine hd_g rfl rfl rfl (fun hg H' hS => by obtain ⟨Z', hO⟩ := hS; exact (v_loadA Try.isAgg25 Try.sizeOf25 rfl (Blk.at0 (hO.box 3 rfl)) rfl)) rfl ?_
          refine hd_g rfl rfl rfl (fun hg H' hS => by obtain ⟨Z', hO⟩ := hS; exact (v_move rfl)) rfl ?_
          obtain ⟨Z_123, hz_122, hO⟩ := hO.freeze (i := 1) rfl
          replace hZ := fun b hb => hz_122 b (hZ b hb)
          replace hO : Own H_119 Z_123 (box b_85 [.int .i64 (((nAlt a b).1).States), v_78, v_79, v_80] 25 :: fz fInt.rep v_78 (((nAlt a b).1).Starts) :: own fInt 3 v_79 (((nAlt a b).1).Ends) :: own fGEdge 69 v_80 (((nAlt a b).1).Edges) :: box b_76 [.int .i64 (((nCat a b).1).States), v_69, v_70, v_71] 25 :: fz fInt.rep v_69 (((nCat a b).1).Starts) :: fz fInt.rep v_70 (((nCat a b).1).Ends) :: fz fGEdge.rep v_71 (((nCat a b).1).Edges) :: box b_16 [.int .i64 b.States, v_7, v_9, v_11] 25 :: box b_14 [.int .i64 a.States, v_1, v_3, v_5] 25 :: fz fGEdge.rep v_11 b.Edges :: fz fInt.rep v_9 b.Ends :: fz fInt.rep v_7 b.Starts :: fz fGEdge.rep v_5 a.Edges :: fz fInt.rep v_3 a.Ends :: fz fInt.rep v_1 a.Starts :: L) := hO
          obtain ⟨Z_125, hz_124, hO⟩ := hO.freeze (i := 2) rfl
          replace hZ := fun b hb => hz_124 b (hZ b hb)
          replace hO : Own H_119 Z_125 (box b_85 [.int .i64 (((nAlt a b).1).States), v_78, v_79, v_80] 25 :: fz fInt.rep v_78 (((nAlt a b).1).Starts) :: fz fInt.rep v_79 (((nAlt a b).1).Ends) :: own fGEdge 69 v_80 (((nAlt a b).1).Edges) :: box b_76 [.int .i64 (((nCat a b).1).States), v_69, v_70, v_71] 25 :: fz fInt.rep v_69 (((nCat a b).1).Starts) :: fz fInt.rep v_70 (((nCat a b).1).Ends) :: fz fGEdge.rep v_71 (((nCat a b).1).Edges) :: box b_16 [.int .i64 b.States, v_7, v_9, v_11] 25 :: box b_14 [.int .i64 a.States, v_1, v_3, v_5] 25 :: fz fGEdge.rep v_11 b.Edges :: fz fInt.rep v_9 b.Ends :: fz fInt.rep v_7 b.Starts :: fz fGEdge.rep v_5 a.Edges :: fz fInt.rep v_3 a.Ends :: fz fInt.rep v_1 a.Starts :: L) := hO
          obtain ⟨Z_127, hz_126, hO⟩ := hO.freeze (i := 3) rfl
          replace hZ := fun b hb => hz_126 b (hZ b hb)
          replace hO : Own H_119 Z_127 (box b_85 [.int .i64 (((nAlt a b).1).States), v_78, v_79, v_80] 25 :: fz fInt.rep v_78 (((nAlt a b).1).Starts) :: fz fInt.rep v_79 (((nAlt a b).1).Ends) :: fz fGEdge.rep v_80 (((nAlt a b).1).Edges) :: box b_76 [.int .i64 (((nCat a b).1).States), v_69, v_70, v_71] 25 :: fz fInt.rep v_69 (((nCat a b).1).Starts) :: fz fInt.rep v_70 (((nCat a b).1).Ends) :: fz fGEdge.rep v_71 (((nCat a b).1).Edges) :: box b_16 [.int .i64 b.States, v_7, v_9, v_11] 25 :: box b_14 [.int .i64 a.States, v_1, v_3, v_5] 25 :: fz fGEdge.rep v_11 b.Edges :: fz fInt.rep v_9 b.Ends :: fz fInt.rep v_7 b.Starts :: fz fGEdge.rep v_5 a.Edges :: fz fInt.rep v_3 a.Ends :: fz fInt.rep v_1 a.Starts :: L) := hO
          obtain ⟨hs_128, h⟩ := h
          refine hd_gc (v := .bool (nTk ((nAlt a b).1) w)) (R := fun H' => ∃ Z' : Nat → Prop, (∀ b, Z_127 b → Z' b) ∧ Own H' Z' (box b_85 [.int .i64 (((nAlt a b).1).States), v_78, v_79, v_80] 25 :: fz fInt.rep v_78 (((nAlt a b).1).Starts) :: fz fInt.rep v_79 (((nAlt a b).1).Ends) :: fz fGEdge.rep v_80 (((nAlt a b).1).Edges) :: box b_76 [.int .i64 (((nCat a b).1).States), v_69, v_70, v_71] 25 :: fz fInt.rep v_69 (((nCat a b).1).Starts) :: fz fInt.rep v_70 (((nCat a b).1).Ends) :: fz fGEdge.rep v_71 (((nCat a b).1).Edges) :: box b_16 [.int .i64 b.States, v_7, v_9, v_11] 25 :: box b_14 [.int .i64 a.States, v_1, v_3, v_5] 25 :: fz fGEdge.rep v_11 b.Edges :: fz fInt.rep v_9 b.Ends :: fz fInt.rep v_7 b.Starts :: fz fGEdge.rep v_5 a.Edges :: fz fInt.rep v_3 a.Ends :: fz fInt.rep v_1 a.Starts :: L)) rfl rfl (fun hg => OpH.mono (h_call Try.call14 (evs_cons (gv_ok rfl hg) (evs_cons (gv_ok rfl hg) evs_nil)) (lTk_spec (a0 := ((nAlt a b).1)) (a1 := w) (hs_128 (gb_bool hg)) hO (Fz.of (i := 1) rfl) (Fz.of (i := 2) rfl) (Fz.of (i := 3) rfl))) (by rintro _ H' ⟨Z', hz, rfl, hO⟩; exact ⟨rfl, Z', hz, hO⟩)) ⟨_, fun _ h => h, hO⟩ (fun H' hR => by obtain ⟨Z', _, hO⟩ := hR; exact ⟨Z', (Own.sel (Ls := [box b_85 [.int .i64 (((nAlt a b).1).States), v_78, v_79, v_80] 25, fz fInt.rep v_78 (((nAlt a b).1).Starts), fz fInt.rep v_79 (((nAlt a b).1).Ends), fz fGEdge.rep v_80 (((nAlt a b).1).Edges), box b_76 [.int .i64 (((nCat a b).1).States), v_69, v_70, v_71] 25, fz fInt.rep v_69 (((nCat a b).1).Starts), fz fInt.rep v_70 (((nCat a b).1).Ends), fz fGEdge.rep v_71 (((nCat a b).1).Edges), box b_16 [.int .i64 b.States, v_7, v_9, v_11] 25, box b_14 [.int .i64 a.States, v_1, v_3, v_5] 25, fz fGEdge.rep v_11 b.Edges, fz fInt.rep v_9 b.Ends, fz fInt.rep v_7 b.Starts, fz fGEdge.rep v_5 a.Edges, fz fInt.rep v_3 a.Ends, fz fInt.rep v_1 a.Starts]) (L := L) [0, 4, 8, 9, 10, 11, 12, 13, 14, 15] rfl hO)⟩) rfl ?_
          rintro H_129 ⟨Z_130, hz_131, hO⟩
          replace hZ := fun b hb => hz_131 b (hZ b hb)
          replace hO : Own H_129 Z_130 (box b_85 [.int .i64 (((nAlt a b).1).States), v_78, v_79, v_80] 25 :: fz fInt.rep v_78 (((nAlt a b).1).Starts) :: fz fInt.rep v_79 (((nAlt a b).1).Ends) :: fz fGEdge.rep v_80 (((nAlt a b).1).Edges) :: box b_76 [.int .i64 (((nCat a b).1).States), v_69, v_70, v_71] 25 :: fz fInt.rep v_69 (((nCat a b).1).Starts) :: fz fInt.rep v_70 (((nCat a b).1).Ends) :: fz fGEdge.rep v_71 (((nCat a b).1).Edges) :: box b_16 [.int .i64 b.States, v_7, v_9, v_11] 25 :: box b_14 [.int .i64 a.States, v_1, v_3, v_5] 25 :: fz fGEdge.rep v_11 b.Edges :: fz fInt.rep v_9 b.Ends :: fz fInt.rep v_7 b.Starts :: fz fGEdge.rep v_5 a.Edges :: fz fInt.rep v_3 a.Ends :: fz fInt.rep v_1 a.Starts :: L) := hO
          obtain ⟨hs_132, h⟩ := h
          refine hd_gc (v := .bool (nTk a w)) (R := fun H' => ∃ Z' : Nat → Prop, (∀ b, Z_130 b → Z' b) ∧ Own H' Z' (box b_85 [.int .i64 (((nAlt a b).1).States), v_78, v_79, v_80] 25 :: fz fInt.rep v_78 (((nAlt a b).1).Starts) :: fz fInt.rep v_79 (((nAlt a b).1).Ends) :: fz fGEdge.rep v_80 (((nAlt a b).1).Edges) :: box b_76 [.int .i64 (((nCat a b).1).States), v_69, v_70, v_71] 25 :: fz fInt.rep v_69 (((nCat a b).1).Starts) :: fz fInt.rep v_70 (((nCat a b).1).Ends) :: fz fGEdge.rep v_71 (((nCat a b).1).Edges) :: box b_16 [.int .i64 b.States, v_7, v_9, v_11] 25 :: box b_14 [.int .i64 a.States, v_1, v_3, v_5] 25 :: fz fGEdge.rep v_11 b.Edges :: fz fInt.rep v_9 b.Ends :: fz fInt.rep v_7 b.Starts :: fz fGEdge.rep v_5 a.Edges :: fz fInt.rep v_3 a.Ends :: fz fInt.rep v_1 a.Starts :: L)) rfl rfl (fun hg => OpH.mono (h_call Try.call14 (evs_cons (gv_ok rfl hg) (evs_cons (gv_ok rfl hg) evs_nil)) (lTk_spec (a0 := a) (a1 := w) (hs_132 (gb_bool hg)) hO (Fz.of (i := 15) rfl) (Fz.of (i := 14) rfl) (Fz.of (i := 13) rfl))) (by rintro _ H' ⟨Z', hz, rfl, hO⟩; exact ⟨rfl, Z', hz, hO⟩)) ⟨_, fun _ h => h, hO⟩ (fun H' hR => by obtain ⟨Z', _, hO⟩ := hR; exact ⟨Z', (Own.sel (Ls := [box b_85 [.int .i64 (((nAlt a b).1).States), v_78, v_79, v_80] 25, fz fInt.rep v_78 (((nAlt a b).1).Starts), fz fInt.rep v_79 (((nAlt a b).1).Ends), fz fGEdge.rep v_80 (((nAlt a b).1).Edges), box b_76 [.int .i64 (((nCat a b).1).States), v_69, v_70, v_71] 25, fz fInt.rep v_69 (((nCat a b).1).Starts), fz fInt.rep v_70 (((nCat a b).1).Ends), fz fGEdge.rep v_71 (((nCat a b).1).Edges), box b_16 [.int .i64 b.States, v_7, v_9, v_11] 25, box b_14 [.int .i64 a.States, v_1, v_3, v_5] 25, fz fGEdge.rep v_11 b.Edges, fz fInt.rep v_9 b.Ends, fz fInt.rep v_7 b.Starts, fz fGEdge.rep v_5 a.Edges, fz fInt.rep v_3 a.Ends, fz fInt.rep v_1 a.Starts]) (L := L) [0, 4, 8, 9, 10, 11, 12, 13, 14, 15] rfl hO)⟩) rfl ?_
          rintro H_133 ⟨Z_134, hz_135, hO⟩
          replace hZ := fun b hb => hz_135 b (hZ b hb)
          replace hO : Own H_133 Z_134 (box b_85 [.int .i64 (((nAlt a b).1).States), v_78, v_79, v_80] 25 :: fz fInt.rep v_78 (((nAlt a b).1).Starts) :: fz fInt.rep v_79 (((nAlt a b).1).Ends) :: fz fGEdge.rep v_80 (((nAlt a b).1).Edges) :: box b_76 [.int .i64 (((nCat a b).1).States), v_69, v_70, v_71] 25 :: fz fInt.rep v_69 (((nCat a b).1).Starts) :: fz fInt.rep v_70 (((nCat a b).1).Ends) :: fz fGEdge.rep v_71 (((nCat a b).1).Edges) :: box b_16 [.int .i64 b.States, v_7, v_9, v_11] 25 :: box b_14 [.int .i64 a.States, v_1, v_3, v_5] 25 :: fz fGEdge.rep v_11 b.Edges :: fz fInt.rep v_9 b.Ends :: fz fInt.rep v_7 b.Starts :: fz fGEdge.rep v_5 a.Edges :: fz fInt.rep v_3 a.Ends :: fz fInt.rep v_1 a.Starts :: L) := hO
          refine hd_g rfl rfl rfl (fun hg H' hS => by obtain ⟨Z', hO⟩ := hS; exact (v_move (gv_ok rfl hg))) rfl ?_
          refine hd_g rfl rfl rfl (fun hg H' hS => by obtain ⟨Z', hO⟩ := hS; exact (v_loadA Try.isAgg25 Try.sizeOf25 rfl (Blk.at0 (hO.box 2 rfl)) rfl)) rfl ?_
          refine hd_g rfl rfl rfl (fun hg H' hS => by obtain ⟨Z', hO⟩ := hS; exact (v_move rfl)) rfl ?_
          obtain ⟨hs_136, h⟩ := h
          refine hd_gc (v := .bool (nTk b w)) (R := fun H' => ∃ Z' : Nat → Prop, (∀ b, Z_134 b → Z' b) ∧ Own H' Z' (box b_85 [.int .i64 (((nAlt a b).1).States), v_78, v_79, v_80] 25 :: fz fInt.rep v_78 (((nAlt a b).1).Starts) :: fz fInt.rep v_79 (((nAlt a b).1).Ends) :: fz fGEdge.rep v_80 (((nAlt a b).1).Edges) :: box b_76 [.int .i64 (((nCat a b).1).States), v_69, v_70, v_71] 25 :: fz fInt.rep v_69 (((nCat a b).1).Starts) :: fz fInt.rep v_70 (((nCat a b).1).Ends) :: fz fGEdge.rep v_71 (((nCat a b).1).Edges) :: box b_16 [.int .i64 b.States, v_7, v_9, v_11] 25 :: box b_14 [.int .i64 a.States, v_1, v_3, v_5] 25 :: fz fGEdge.rep v_11 b.Edges :: fz fInt.rep v_9 b.Ends :: fz fInt.rep v_7 b.Starts :: fz fGEdge.rep v_5 a.Edges :: fz fInt.rep v_3 a.Ends :: fz fInt.rep v_1 a.Starts :: L)) rfl rfl (fun hg => OpH.mono (h_call Try.call14 (evs_cons (gv_ok rfl hg) (evs_cons (gv_ok rfl hg) evs_nil)) (lTk_spec (a0 := b) (a1 := w) (hs_136 ⟨(gb_bool (gb_gv hg).2), (gb_bool (gb_gv hg).1)⟩) hO (Fz.of (i := 12) rfl) (Fz.of (i := 11) rfl) (Fz.of (i := 10) rfl))) (by rintro _ H' ⟨Z', hz, rfl, hO⟩; exact ⟨rfl, Z', hz, hO⟩)) ⟨_, fun _ h => h, hO⟩ (fun H' hR => by obtain ⟨Z', _, hO⟩ := hR; exact ⟨Z', (Own.sel (Ls := [box b_85 [.int .i64 (((nAlt a b).1).States), v_78, v_79, v_80] 25, fz fInt.rep v_78 (((nAlt a b).1).Starts), fz fInt.rep v_79 (((nAlt a b).1).Ends), fz fGEdge.rep v_80 (((nAlt a b).1).Edges), box b_76 [.int .i64 (((nCat a b).1).States), v_69, v_70, v_71] 25, fz fInt.rep v_69 (((nCat a b).1).Starts), fz fInt.rep v_70 (((nCat a b).1).Ends), fz fGEdge.rep v_71 (((nCat a b).1).Edges), box b_16 [.int .i64 b.States, v_7, v_9, v_11] 25, box b_14 [.int .i64 a.States, v_1, v_3, v_5] 25, fz fGEdge.rep v_11 b.Edges, fz fInt.rep v_9 b.Ends, fz fInt.rep v_7 b.Starts, fz fGEdge.rep v_5 a.Edges, fz fInt.rep v_3 a.Ends, fz fInt.rep v_1 a.Starts]) (L := L) [0, 4, 8, 9, 10, 11, 12, 13, 14, 15] rfl hO)⟩) rfl ?_
          rintro H_137 ⟨Z_138, hz_139, hO⟩
          replace hZ := fun b hb => hz_139 b (hZ b hb)
          replace hO : Own H_137 Z_138 (box b_85 [.int .i64 (((nAlt a b).1).States), v_78, v_79, v_80] 25 :: fz fInt.rep v_78 (((nAlt a b).1).Starts) :: fz fInt.rep v_79 (((nAlt a b).1).Ends) :: fz fGEdge.rep v_80 (((nAlt a b).1).Edges) :: box b_76 [.int .i64 (((nCat a b).1).States), v_69, v_70, v_71] 25 :: fz fInt.rep v_69 (((nCat a b).1).Starts) :: fz fInt.rep v_70 (((nCat a b).1).Ends) :: fz fGEdge.rep v_71 (((nCat a b).1).Edges) :: box b_16 [.int .i64 b.States, v_7, v_9, v_11] 25 :: box b_14 [.int .i64 a.States, v_1, v_3, v_5] 25 :: fz fGEdge.rep v_11 b.Edges :: fz fInt.rep v_9 b.Ends :: fz fInt.rep v_7 b.Starts :: fz fGEdge.rep v_5 a.Edges :: fz fInt.rep v_3 a.Ends :: fz fInt.rep v_1 a.Starts :: L) := hO
          refine hd_g rfl rfl rfl (fun hg H' hS => by obtain ⟨Z', hO⟩ := hS; exact (v_or (gv_ok rfl hg) (gvgb_ok rfl hg))) rfl ?_
          refine hd_g rfl rfl rfl (fun hg H' hS => by obtain ⟨Z', hO⟩ := hS; exact (v_eqlb Try.underlying4 (gv_ok rfl hg) (gv_ok rfl hg))) rfl ?_
          refine hd_v rfl (fun H' hS => by obtain ⟨Z', hO⟩ := hS; exact (v_and rfl rfl)) rfl ?_
          refine hd_nil ?_
          refine hd_h (OpV.toH (v_assign rfl)) (fun _ _ hR => trivial) rfl ?_
          rintro _ HH ⟨rfl, hHH⟩
          obtain rfl := hHH.symm
          refine hd_nil ?_
          refine thenQ_n ?_
          refine hw_sub _ (ai_cons (t := 10) rfl ai_nil) ?_
          refine hw_ret ?_
          refine ret_i _ (ra_t rfl ra_nil) ?_
          exact ⟨_, ((true && (nTk ((nCat a b).1) w == parted)) && (nTk ((nAlt a b).1) w == (nTk a w || nTk b w))), hZ, h, rfl, (Own.sel (Ls := [box b_85 [.int .i64 (((nAlt a b).1).States), v_78, v_79, v_80] 25, fz fInt.rep v_78 (((nAlt a b).1).Starts), fz fInt.rep v_79 (((nAlt a b).1).Ends), fz fGEdge.rep v_80 (((nAlt a b).1).Edges), box b_76 [.int .i64 (((nCat a b).1).States), v_69, v_70, v_71] 25, fz fInt.rep v_69 (((nCat a b).1).Starts), fz fInt.rep v_70 (((nCat a b).1).Ends), fz fGEdge.rep v_71 (((nCat a b).1).Edges), box b_16 [.int .i64 b.States, v_7, v_9, v_11] 25, box b_14 [.int .i64 a.States, v_1, v_3, v_5] 25, fz fGEdge.rep v_11 b.Edges, fz fInt.rep v_9 b.Ends, fz fInt.rep v_7 b.Starts, fz fGEdge.rep v_5 a.Edges, fz fInt.rep v_3 a.Ends, fz fInt.rep v_1 a.Starts]) (L := L) [] rfl hO)⟩
theorem lNfaParts_spec {a0 : GNfa} {a1 : GNfa} {a2 : List UInt8} {a3 : BSet} {a4 : List UInt8} {v_1 : Value} {v_3 : Value} {v_5 : Value} {v_7 : Value} {v_9 : Value} {v_11 : Value} {L : List As} (hp : (a0.Starts.length ≤ 17592186044416 ∧ a0.Ends.length ≤ 17592186044416) ∧ (a1.Starts.length ≤ 17592186044416 ∧ a1.Ends.length ≤ 17592186044416) ∧ a2.length ≤ 140737488351232 ∧ a4.length ≤ 140737488351232) {H : Heap} {Z : Nat → Prop} (hO : Own H Z (L)) (hf_2 : Fz fInt.rep L v_1 a0.Starts) (hf_4 : Fz fInt.rep L v_3 a0.Ends) (hf_6 : Fz fGEdge.rep L v_5 a0.Edges) (hf_8 : Fz fInt.rep L v_7 a1.Starts) (hf_10 : Fz fInt.rep L v_9 a1.Ends) (hf_12 : Fz fGEdge.rep L v_11 a1.Edges) : HC Try.prog 4 [.agg [.int .i64 a0.States, v_1, v_3, v_5].toArray, .agg [.int .i64 a1.States, v_7, v_9, v_11].toArray, str a2, sv a3, str a4] H (fun v H' => ∃ (Z' : Nat → Prop) , (∀ a1, Z a1 → Z' a1) ∧ v = .bool (true) ∧ Own H' Z' (L)) := by
  refine (lNfaParts_ok (a := a0) (b := a1) (s := a2) (t := a3) (w := a4) (@lNfaParts_wp a0 a1 a2 a3 a4 hp) hO hf_2 hf_4 hf_6 hf_8 hf_10 hf_12).mono ?_
  rintro v H' ⟨Z', r0, hz, hq, hv, hO'⟩
  obtain rfl := hq
  exact ⟨Z', hz, hv, hO'⟩

end Go.Proofs.Ytbaciogbhjcdoaa
