/- Walks: functions do as their plain formulas say. No condition. -/
import Derived.Test.YtbaciogbhjcdoaaProg
import Derived.Test.YtbaciogbhjcdoaaSep4
import Derived.Test.YtbaciogbhjcdoaaP10l
import Derived.Test.YtbaciogbhjcdoaaG10r
set_option linter.unusedVariables false
set_option linter.unusedSimpArgs false
set_option maxRecDepth 20000
namespace Go.Proofs.Ytbaciogbhjcdoaa
open Go.Proofs
theorem lTakes_ok {n : GNfa} {w : List UInt8} {v_1 : Value} {v_3 : Value} {v_5 : Value} {Q : Bool → Prop} {H : Heap} {Z : Nat → Prop} {L : List As} (h : wp_lTakes n w Q) (hO : Own H Z (L)) (hf_2 : Fz fInt.rep L v_1 n.Starts) (hf_4 : Fz fInt.rep L v_3 n.Ends) (hf_6 : Fz fGEdge.rep L v_5 n.Edges) : HC Try.prog 14 [.agg [.int .i64 n.States, v_1, v_3, v_5].toArray, str w] H (fun v H' => ∃ (Z' : Nat → Prop) (r0 : Bool) , (∀ b, Z b → Z' b) ∧ Q r0 ∧ v = .bool r0 ∧ Own H' Z' (L)) := by
  have hZ : ∀ b, Z b → Z b := fun _ h => h
  replace hO := Fz.item hf_2 hO
  replace hO := Fz.items [_] hf_4 hO
  replace hO := Fz.items [_, _] hf_6 hO
  unfold wp_lTakes at h
  refine hc_of_hw (N := 18) (rs := [(.tmp 4)]) Try.func14 rfl rfl rfl rfl ?_
  refine hw_seq ?_
  refine hw_region ?_
  refine hl_h (o_box (cs := [.int .i64 n.States, v_1, v_3, v_5]) hO rfl rfl) rfl ?_
  rintro _ H_7 ⟨b_8, rfl, hO⟩
  replace hO : Own H_7 Z (box b_8 [.int .i64 n.States, v_1, v_3, v_5] 25 :: fz fGEdge.rep v_5 n.Edges :: fz fInt.rep v_3 n.Ends :: fz fInt.rep v_1 n.Starts :: L) := hO
  refine hl_v (v_assign rfl) rfl ?_
  refine hl_nil ?_
  refine thenQ_n ?_
  refine hw_sub _ (ai_cons (t := 1) rfl (ai_cons (t := 2) rfl ai_nil)) ?_
  refine hw_seq ?_
  refine hw_region ?_
  refine hl_v (v_loadA Try.isAgg25 Try.sizeOf25 rfl (Blk.at0 (hO.box 0 rfl)) rfl) rfl ?_
  refine hl_v (v_move rfl) rfl ?_
  obtain ⟨hs_9, h⟩ := h
  refine hl_h (h_call Try.call10 (evs_cons rfl (evs_cons rfl evs_nil)) (nfaTakes_spec (a0 := n) (a1 := w) hs_9 hO (Fz.of (i := 3) rfl) (Fz.of (i := 2) rfl) (Fz.of (i := 1) rfl))) rfl ?_
  rintro vv H_10 ⟨Z_11, hz_12, hv, hO⟩
  obtain rfl := hv.symm
  replace hZ := fun b hb => hz_12 b (hZ b hb)
  replace hO : Own H_10 Z_11 (box b_8 [.int .i64 n.States, v_1, v_3, v_5] 25 :: fz fGEdge.rep v_5 n.Edges :: fz fInt.rep v_3 n.Ends :: fz fInt.rep v_1 n.Starts :: L) := hO
  refine hl_v (v_move rfl) rfl ?_
  refine hl_v (v_extract rfl rfl) rfl ?_
  refine hl_v (v_extract rfl rfl) rfl ?_
  refine hl_v (v_assign rfl) rfl ?_
  refine hl_v (v_assign rfl) rfl ?_
  refine hl_nil ?_
  refine thenQ_n ?_
  refine hw_sub _ (ai_cons (t := 5) rfl (ai_cons (t := 6) rfl ai_nil)) ?_
  refine hw_seq ?_
  refine hw_region ?_
  refine hl_v (v_move rfl) rfl ?_
  refine hl_v (v_move rfl) rfl ?_
  refine hl_g rfl rfl (fun hg => (v_move rfl)) rfl ?_
  refine hl_g rfl rfl (fun hg => (v_eql (gv_ok rfl hg) rfl)) rfl ?_
  refine hl_v (v_and rfl rfl) rfl ?_
  refine hl_v (v_assign rfl) rfl ?_
  refine hl_nil ?_
  refine thenQ_n ?_
  refine hw_sub _ (ai_cons (t := 4) rfl ai_nil) ?_
  refine hw_ret ?_
  refine ret_i _ (ra_t rfl ra_nil) ?_
  exact ⟨_, ((nTakes n w).1 && decide ((nTakes n w).2 = 0)), hZ, h, rfl, (Own.sel (Ls := [box b_8 [.int .i64 n.States, v_1, v_3, v_5] 25, fz fGEdge.rep v_5 n.Edges, fz fInt.rep v_3 n.Ends, fz fInt.rep v_1 n.Starts]) (L := L) [] rfl hO)⟩
theorem lTakes_spec {a0 : GNfa} {a1 : List UInt8} {v_1 : Value} {v_3 : Value} {v_5 : Value} {L : List As} (hp : a1.length ≤ 140737488351232) {H : Heap} {Z : Nat → Prop} (hO : Own H Z (L)) (hf_2 : Fz fInt.rep L v_1 a0.Starts) (hf_4 : Fz fInt.rep L v_3 a0.Ends) (hf_6 : Fz fGEdge.rep L v_5 a0.Edges) : HC Try.prog 14 [.agg [.int .i64 a0.States, v_1, v_3, v_5].toArray, str a1] H (fun v H' => ∃ (Z' : Nat → Prop) , (∀ b, Z b → Z' b) ∧ v = .bool ((nTakes a0 a1).1 && decide ((nTakes a0 a1).2 = 0)) ∧ Own H' Z' (L)) := by
  refine (lTakes_ok (n := a0) (w := a1) (@lTakes_wp a0 a1 hp) hO hf_2 hf_4 hf_6).mono ?_
  rintro v H' ⟨Z', r0, hz, hq, hv, hO'⟩
  obtain rfl := hq
  exact ⟨Z', hz, hv, hO'⟩

theorem lAwake_ok   {Q : Bool → Prop} {H : Heap} {Z : Nat → Prop} {L : List As} (h : wp_lAwake Q) (hO : Own H Z (L))  : HC Try.prog 12 [] H (fun v H' => ∃ (Z' : Nat → Prop) (r0 : Bool) , (∀ b, Z b → Z' b) ∧ Q r0 ∧ v = .bool r0 ∧ Own H' Z' (L)) := by
  have hZ : ∀ b, Z b → Z b := fun _ h => h
  unfold wp_lAwake at h
  refine hc_of_hw (N := 67) (rs := [(.tmp 0)]) Try.func12 rfl rfl rfl rfl ?_
  refine hw_seq ?_
  refine hw_region ?_
  refine hl_v (v_assign rfl) rfl ?_
  refine hl_nil ?_
  refine thenQ_n ?_
  refine hw_sub _ ai_nil ?_
  refine hw_seq ?_
  refine hw_region ?_
  refine hl_h (h_call Try.call13 (evs_cons (show _ = some (str [97, 98]) from rfl) evs_nil) (nfaText_spec (a0 := [97, 98]) hO)) rfl ?_
  rintro vv H_4 ⟨Z_5, v_1, v_2, v_3, hz_6, hv, hO⟩
  obtain rfl := hv.symm
  replace hZ := fun b hb => hz_6 b (hZ b hb)
  replace hO : Own H_4 Z_5 (own fInt 3 v_1 (((nText [97, 98]).1).Starts) :: own fInt 3 v_2 (((nText [97, 98]).1).Ends) :: own fGEdge 69 v_3 (((nText [97, 98]).1).Edges) :: L) := hO
  refine hl_v (v_move rfl) rfl ?_
  refine hl_v (v_extract rfl rfl) rfl ?_
  refine hl_v (v_extract rfl rfl) rfl ?_
  refine hl_h (o_alloc (cs := [.int .i64 (0 : Int), .slice none 0 0, .slice none 0 0, .slice none 0 0]) hO Try.zeroValue25 rfl) rfl ?_
  rintro _ H_7 ⟨b_8, rfl, hO⟩
  replace hO : Own H_7 Z_5 (box b_8 [.int .i64 (0 : Int), .slice none 0 0, .slice none 0 0, .slice none 0 0] 25 :: own fInt 3 v_1 (((nText [97, 98]).1).Starts) :: own fInt 3 v_2 (((nText [97, 98]).1).Ends) :: own fGEdge 69 v_3 (((nText [97, 98]).1).Edges) :: L) := hO
  refine hl_s (o_storeA (us := [.int .i64 (((nText [97, 98]).1).States), v_1, v_2, v_3]) hO 0 rfl Try.sizeOf25 rfl rfl rfl rfl (by simp only [List.forall_mem_cons]; exact ⟨rfl, (Sl.one (hO.osl 1 rfl)), (Sl.one (hO.osl 2 rfl)), (Sl.one (hO.osl 3 rfl)), by simp⟩)) ?_
  rintro _ H_9 hO
  replace hO : Own H_9 Z_5 (box b_8 [.int .i64 (((nText [97, 98]).1).States), v_1, v_2, v_3] 25 :: own fInt 3 v_1 (((nText [97, 98]).1).Starts) :: own fInt 3 v_2 (((nText [97, 98]).1).Ends) :: own fGEdge 69 v_3 (((nText [97, 98]).1).Edges) :: L) := hO
  refine hl_v (v_assign rfl) rfl ?_
  refine hl_nil ?_
  refine thenQ_n ?_
  refine hw_sub _ (ai_cons (t := 1) rfl (ai_cons (t := 2) rfl ai_nil)) ?_
  refine hw_seq ?_
  refine hw_region ?_
  refine hl_h (o_lit (g := fByte) (l := [99]) (xs := [_]) hO Try.underlying94 Try.sizeOf5 Try.zeroValue5 rfl (evs_cons (show _ = some (.int .u8 99) from rfl) evs_nil) rfl rfl rfl rfl rfl) rfl ?_
  rintro v_11 H_10 hO
  replace hO : Own H_10 Z_5 (own fByte 5 v_11 [99] :: box b_8 [.int .i64 (((nText [97, 98]).1).States), v_1, v_2, v_3] 25 :: own fInt 3 v_1 (((nText [97, 98]).1).Starts) :: own fInt 3 v_2 (((nText [97, 98]).1).Ends) :: own fGEdge 69 v_3 (((nText [97, 98]).1).Edges) :: L) := hO
  refine hl_h (h_call Try.call42 (evs_cons rfl evs_nil) (setOf_spec (a0 := [99]) hO (Rd.of_own (i := 0) rfl))) rfl ?_
  rintro vv H_12 ⟨Z_13, hz_14, hv, hO⟩
  obtain rfl := hv.symm
  replace hZ := fun b hb => hz_14 b (hZ b hb)
  replace hO : Own H_12 Z_13 (own fByte 5 v_11 [99] :: box b_8 [.int .i64 (((nText [97, 98]).1).States), v_1, v_2, v_3] 25 :: own fInt 3 v_1 (((nText [97, 98]).1).Starts) :: own fInt 3 v_2 (((nText [97, 98]).1).Ends) :: own fGEdge 69 v_3 (((nText [97, 98]).1).Edges) :: L) := hO
  refine hl_h (h_call Try.call15 (evs_cons rfl evs_nil) (nfaSet_spec (a0 := BSet.ofL [99]) hO)) rfl ?_
  rintro vv H_18 ⟨Z_19, v_15, v_16, v_17, hz_20, hv, hO⟩
  obtain rfl := hv.symm
  replace hZ := fun b hb => hz_20 b (hZ b hb)
  replace hO : Own H_18 Z_19 (own fInt 3 v_15 ((nSet (BSet.ofL [99])).Starts) :: own fInt 3 v_16 ((nSet (BSet.ofL [99])).Ends) :: own fGEdge 69 v_17 ((nSet (BSet.ofL [99])).Edges) :: own fByte 5 v_11 [99] :: box b_8 [.int .i64 (((nText [97, 98]).1).States), v_1, v_2, v_3] 25 :: own fInt 3 v_1 (((nText [97, 98]).1).Starts) :: own fInt 3 v_2 (((nText [97, 98]).1).Ends) :: own fGEdge 69 v_3 (((nText [97, 98]).1).Edges) :: L) := hO
  obtain ⟨Z_22, hz_21, hO⟩ := hO.freeze (i := 0) rfl
  replace hZ := fun b hb => hz_21 b (hZ b hb)
  replace hO : Own H_18 Z_22 (fz fInt.rep v_15 ((nSet (BSet.ofL [99])).Starts) :: own fInt 3 v_16 ((nSet (BSet.ofL [99])).Ends) :: own fGEdge 69 v_17 ((nSet (BSet.ofL [99])).Edges) :: own fByte 5 v_11 [99] :: box b_8 [.int .i64 (((nText [97, 98]).1).States), v_1, v_2, v_3] 25 :: own fInt 3 v_1 (((nText [97, 98]).1).Starts) :: own fInt 3 v_2 (((nText [97, 98]).1).Ends) :: own fGEdge 69 v_3 (((nText [97, 98]).1).Edges) :: L) := hO
  obtain ⟨Z_24, hz_23, hO⟩ := hO.freeze (i := 1) rfl
  replace hZ := fun b hb => hz_23 b (hZ b hb)
  replace hO : Own H_18 Z_24 (fz fInt.rep v_15 ((nSet (BSet.ofL [99])).Starts) :: fz fInt.rep v_16 ((nSet (BSet.ofL [99])).Ends) :: own fGEdge 69 v_17 ((nSet (BSet.ofL [99])).Edges) :: own fByte 5 v_11 [99] :: box b_8 [.int .i64 (((nText [97, 98]).1).States), v_1, v_2, v_3] 25 :: own fInt 3 v_1 (((nText [97, 98]).1).Starts) :: own fInt 3 v_2 (((nText [97, 98]).1).Ends) :: own fGEdge 69 v_3 (((nText [97, 98]).1).Edges) :: L) := hO
  obtain ⟨Z_26, hz_25, hO⟩ := hO.freeze (i := 2) rfl
  replace hZ := fun b hb => hz_25 b (hZ b hb)
  replace hO : Own H_18 Z_26 (fz fInt.rep v_15 ((nSet (BSet.ofL [99])).Starts) :: fz fInt.rep v_16 ((nSet (BSet.ofL [99])).Ends) :: fz fGEdge.rep v_17 ((nSet (BSet.ofL [99])).Edges) :: own fByte 5 v_11 [99] :: box b_8 [.int .i64 (((nText [97, 98]).1).States), v_1, v_2, v_3] 25 :: own fInt 3 v_1 (((nText [97, 98]).1).Starts) :: own fInt 3 v_2 (((nText [97, 98]).1).Ends) :: own fGEdge 69 v_3 (((nText [97, 98]).1).Edges) :: L) := hO
  refine hl_h (h_call Try.call22 (evs_cons rfl evs_nil) (nfaStar_spec (a0 := (nSet (BSet.ofL [99]))) hO (Fz.of (i := 0) rfl) (Fz.of (i := 1) rfl) (Fz.of (i := 2) rfl))) rfl ?_
  rintro vv H_30 ⟨Z_31, v_27, v_28, v_29, hz_32, hv, hO⟩
  obtain rfl := hv.symm
  replace hZ := fun b hb => hz_32 b (hZ b hb)
  replace hO : Own H_30 Z_31 (own fInt 3 v_27 (((nStar (nSet (BSet.ofL [99]))).1).Starts) :: own fInt 3 v_28 (((nStar (nSet (BSet.ofL [99]))).1).Ends) :: own fGEdge 69 v_29 (((nStar (nSet (BSet.ofL [99]))).1).Edges) :: fz fInt.rep v_15 ((nSet (BSet.ofL [99])).Starts) :: fz fInt.rep v_16 ((nSet (BSet.ofL [99])).Ends) :: fz fGEdge.rep v_17 ((nSet (BSet.ofL [99])).Edges) :: own fByte 5 v_11 [99] :: box b_8 [.int .i64 (((nText [97, 98]).1).States), v_1, v_2, v_3] 25 :: own fInt 3 v_1 (((nText [97, 98]).1).Starts) :: own fInt 3 v_2 (((nText [97, 98]).1).Ends) :: own fGEdge 69 v_3 (((nText [97, 98]).1).Edges) :: L) := hO
  refine hl_v (v_move rfl) rfl ?_
  refine hl_v (v_extract rfl rfl) rfl ?_
  refine hl_v (v_extract rfl rfl) rfl ?_
  refine hl_h (o_alloc (cs := [.int .i64 (0 : Int), .slice none 0 0, .slice none 0 0, .slice none 0 0]) hO Try.zeroValue25 rfl) rfl ?_
  rintro _ H_33 ⟨b_34, rfl, hO⟩
  replace hO : Own H_33 Z_31 (box b_34 [.int .i64 (0 : Int), .slice none 0 0, .slice none 0 0, .slice none 0 0] 25 :: own fInt 3 v_27 (((nStar (nSet (BSet.ofL [99]))).1).Starts) :: own fInt 3 v_28 (((nStar (nSet (BSet.ofL [99]))).1).Ends) :: own fGEdge 69 v_29 (((nStar (nSet (BSet.ofL [99]))).1).Edges) :: fz fInt.rep v_15 ((nSet (BSet.ofL [99])).Starts) :: fz fInt.rep v_16 ((nSet (BSet.ofL [99])).Ends) :: fz fGEdge.rep v_17 ((nSet (BSet.ofL [99])).Edges) :: own fByte 5 v_11 [99] :: box b_8 [.int .i64 (((nText [97, 98]).1).States), v_1, v_2, v_3] 25 :: own fInt 3 v_1 (((nText [97, 98]).1).Starts) :: own fInt 3 v_2 (((nText [97, 98]).1).Ends) :: own fGEdge 69 v_3 (((nText [97, 98]).1).Edges) :: L) := hO
  refine hl_s (o_storeA (us := [.int .i64 (((nStar (nSet (BSet.ofL [99]))).1).States), v_27, v_28, v_29]) hO 0 rfl Try.sizeOf25 rfl rfl rfl rfl (by simp only [List.forall_mem_cons]; exact ⟨rfl, (Sl.one (hO.osl 1 rfl)), (Sl.one (hO.osl 2 rfl)), (Sl.one (hO.osl 3 rfl)), by simp⟩)) ?_
  rintro _ H_35 hO
  replace hO : Own H_35 Z_31 (box b_34 [.int .i64 (((nStar (nSet (BSet.ofL [99]))).1).States), v_27, v_28, v_29] 25 :: own fInt 3 v_27 (((nStar (nSet (BSet.ofL [99]))).1).Starts) :: own fInt 3 v_28 (((nStar (nSet (BSet.ofL [99]))).1).Ends) :: own fGEdge 69 v_29 (((nStar (nSet (BSet.ofL [99]))).1).Edges) :: fz fInt.rep v_15 ((nSet (BSet.ofL [99])).Starts) :: fz fInt.rep v_16 ((nSet (BSet.ofL [99])).Ends) :: fz fGEdge.rep v_17 ((nSet (BSet.ofL [99])).Edges) :: own fByte 5 v_11 [99] :: box b_8 [.int .i64 (((nText [97, 98]).1).States), v_1, v_2, v_3] 25 :: own fInt 3 v_1 (((nText [97, 98]).1).Starts) :: own fInt 3 v_2 (((nText [97, 98]).1).Ends) :: own fGEdge 69 v_3 (((nText [97, 98]).1).Edges) :: L) := hO
  refine hl_v (v_assign rfl) rfl ?_
  refine hl_nil ?_
  refine thenQ_n ?_
  refine hw_sub _ (ai_cons (t := 1) rfl (ai_cons (t := 2) rfl (ai_cons (t := 3) rfl (ai_cons (t := 4) rfl ai_nil)))) ?_
  refine hw_seq ?_
  refine hw_region ?_
  refine hl_v (v_loadA Try.isAgg25 Try.sizeOf25 rfl (Blk.at0 (hO.box 8 rfl)) rfl) rfl ?_
  refine hl_v (v_loadA Try.isAgg25 Try.sizeOf25 rfl (Blk.at0 (hO.box 0 rfl)) rfl) rfl ?_
  obtain ⟨Z_37, hz_36, hO⟩ := hO.freeze (i := 9) rfl
  replace hZ := fun b hb => hz_36 b (hZ b hb)
  replace hO : Own H_35 Z_37 (box b_34 [.int .i64 (((nStar (nSet (BSet.ofL [99]))).1).States), v_27, v_28, v_29] 25 :: own fInt 3 v_27 (((nStar (nSet (BSet.ofL [99]))).1).Starts) :: own fInt 3 v_28 (((nStar (nSet (BSet.ofL [99]))).1).Ends) :: own fGEdge 69 v_29 (((nStar (nSet (BSet.ofL [99]))).1).Edges) :: fz fInt.rep v_15 ((nSet (BSet.ofL [99])).Starts) :: fz fInt.rep v_16 ((nSet (BSet.ofL [99])).Ends) :: fz fGEdge.rep v_17 ((nSet (BSet.ofL [99])).Edges) :: own fByte 5 v_11 [99] :: box b_8 [.int .i64 (((nText [97, 98]).1).States), v_1, v_2, v_3] 25 :: fz fInt.rep v_1 (((nText [97, 98]).1).Starts) :: own fInt 3 v_2 (((nText [97, 98]).1).Ends) :: own fGEdge 69 v_3 (((nText [97, 98]).1).Edges) :: L) := hO
  obtain ⟨Z_39, hz_38, hO⟩ := hO.freeze (i := 10) rfl
  replace hZ := fun b hb => hz_38 b (hZ b hb)
  replace hO : Own H_35 Z_39 (box b_34 [.int .i64 (((nStar (nSet (BSet.ofL [99]))).1).States), v_27, v_28, v_29] 25 :: own fInt 3 v_27 (((nStar (nSet (BSet.ofL [99]))).1).Starts) :: own fInt 3 v_28 (((nStar (nSet (BSet.ofL [99]))).1).Ends) :: own fGEdge 69 v_29 (((nStar (nSet (BSet.ofL [99]))).1).Edges) :: fz fInt.rep v_15 ((nSet (BSet.ofL [99])).Starts) :: fz fInt.rep v_16 ((nSet (BSet.ofL [99])).Ends) :: fz fGEdge.rep v_17 ((nSet (BSet.ofL [99])).Edges) :: own fByte 5 v_11 [99] :: box b_8 [.int .i64 (((nText [97, 98]).1).States), v_1, v_2, v_3] 25 :: fz fInt.rep v_1 (((nText [97, 98]).1).Starts) :: fz fInt.rep v_2 (((nText [97, 98]).1).Ends) :: own fGEdge 69 v_3 (((nText [97, 98]).1).Edges) :: L) := hO
  obtain ⟨Z_41, hz_40, hO⟩ := hO.freeze (i := 11) rfl
  replace hZ := fun b hb => hz_40 b (hZ b hb)
  replace hO : Own H_35 Z_41 (box b_34 [.int .i64 (((nStar (nSet (BSet.ofL [99]))).1).States), v_27, v_28, v_29] 25 :: own fInt 3 v_27 (((nStar (nSet (BSet.ofL [99]))).1).Starts) :: own fInt 3 v_28 (((nStar (nSet (BSet.ofL [99]))).1).Ends) :: own fGEdge 69 v_29 (((nStar (nSet (BSet.ofL [99]))).1).Edges) :: fz fInt.rep v_15 ((nSet (BSet.ofL [99])).Starts) :: fz fInt.rep v_16 ((nSet (BSet.ofL [99])).Ends) :: fz fGEdge.rep v_17 ((nSet (BSet.ofL [99])).Edges) :: own fByte 5 v_11 [99] :: box b_8 [.int .i64 (((nText [97, 98]).1).States), v_1, v_2, v_3] 25 :: fz fInt.rep v_1 (((nText [97, 98]).1).Starts) :: fz fInt.rep v_2 (((nText [97, 98]).1).Ends) :: fz fGEdge.rep v_3 (((nText [97, 98]).1).Edges) :: L) := hO
  obtain ⟨Z_43, hz_42, hO⟩ := hO.freeze (i := 1) rfl
  replace hZ := fun b hb => hz_42 b (hZ b hb)
  replace hO : Own H_35 Z_43 (box b_34 [.int .i64 (((nStar (nSet (BSet.ofL [99]))).1).States), v_27, v_28, v_29] 25 :: fz fInt.rep v_27 (((nStar (nSet (BSet.ofL [99]))).1).Starts) :: own fInt 3 v_28 (((nStar (nSet (BSet.ofL [99]))).1).Ends) :: own fGEdge 69 v_29 (((nStar (nSet (BSet.ofL [99]))).1).Edges) :: fz fInt.rep v_15 ((nSet (BSet.ofL [99])).Starts) :: fz fInt.rep v_16 ((nSet (BSet.ofL [99])).Ends) :: fz fGEdge.rep v_17 ((nSet (BSet.ofL [99])).Edges) :: own fByte 5 v_11 [99] :: box b_8 [.int .i64 (((nText [97, 98]).1).States), v_1, v_2, v_3] 25 :: fz fInt.rep v_1 (((nText [97, 98]).1).Starts) :: fz fInt.rep v_2 (((nText [97, 98]).1).Ends) :: fz fGEdge.rep v_3 (((nText [97, 98]).1).Edges) :: L) := hO
  obtain ⟨Z_45, hz_44, hO⟩ := hO.freeze (i := 2) rfl
  replace hZ := fun b hb => hz_44 b (hZ b hb)
  replace hO : Own H_35 Z_45 (box b_34 [.int .i64 (((nStar (nSet (BSet.ofL [99]))).1).States), v_27, v_28, v_29] 25 :: fz fInt.rep v_27 (((nStar (nSet (BSet.ofL [99]))).1).Starts) :: fz fInt.rep v_28 (((nStar (nSet (BSet.ofL [99]))).1).Ends) :: own fGEdge 69 v_29 (((nStar (nSet (BSet.ofL [99]))).1).Edges) :: fz fInt.rep v_15 ((nSet (BSet.ofL [99])).Starts) :: fz fInt.rep v_16 ((nSet (BSet.ofL [99])).Ends) :: fz fGEdge.rep v_17 ((nSet (BSet.ofL [99])).Edges) :: own fByte 5 v_11 [99] :: box b_8 [.int .i64 (((nText [97, 98]).1).States), v_1, v_2, v_3] 25 :: fz fInt.rep v_1 (((nText [97, 98]).1).Starts) :: fz fInt.rep v_2 (((nText [97, 98]).1).Ends) :: fz fGEdge.rep v_3 (((nText [97, 98]).1).Edges) :: L) := hO
  obtain ⟨Z_47, hz_46, hO⟩ := hO.freeze (i := 3) rfl
  replace hZ := fun b hb => hz_46 b (hZ b hb)
  replace hO : Own H_35 Z_47 (box b_34 [.int .i64 (((nStar (nSet (BSet.ofL [99]))).1).States), v_27, v_28, v_29] 25 :: fz fInt.rep v_27 (((nStar (nSet (BSet.ofL [99]))).1).Starts) :: fz fInt.rep v_28 (((nStar (nSet (BSet.ofL [99]))).1).Ends) :: fz fGEdge.rep v_29 (((nStar (nSet (BSet.ofL [99]))).1).Edges) :: fz fInt.rep v_15 ((nSet (BSet.ofL [99])).Starts) :: fz fInt.rep v_16 ((nSet (BSet.ofL [99])).Ends) :: fz fGEdge.rep v_17 ((nSet (BSet.ofL [99])).Edges) :: own fByte 5 v_11 [99] :: box b_8 [.int .i64 (((nText [97, 98]).1).States), v_1, v_2, v_3] 25 :: fz fInt.rep v_1 (((nText [97, 98]).1).Starts) :: fz fInt.rep v_2 (((nText [97, 98]).1).Ends) :: fz fGEdge.rep v_3 (((nText [97, 98]).1).Edges) :: L) := hO
  refine hl_h (h_call Try.call17 (evs_cons rfl (evs_cons rfl evs_nil)) (nfaCat_spec (a0 := ((nText [97, 98]).1)) (a1 := ((nStar (nSet (BSet.ofL [99]))).1)) hO (Fz.of (i := 9) rfl) (Fz.of (i := 10) rfl) (Fz.of (i := 11) rfl) (Fz.of (i := 1) rfl) (Fz.of (i := 2) rfl) (Fz.of (i := 3) rfl))) rfl ?_
  rintro vv H_51 ⟨Z_52, v_48, v_49, v_50, hz_53, hv, hO⟩
  obtain rfl := hv.symm
  replace hZ := fun b hb => hz_53 b (hZ b hb)
  replace hO : Own H_51 Z_52 (own fInt 3 v_48 (((nCat ((nText [97, 98]).1) ((nStar (nSet (BSet.ofL [99]))).1)).1).Starts) :: own fInt 3 v_49 (((nCat ((nText [97, 98]).1) ((nStar (nSet (BSet.ofL [99]))).1)).1).Ends) :: own fGEdge 69 v_50 (((nCat ((nText [97, 98]).1) ((nStar (nSet (BSet.ofL [99]))).1)).1).Edges) :: box b_34 [.int .i64 (((nStar (nSet (BSet.ofL [99]))).1).States), v_27, v_28, v_29] 25 :: fz fInt.rep v_27 (((nStar (nSet (BSet.ofL [99]))).1).Starts) :: fz fInt.rep v_28 (((nStar (nSet (BSet.ofL [99]))).1).Ends) :: fz fGEdge.rep v_29 (((nStar (nSet (BSet.ofL [99]))).1).Edges) :: fz fInt.rep v_15 ((nSet (BSet.ofL [99])).Starts) :: fz fInt.rep v_16 ((nSet (BSet.ofL [99])).Ends) :: fz fGEdge.rep v_17 ((nSet (BSet.ofL [99])).Edges) :: own fByte 5 v_11 [99] :: box b_8 [.int .i64 (((nText [97, 98]).1).States), v_1, v_2, v_3] 25 :: fz fInt.rep v_1 (((nText [97, 98]).1).Starts) :: fz fInt.rep v_2 (((nText [97, 98]).1).Ends) :: fz fGEdge.rep v_3 (((nText [97, 98]).1).Edges) :: L) := hO
  refine hl_v (v_move rfl) rfl ?_
  refine hl_v (v_extract rfl rfl) rfl ?_
  refine hl_v (v_extract rfl rfl) rfl ?_
  refine hl_h (o_alloc (cs := [.int .i64 (0 : Int), .slice none 0 0, .slice none 0 0, .slice none 0 0]) hO Try.zeroValue25 rfl) rfl ?_
  rintro _ H_54 ⟨b_55, rfl, hO⟩
  replace hO : Own H_54 Z_52 (box b_55 [.int .i64 (0 : Int), .slice none 0 0, .slice none 0 0, .slice none 0 0] 25 :: own fInt 3 v_48 (((nCat ((nText [97, 98]).1) ((nStar (nSet (BSet.ofL [99]))).1)).1).Starts) :: own fInt 3 v_49 (((nCat ((nText [97, 98]).1) ((nStar (nSet (BSet.ofL [99]))).1)).1).Ends) :: own fGEdge 69 v_50 (((nCat ((nText [97, 98]).1) ((nStar (nSet (BSet.ofL [99]))).1)).1).Edges) :: box b_34 [.int .i64 (((nStar (nSet (BSet.ofL [99]))).1).States), v_27, v_28, v_29] 25 :: fz fInt.rep v_27 (((nStar (nSet (BSet.ofL [99]))).1).Starts) :: fz fInt.rep v_28 (((nStar (nSet (BSet.ofL [99]))).1).Ends) :: fz fGEdge.rep v_29 (((nStar (nSet (BSet.ofL [99]))).1).Edges) :: fz fInt.rep v_15 ((nSet (BSet.ofL [99])).Starts) :: fz fInt.rep v_16 ((nSet (BSet.ofL [99])).Ends) :: fz fGEdge.rep v_17 ((nSet (BSet.ofL [99])).Edges) :: own fByte 5 v_11 [99] :: box b_8 [.int .i64 (((nText [97, 98]).1).States), v_1, v_2, v_3] 25 :: fz fInt.rep v_1 (((nText [97, 98]).1).Starts) :: fz fInt.rep v_2 (((nText [97, 98]).1).Ends) :: fz fGEdge.rep v_3 (((nText [97, 98]).1).Edges) :: L) := hO
  refine hl_s (o_storeA (us := [.int .i64 (((nCat ((nText [97, 98]).1) ((nStar (nSet (BSet.ofL [99]))).1)).1).States), v_48, v_49, v_50]) hO 0 rfl Try.sizeOf25 rfl rfl rfl rfl (by simp only [List.forall_mem_cons]; exact ⟨rfl, (Sl.one (hO.osl 1 rfl)), (Sl.one (hO.osl 2 rfl)), (Sl.one (hO.osl 3 rfl)), by simp⟩)) ?_
  rintro _ H_56 hO
  replace hO : Own H_56 Z_52 (box b_55 [.int .i64 (((nCat ((nText [97, 98]).1) ((nStar (nSet (BSet.ofL [99]))).1)).1).States), v_48, v_49, v_50] 25 :: own fInt 3 v_48 (((nCat ((nText [97, 98]).1) ((nStar (nSet (BSet.ofL [99]))).1)).1).Starts) :: own fInt 3 v_49 (((nCat ((nText [97, 98]).1) ((nStar (nSet (BSet.ofL [99]))).1)).1).Ends) :: own fGEdge 69 v_50 (((nCat ((nText [97, 98]).1) ((nStar (nSet (BSet.ofL [99]))).1)).1).Edges) :: box b_34 [.int .i64 (((nStar (nSet (BSet.ofL [99]))).1).States), v_27, v_28, v_29] 25 :: fz fInt.rep v_27 (((nStar (nSet (BSet.ofL [99]))).1).Starts) :: fz fInt.rep v_28 (((nStar (nSet (BSet.ofL [99]))).1).Ends) :: fz fGEdge.rep v_29 (((nStar (nSet (BSet.ofL [99]))).1).Edges) :: fz fInt.rep v_15 ((nSet (BSet.ofL [99])).Starts) :: fz fInt.rep v_16 ((nSet (BSet.ofL [99])).Ends) :: fz fGEdge.rep v_17 ((nSet (BSet.ofL [99])).Edges) :: own fByte 5 v_11 [99] :: box b_8 [.int .i64 (((nText [97, 98]).1).States), v_1, v_2, v_3] 25 :: fz fInt.rep v_1 (((nText [97, 98]).1).Starts) :: fz fInt.rep v_2 (((nText [97, 98]).1).Ends) :: fz fGEdge.rep v_3 (((nText [97, 98]).1).Edges) :: L) := hO
  refine hl_v (v_assign rfl) rfl ?_
  refine hl_nil ?_
  refine thenQ_n ?_
  refine hw_sub _ (ai_cons (t := 2) rfl (ai_cons (t := 4) rfl (ai_cons (t := 5) rfl (ai_cons (t := 6) rfl ai_nil)))) ?_
  refine hw_seq ?_
  refine hw_region ?_
  refine hl_v (v_loadA Try.isAgg25 Try.sizeOf25 rfl (Blk.at0 (hO.box 0 rfl)) rfl) rfl ?_
  obtain ⟨Z_58, hz_57, hO⟩ := hO.freeze (i := 1) rfl
  replace hZ := fun b hb => hz_57 b (hZ b hb)
  replace hO : Own H_56 Z_58 (box b_55 [.int .i64 (((nCat ((nText [97, 98]).1) ((nStar (nSet (BSet.ofL [99]))).1)).1).States), v_48, v_49, v_50] 25 :: fz fInt.rep v_48 (((nCat ((nText [97, 98]).1) ((nStar (nSet (BSet.ofL [99]))).1)).1).Starts) :: own fInt 3 v_49 (((nCat ((nText [97, 98]).1) ((nStar (nSet (BSet.ofL [99]))).1)).1).Ends) :: own fGEdge 69 v_50 (((nCat ((nText [97, 98]).1) ((nStar (nSet (BSet.ofL [99]))).1)).1).Edges) :: box b_34 [.int .i64 (((nStar (nSet (BSet.ofL [99]))).1).States), v_27, v_28, v_29] 25 :: fz fInt.rep v_27 (((nStar (nSet (BSet.ofL [99]))).1).Starts) :: fz fInt.rep v_28 (((nStar (nSet (BSet.ofL [99]))).1).Ends) :: fz fGEdge.rep v_29 (((nStar (nSet (BSet.ofL [99]))).1).Edges) :: fz fInt.rep v_15 ((nSet (BSet.ofL [99])).Starts) :: fz fInt.rep v_16 ((nSet (BSet.ofL [99])).Ends) :: fz fGEdge.rep v_17 ((nSet (BSet.ofL [99])).Edges) :: own fByte 5 v_11 [99] :: box b_8 [.int .i64 (((nText [97, 98]).1).States), v_1, v_2, v_3] 25 :: fz fInt.rep v_1 (((nText [97, 98]).1).Starts) :: fz fInt.rep v_2 (((nText [97, 98]).1).Ends) :: fz fGEdge.rep v_3 (((nText [97, 98]).1).Edges) :: L) := hO
  obtain ⟨Z_60, hz_59, hO⟩ := hO.freeze (i := 2) rfl
  replace hZ := fun b hb => hz_59 b (hZ b hb)
  replace hO : Own H_56 Z_60 (box b_55 [.int .i64 (((nCat ((nText [97, 98]).1) ((nStar (nSet (BSet.ofL [99]))).1)).1).States), v_48, v_49, v_50] 25 :: fz fInt.rep v_48 (((nCat ((nText [97, 98]).1) ((nStar (nSet (BSet.ofL [99]))).1)).1).Starts) :: fz fInt.rep v_49 (((nCat ((nText [97, 98]).1) ((nStar (nSet (BSet.ofL [99]))).1)).1).Ends) :: own fGEdge 69 v_50 (((nCat ((nText [97, 98]).1) ((nStar (nSet (BSet.ofL [99]))).1)).1).Edges) :: box b_34 [.int .i64 (((nStar (nSet (BSet.ofL [99]))).1).States), v_27, v_28, v_29] 25 :: fz fInt.rep v_27 (((nStar (nSet (BSet.ofL [99]))).1).Starts) :: fz fInt.rep v_28 (((nStar (nSet (BSet.ofL [99]))).1).Ends) :: fz fGEdge.rep v_29 (((nStar (nSet (BSet.ofL [99]))).1).Edges) :: fz fInt.rep v_15 ((nSet (BSet.ofL [99])).Starts) :: fz fInt.rep v_16 ((nSet (BSet.ofL [99])).Ends) :: fz fGEdge.rep v_17 ((nSet (BSet.ofL [99])).Edges) :: own fByte 5 v_11 [99] :: box b_8 [.int .i64 (((nText [97, 98]).1).States), v_1, v_2, v_3] 25 :: fz fInt.rep v_1 (((nText [97, 98]).1).Starts) :: fz fInt.rep v_2 (((nText [97, 98]).1).Ends) :: fz fGEdge.rep v_3 (((nText [97, 98]).1).Edges) :: L) := hO
  obtain ⟨Z_62, hz_61, hO⟩ := hO.freeze (i := 3) rfl
  replace hZ := fun b hb => hz_61 b (hZ b hb)
  replace hO : Own H_56 Z_62 (box b_55 [.int .i64 (((nCat ((nText [97, 98]).1) ((nStar (nSet (BSet.ofL [99]))).1)).1).States), v_48, v_49, v_50] 25 :: fz fInt.rep v_48 (((nCat ((nText [97, 98]).1) ((nStar (nSet (BSet.ofL [99]))).1)).1).Starts) :: fz fInt.rep v_49 (((nCat ((nText [97, 98]).1) ((nStar (nSet (BSet.ofL [99]))).1)).1).Ends) :: fz fGEdge.rep v_50 (((nCat ((nText [97, 98]).1) ((nStar (nSet (BSet.ofL [99]))).1)).1).Edges) :: box b_34 [.int .i64 (((nStar (nSet (BSet.ofL [99]))).1).States), v_27, v_28, v_29] 25 :: fz fInt.rep v_27 (((nStar (nSet (BSet.ofL [99]))).1).Starts) :: fz fInt.rep v_28 (((nStar (nSet (BSet.ofL [99]))).1).Ends) :: fz fGEdge.rep v_29 (((nStar (nSet (BSet.ofL [99]))).1).Edges) :: fz fInt.rep v_15 ((nSet (BSet.ofL [99])).Starts) :: fz fInt.rep v_16 ((nSet (BSet.ofL [99])).Ends) :: fz fGEdge.rep v_17 ((nSet (BSet.ofL [99])).Edges) :: own fByte 5 v_11 [99] :: box b_8 [.int .i64 (((nText [97, 98]).1).States), v_1, v_2, v_3] 25 :: fz fInt.rep v_1 (((nText [97, 98]).1).Starts) :: fz fInt.rep v_2 (((nText [97, 98]).1).Ends) :: fz fGEdge.rep v_3 (((nText [97, 98]).1).Edges) :: L) := hO
  obtain ⟨hs_63, h⟩ := h
  refine hl_h (h_call Try.call10 (evs_cons rfl (evs_cons (show _ = some (str [97, 98, 99, 99]) from rfl) evs_nil)) (nfaTakes_spec (a0 := ((nCat ((nText [97, 98]).1) ((nStar (nSet (BSet.ofL [99]))).1)).1)) (a1 := [97, 98, 99, 99]) hs_63 hO (Fz.of (i := 1) rfl) (Fz.of (i := 2) rfl) (Fz.of (i := 3) rfl))) rfl ?_
  rintro vv H_64 ⟨Z_65, hz_66, hv, hO⟩
  obtain rfl := hv.symm
  replace hZ := fun b hb => hz_66 b (hZ b hb)
  replace hO : Own H_64 Z_65 (box b_55 [.int .i64 (((nCat ((nText [97, 98]).1) ((nStar (nSet (BSet.ofL [99]))).1)).1).States), v_48, v_49, v_50] 25 :: fz fInt.rep v_48 (((nCat ((nText [97, 98]).1) ((nStar (nSet (BSet.ofL [99]))).1)).1).Starts) :: fz fInt.rep v_49 (((nCat ((nText [97, 98]).1) ((nStar (nSet (BSet.ofL [99]))).1)).1).Ends) :: fz fGEdge.rep v_50 (((nCat ((nText [97, 98]).1) ((nStar (nSet (BSet.ofL [99]))).1)).1).Edges) :: box b_34 [.int .i64 (((nStar (nSet (BSet.ofL [99]))).1).States), v_27, v_28, v_29] 25 :: fz fInt.rep v_27 (((nStar (nSet (BSet.ofL [99]))).1).Starts) :: fz fInt.rep v_28 (((nStar (nSet (BSet.ofL [99]))).1).Ends) :: fz fGEdge.rep v_29 (((nStar (nSet (BSet.ofL [99]))).1).Edges) :: fz fInt.rep v_15 ((nSet (BSet.ofL [99])).Starts) :: fz fInt.rep v_16 ((nSet (BSet.ofL [99])).Ends) :: fz fGEdge.rep v_17 ((nSet (BSet.ofL [99])).Edges) :: own fByte 5 v_11 [99] :: box b_8 [.int .i64 (((nText [97, 98]).1).States), v_1, v_2, v_3] 25 :: fz fInt.rep v_1 (((nText [97, 98]).1).Starts) :: fz fInt.rep v_2 (((nText [97, 98]).1).Ends) :: fz fGEdge.rep v_3 (((nText [97, 98]).1).Edges) :: L) := hO
  refine hl_v (v_move rfl) rfl ?_
  refine hl_v (v_extract rfl rfl) rfl ?_
  refine hl_v (v_extract rfl rfl) rfl ?_
  refine hl_v (v_assign rfl) rfl ?_
  refine hl_v (v_assign rfl) rfl ?_
  refine hl_nil ?_
  refine thenQ_n ?_
  refine hw_sub _ (ai_cons (t := 2) rfl (ai_cons (t := 4) rfl (ai_cons (t := 5) rfl (ai_cons (t := 6) rfl (ai_cons (t := 7) rfl (ai_cons (t := 8) rfl ai_nil)))))) ?_
  refine hw_seq ?_
  refine hw_region ?_
  refine hl_v (v_loadA Try.isAgg25 Try.sizeOf25 rfl (Blk.at0 (hO.box 0 rfl)) rfl) rfl ?_
  obtain ⟨hs_67, h⟩ := h
  refine hl_h (h_call Try.call10 (evs_cons rfl (evs_cons (show _ = some (str [97, 99]) from rfl) evs_nil)) (nfaTakes_spec (a0 := ((nCat ((nText [97, 98]).1) ((nStar (nSet (BSet.ofL [99]))).1)).1)) (a1 := [97, 99]) hs_67 hO (Fz.of (i := 1) rfl) (Fz.of (i := 2) rfl) (Fz.of (i := 3) rfl))) rfl ?_
  rintro vv H_68 ⟨Z_69, hz_70, hv, hO⟩
  obtain rfl := hv.symm
  replace hZ := fun b hb => hz_70 b (hZ b hb)
  replace hO : Own H_68 Z_69 (box b_55 [.int .i64 (((nCat ((nText [97, 98]).1) ((nStar (nSet (BSet.ofL [99]))).1)).1).States), v_48, v_49, v_50] 25 :: fz fInt.rep v_48 (((nCat ((nText [97, 98]).1) ((nStar (nSet (BSet.ofL [99]))).1)).1).Starts) :: fz fInt.rep v_49 (((nCat ((nText [97, 98]).1) ((nStar (nSet (BSet.ofL [99]))).1)).1).Ends) :: fz fGEdge.rep v_50 (((nCat ((nText [97, 98]).1) ((nStar (nSet (BSet.ofL [99]))).1)).1).Edges) :: box b_34 [.int .i64 (((nStar (nSet (BSet.ofL [99]))).1).States), v_27, v_28, v_29] 25 :: fz fInt.rep v_27 (((nStar (nSet (BSet.ofL [99]))).1).Starts) :: fz fInt.rep v_28 (((nStar (nSet (BSet.ofL [99]))).1).Ends) :: fz fGEdge.rep v_29 (((nStar (nSet (BSet.ofL [99]))).1).Edges) :: fz fInt.rep v_15 ((nSet (BSet.ofL [99])).Starts) :: fz fInt.rep v_16 ((nSet (BSet.ofL [99])).Ends) :: fz fGEdge.rep v_17 ((nSet (BSet.ofL [99])).Edges) :: own fByte 5 v_11 [99] :: box b_8 [.int .i64 (((nText [97, 98]).1).States), v_1, v_2, v_3] 25 :: fz fInt.rep v_1 (((nText [97, 98]).1).Starts) :: fz fInt.rep v_2 (((nText [97, 98]).1).Ends) :: fz fGEdge.rep v_3 (((nText [97, 98]).1).Edges) :: L) := hO
  refine hl_v (v_move rfl) rfl ?_
  refine hl_v (v_extract rfl rfl) rfl ?_
  refine hl_v (v_extract rfl rfl) rfl ?_
  refine hl_v (v_assign rfl) rfl ?_
  refine hl_v (v_assign rfl) rfl ?_
  refine hl_nil ?_
  refine thenQ_n ?_
  refine hw_sub _ (ai_cons (t := 2) rfl (ai_cons (t := 4) rfl (ai_cons (t := 6) rfl (ai_cons (t := 7) rfl (ai_cons (t := 8) rfl (ai_cons (t := 9) rfl (ai_cons (t := 10) rfl ai_nil))))))) ?_
  refine hw_seq ?_
  refine hw_region ?_
  refine hl_v (v_move rfl) rfl ?_
  refine hl_v (v_eql rfl rfl) rfl ?_
  refine hl_v (v_move rfl) rfl ?_
  refine hl_g rfl rfl (fun hg => (v_move rfl)) rfl ?_
  refine hl_g rfl rfl (fun hg => (v_move rfl)) rfl ?_
  refine hl_g rfl rfl (fun hg => (v_eql (gv_ok rfl hg) (gv_ok rfl hg))) rfl ?_
  refine hl_v (v_and rfl rfl) rfl ?_
  refine hl_v (v_move rfl) rfl ?_
  refine hl_g rfl rfl (fun hg => (v_move rfl)) rfl ?_
  refine hl_g rfl rfl (fun hg => (v_move rfl)) rfl ?_
  refine hl_g rfl rfl (fun hg => (v_eql (gv_ok rfl hg) (gv_ok rfl hg))) rfl ?_
  refine hl_v (v_and rfl rfl) rfl ?_
  refine hl_v (v_move rfl) rfl ?_
  refine hl_g rfl rfl (fun hg => (v_move rfl)) rfl ?_
  refine hl_v (v_and rfl rfl) rfl ?_
  refine hl_v (v_move rfl) rfl ?_
  refine hl_g rfl rfl (fun hg => (v_move rfl)) rfl ?_
  refine hl_g rfl rfl (fun hg => (v_move rfl)) rfl ?_
  refine hl_g rfl rfl (fun hg => (v_eql (gv_ok rfl hg) (gv_ok rfl hg))) rfl ?_
  refine hl_v (v_and rfl rfl) rfl ?_
  refine hl_v (v_move rfl) rfl ?_
  refine hl_g rfl rfl (fun hg => (v_move rfl)) rfl ?_
  refine hl_g rfl rfl (fun hg => (v_not (gv_ok rfl hg))) rfl ?_
  refine hl_v (v_and rfl rfl) rfl ?_
  refine hl_v (v_move rfl) rfl ?_
  refine hl_g rfl rfl (fun hg => (v_move rfl)) rfl ?_
  refine hl_g rfl rfl (fun hg => (v_move rfl)) rfl ?_
  refine hl_g rfl rfl (fun hg => (v_eql (gv_ok rfl hg) (gv_ok rfl hg))) rfl ?_
  refine hl_v (v_and rfl rfl) rfl ?_
  refine hl_v (v_assign rfl) rfl ?_
  refine hl_nil ?_
  refine thenQ_n ?_
  refine hw_sub _ (ai_cons (t := 0) rfl ai_nil) ?_
  refine hw_ret ?_
  refine ret_i _ (ra_t rfl ra_nil) ?_
  exact ⟨_, ((((((decide ((nText [97, 98]).2 = 0) && decide ((nStar (nSet (BSet.ofL [99]))).2 = (nText [97, 98]).2)) && decide ((nCat ((nText [97, 98]).1) ((nStar (nSet (BSet.ofL [99]))).1)).2 = (nText [97, 98]).2)) && (nTakes ((nCat ((nText [97, 98]).1) ((nStar (nSet (BSet.ofL [99]))).1)).1) [97, 98, 99, 99]).1) && decide ((nTakes ((nCat ((nText [97, 98]).1) ((nStar (nSet (BSet.ofL [99]))).1)).1) [97, 98, 99, 99]).2 = (nText [97, 98]).2)) && (!(nTakes ((nCat ((nText [97, 98]).1) ((nStar (nSet (BSet.ofL [99]))).1)).1) [97, 99]).1)) && decide ((nTakes ((nCat ((nText [97, 98]).1) ((nStar (nSet (BSet.ofL [99]))).1)).1) [97, 99]).2 = (nText [97, 98]).2)), hZ, h, rfl, (Own.sel (Ls := [box b_55 [.int .i64 (((nCat ((nText [97, 98]).1) ((nStar (nSet (BSet.ofL [99]))).1)).1).States), v_48, v_49, v_50] 25, fz fInt.rep v_48 (((nCat ((nText [97, 98]).1) ((nStar (nSet (BSet.ofL [99]))).1)).1).Starts), fz fInt.rep v_49 (((nCat ((nText [97, 98]).1) ((nStar (nSet (BSet.ofL [99]))).1)).1).Ends), fz fGEdge.rep v_50 (((nCat ((nText [97, 98]).1) ((nStar (nSet (BSet.ofL [99]))).1)).1).Edges), box b_34 [.int .i64 (((nStar (nSet (BSet.ofL [99]))).1).States), v_27, v_28, v_29] 25, fz fInt.rep v_27 (((nStar (nSet (BSet.ofL [99]))).1).Starts), fz fInt.rep v_28 (((nStar (nSet (BSet.ofL [99]))).1).Ends), fz fGEdge.rep v_29 (((nStar (nSet (BSet.ofL [99]))).1).Edges), fz fInt.rep v_15 ((nSet (BSet.ofL [99])).Starts), fz fInt.rep v_16 ((nSet (BSet.ofL [99])).Ends), fz fGEdge.rep v_17 ((nSet (BSet.ofL [99])).Edges), own fByte 5 v_11 [99], box b_8 [.int .i64 (((nText [97, 98]).1).States), v_1, v_2, v_3] 25, fz fInt.rep v_1 (((nText [97, 98]).1).Starts), fz fInt.rep v_2 (((nText [97, 98]).1).Ends), fz fGEdge.rep v_3 (((nText [97, 98]).1).Edges)]) (L := L) [] rfl hO)⟩
theorem lAwake_spec   {L : List As} {H : Heap} {Z : Nat → Prop} (hO : Own H Z (L))  : HC Try.prog 12 [] H (fun v H' => ∃ (Z' : Nat → Prop) , (∀ b, Z b → Z' b) ∧ v = .bool (true) ∧ Own H' Z' (L)) := by
  refine (lAwake_ok  (@lAwake_wp ) hO).mono ?_
  rintro v H' ⟨Z', r0, hz, hq, hv, hO'⟩
  obtain rfl := hq
  exact ⟨Z', hz, hv, hO'⟩

theorem lNfaTakes_ok {n : GNfa} {w : List UInt8} {v_1 : Value} {v_3 : Value} {v_5 : Value} {Q : Bool → Prop} {H : Heap} {Z : Nat → Prop} {L : List As} (h : wp_lNfaTakes n w Q) (hO : Own H Z (L)) (hf_2 : Fz fInt.rep L v_1 n.Starts) (hf_4 : Fz fInt.rep L v_3 n.Ends) (hf_6 : Fz fGEdge.rep L v_5 n.Edges) : HC Try.prog 3 [.agg [.int .i64 n.States, v_1, v_3, v_5].toArray, str w] H (fun v H' => ∃ (Z' : Nat → Prop) (r0 : Bool) , (∀ b, Z b → Z' b) ∧ Q r0 ∧ v = .bool r0 ∧ Own H' Z' (L)) := by
  have hZ : ∀ b, Z b → Z b := fun _ h => h
  replace hO := Fz.item hf_2 hO
  replace hO := Fz.items [_] hf_4 hO
  replace hO := Fz.items [_, _] hf_6 hO
  unfold wp_lNfaTakes at h
  refine hc_of_hw (N := 40) (rs := [(.tmp 4)]) Try.func3 rfl rfl rfl rfl ?_
  refine hw_seq ?_
  refine hw_region ?_
  refine hl_h (o_box (cs := [.int .i64 n.States, v_1, v_3, v_5]) hO rfl rfl) rfl ?_
  rintro _ H_7 ⟨b_8, rfl, hO⟩
  replace hO : Own H_7 Z (box b_8 [.int .i64 n.States, v_1, v_3, v_5] 25 :: fz fGEdge.rep v_5 n.Edges :: fz fInt.rep v_3 n.Ends :: fz fInt.rep v_1 n.Starts :: L) := hO
  refine hl_v (v_assign rfl) rfl ?_
  refine hl_nil ?_
  refine thenQ_n ?_
  refine hw_sub _ (ai_cons (t := 1) rfl (ai_cons (t := 2) rfl ai_nil)) ?_
  refine hw_seq ?_
  refine hw_seq ?_
  refine hw_region ?_
  refine hl_v (v_loadA Try.isAgg25 Try.sizeOf25 rfl (Blk.at0 (hO.box 0 rfl)) rfl) rfl ?_
  obtain ⟨hs_9, h⟩ := h
  refine hl_h (h_call Try.call9 (evs_cons rfl evs_nil) (rFew_spec (a0 := n) hs_9 hO (Fz.of (i := 3) rfl) (Fz.of (i := 2) rfl) (Fz.of (i := 1) rfl))) rfl ?_
  rintro vv H_10 ⟨Z_11, hz_12, hv, hO⟩
  obtain rfl := hv.symm
  replace hZ := fun b hb => hz_12 b (hZ b hb)
  replace hO : Own H_10 Z_11 (box b_8 [.int .i64 n.States, v_1, v_3, v_5] 25 :: fz fGEdge.rep v_5 n.Edges :: fz fInt.rep v_3 n.Ends :: fz fInt.rep v_1 n.Starts :: L) := hO
  refine hl_v (v_not rfl) rfl ?_
  refine hl_v (v_move rfl) rfl ?_
  refine hl_g rfl rfl (fun hg => (v_move rfl)) rfl ?_
  refine hl_g rfl rfl (fun hg => (v_lenS rfl Try.underlying9 (gv_ok rfl hg))) rfl ?_
  refine hl_g rfl rfl (fun hg => (v_gtr (gv_ok rfl hg) rfl)) rfl ?_
  refine hl_v (v_or rfl rfl) rfl ?_
  refine hl_nil ?_
  refine thenQ_n ?_
  refine hw_sub _ (ai_cons (t := 1) rfl (ai_cons (t := 2) rfl (ai_cons (t := 16) rfl ai_nil))) ?_
  refine hw_cond rfl (fun hc_13 => ?_) (fun hc_13 => ?_)
  · replace h := ite_t h hc_13
    refine hw_seq ?_
    refine hw_region ?_
    refine hl_v (v_assign rfl) rfl ?_
    refine hl_nil ?_
    refine thenQ_n ?_
    refine hw_sub _ (ai_cons (t := 4) rfl ai_nil) ?_
    refine hw_ret ?_
    refine thenQ_r ?_
    refine ret_i _ (ra_t rfl ra_nil) ?_
    exact ⟨_, true, hZ, h, rfl, (Own.sel (Ls := [box b_8 [.int .i64 n.States, v_1, v_3, v_5] 25, fz fGEdge.rep v_5 n.Edges, fz fInt.rep v_3 n.Ends, fz fInt.rep v_1 n.Starts]) (L := L) [] rfl hO)⟩
  · replace h := ite_f h hc_13
    refine hw_skip ?_
    refine thenQ_n ?_
    refine hw_seq ?_
    refine hw_region ?_
    refine hl_v (v_loadA Try.isAgg25 Try.sizeOf25 rfl (Blk.at0 (hO.box 0 rfl)) rfl) rfl ?_
    refine hl_v (v_move rfl) rfl ?_
    obtain ⟨hs_14, h⟩ := h
    refine hl_h (h_call Try.call10 (evs_cons rfl (evs_cons rfl evs_nil)) (nfaTakes_spec (a0 := n) (a1 := w) hs_14 hO (Fz.of (i := 3) rfl) (Fz.of (i := 2) rfl) (Fz.of (i := 1) rfl))) rfl ?_
    rintro vv H_15 ⟨Z_16, hz_17, hv, hO⟩
    obtain rfl := hv.symm
    replace hZ := fun b hb => hz_17 b (hZ b hb)
    replace hO : Own H_15 Z_16 (box b_8 [.int .i64 n.States, v_1, v_3, v_5] 25 :: fz fGEdge.rep v_5 n.Edges :: fz fInt.rep v_3 n.Ends :: fz fInt.rep v_1 n.Starts :: L) := hO
    refine hl_v (v_move rfl) rfl ?_
    refine hl_v (v_extract rfl rfl) rfl ?_
    refine hl_v (v_extract rfl rfl) rfl ?_
    refine hl_v (v_assign rfl) rfl ?_
    refine hl_v (v_assign rfl) rfl ?_
    refine hl_nil ?_
    refine thenQ_n ?_
    refine hw_sub _ (ai_cons (t := 1) rfl (ai_cons (t := 2) rfl (ai_cons (t := 5) rfl (ai_cons (t := 6) rfl ai_nil)))) ?_
    refine hw_seq ?_
    refine hw_region ?_
    refine hl_v (v_loadA Try.isAgg25 Try.sizeOf25 rfl (Blk.at0 (hO.box 0 rfl)) rfl) rfl ?_
    refine hl_v (v_move rfl) rfl ?_
    obtain ⟨hs_18, h⟩ := h
    refine hl_h (h_call Try.call11 (evs_cons rfl (evs_cons rfl evs_nil)) (rTakes_spec (a0 := n) (a1 := w) hs_18 hO (Fz.of (i := 3) rfl) (Fz.of (i := 2) rfl) (Fz.of (i := 1) rfl))) rfl ?_
    rintro vv H_19 ⟨Z_20, hz_21, hv, hO⟩
    obtain rfl := hv.symm
    replace hZ := fun b hb => hz_21 b (hZ b hb)
    replace hO : Own H_19 Z_20 (box b_8 [.int .i64 n.States, v_1, v_3, v_5] 25 :: fz fGEdge.rep v_5 n.Edges :: fz fInt.rep v_3 n.Ends :: fz fInt.rep v_1 n.Starts :: L) := hO
    refine hl_v (v_move rfl) rfl ?_
    refine hl_v (v_extract rfl rfl) rfl ?_
    refine hl_v (v_extract rfl rfl) rfl ?_
    refine hl_v (v_assign rfl) rfl ?_
    refine hl_v (v_assign rfl) rfl ?_
    refine hl_nil ?_
    refine thenQ_n ?_
    refine hw_sub _ (ai_cons (t := 5) rfl (ai_cons (t := 6) rfl (ai_cons (t := 7) rfl (ai_cons (t := 8) rfl ai_nil)))) ?_
    refine hw_seq ?_
    refine hw_region ?_
    refine hl_h (h_call Try.call12 evs_nil (lAwake_spec  hO)) rfl ?_
    rintro vv H_22 ⟨Z_23, hz_24, hv, hO⟩
    obtain rfl := hv.symm
    replace hZ := fun b hb => hz_24 b (hZ b hb)
    replace hO : Own H_22 Z_23 (box b_8 [.int .i64 n.States, v_1, v_3, v_5] 25 :: fz fGEdge.rep v_5 n.Edges :: fz fInt.rep v_3 n.Ends :: fz fInt.rep v_1 n.Starts :: L) := hO
    refine hl_v (v_move rfl) rfl ?_
    refine hl_g rfl rfl (fun hg => (v_move rfl)) rfl ?_
    refine hl_g rfl rfl (fun hg => (v_move rfl)) rfl ?_
    refine hl_g rfl rfl (fun hg => (v_eqlb Try.underlying4 (gv_ok rfl hg) (gv_ok rfl hg))) rfl ?_
    refine hl_v (v_and rfl rfl) rfl ?_
    refine hl_v (v_move rfl) rfl ?_
    refine hl_g rfl rfl (fun hg => (v_move rfl)) rfl ?_
    refine hl_g rfl rfl (fun hg => (v_move rfl)) rfl ?_
    refine hl_g rfl rfl (fun hg => (v_eql (gv_ok rfl hg) (gv_ok rfl hg))) rfl ?_
    refine hl_v (v_and rfl rfl) rfl ?_
    refine hl_v (v_assign rfl) rfl ?_
    refine hl_nil ?_
    refine thenQ_n ?_
    refine hw_sub _ (ai_cons (t := 4) rfl ai_nil) ?_
    refine hw_ret ?_
    refine ret_i _ (ra_t rfl ra_nil) ?_
    exact ⟨_, ((true && ((nTakes n w).1 == (nTakes n w).1)) && decide ((nTakes n w).2 = (nTakes n w).2)), hZ, h, rfl, (Own.sel (Ls := [box b_8 [.int .i64 n.States, v_1, v_3, v_5] 25, fz fGEdge.rep v_5 n.Edges, fz fInt.rep v_3 n.Ends, fz fInt.rep v_1 n.Starts]) (L := L) [] rfl hO)⟩
theorem lNfaTakes_spec {a0 : GNfa} {a1 : List UInt8} {v_1 : Value} {v_3 : Value} {v_5 : Value} {L : List As} (hp : a0.Starts.length ≤ 17592186044416 ∧ a0.Ends.length ≤ 17592186044416 ∧ a1.length ≤ 140737488351232) {H : Heap} {Z : Nat → Prop} (hO : Own H Z (L)) (hf_2 : Fz fInt.rep L v_1 a0.Starts) (hf_4 : Fz fInt.rep L v_3 a0.Ends) (hf_6 : Fz fGEdge.rep L v_5 a0.Edges) : HC Try.prog 3 [.agg [.int .i64 a0.States, v_1, v_3, v_5].toArray, str a1] H (fun v H' => ∃ (Z' : Nat → Prop) , (∀ b, Z b → Z' b) ∧ v = .bool (true) ∧ Own H' Z' (L)) := by
  refine (lNfaTakes_ok (n := a0) (w := a1) (@lNfaTakes_wp a0 a1 hp) hO hf_2 hf_4 hf_6).mono ?_
  rintro v H' ⟨Z', r0, hz, hq, hv, hO'⟩
  obtain rfl := hq
  exact ⟨Z', hz, hv, hO'⟩

end Go.Proofs.Ytbaciogbhjcdoaa
