/- Walks: functions do as their plain formulas say. No condition. -/
import Derived.Test.YtbaciogbhjcdoaaProg
import Derived.Test.YtbaciogbhjcdoaaSep4
import Derived.Test.YtbaciogbhjcdoaaP10l
import Derived.Test.YtbaciogbhjcdoaaG10r
set_option linter.unusedVariables false
set_option linter.unusedSimpArgs false
set_option maxRecDepth 20000
namespace Go.Proofs.Ytbaciogbhjcdoaa
open Go.Proofs
theorem lAwake_ok   {Q : Bool → Prop} {H : Heap} {Z : Nat → Prop} {L : List As} (h : wp_lAwake Q) (hO : Own H Z (L))  : HC Try.prog 12 [] H (fun v H' => ∃ (Z' : Nat → Prop) (r0 : Bool) , (∀ b, Z b → Z' b) ∧ Q r0 ∧ v = .bool r0 ∧ Own H' Z' (L)) := by
  have hZ : ∀ b, Z b → Z b := fun _ h => h
  unfold wp_lAwake at h
  refine hc_of_hw (N := 67) (rs := [(.tmp 0)]) Try.func12 rfl rfl rfl rfl ?_
  refine hw_seq ?_
  refine hw_region ?_
  refine hl_v (v_assign rfl) rfl ?_
  refine hl_nil ?_
  refine thenQ_n ?_
  refine hw_sub _ ai_nil ?_
  refine hw_seq ?_
  refine hw_region ?_
  refine hl_h (h_call Try.call13 (evs_cons (show _ = some (str [97, 98]) from rfl) evs_nil) (nfaText_spec (a0 := [97, 98]) hO)) rfl ?_
  rintro vv H_4 ⟨Z_5, v_1, v_2, v_3, hz_6, hv, hO⟩
  obtain rfl := hv.symm
  replace hZ := fun b hb => hz_6 b (hZ b hb)
  replace hO : Own H_4 Z_5 (own fInt 3 v_1 (((nText [97, 98]).1).Starts) :: own fInt 3 v_2 (((nText [97, 98]).1).Ends) :: own fGEdge 69 v_3 (((nText [97, 98]).1).Edges) :: L) := hO
  refine hl_v (v_move rfl) rfl ?_
  refine hl_v (v_extract rfl rfl) rfl ?_
  refine hl_v (v_extract rfl rfl) rfl ?_
  refine hl_h (o_alloc (cs := [.int .i64 (0 : Int), .slice none 0 0, .slice none 0 0, .slice none 0 0]) hO Try.zeroValue25 rfl) rfl ?_
  rintro _ H_7 ⟨b_8, rfl, hO⟩
  replace hO : Own H_7 Z_5 (box b_8 [.int .i64 (0 : Int), .slice none 0 0, .slice none 0 0, .slice none 0 0] 25 :: own fInt 3 v_1 (((nText [97, 98]).1).Starts) :: own fInt 3 v_2 (((nText [97, 98]).1).Ends) :: own fGEdge 69 v_3 (((nText [97, 98]).1).Edges) :: L) := hO
  refine hl_s (o_storeA (us := [.int .i64 (((nText [97, 98]).1).States), v_1, v_2, v_3]) hO 0 rfl Try.sizeOf25 rfl rfl rfl rfl (by simp only [List.forall_mem_cons]; exact ⟨rfl, (Sl.one (hO.osl 1 rfl)), (Sl.one (hO.osl 2 rfl)), (Sl.one (hO.osl 3 rfl)), by simp⟩)) ?_
  rintro _ H_9 hO
  replace hO : Own H_9 Z_5 (box b_8 [.int .i64 (((nText [97, 98]).1).States), v_1, v_2, v_3] 25 :: own fInt 3 v_1 (((nText [97, 98]).1).Starts) :: own fInt 3 v_2 (((nText [97, 98]).1).Ends) :: own fGEdge 69 v_3 (((nText [97, 98]).1).Edges) :: L) := hO
  refine hl_v (v_assign rfl) rfl ?_
  refine hl_nil ?_
  refine thenQ_n ?_
  refine hw_sub _ (ai_cons (t := 1) rfl (ai_cons (t := 2) rfl ai_nil)) ?_
  refine hw_seq ?_
  refine hw_region ?_
  refine hl_h (o_lit (g := fByte) (l := [99]) (xs := [_]) hO Try.underlying94 Try.sizeOf5 Try.zeroValue5 rfl (evs_cons (show _ = some (.int .u8 99) from rfl) evs_nil) rfl rfl rfl rfl rfl) rfl ?_
  rintro v_11 H_10 hO
  replace hO : Own H_10 Z_5 (own fByte 5 v_11 [99] :: box b_8 [.int .i64 (((nText [97, 98]).1).States), v_1, v_2, v_3] 25 :: own fInt 3 v_1 (((nText [97, 98]).1).Starts) :: own fInt 3 v_2 (((nText [97, 98]).1).Ends) :: own fGEdge 69 v_3 (((nText [97, 98]).1).Edges) :: L) := hO
  refine hl_h (h_call Try.call42 (evs_cons rfl evs_nil) (setOf_spec (a0 := [99]) hO (Rd.of_own (i := 0) rfl))) rfl ?_
  rintro vv H_12 ⟨Z_13, hz_14, hv, hO⟩
  obtain rfl := hv.symm
  replace hZ := fun b hb => hz_14 b (hZ b hb)
  replace hO : Own H_12 Z_13 (own fByte 5 v_11 [99] :: box b_8 [.int .i64 (((nText [97, 98]).1).States), v_1, v_2, v_3] 25 :: own fInt 3 v_1 (((nText [97, 98]).1).Starts) :: own fInt 3 v_2 (((nText [97, 98]).1).Ends) :: own fGEdge 69 v_3 (((nText [97, 98]).1).Edges) :: L) := hO
  refine hl_h (h_call Try.call15 (evs_cons rfl evs_nil) (nfaSet_spec (a0 := BSet.ofL [99]) hO)) rfl ?_
  rintro vv H_18 ⟨Z_19, v_15, v_16, v_17, hz_20, hv, hO⟩
  obtain rfl := hv.symm
  replace hZ := fun b hb => hz_20 b (hZ b hb)
  replace hO : Own H_18 Z_19 (own fInt 3 v_15 ((nSet (BSet.ofL [99])).Starts) :: own fInt 3 v_16 ((nSet (BSet.ofL [99])).Ends) :: own fGEdge 69 v_17 ((nSet (BSet.ofL [99])).Edges) :: own fByte 5 v_11 [99] :: box b_8 [.int .i64 (((nText [97, 98]).1).States), v_1, v_2, v_3] 25 :: own fInt 3 v_1 (((nText [97, 98]).1).Starts) :: own fInt 3 v_2 (((nText [97, 98]).1).Ends) :: own fGEdge 69 v_3 (((nText [97, 98]).1).Edges) :: L) := hO
  obtain ⟨Z_22, hz_21, hO⟩ := hO.freeze (i := 0) rfl
  replace hZ := fun b hb => hz_21 b (hZ b hb)
  replace hO : Own H_18 Z_22 (fz fInt.rep v_15 ((nSet (BSet.ofL [99])).Starts) :: own fInt 3 v_16 ((nSet (BSet.ofL [99])).Ends) :: own fGEdge 69 v_17 ((nSet (BSet.ofL [99])).Edges) :: own fByte 5 v_11 [99] :: box b_8 [.int .i64 (((nText [97, 98]).1).States), v_1, v_2, v_3] 25 :: own fInt 3 v_1 (((nText [97, 98]).1).Starts) :: own fInt 3 v_2 (((nText [97, 98]).1).Ends) :: own fGEdge 69 v_3 (((nText [97, 98]).1).Edges) :: L) := hO
  obtain ⟨Z_24, hz_23, hO⟩ := hO.freeze (i := 1) rfl
  replace hZ := fun b hb => hz_23 b (hZ b hb)
  replace hO : Own H_18 Z_24 (fz fInt.rep v_15 ((nSet (BSet.ofL [99])).Starts) :: fz fInt.rep v_16 ((nSet (BSet.ofL [99])).Ends) :: own fGEdge 69 v_17 ((nSet (BSet.ofL [99])).Edges) :: own fByte 5 v_11 [99] :: box b_8 [.int .i64 (((nText [97, 98]).1).States), v_1, v_2, v_3] 25 :: own fInt 3 v_1 (((nText [97, 98]).1).Starts) :: own fInt 3 v_2 (((nText [97, 98]).1).Ends) :: own fGEdge 69 v_3 (((nText [97, 98]).1).Edges) :: L) := hO
  obtain ⟨Z_26, hz_25, hO⟩ := hO.freeze (i := 2) rfl
  replace hZ := fun b hb => hz_25 b (hZ b hb)
  replace hO : Own H_18 Z_26 (fz fInt.rep v_15 ((nSet (BSet.ofL [99])).Starts) :: fz fInt.rep v_16 ((nSet (BSet.ofL [99])).Ends) :: fz fGEdge.rep v_17 ((nSet (BSet.ofL [99])).Edges) :: own fByte 5 v_11 [99] :: box b_8 [.int .i64 (((nText [97, 98]).1).States), v_1, v_2, v_3] 25 :: own fInt 3 v_1 (((nText [97, 98]).1).Starts) :: own fInt 3 v_2 (((nText [97, 98]).1).Ends) :: own fGEdge 69 v_3 (((nText [97, 98]).1).Edges) :: L) := hO
  refine hl_h (h_call Try.call22 (evs_cons rfl evs_nil) (nfaStar_spec (a0 := (nSet (BSet.ofL [99]))) hO (Fz.of (i := 0) rfl) (Fz.of (i := 1) rfl) (Fz.of (i := 2) rfl))) rfl ?_
  rintro vv H_30 ⟨Z_31, v_27, v_28, v_29, hz_32, hv, hO⟩
  obtain rfl := hv.symm
  replace hZ := fun b hb => hz_32 b (hZ b hb)
  replace hO : Own H_30 Z_31 (own fInt 3 v_27 (((nStar (nSet (BSet.ofL [99]))).1).Starts) :: own fInt 3 v_28 (((nStar (nSet (BSet.ofL [99]))).1).Ends) :: own fGEdge 69 v_29 (((nStar (nSet (BSet.ofL [99]))).1).Edges) :: fz fInt.rep v_15 ((nSet (BSet.ofL [99])).Starts) :: fz fInt.rep v_16 ((nSet (BSet.ofL [99])).Ends) :: fz fGEdge.rep v_17 ((nSet (BSet.ofL [99])).Edges) :: own fByte 5 v_11 [99] :: box b_8 [.int .i64 (((nText [97, 98]).1).States), v_1, v_2, v_3] 25 :: own fInt 3 v_1 (((nText [97, 98]).1).Starts) :: own fInt 3 v_2 (((nText [97, 98]).1).Ends) :: own fGEdge 69 v_3 (((nText [97, 98]).1).Edges) :: L) := hO
  refine hl_v (v_move rfl) rfl ?_
  refine hl_v (v_extract rfl rfl) rfl ?_
  refine hl_v (v_extract rfl rfl) rfl ?_
  refine hl_h (o_alloc (cs := [.int .i64 (0 : Int), .slice none 0 0, .slice none 0 0, .slice none 0 0]) hO Try.zeroValue25 rfl) rfl ?_
  rintro _ H_33 ⟨b_34, rfl, hO⟩
  replace hO : Own H_33 Z_31 (box b_34 [.int .i64 (0 : Int), .slice none 0 0, .slice none 0 0, .slice none 0 0] 25 :: own fInt 3 v_27 (((nStar (nSet (BSet.ofL [99]))).1).Starts) :: own fInt 3 v_28 (((nStar (nSet (BSet.ofL [99]))).1).Ends) :: own fGEdge 69 v_29 (((nStar (nSet (BSet.ofL [99]))).1).Edges) :: fz fInt.rep v_15 ((nSet (BSet.ofL [99])).Starts) :: fz fInt.rep v_16 ((nSet (BSet.ofL [99])).Ends) :: fz fGEdge.rep v_17 ((nSet (BSet.ofL [99])).Edges) :: own fByte 5 v_11 [99] :: box b_8 [.int .i64 (((nText [97, 98]).1).States), v_1, v_2, v_3] 25 :: own fInt 3 v_1 (((nText [97, 98]).1).Starts) :: own fInt 3 v_2 (((nText [97, 98]).1).Ends) :: own fGEdge 69 v_3 (((nText [97, 98]).1).Edges) :: L) := hO
  refine hl_s (o_storeA (us := [.int .i64 (((nStar (nSet (BSet.ofL [99]))).1).States), v_27, v_28, v_29]) hO 0 rfl Try.sizeOf25 rfl rfl rfl rfl (by simp only [List.forall_mem_cons]; exact ⟨rfl, (Sl.one (hO.osl 1 rfl)), (Sl.one (hO.osl 2 rfl)), (Sl.one (hO.osl 3 rfl)), by simp⟩)) ?_
  rintro _ H_35 hO
  replace hO : Own H_35 Z_31 (box b_34 [.int .i64 (((nStar (nSet (BSet.ofL [99]))).1).States), v_27, v_28, v_29] 25 :: own fInt 3 v_27 (((nStar (nSet (BSet.ofL [99]))).1).Starts) :: own fInt 3 v_28 (((nStar (nSet (BSet.ofL [99]))).1).Ends) :: own fGEdge 69 v_29 (((nStar (nSet (BSet.ofL [99]))).1).Edges) :: fz fInt.rep v_15 ((nSet (BSet.ofL [99])).Starts) :: fz fInt.rep v_16 ((nSet (BSet.ofL [99])).Ends) :: fz fGEdge.rep v_17 ((nSet (BSet.ofL [99])).Edges) :: own fByte 5 v_11 [99] :: box b_8 [.int .i64 (((nText [97, 98]).1).States), v_1, v_2, v_3] 25 :: own fInt 3 v_1 (((nText [97, 98]).1).Starts) :: own fInt 3 v_2 (((nText [97, 98]).1).Ends) :: own fGEdge 69 v_3 (((nText [97, 98]).1).Edges) :: L) := hO
  refine hl_v (v_assign rfl) rfl ?_
  refine hl_nil ?_
  refine thenQ_n ?_
  refine hw_sub _ (ai_cons (t := 1) rfl (ai_cons (t := 2) rfl (ai_cons (t := 3) rfl (ai_cons (t := 4) rfl ai_nil)))) ?_
  refine hw_seq ?_
  refine hw_region ?_
  refine hl_v (v_loadA Try.isAgg25 Try.sizeOf25 rfl (Blk.at0 (hO.box 8 rfl)) rfl) rfl ?_
  refine hl_v (v_loadA Try.isAgg25 Try.sizeOf25 rfl (Blk.at0 (hO.box 0 rfl)) rfl) rfl ?_
  obtain ⟨Z_37, hz_36, hO⟩ := hO.freeze (i := 9) rfl
  replace hZ := fun b hb => hz_36 b (hZ b hb)
  replace hO : Own H_35 Z_37 (box b_34 [.int .i64 (((nStar (nSet (BSet.ofL [99]))).1).States), v_27, v_28, v_29] 25 :: own fInt 3 v_27 (((nStar (nSet (BSet.ofL [99]))).1).Starts) :: own fInt 3 v_28 (((nStar (nSet (BSet.ofL [99]))).1).Ends) :: own fGEdge 69 v_29 (((nStar (nSet (BSet.ofL [99]))).1).Edges) :: fz fInt.rep v_15 ((nSet (BSet.ofL [99])).Starts) :: fz fInt.rep v_16 ((nSet (BSet.ofL [99])).Ends) :: fz fGEdge.rep v_17 ((nSet (BSet.ofL [99])).Edges) :: own fByte 5 v_11 [99] :: box b_8 [.int .i64 (((nText [97, 98]).1).States), v_1, v_2, v_3] 25 :: fz fInt.rep v_1 (((nText [97, 98]).1).Starts) :: own fInt 3 v_2 (((nText [97, 98]).1).Ends) :: own fGEdge 69 v_3 (((nText [97, 98]).1).Edges) :: L) := hO
  obtain ⟨Z_39, hz_38, hO⟩ := hO.freeze (i := 10) rfl
  replace hZ := fun b hb => hz_38 b (hZ b hb)
  replace hO : Own H_35 Z_39 (box b_34 [.int .i64 (((nStar (nSet (BSet.ofL [99]))).1).States), v_27, v_28, v_29] 25 :: own fInt 3 v_27 (((nStar (nSet (BSet.ofL [99]))).1).Starts) :: own fInt 3 v_28 (((nStar (nSet (BSet.ofL [99]))).1).Ends) :: own fGEdge 69 v_29 (((nStar (nSet (BSet.ofL [99]))).1).Edges) :: fz fInt.rep v_15 ((nSet (BSet.ofL [99])).Starts) :: fz fInt.rep v_16 ((nSet (BSet.ofL [99])).Ends) :: fz fGEdge.rep v_17 ((nSet (BSet.ofL [99])).Edges) :: own fByte 5 v_11 [99] :: box b_8 [.int .i64 (((nText [97, 98]).1).States), v_1, v_2, v_3] 25 :: fz fInt.rep v_1 (((nText [97, 98]).1).Starts) :: fz fInt.rep v_2 (((nText [97, 98]).1).Ends) :: own fGEdge 69 v_3 (((nText [97, 98]).1).Edges) :: L) := hO
  obtain ⟨Z_41, hz_40, hO⟩ := hO.freeze (i := 11) rfl
  replace hZ := fun b hb => hz_40 b (hZ b hb)
  replace hO : Own H_35 Z_41 (box b_34 [.int .i64 (((nStar (nSet (BSet.ofL [99]))).1).States), v_27, v_28, v_29] 25 :: own fInt 3 v_27 (((nStar (nSet (BSet.ofL [99]))).1).Starts) :: own fInt 3 v_28 (((nStar (nSet (BSet.ofL [99]))).1).Ends) :: own fGEdge 69 v_29 (((nStar (nSet (BSet.ofL [99]))).1).Edges) :: fz fInt.rep v_15 ((nSet (BSet.ofL [99])).Starts) :: fz fInt.rep v_16 ((nSet (BSet.ofL [99])).Ends) :: fz fGEdge.rep v_17 ((nSet (BSet.ofL [99])).Edges) :: own fByte 5 v_11 [99] :: box b_8 [.int .i64 (((nText [97, 98]).1).States), v_1, v_2, v_3] 25 :: fz fInt.rep v_1 (((nText [97, 98]).1).Starts) :: fz fInt.rep v_2 (((nText [97, 98]).1).Ends) :: fz fGEdge.rep v_3 (((nText [97, 98]).1).Edges) :: L) := hO
  obtain ⟨Z_43, hz_42, hO⟩ := hO.freeze (i := 1) rfl
  replace hZ := fun b hb => hz_42 b (hZ b hb)
  replace hO : Own H_35 Z_43 (box b_34 [.int .i64 (((nStar (nSet (BSet.ofL [99]))).1).States), v_27, v_28, v_29] 25 :: fz fInt.rep v_27 (((nStar (nSet (BSet.ofL [99]))).1).Starts) :: own fInt 3 v_28 (((nStar (nSet (BSet.ofL [99]))).1).Ends) :: own fGEdge 69 v_29 (((nStar (nSet (BSet.ofL [99]))).1).Edges) :: fz fInt.rep v_15 ((nSet (BSet.ofL [99])).Starts) :: fz fInt.rep v_16 ((nSet (BSet.ofL [99])).Ends) :: fz fGEdge.rep v_17 ((nSet (BSet.ofL [99])).Edges) :: own fByte 5 v_11 [99] :: box b_8 [.int .i64 (((nText [97, 98]).1).States), v_1, v_2, v_3] 25 :: fz fInt.rep v_1 (((nText [97, 98]).1).Starts) :: fz fInt.rep v_2 (((nText [97, 98]).1).Ends) :: fz fGEdge.rep v_3 (((nText [97, 98]).1).Edges) :: L) := hO
  obtain ⟨Z_45, hz_44, hO⟩ := hO.freeze (i := 2) rfl
  replace hZ := fun b hb => hz_44 b (hZ b hb)
  replace hO : Own H_35 Z_45 (box b_34 [.int .i64 (((nStar (nSet (BSet.ofL [99]))).1).States), v_27, v_28, v_29] 25 :: fz fInt.rep v_27 (((nStar (nSet (BSet.ofL [99]))).1).Starts) :: fz fInt.rep v_28 (((nStar (nSet (BSet.ofL [99]))).1).Ends) :: own fGEdge 69 v_29 (((nStar (nSet (BSet.ofL [99]))).1).Edges) :: fz fInt.rep v_15 ((nSet (BSet.ofL [99])).Starts) :: fz fInt.rep v_16 ((nSet (BSet.ofL [99])).Ends) :: fz fGEdge.rep v_17 ((nSet (BSet.ofL [99])).Edges) :: own fByte 5 v_11 [99] :: box b_8 [.int .i64 (((nText [97, 98]).1).States), v_1, v_2, v_3] 25 :: fz fInt.rep v_1 (((nText [97, 98]).1).Starts) :: fz fInt.rep v_2 (((nText [97, 98]).1).Ends) :: fz fGEdge.rep v_3 (((nText [97, 98]).1).Edges) :: L) := hO
  obtain ⟨Z_47, hz_46, hO⟩ := hO.freeze (i := 3) rfl
  replace hZ := fun b hb => hz_46 b (hZ b hb)
  replace hO : Own H_35 Z_47 (box b_34 [.int .i64 (((nStar (nSet (BSet.ofL [99]))).1).States), v_27, v_28, v_29] 25 :: fz fInt.rep v_27 (((nStar (nSet (BSet.ofL [99]))).1).Starts) :: fz fInt.rep v_28 (((nStar (nSet (BSet.ofL [99]))).1).Ends) :: fz fGEdge.rep v_29 (((nStar (nSet (BSet.ofL [99]))).1).Edges) :: fz fInt.rep v_15 ((nSet (BSet.ofL [99])).Starts) :: fz fInt.rep v_16 ((nSet (BSet.ofL [99])).Ends) :: fz fGEdge.rep v_17 ((nSet (BSet.ofL [99])).Edges) :: own fByte 5 v_11 [99] :: box b_8 [.int .i64 (((nText [97, 98]).1).States), v_1, v_2, v_3] 25 :: fz fInt.rep v_1 (((nText [97, 98]).1).Starts) :: fz fInt.rep v_2 (((nText [97, 98]).1).Ends) :: fz fGEdge.rep v_3 (((nText [97, 98]).1).Edges) :: L) := hO
  refine hl_h (h_call Try.call17 (evs_cons rfl (evs_cons rfl evs_nil)) (nfaCat_spec (a0 := ((nText [97, 98]).1)) (a1 := ((nStar (nSet (BSet.ofL [99]))).1)) hO (Fz.of (i := 9) rfl) (Fz.of (i := 10) rfl) (Fz.of (i := 11) rfl) (Fz.of (i := 1) rfl) (Fz.of (i := 2) rfl) (Fz.of (i := 3) rfl))) rfl ?_
  rintro vv H_51 ⟨Z_52, v_48, v_49, v_50, hz_53, hv, hO⟩
  obtain rfl := hv.symm
  replace hZ := fun b hb => hz_53 b (hZ b hb)
  replace hO : Own H_51 Z_52 (own fInt 3 v_48 (((nCat ((nText [97, 98]).1) ((nStar (nSet (BSet.ofL [99]))).1)).1).Starts) :: own fInt 3 v_49 (((nCat ((nText [97, 98]).1) ((nStar (nSet (BSet.ofL [99]))).1)).1).Ends) :: own fGEdge 69 v_50 (((nCat ((nText [97, 98]).1) ((nStar (nSet (BSet.ofL [99]))).1)).1).Edges) :: box b_34 [.int .i64 (((nStar (nSet (BSet.ofL [99]))).1).States), v_27, v_28, v_29] 25 :: fz fInt.rep v_27 (((nStar (nSet (BSet.ofL [99]))).1).Starts) :: fz fInt.rep v_28 (((nStar (nSet (BSet.ofL [99]))).1).Ends) :: fz fGEdge.rep v_29 (((nStar (nSet (BSet.ofL [99]))).1).Edges) :: fz fInt.rep v_15 ((nSet (BSet.ofL [99])).Starts) :: fz fInt.rep v_16 ((nSet (BSet.ofL [99])).Ends) :: fz fGEdge.rep v_17 ((nSet (BSet.ofL [99])).Edges) :: own fByte 5 v_11 [99] :: box b_8 [.int .i64 (((nText [97, 98]).1).States), v_1, v_2, v_3] 25 :: fz fInt.rep v_1 (((nText [97, 98]).1).Starts) :: fz fInt.rep v_2 (((nText [97, 98]).1).Ends) :: fz fGEdge.rep v_3 (((nText [97, 98]).1).Edges) :: L) := hO
  refine hl_v (v_move rfl) rfl ?_
  refine hl_v (v_extract rfl rfl) rfl ?_
  refine hl_v (v_extract rfl rfl) rfl ?_
  refine hl_h (o_alloc (cs := [.int .i64 (0 : Int), .slice none 0 0, .slice none 0 0, .slice none 0 0]) hO Try.zeroValue25 rfl) rfl ?_
  rintro _ H_54 ⟨b_55, rfl, hO⟩
  replace hO : Own H_54 Z_52 (box b_55 [.int .i64 (0 : Int), .slice none 0 0, .slice none 0 0, .slice none 0 0] 25 :: own fInt 3 v_48 (((nCat ((nText [97, 98]).1) ((nStar (nSet (BSet.ofL [99]))).1)).1).Starts) :: own fInt 3 v_49 (((nCat ((nText [97, 98]).1) ((nStar (nSet (BSet.ofL [99]))).1)).1).Ends) :: own fGEdge 69 v_50 (((nCat ((nText [97, 98]).1) ((nStar (nSet (BSet.ofL [99]))).1)).1).Edges) :: box b_34 [.int .i64 (((nStar (nSet (BSet.ofL [99]))).1).States), v_27, v_28, v_29] 25 :: fz fInt.rep v_27 (((nStar (nSet (BSet.ofL [99]))).1).Starts) :: fz fInt.rep v_28 (((nStar (nSet (BSet.ofL [99]))).1).Ends) :: fz fGEdge.rep v_29 (((nStar (nSet (BSet.ofL [99]))).1).Edges) :: fz fInt.rep v_15 ((nSet (BSet.ofL [99])).Starts) :: fz fInt.rep v_16 ((nSet (BSet.ofL [99])).Ends) :: fz fGEdge.rep v_17 ((nSet (BSet.ofL [99])).Edges) :: own fByte 5 v_11 [99] :: box b_8 [.int .i64 (((nText [97, 98]).1).States), v_1, v_2, v_3] 25 :: fz fInt.rep v_1 (((nText [97, 98]).1).Starts) :: fz fInt.rep v_2 (((nText [97, 98]).1).Ends) :: fz fGEdge.rep v_3 (((nText [97, 98]).1).Edges) :: L) := hO
  refine hl_s (o_storeA (us := [.int .i64 (((nCat ((nText [97, 98]).1) ((nStar (nSet (BSet.ofL [99]))).1)).1).States), v_48, v_49, v_50]) hO 0 rfl Try.sizeOf25 rfl rfl rfl rfl (by simp only [List.forall_mem_cons]; exact ⟨rfl, (Sl.one (hO.osl 1 rfl)), (Sl.one (hO.osl 2 rfl)), (Sl.one (hO.osl 3 rfl)), by simp⟩)) ?_
  rintro _ H_56 hO
  replace hO : Own H_56 Z_52 (box b_55 [.int .i64 (((nCat ((nText [97, 98]).1) ((nStar (nSet (BSet.ofL [99]))).1)).1).States), v_48, v_49, v_50] 25 :: own fInt 3 v_48 (((nCat ((nText [97, 98]).1) ((nStar (nSet (BSet.ofL [99]))).1)).1).Starts) :: own fInt 3 v_49 (((nCat ((nText [97, 98]).1) ((nStar (nSet (BSet.ofL [99]))).1)).1).Ends) :: own fGEdge 69 v_50 (((nCat ((nText [97, 98]).1) ((nStar (nSet (BSet.ofL [99]))).1)).1).Edges) :: box b_34 [.int .i64 (((nStar (nSet (BSet.ofL [99]))).1).States), v_27, v_28, v_29] 25 :: fz fInt.rep v_27 (((nStar (nSet (BSet.ofL [99]))).1).Starts) :: fz fInt.rep v_28 (((nStar (nSet (BSet.ofL [99]))).1).Ends) :: fz fGEdge.rep v_29 (((nStar (nSet (BSet.ofL [99]))).1).Edges) :: fz fInt.rep v_15 ((nSet (BSet.ofL [99])).Starts) :: fz fInt.rep v_16 ((nSet (BSet.ofL [99])).Ends) :: fz fGEdge.rep v_17 ((nSet (BSet.ofL [99])).Edges) :: own fByte 5 v_11 [99] :: box b_8 [.int .i64 (((nText [97, 98]).1).States), v_1, v_2, v_3] 25 :: fz fInt.rep v_1 (((nText [97, 98]).1).Starts) :: fz fInt.rep v_2 (((nText [97, 98]).1).Ends) :: fz fGEdge.rep v_3 (((nText [97, 98]).1).Edges) :: L) := hO
  refine hl_v (v_assign rfl) rfl ?_
  refine hl_nil ?_
  refine thenQ_n ?_
  refine hw_sub _ (ai_cons (t := 2) rfl (ai_cons (t := 4) rfl (ai_cons (t := 5) rfl (ai_cons (t := 6) rfl ai_nil)))) ?_
  refine hw_seq ?_
  refine hw_region ?_
  refine hl_v (v_loadA Try.isAgg25 Try.sizeOf25 rfl (Blk.at0 (hO.box 0 rfl)) rfl) rfl ?_
  obtain ⟨Z_58, hz_57, hO⟩ := hO.freeze (i := 1) rfl
  replace hZ := fun b hb => hz_57 b (hZ b hb)
  replace hO : Own H_56 Z_58 (box b_55 [.int .i64 (((nCat ((nText [97, 98]).1) ((nStar (nSet (BSet.ofL [99]))).1)).1).States), v_48, v_49, v_50] 25 :: fz fInt.rep v_48 (((nCat ((nText [97, 98]).1) ((nStar (nSet (BSet.ofL [99]))).1)).1).Starts) :: own fInt 3 v_49 (((nCat ((nText [97, 98]).1) ((nStar (nSet (BSet.ofL [99]))).1)).1).Ends) :: own fGEdge 69 v_50 (((nCat ((nText [97, 98]).1) ((nStar (nSet (BSet.ofL [99]))).1)).1).Edges) :: box b_34 [.int .i64 (((nStar (nSet (BSet.ofL [99]))).1).States), v_27, v_28, v_29] 25 :: fz fInt.rep v_27 (((nStar (nSet (BSet.ofL [99]))).1).Starts) :: fz fInt.rep v_28 (((nStar (nSet (BSet.ofL [99]))).1).Ends) :: fz fGEdge.rep v_29 (((nStar (nSet (BSet.ofL [99]))).1).Edges) :: fz fInt.rep v_15 ((nSet (BSet.ofL [99])).Starts) :: fz fInt.rep v_16 ((nSet (BSet.ofL [99])).Ends) :: fz fGEdge.rep v_17 ((nSet (BSet.ofL [99])).Edges) :: own fByte 5 v_11 [99] :: box b_8 [.int .i64 (((nText [97, 98]).1).States), v_1, v_2, v_3] 25 :: fz fInt.rep v_1 (((nText [97, 98]).1).Starts) :: fz fInt.rep v_2 (((nText [97, 98]).1).Ends) :: fz fGEdge.rep v_3 (((nText [97, 98]).1).Edges) :: L) := hO
  obtain ⟨Z_60, hz_59, hO⟩ := hO.freeze (i := 2) rfl
  replace hZ := fun b hb => hz_59 b (hZ b hb)
  replace hO : Own H_56 Z_60 (box b_55 [.int .i64 (((nCat ((nText [97, 98]).1) ((nStar (nSet (BSet.ofL [99]))).1)).1).States), v_48, v_49, v_50] 25 :: fz fInt.rep v_48 (((nCat ((nText [97, 98]).1) ((nStar (nSet (BSet.ofL [99]))).1)).1).Starts) :: fz fInt.rep v_49 (((nCat ((nText [97, 98]).1) ((nStar (nSet (BSet.ofL [99]))).1)).1).Ends) :: own fGEdge 69 v_50 (((nCat ((nText [97, 98]).1) ((nStar (nSet (BSet.ofL [99]))).1)).1).Edges) :: box b_34 [.int .i64 (((nStar (nSet (BSet.ofL [99]))).1).States), v_27, v_28, v_29] 25 :: fz fInt.rep v_27 (((nStar (nSet (BSet.ofL [99]))).1).Starts) :: fz fInt.rep v_28 (((nStar (nSet (BSet.ofL [99]))).1).Ends) :: fz fGEdge.rep v_29 (((nStar (nSet (BSet.ofL [99]))).1).Edges) :: fz fInt.rep v_15 ((nSet (BSet.ofL [99])).Starts) :: fz fInt.rep v_16 ((nSet (BSet.ofL [99])).Ends) :: fz fGEdge.rep v_17 ((nSet (BSet.ofL [99])).Edges) :: own fByte 5 v_11 [99] :: box b_8 [.int .i64 (((nText [97, 98]).1).States), v_1, v_2, v_3] 25 :: fz fInt.rep v_1 (((nText [97, 98]).1).Starts) :: fz fInt.rep v_2 (((nText [97, 98]).1).Ends) :: fz fGEdge.rep v_3 (((nText [97, 98]).1).Edges) :: L) := hO
  obtain ⟨Z_62, hz_61, hO⟩ := hO.freeze (i := 3) rfl
  replace hZ := fun b hb => hz_61 b (hZ b hb)
  replace hO : Own H_56 Z_62 (box b_55 [.int .i64 (((nCat ((nText [97, 98]).1) ((nStar (nSet (BSet.ofL [99]))).1)).1).States), v_48, v_49, v_50] 25 :: fz fInt.rep v_48 (((nCat ((nText [97, 98]).1) ((nStar (nSet (BSet.ofL [99]))).1)).1).Starts) :: fz fInt.rep v_49 (((nCat ((nText [97, 98]).1) ((nStar (nSet (BSet.ofL [99]))).1)).1).Ends) :: fz fGEdge.rep v_50 (((nCat ((nText [97, 98]).1) ((nStar (nSet (BSet.ofL [99]))).1)).1).Edges) :: box b_34 [.int .i64 (((nStar (nSet (BSet.ofL [99]))).1).States), v_27, v_28, v_29] 25 :: fz fInt.rep v_27 (((nStar (nSet (BSet.ofL [99]))).1).Starts) :: fz fInt.rep v_28 (((nStar (nSet (BSet.ofL [99]))).1).Ends) :: fz fGEdge.rep v_29 (((nStar (nSet (BSet.ofL [99]))).1).Edges) :: fz fInt.rep v_15 ((nSet (BSet.ofL [99])).Starts) :: fz fInt.rep v_16 ((nSet (BSet.ofL [99])).Ends) :: fz fGEdge.rep v_17 ((nSet (BSet.ofL [99])).Edges) :: own fByte 5 v_11 [99] :: box b_8 [.int .i64 (((nText [97, 98]).1).States), v_1, v_2, v_3] 25 :: fz fInt.rep v_1 (((nText [97, 98]).1).Starts) :: fz fInt.rep v_2 (((nText [97, 98]).1).Ends) :: fz fGEdge.rep v_3 (((nText [97, 98]).1).Edges) :: L) := hO
  obtain ⟨hs_63, h⟩ := h
  refine hl_h (h_call Try.call10 (evs_cons rfl (evs_cons (show _ = some (str [97, 98, 99, 99]) from rfl) evs_nil)) (nfaTakes_spec (a0 := ((nCat ((nText [97, 98]).1) ((nStar (nSet (BSet.ofL [99]))).1)).1)) (a1 := [97, 98, 99, 99]) hs_63 hO (Fz.of (i := 1) rfl) (Fz.of (i := 2) rfl) (Fz.of (i := 3) rfl))) rfl ?_
  rintro vv H_64 ⟨Z_65, hz_66, hv, hO⟩
  obtain rfl := hv.symm
  replace hZ := fun b hb => hz_66 b (hZ b hb)
  replace hO : Own H_64 Z_65 (box b_55 [.int .i64 (((nCat ((nText [97, 98]).1) ((nStar (nSet (BSet.ofL [99]))).1)).1).States), v_48, v_49, v_50] 25 :: fz fInt.rep v_48 (((nCat ((nText [97, 98]).1) ((nStar (nSet (BSet.ofL [99]))).1)).1).Starts) :: fz fInt.rep v_49 (((nCat ((nText [97, 98]).1) ((nStar (nSet (BSet.ofL [99]))).1)).1).Ends) :: fz fGEdge.rep v_50 (((nCat ((nText [97, 98]).1) ((nStar (nSet (BSet.ofL [99]))).1)).1).Edges) :: box b_34 [.int .i64 (((nStar (nSet (BSet.ofL [99]))).1).States), v_27, v_28, v_29] 25 :: fz fInt.rep v_27 (((nStar (nSet (BSet.ofL [99]))).1).Starts) :: fz fInt.rep v_28 (((nStar (nSet (BSet.ofL [99]))).1).Ends) :: fz fGEdge.rep v_29 (((nStar (nSet (BSet.ofL [99]))).1).Edges) :: fz fInt.rep v_15 ((nSet (BSet.ofL [99])).Starts) :: fz fInt.rep v_16 ((nSet (BSet.ofL [99])).Ends) :: fz fGEdge.rep v_17 ((nSet (BSet.ofL [99])).Edges) :: own fByte 5 v_11 [99] :: box b_8 [.int .i64 (((nText [97, 98]).1).States), v_1, v_2, v_3] 25 :: fz fInt.rep v_1 (((nText [97, 98]).1).Starts) :: fz fInt.rep v_2 (((nText [97, 98]).1).Ends) :: fz fGEdge.rep v_3 (((nText [97, 98]).1).Edges) :: L) := hO
  refine hl_v (v_move rfl) rfl ?_
  refine hl_v (v_extract rfl rfl) rfl ?_
  refine hl_v (v_extract rfl rfl) rfl ?_
  refine hl_v (v_assign rfl) rfl ?_
  refine hl_v (v_assign rfl) rfl ?_
  refine hl_nil ?_
  refine thenQ_n ?_
  refine hw_sub _ (ai_cons (t := 2) rfl (ai_cons (t := 4) rfl (ai_cons (t := 5) rfl (ai_cons (t := 6) rfl (ai_cons (t := 7) rfl (ai_cons (t := 8) rfl ai_nil)))))) ?_
  refine hw_seq ?_
  refine hw_region ?_
  refine hl_v (v_loadA Try.isAgg25 Try.sizeOf25 rfl (Blk.at0 (hO.box 0 rfl)) rfl) rfl ?_
  obtain ⟨hs_67, h⟩ := h
  refine hl_h (h_call Try.call10 (evs_cons rfl (evs_cons (show _ = some (str [97, 99]) from rfl) evs_nil)) (nfaTakes_spec (a0 := ((nCat ((nText [97, 98]).1) ((nStar (nSet (BSet.ofL [99]))).1)).1)) (a1 := [97, 99]) hs_67 hO (Fz.of (i := 1) rfl) (Fz.of (i := 2) rfl) (Fz.of (i := 3) rfl))) rfl ?_
  rintro vv H_68 ⟨Z_69, hz_70, hv, hO⟩
  obtain rfl := hv.symm
  replace hZ := fun b hb => hz_70 b (hZ b hb)
  replace hO : Own H_68 Z_69 (box b_55 [.int .i64 (((nCat ((nText [97, 98]).1) ((nStar (nSet (BSet.ofL [99]))).1)).1).States), v_48, v_49, v_50] 25 :: fz fInt.rep v_48 (((nCat ((nText [97, 98]).1) ((nStar (nSet (BSet.ofL [99]))).1)).1).Starts) :: fz fInt.rep v_49 (((nCat ((nText [97, 98]).1) ((nStar (nSet (BSet.ofL [99]))).1)).1).Ends) :: fz fGEdge.rep v_50 (((nCat ((nText [97, 98]).1) ((nStar (nSet (BSet.ofL [99]))).1)).1).Edges) :: box b_34 [.int .i64 (((nStar (nSet (BSet.ofL [99]))).1).States), v_27, v_28, v_29] 25 :: fz fInt.rep v_27 (((nStar (nSet (BSet.ofL [99]))).1).Starts) :: fz fInt.rep v_28 (((nStar (nSet (BSet.ofL [99]))).1).Ends) :: fz fGEdge.rep v_29 (((nStar (nSet (BSet.ofL [99]))).1).Edges) :: fz fInt.rep v_15 ((nSet (BSet.ofL [99])).Starts) :: fz fInt.rep v_16 ((nSet (BSet.ofL [99])).Ends) :: fz fGEdge.rep v_17 ((nSet (BSet.ofL [99])).Edges) :: own fByte 5 v_11 [99] :: box b_8 [.int .i64 (((nText [97, 98]).1).States), v_1, v_2, v_3] 25 :: fz fInt.rep v_1 (((nText [97, 98]).1).Starts) :: fz fInt.rep v_2 (((nText [97, 98]).1).Ends) :: fz fGEdge.rep v_3 (((nText [97, 98]).1).Edges) :: L) := hO
  refine hl_v (v_move rfl) rfl ?_
  refine hl_v (v_extract rfl rfl) rfl ?_
  refine hl_v (v_extract rfl rfl) rfl ?_
  refine hl_v (v_assign rfl) rfl ?_
  refine hl_v (v_assign rfl) rfl ?_
  refine hl_nil ?_
  refine thenQ_n ?_
  refine hw_sub _ (ai_cons (t := 2) rfl (ai_cons (t := 4) rfl (ai_cons (t := 6) rfl (ai_cons (t := 7) rfl (ai_cons (t := 8) rfl (ai_cons (t := 9) rfl (ai_cons (t := 10) rfl ai_nil))))))) ?_
  refine hw_seq ?_
  refine hw_region ?_
  refine hl_v (v_move rfl) rfl ?_
  refine hl_v (v_eql rfl rfl) rfl ?_
  refine hl_v (v_move rfl) rfl ?_
  refine hl_g rfl rfl (fun hg => (v_move rfl)) rfl ?_
  refine hl_g rfl rfl (fun hg => (v_move rfl)) rfl ?_
  refine hl_g rfl rfl (fun hg => (v_eql (gv_ok rfl hg) (gv_ok rfl hg))) rfl ?_
  refine hl_v (v_and rfl rfl) rfl ?_
  refine hl_v (v_move rfl) rfl ?_
  refine hl_g rfl rfl (fun hg => (v_move rfl)) rfl ?_
  refine hl_g rfl rfl (fun hg => (v_move rfl)) rfl ?_
  refine hl_g rfl rfl (fun hg => (v_eql (gv_ok rfl hg) (gv_ok rfl hg))) rfl ?_
  refine hl_v (v_and rfl rfl) rfl ?_
  refine hl_v (v_move rfl) rfl ?_
  refine hl_g rfl rfl (fun hg => (v_move rfl)) rfl ?_
  refine hl_v (v_and rfl rfl) rfl ?_
  refine hl_v (v_move rfl) rfl ?_
  refine hl_g rfl rfl (fun hg => (v_move rfl)) rfl ?_
  refine hl_g rfl rfl (fun hg => (v_move rfl)) rfl ?_
  refine hl_g rfl rfl (fun hg => (v_eql (gv_ok rfl hg) (gv_ok rfl hg))) rfl ?_
  refine hl_v (v_and rfl rfl) rfl ?_
  refine hl_v (v_move rfl) rfl ?_
  refine hl_g rfl rfl (fun hg => (v_move rfl)) rfl ?_
  refine hl_g rfl rfl (fun hg => (v_not (gv_ok rfl hg))) rfl ?_
  refine hl_v (v_and rfl rfl) rfl ?_
  refine hl_v (v_move rfl) rfl ?_
  refine hl_g rfl rfl (fun hg => (v_move rfl)) rfl ?_
  refine hl_g rfl rfl (fun hg => (v_move rfl)) rfl ?_
  refine hl_g rfl rfl (fun hg => (v_eql (gv_ok rfl hg) (gv_ok rfl hg))) rfl ?_
  refine hl_v (v_and rfl rfl) rfl ?_
  refine hl_v (v_assign rfl) rfl ?_
  refine hl_nil ?_
  refine thenQ_n ?_
  refine hw_sub _ (ai_cons (t := 0) rfl ai_nil) ?_
  refine hw_ret ?_
  refine ret_i _ (ra_t rfl ra_nil) ?_
  exact ⟨_, ((((((decide ((nText [97, 98]).2 = 0) && decide ((nStar (nSet (BSet.ofL [99]))).2 = (nText [97, 98]).2)) && decide ((nCat ((nText [97, 98]).1) ((nStar (nSet (BSet.ofL [99]))).1)).2 = (nText [97, 98]).2)) && (nTakes ((nCat ((nText [97, 98]).1) ((nStar (nSet (BSet.ofL [99]))).1)).1) [97, 98, 99, 99]).1) && decide ((nTakes ((nCat ((nText [97, 98]).1) ((nStar (nSet (BSet.ofL [99]))).1)).1) [97, 98, 99, 99]).2 = (nText [97, 98]).2)) && (!(nTakes ((nCat ((nText [97, 98]).1) ((nStar (nSet (BSet.ofL [99]))).1)).1) [97, 99]).1)) && decide ((nTakes ((nCat ((nText [97, 98]).1) ((nStar (nSet (BSet.ofL [99]))).1)).1) [97, 99]).2 = (nText [97, 98]).2)), hZ, h, rfl, (Own.sel (Ls := [box b_55 [.int .i64 (((nCat ((nText [97, 98]).1) ((nStar (nSet (BSet.ofL [99]))).1)).1).States), v_48, v_49, v_50] 25, fz fInt.rep v_48 (((nCat ((nText [97, 98]).1) ((nStar (nSet (BSet.ofL [99]))).1)).1).Starts), fz fInt.rep v_49 (((nCat ((nText [97, 98]).1) ((nStar (nSet (BSet.ofL [99]))).1)).1).Ends), fz fGEdge.rep v_50 (((nCat ((nText [97, 98]).1) ((nStar (nSet (BSet.ofL [99]))).1)).1).Edges), box b_34 [.int .i64 (((nStar (nSet (BSet.ofL [99]))).1).States), v_27, v_28, v_29] 25, fz fInt.rep v_27 (((nStar (nSet (BSet.ofL [99]))).1).Starts), fz fInt.rep v_28 (((nStar (nSet (BSet.ofL [99]))).1).Ends), fz fGEdge.rep v_29 (((nStar (nSet (BSet.ofL [99]))).1).Edges), fz fInt.rep v_15 ((nSet (BSet.ofL [99])).Starts), fz fInt.rep v_16 ((nSet (BSet.ofL [99])).Ends), fz fGEdge.rep v_17 ((nSet (BSet.ofL [99])).Edges), own fByte 5 v_11 [99], box b_8 [.int .i64 (((nText [97, 98]).1).States), v_1, v_2, v_3] 25, fz fInt.rep v_1 (((nText [97, 98]).1).Starts), fz fInt.rep v_2 (((nText [97, 98]).1).Ends), fz fGEdge.rep v_3 (((nText [97, 98]).1).Edges)]) (L := L) [] rfl hO)⟩
theorem lAwake_spec   {L : List As} {H : Heap} {Z : Nat → Prop} (hO : Own H Z (L))  : HC Try.prog 12 [] H (fun v H' => ∃ (Z' : Nat → Prop) , (∀ b, Z b → Z' b) ∧ v = .bool (true) ∧ Own H' Z' (L)) := by
  refine (lAwake_ok  (@lAwake_wp ) hO).mono ?_
  rintro v H' ⟨Z', r0, hz, hq, hv, hO'⟩
  obtain rfl := hq
  exact ⟨Z', hz, hv, hO'⟩

end Go.Proofs.Ytbaciogbhjcdoaa
