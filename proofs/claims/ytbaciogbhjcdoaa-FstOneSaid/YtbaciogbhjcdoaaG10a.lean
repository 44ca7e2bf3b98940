/- Walks: functions do as their plain formulas say. No condition. -/
import Derived.Test.YtbaciogbhjcdoaaProg
import Derived.Test.YtbaciogbhjcdoaaTer
import Derived.Test.YtbaciogbhjcdoaaP10
import Derived.Test.YtbaciogbhjcdoaaL01
set_option linter.unusedVariables false
set_option linter.unusedSimpArgs false
set_option maxRecDepth 20000
namespace Go.Proofs.Ytbaciogbhjcdoaa
open Go.Proofs
theorem setHas_spec {a0 : BSet} {a1 : UInt8} {L : List As} {H : Heap} {Z : Nat → Prop} (hO : Own H Z L) : HC Try.prog 16 [sv a0, .int .u8 a1.toNat] H (fun v H' => ∃ (Z' : Nat → Prop), (∀ b, Z b → Z' b) ∧ v = .bool (a0.has a1.toNat) ∧ Own H' Z' L) :=
  Has_spec.mono fun v H' ⟨h1, h2⟩ => ⟨Z, fun _ h => h, h1, hO.ext h2⟩
theorem nfaStates_ok {l : List Int} {n : Int} {v_1 : Value} {Q : Bool → Prop} {H : Heap} {Z : Nat → Prop} {L : List As} (h : wp_nfaStates l n Q) (hO : Own H Z (L)) (hr_2 : Rd fInt.rep L v_1 l) : HC Try.prog 72 [v_1, .int .i64 n] H (fun v H' => ∃ (r0 : Bool) , Q r0 ∧ v = .bool r0 ∧ H' = H) := by
 unfold wp_nfaStates at h
 refine hc_of_hw (N := 24) (rs := [(.tmp 4)]) Try.func72 rfl rfl rfl rfl (hw_seq (hw_region (hl_v (v_assign rfl) rfl (hl_nil (thenQ_n (hw_seq (hw_region (hl_v (v_assign rfl) rfl (hl_nil (thenQ_n (hw_seq (hw_seq (hw_region (hl_v (v_move rfl) rfl ?_))))))))))))))
 have hln_3 := Sl.cap (Rd.sl hr_2 hO)
 refine hl_v (v_lenL rfl Try.underlying22 rfl (Rd.sl hr_2 hO)) rfl (hl_v (v_move rfl) rfl (hl_nil (thenQ_n (hw_block ?_))))
 obtain ⟨I_4, h, hI_6⟩ := h
 refine hw_lp (fun n' g' H' => ∃ (last : Int) (k : Nat) (Z' : Nat → Prop), n' = l.length - k ∧ g' = [(1, .int .i64 n), (5, .int .i64 last), (8, v_1), (9, .int .i64 (l.length : Int)), (10, .int .i64 (k : Int))] ∧ I_4 last k ∧ k ≤ l.length ∧ Own H' Z' (L) ∧ H = H') _ _ (a_c 1 rfl (a_c 5 rfl (a_c 8 rfl (a_c 9 rfl (a_c 10 rfl a_n))))) ⟨(-1), 0, _, rfl, rfl, h, by omega, hO, rfl⟩ ?_
 rintro _ _ H_7 ⟨last, k, Z_8, rfl, rfl, h, hb_9, hO, rfl⟩
 replace h := hI_6 last k h hb_9
 refine hw_seq (hw_region (hl_v (v_lss rfl rfl) rfl (hl_nil (thenQ_n (hw_seq (hw_cond rfl (fun hc_10 => ?_) (fun hc_10 => ?_)))))))
 ·replace h := ite_t h hc_10
  refine hw_skip (thenQ_n (hw_seq (hw_block (hw_seq (hw_region (hl_v (v_ixL Try.underlying22 Try.sizeOf3 rfl rfl (Rd.sl hr_2 hO) (by exact ⟨Int.natCast_nonneg _, of_decide_eq_true hc_10⟩)) rfl (hl_v (v_loadSc Try.isAgg3 rfl (Rd.sl hr_2 hO) rfl (by exact ⟨Int.natCast_nonneg _, of_decide_eq_true hc_10⟩) rfl) rfl (hl_v (v_assign rfl) rfl (hl_nil (thenQ_n (hw_seq (hw_seq (hw_region (hl_v (v_move rfl) rfl (hl_v (v_move rfl) rfl (hl_v (v_leq rfl rfl) rfl (hl_v (v_move rfl) rfl (hl_g rfl rfl (fun hg => (v_move rfl)) rfl (hl_g rfl rfl (fun hg => (v_move rfl)) rfl (hl_g rfl rfl (fun hg => (v_geq (gv_ok rfl hg) (gv_ok rfl hg))) rfl (hl_v (v_or rfl rfl) rfl (hl_nil (thenQ_n (hw_sub _ (a_c 1 rfl (a_c 7 rfl (a_c 8 rfl (a_c 9 rfl (a_c 10 rfl (a_c 21 rfl a_n)))))) (hw_cond rfl (fun hc_11 => ?_) (fun hc_11 => ?_))))))))))))))))))))))))))
  ·replace h := ite_t h hc_11
   refine hw_seq (hw_region (hl_v (v_assign rfl) rfl (hl_nil (thenQ_n (hw_ret (thenQ_r (blockQ_r (thenQ_r (thenQ_r (blockQ_r (thenQ_r (ret_i _ (ra_t rfl ra_nil) ?_))))))))))))
   exact ⟨false, h, rfl, rfl⟩
  ·replace h := ite_f h hc_11
   refine hw_skip (thenQ_n (hw_region (hl_v (v_move rfl) rfl (hl_v (v_assign rfl) rfl (hl_nil (blockQ_n (thenQ_n (hw_region (hl_v (v_add rfl rfl (by have hq := of_decide_eq_true hc_10; have hm := hln_3; constructor <;> omega)) rfl (hl_v (v_move rfl) rfl (hl_nil (thenQ_n ?_))))))))))))
   exact ⟨_, _, (a_c 1 rfl (a_c 5 rfl (a_c 8 rfl (a_c 9 rfl (a_c 10 rfl a_n))))), ⟨(l.getD k default), k + 1, _, rfl, rfl, h, (by have hq := of_decide_eq_true hc_10; omega), hO, rfl⟩, (by have hq := of_decide_eq_true hc_10; omega)⟩
 ·replace h := ite_f h hc_10
  refine hw_exit (thenQ_e (thenQ_e (blockQ_hit (thenQ_n (hw_seq (hw_region (hl_v (v_assign rfl) rfl (hl_nil (thenQ_n (hw_ret (ret_i _ (ra_t rfl ra_nil) ?_)))))))))))
  exact ⟨true, h, rfl, rfl⟩
theorem nfaStates_spec {a0 : List Int} {a1 : Int} {v_1 : Value} {L : List As} {H : Heap} {Z : Nat → Prop} (hO : Own H Z (L)) (hr_2 : Rd fInt.rep L v_1 a0) : HC Try.prog 72 [v_1, .int .i64 a1] H (fun v H' => v = .bool (nStates a0 a1) ∧ H' = H) := by
  refine (nfaStates_ok (l := a0) (n := a1) (@nfaStates_wp a0 a1) hO hr_2).mono ?_
  rintro v H' ⟨r0, hq, hv, hH⟩
  obtain rfl := hq
  exact ⟨hv, hH⟩

theorem nfaMembers_ok {l : List Int} {v_1 : Value} {Q : (List (Int × Bool)) → Prop} {H : Heap} {Z : Nat → Prop} {L : List As} (h : wp_nfaMembers l Q) (hO : Own H Z (L)) (hr_2 : Rd fInt.rep L v_1 l) : HC Try.prog 36 [v_1] H (fun v H' => ∃ (Z' : Nat → Prop) (r0 : List (Int × Bool)) (b_3 : Nat), (∀ b, Z b → Z' b) ∧ Q r0 ∧ v = .map (some b_3) ∧ Own H' Z' (tbl (Value.int .i64) Value.bool b_3 r0 :: L)) := by
 replace hO := hO.inZ
 unfold wp_nfaMembers at h
 refine hc_of_hw (N := 17) (rs := [(.tmp 2)]) Try.func36 rfl rfl rfl rfl (hw_seq (hw_region (hl_v (v_assign rfl) rfl (hl_nil (thenQ_n (hw_seq (hw_region (hl_h (o_makeMap (ke := (Value.int .i64)) (ve := Value.bool) hO) rfl ?_))))))))
 rintro _ H_4 ⟨b_5, rfl, hO⟩
 refine hl_v (v_assign rfl) rfl (hl_nil (thenQ_n (hw_seq (hw_seq (hw_region (hl_v (v_move rfl) rfl ?_))))))
 have hln_6 := Sl.cap (Rd.sl hr_2 (Own.tails [_, _] hO))
 refine hl_v (v_lenL rfl Try.underlying22 rfl (Rd.sl hr_2 (Own.tails [_, _] hO))) rfl (hl_v (v_move rfl) rfl (hl_nil (thenQ_n (hw_block ?_))))
 obtain ⟨I_7, h, hI_9⟩ := h
 refine hw_lp (fun n' g' H' => ∃ (m : List (Int × Bool)) (k : Nat) (Z' : Nat → Prop), n' = l.length - k ∧ g' = [(3, .map (some b_5)), (7, v_1), (8, .int .i64 (l.length : Int)), (9, .int .i64 (k : Int))] ∧ I_7 m k ∧ k ≤ l.length ∧ Own H' Z' (tbl (Value.int .i64) Value.bool b_5 m :: inZ Z :: L)) _ _ (a_c 3 rfl (a_c 7 rfl (a_c 8 rfl (a_c 9 rfl a_n)))) ⟨[], 0, _, rfl, rfl, h, by omega, hO⟩ ?_
 rintro _ _ H_10 ⟨m, k, Z_11, rfl, rfl, h, hb_12, hO⟩
 replace h := hI_9 m k h hb_12
 refine hw_seq (hw_region (hl_v (v_lss rfl rfl) rfl (hl_nil (thenQ_n (hw_seq (hw_cond rfl (fun hc_13 => ?_) (fun hc_13 => ?_)))))))
 ·replace h := ite_t h hc_13
  refine hw_skip (thenQ_n (hw_seq (hw_block (hw_seq (hw_region (hl_v (v_ixL Try.underlying22 Try.sizeOf3 rfl rfl (Rd.sl hr_2 (Own.tails [_, _] hO)) (by exact ⟨Int.natCast_nonneg _, of_decide_eq_true hc_13⟩)) rfl (hl_v (v_loadSc Try.isAgg3 rfl (Rd.sl hr_2 (Own.tails [_, _] hO)) rfl (by exact ⟨Int.natCast_nonneg _, of_decide_eq_true hc_13⟩) rfl) rfl (hl_v (v_assign rfl) rfl (hl_nil (thenQ_n (hw_region (hl_v (v_move rfl) rfl (hl_v (v_move rfl) rfl (hl_s (o_mapUpdate (k := (l.getD k default)) (v := true) hO 0 rfl (keyInt Try.underlying3) rfl Try.underlying66 rfl rfl rfl) ?_))))))))))))))
  rintro _ H_14 hO
  refine hl_nil (blockQ_n (thenQ_n (hw_region (hl_v (v_add rfl rfl (by have hq := of_decide_eq_true hc_13; have hm := hln_6; constructor <;> omega)) rfl (hl_v (v_move rfl) rfl (hl_nil (thenQ_n ?_)))))))
  exact ⟨_, _, (a_c 3 rfl (a_c 7 rfl (a_c 8 rfl (a_c 9 rfl a_n)))), ⟨(aput m (l.getD k default) true), k + 1, _, rfl, rfl, h, (by have hq := of_decide_eq_true hc_13; omega), hO⟩, (by have hq := of_decide_eq_true hc_13; omega)⟩
 ·replace h := ite_f h hc_13
  refine hw_exit (thenQ_e (thenQ_e (blockQ_hit (thenQ_n (hw_seq (hw_region (hl_v (v_move rfl) rfl (hl_v (v_assign rfl) rfl (hl_nil (thenQ_n (hw_ret (ret_i _ (ra_t rfl ra_nil) ?_))))))))))))
  exact ⟨_, m, b_5, (hO.inz 1 rfl), h, rfl, (Own.sel (Ls := [tbl (Value.int .i64) Value.bool b_5 m, inZ Z]) (L := L) [0] rfl hO)⟩
theorem nfaMembers_spec {a0 : List Int} {v_1 : Value} {L : List As} {H : Heap} {Z : Nat → Prop} (hO : Own H Z (L)) (hr_2 : Rd fInt.rep L v_1 a0) : HC Try.prog 36 [v_1] H (fun v H' => ∃ (Z' : Nat → Prop) (b_3 : Nat), (∀ b, Z b → Z' b) ∧ v = .map (some b_3) ∧ Own H' Z' (tbl (Value.int .i64) Value.bool b_3 (membersL a0) :: L)) := by
  refine (nfaMembers_ok (l := a0) (@nfaMembers_wp a0) hO hr_2).mono ?_
  rintro v H' ⟨Z', r0, b_3, hz, hq, hv, hO'⟩
  obtain rfl := hq
  exact ⟨Z', b_3, hz, hv, hO'⟩

theorem nfaCheck1_ok {s : Int} {c0 : GNfa} {v_2 : Value} {v_4 : Value} {v_6 : Value} {b_1 : Nat} {Q : Bool → Prop} {H : Heap} {Z : Nat → Prop} {L : List As} (h : wp_nfaCheck1 s c0 Q) (hO : Own H Z (L)) (hf_3 : Fz fInt.rep L v_2 c0.Starts) (hf_5 : Fz fInt.rep L v_4 c0.Ends) (hf_7 : Fz fGEdge.rep L v_6 c0.Edges) (hb_8 : Bx L b_1 [.int .i64 c0.States, v_2, v_4, v_6] 25) : HC Try.prog 73 [.int .i64 s, ptr b_1 0] H (fun v H' => ∃ (r0 : Bool) , Q r0 ∧ v = .bool r0 ∧ H' = H) := by
 replace hO := Fz.item hf_3 hO
 replace hO := Fz.items [_] hf_5 hO
 replace hO := Fz.items [_, _] hf_7 hO
 unfold wp_nfaCheck1 at h
 refine hc_of_hw (N := 12) (rs := [(.tmp 3)]) Try.func73 rfl rfl rfl rfl (hw_seq (hw_region (hl_v (v_assign rfl) rfl (hl_nil (thenQ_n (hw_seq (hw_region (hl_v (v_move rfl) rfl (hl_v (v_geq rfl rfl) rfl (hl_v (v_move rfl) rfl (hl_g rfl rfl (fun hg => (v_move rfl)) rfl (hl_g rfl rfl (fun hg => (v_fieldA Try.underlying25 rfl Try.sizeOf3 rfl)) rfl (hl_g rfl rfl (fun hg => (v_load1 Try.isAgg3 (gv_ok rfl hg) (Blk.cell (hb_8 _ _ (Own.tails [_, _, _] hO)) rfl))) rfl (hl_g rfl rfl (fun hg => (v_lss (gv_ok rfl hg) (gv_ok rfl hg))) rfl (hl_v (v_and rfl rfl) rfl (hl_v (v_assign rfl) rfl (hl_nil (thenQ_n (hw_ret (ret_i _ (ra_t rfl ra_nil) ?_))))))))))))))))))))
 exact ⟨(decide (0 ≤ s) && decide (s < c0.States)), h, rfl, rfl⟩
theorem nfaCheck1_spec {a0 : Int} {a1 : GNfa} {v_2 : Value} {v_4 : Value} {v_6 : Value} {b_1 : Nat} {L : List As} {H : Heap} {Z : Nat → Prop} (hO : Own H Z (L)) (hf_3 : Fz fInt.rep L v_2 a1.Starts) (hf_5 : Fz fInt.rep L v_4 a1.Ends) (hf_7 : Fz fGEdge.rep L v_6 a1.Edges) (hb_8 : Bx L b_1 [.int .i64 a1.States, v_2, v_4, v_6] 25) : HC Try.prog 73 [.int .i64 a0, ptr b_1 0] H (fun v H' => v = .bool (nIn a1 a0) ∧ H' = H) := by
  refine (nfaCheck1_ok (s := a0) (c0 := a1) (@nfaCheck1_wp a0 a1) hO hf_3 hf_5 hf_7 hb_8).mono ?_
  rintro v H' ⟨r0, hq, hv, hH⟩
  obtain rfl := hq
  exact ⟨hv, hH⟩

theorem nfaCheck_ok {n : GNfa} {v_1 : Value} {v_3 : Value} {v_5 : Value} {Q : Int → Prop} {H : Heap} {Z : Nat → Prop} {L : List As} (h : wp_nfaCheck n Q) (hO : Own H Z (L)) (hf_2 : Fz fInt.rep L v_1 n.Starts) (hf_4 : Fz fInt.rep L v_3 n.Ends) (hf_6 : Fz fGEdge.rep L v_5 n.Edges) : HC Try.prog 34 [.agg [.int .i64 n.States, v_1, v_3, v_5].toArray] H (fun v H' => ∃ (Z' : Nat → Prop) (r0 : Int) , (∀ b, Z b → Z' b) ∧ Q r0 ∧ v = .int .i64 r0 ∧ Own H' Z' (L)) := by
 replace hO := hO.inZ
 replace hO := Fz.items [_] hf_2 hO
 replace hO := Fz.items [_, _] hf_4 hO
 replace hO := Fz.items [_, _, _] hf_6 hO
 unfold wp_nfaCheck at h
 refine hc_of_hw (N := 63) (rs := [(.tmp 2)]) Try.func34 rfl rfl rfl rfl (hw_seq (hw_region (hl_h (o_box (cs := [.int .i64 n.States, v_1, v_3, v_5]) hO rfl rfl) rfl ?_)))
 rintro _ H_7 ⟨b_8, rfl, hO⟩
 refine hl_v (v_assign rfl) rfl (hl_nil (thenQ_n (hw_seq (hw_seq (hw_region (hl_v (v_fieldA Try.underlying25 rfl Try.sizeOf3 rfl) rfl (hl_v (v_load1 Try.isAgg3 rfl (Blk.cell (hO.box 0 rfl) rfl)) rfl (hl_v (v_lss rfl rfl) rfl (hl_v (v_move rfl) rfl (hl_g rfl rfl (fun hg => (v_fieldA Try.underlying25 rfl Try.sizeOf3 rfl)) rfl (hl_g rfl rfl (fun hg => (v_load1 Try.isAgg3 (gv_ok rfl hg) (Blk.cell (hO.box 0 rfl) rfl))) rfl (hl_g rfl rfl (fun hg => (v_gtr (gv_ok rfl hg) rfl)) rfl (hl_v (v_or rfl rfl) rfl (hl_v (v_move rfl) rfl (hl_g rfl rfl (fun hg => (v_fieldA Try.underlying25 rfl Try.sizeOf23 rfl)) rfl (hl_g rfl rfl (fun hg => (v_load1 Try.isAgg23 (gv_ok rfl hg) (Blk.cell (hO.box 0 rfl) rfl))) rfl ?_))))))))))))))))
 have hln_9 := Sl.cap (hO.fsl 1 rfl)
 refine hl_g rfl rfl (fun hg => (v_lenL rfl Try.underlying23 (gv_ok rfl hg) (hO.fsl 1 rfl))) rfl (hl_g rfl rfl (fun hg => (v_gtr (gv_ok rfl hg) rfl)) rfl (hl_v (v_or rfl rfl) rfl (hl_v (v_move rfl) rfl (hl_g rfl rfl (fun hg => (v_fieldA Try.underlying25 rfl Try.sizeOf22 rfl)) rfl (hl_g rfl rfl (fun hg => (v_load1 Try.isAgg22 (gv_ok rfl hg) (Blk.cell (hO.box 0 rfl) rfl))) rfl (hl_g rfl rfl (fun hg => (v_fieldA Try.underlying25 rfl Try.sizeOf3 rfl)) rfl (hl_g rfl rfl (fun hg => (v_load1 Try.isAgg3 (gv_ok rfl hg) (Blk.cell (hO.box 0 rfl) rfl))) rfl (hl_g rfl rfl (fun hg => (v_call Try.call72 (evs_cons (gv_ok rfl hg) (evs_cons (gv_ok rfl hg) evs_nil)) (nfaStates_spec (a0 := n.Starts) (a1 := n.States) hO (Rd.of_fz (i := 3) rfl)))) rfl (hl_g rfl rfl (fun hg => (v_not (gv_ok rfl hg))) rfl (hl_v (v_or rfl rfl) rfl (hl_v (v_move rfl) rfl (hl_g rfl rfl (fun hg => (v_fieldA Try.underlying25 rfl Try.sizeOf22 rfl)) rfl (hl_g rfl rfl (fun hg => (v_load1 Try.isAgg22 (gv_ok rfl hg) (Blk.cell (hO.box 0 rfl) rfl))) rfl (hl_g rfl rfl (fun hg => (v_fieldA Try.underlying25 rfl Try.sizeOf3 rfl)) rfl (hl_g rfl rfl (fun hg => (v_load1 Try.isAgg3 (gv_ok rfl hg) (Blk.cell (hO.box 0 rfl) rfl))) rfl (hl_g rfl rfl (fun hg => (v_call Try.call72 (evs_cons (gv_ok rfl hg) (evs_cons (gv_ok rfl hg) evs_nil)) (nfaStates_spec (a0 := n.Ends) (a1 := n.States) hO (Rd.of_fz (i := 2) rfl)))) rfl (hl_g rfl rfl (fun hg => (v_not (gv_ok rfl hg))) rfl (hl_v (v_or rfl rfl) rfl (hl_nil (thenQ_n (hw_sub _ (a_c 1 rfl (a_c 35 rfl a_n)) (hw_cond rfl (fun hc_10 => ?_) (fun hc_10 => ?_)))))))))))))))))))))))
 ·replace h := ite_t h hc_10
  refine hw_seq (hw_region (hl_v (v_assign rfl) rfl (hl_nil (thenQ_n (hw_ret (thenQ_r (ret_i _ (ra_t rfl ra_nil) ?_)))))))
  exact ⟨_, 1, (hO.inz 4 rfl), h, rfl, (Own.sel (Ls := [box b_8 [.int .i64 n.States, v_1, v_3, v_5] 25, fz fGEdge.rep v_5 n.Edges, fz fInt.rep v_3 n.Ends, fz fInt.rep v_1 n.Starts, inZ Z]) (L := L) [] rfl hO)⟩
 ·replace h := ite_f h hc_10
  refine hw_skip (thenQ_n (hw_seq (hw_region (hl_v (v_makeFunc (us := []) (vs := [_]) rfl rfl) rfl (hl_v (v_assign rfl) rfl (hl_nil (thenQ_n (hw_seq (hw_seq (hw_region (hl_v (v_fieldA Try.underlying25 rfl Try.sizeOf23 rfl) rfl (hl_v (v_load1 Try.isAgg23 rfl (Blk.cell (hO.box 0 rfl) rfl)) rfl (hl_v (v_lenL rfl Try.underlying23 rfl (hO.fsl 1 rfl)) rfl (hl_v (v_move rfl) rfl (hl_nil (thenQ_n (hw_block ?_)))))))))))))))))
  obtain ⟨I_11, h, hI_13⟩ := h
  refine hw_lp (fun n' g' H' => ∃ (k : Nat) (Z' : Nat → Prop), n' = n.Edges.length - k ∧ g' = [(3, .func (.func 73) #[] #[ptr b_8 0]), (38, v_5), (39, .int .i64 (n.Edges.length : Int)), (40, .int .i64 (k : Int))] ∧ I_11 k ∧ k ≤ n.Edges.length ∧ Own H' Z' (box b_8 [.int .i64 n.States, v_1, v_3, v_5] 25 :: fz fGEdge.rep v_5 n.Edges :: fz fInt.rep v_3 n.Ends :: fz fInt.rep v_1 n.Starts :: inZ Z :: L)) _ _ (a_c 3 rfl (a_c 38 rfl (a_c 39 rfl (a_c 40 rfl a_n)))) ⟨0, _, rfl, rfl, h, by omega, hO⟩ ?_
  rintro _ _ H_14 ⟨k, Z_15, rfl, rfl, h, hb_16, hO⟩
  replace h := hI_13 k h hb_16
  refine hw_seq (hw_region (hl_v (v_lss rfl rfl) rfl (hl_nil (thenQ_n (hw_seq (hw_cond rfl (fun hc_17 => ?_) (fun hc_17 => ?_)))))))
  ·replace h := ite_t h hc_17
   refine hw_skip (thenQ_n (hw_seq (hw_block (hw_seq (hw_region (hl_v (v_ixL Try.underlying23 Try.sizeOf69 rfl rfl (hO.fsl 1 rfl) (by exact ⟨Int.natCast_nonneg _, of_decide_eq_true hc_17⟩)) rfl (hl_v (v_loadFl Try.isAgg69 Try.sizeOf69 rfl (hO.fsl 1 rfl) rfl (by exact ⟨Int.natCast_nonneg _, of_decide_eq_true hc_17⟩)) rfl (hl_h (o_alloc (cs := (fGEdge.enc (⟨(0 : Int), (0 : Int), BSet.zero⟩ : GEdge))) hO Try.zeroValue69 rfl) rfl ?_))))))))
   rintro _ H_18 ⟨b_19, rfl, hO⟩
   refine hl_s (o_storeA (us := (fGEdge.enc (n.Edges.getD k default))) hO 0 rfl Try.sizeOf69 rfl rfl rfl rfl (by intro u hu; exact (fGEdge).one _ u hu)) ?_
   rintro _ H_20 hO
   refine hl_nil (thenQ_n (hw_seq (hw_region (hl_v (v_move rfl) rfl (hl_v (v_fieldA Try.underlying69 rfl Try.sizeOf3 rfl) rfl (hl_v (v_load1 Try.isAgg3 rfl (Blk.cell (hO.box 0 rfl) rfl)) rfl (hl_v (v_callv (fs := []) (cs := [ptr b_8 0]) Try.call73 rfl (evs_cons rfl evs_nil) (nfaCheck1_spec (a0 := (n.Edges.getD k default).From) (a1 := n) hO (Fz.of (i := 4) rfl) (Fz.of (i := 3) rfl) (Fz.of (i := 2) rfl) (Bx.of (i := 1) rfl))) rfl (hl_v (v_not rfl) rfl (hl_v (v_move rfl) rfl (hl_g rfl rfl (fun hg => (v_move rfl)) rfl (hl_g rfl rfl (fun hg => (v_fieldA Try.underlying69 rfl Try.sizeOf3 rfl)) rfl (hl_g rfl rfl (fun hg => (v_load1 Try.isAgg3 (gv_ok rfl hg) (Blk.cell (hO.box 0 rfl) rfl))) rfl (hl_g rfl rfl (fun hg => (v_callv (fs := []) (cs := [ptr b_8 0]) Try.call73 (gv_ok rfl hg) (evs_cons (gv_ok rfl hg) evs_nil) (nfaCheck1_spec (a0 := (n.Edges.getD k default).To) (a1 := n) hO (Fz.of (i := 4) rfl) (Fz.of (i := 3) rfl) (Fz.of (i := 2) rfl) (Bx.of (i := 1) rfl)))) rfl (hl_g rfl rfl (fun hg => (v_not (gv_ok rfl hg))) rfl (hl_v (v_or rfl rfl) rfl (hl_v (v_move rfl) rfl (hl_g rfl rfl (fun hg => (v_fieldA Try.underlying69 rfl Try.sizeOf34 rfl)) rfl (hl_g rfl rfl (fun hg => (v_loadA (cs := (sw ((n.Edges.getD k default).Set))) Try.isAgg34 Try.sizeOf34 (gv_ok rfl hg) (Blk.sub (n := 4) (hO.box 0 rfl) rfl) rfl)) rfl (hl_g rfl rfl (fun hg => (v_buildS0 Try.underlying34 Try.zeroValue34 Try.sizeOf32)) rfl (hl_g rfl rfl (fun hg => (v_eqlSet Try.underlying34 Try.underlying32 Try.sizeOf32 (by kernel_rfl) (gv_ok rfl hg) (gv_ok rfl hg))) rfl (hl_v (v_or rfl rfl) rfl ?_)))))))))))))))))))))
   refine hl_nil (thenQ_n (hw_sub _ (a_c 3 rfl (a_c 38 rfl (a_c 39 rfl (a_c 40 rfl (a_c 61 rfl a_n))))) (hw_cond rfl (fun hc_21 => ?_) (fun hc_21 => ?_))))
   ·replace h := ite_t h hc_21
    refine hw_seq (hw_region (hl_v (v_assign rfl) rfl (hl_nil (thenQ_n (hw_ret (blockQ_r (thenQ_r (thenQ_r (blockQ_r (thenQ_r (ret_i _ (ra_t rfl ra_nil) ?_)))))))))))
    exact ⟨_, 1, (hO.inz 5 rfl), h, rfl, (Own.sel (Ls := [box b_19 (fGEdge.enc (n.Edges.getD k default)) 69, box b_8 [.int .i64 n.States, v_1, v_3, v_5] 25, fz fGEdge.rep v_5 n.Edges, fz fInt.rep v_3 n.Ends, fz fInt.rep v_1 n.Starts, inZ Z]) (L := L) [] rfl hO)⟩
   ·replace h := ite_f h hc_21
    refine hw_skip (blockQ_n (thenQ_n (hw_region (hl_v (v_add rfl rfl (by have hq := of_decide_eq_true hc_17; have hm := hln_9; constructor <;> omega)) rfl (hl_v (v_move rfl) rfl (hl_nil (thenQ_n ?_)))))))
    exact ⟨_, _, (a_c 3 rfl (a_c 38 rfl (a_c 39 rfl (a_c 40 rfl a_n)))), ⟨k + 1, _, rfl, rfl, h, (by have hq := of_decide_eq_true hc_17; omega), (Own.sel (Ls := [box b_19 (fGEdge.enc (n.Edges.getD k default)) 69, box b_8 [.int .i64 n.States, v_1, v_3, v_5] 25, fz fGEdge.rep v_5 n.Edges, fz fInt.rep v_3 n.Ends, fz fInt.rep v_1 n.Starts, inZ Z]) (L := L) [1, 2, 3, 4, 5] rfl hO)⟩, (by have hq := of_decide_eq_true hc_17; omega)⟩
  ·replace h := ite_f h hc_17
   refine hw_exit (thenQ_e (thenQ_e (blockQ_hit (thenQ_n (hw_seq (hw_region (hl_v (v_assign rfl) rfl (hl_nil (thenQ_n (hw_ret (ret_i _ (ra_t rfl ra_nil) ?_)))))))))))
   exact ⟨_, 0, (hO.inz 4 rfl), h, rfl, (Own.sel (Ls := [box b_8 [.int .i64 n.States, v_1, v_3, v_5] 25, fz fGEdge.rep v_5 n.Edges, fz fInt.rep v_3 n.Ends, fz fInt.rep v_1 n.Starts, inZ Z]) (L := L) [] rfl hO)⟩
theorem nfaCheck_spec {a0 : GNfa} {v_1 : Value} {v_3 : Value} {v_5 : Value} {L : List As} {H : Heap} {Z : Nat → Prop} (hO : Own H Z (L)) (hf_2 : Fz fInt.rep L v_1 a0.Starts) (hf_4 : Fz fInt.rep L v_3 a0.Ends) (hf_6 : Fz fGEdge.rep L v_5 a0.Edges) : HC Try.prog 34 [.agg [.int .i64 a0.States, v_1, v_3, v_5].toArray] H (fun v H' => ∃ (Z' : Nat → Prop) , (∀ b, Z b → Z' b) ∧ v = .int .i64 (nCheck a0) ∧ Own H' Z' (L)) := by
  refine (nfaCheck_ok (n := a0) (@nfaCheck_wp a0) hO hf_2 hf_4 hf_6).mono ?_
  rintro v H' ⟨Z', r0, hz, hq, hv, hO'⟩
  obtain rfl := hq
  exact ⟨Z', hz, hv, hO'⟩

theorem nfaWrong1_ok {n : GNfa} {v_1 : Value} {v_3 : Value} {v_5 : Value} {Q : Bool → Prop} {H : Heap} {Z : Nat → Prop} {L : List As} (h : wp_nfaWrong1 n Q) (hO : Own H Z (L)) (hf_2 : Fz fInt.rep L v_1 n.Starts) (hf_4 : Fz fInt.rep L v_3 n.Ends) (hf_6 : Fz fGEdge.rep L v_5 n.Edges) : HC Try.prog 75 [.agg [.int .i64 n.States, v_1, v_3, v_5].toArray] H (fun v H' => ∃ (Z' : Nat → Prop) (r0 : Bool) , (∀ b, Z b → Z' b) ∧ Q r0 ∧ v = .bool r0 ∧ Own H' Z' (L)) := by
 replace hO := hO.inZ
 replace hO := Fz.items [_] hf_2 hO
 replace hO := Fz.items [_, _] hf_4 hO
 replace hO := Fz.items [_, _, _] hf_6 hO
 unfold wp_nfaWrong1 at h
 refine hc_of_hw (N := 6) (rs := [(.tmp 2)]) Try.func75 rfl rfl rfl rfl (hw_seq (hw_region (hl_h (o_box (cs := [.int .i64 n.States, v_1, v_3, v_5]) hO rfl rfl) rfl ?_)))
 rintro _ H_7 ⟨b_8, rfl, hO⟩
 refine hl_v (v_assign rfl) rfl (hl_nil (thenQ_n (hw_seq (hw_region (hl_v (v_loadA Try.isAgg25 Try.sizeOf25 rfl (Blk.at0 (hO.box 0 rfl)) rfl) rfl (hl_h (h_call Try.call34 (evs_cons rfl evs_nil) (nfaCheck_spec (a0 := n) hO (Fz.of (i := 3) rfl) (Fz.of (i := 2) rfl) (Fz.of (i := 1) rfl))) rfl ?_))))))
 rintro _ H_9 ⟨Z_10, _, rfl, hO⟩
 refine hl_v (v_neq rfl rfl) rfl (hl_v (v_assign rfl) rfl (hl_nil (thenQ_n (hw_ret (ret_i _ (ra_t rfl ra_nil) ?_)))))
 exact ⟨_, (!decide (nCheck n = 0)), (hO.inz 4 rfl), h, rfl, (Own.sel (Ls := [box b_8 [.int .i64 n.States, v_1, v_3, v_5] 25, fz fGEdge.rep v_5 n.Edges, fz fInt.rep v_3 n.Ends, fz fInt.rep v_1 n.Starts, inZ Z]) (L := L) [] rfl hO)⟩
theorem nfaWrong1_spec {a0 : GNfa} {v_1 : Value} {v_3 : Value} {v_5 : Value} {L : List As} {H : Heap} {Z : Nat → Prop} (hO : Own H Z (L)) (hf_2 : Fz fInt.rep L v_1 a0.Starts) (hf_4 : Fz fInt.rep L v_3 a0.Ends) (hf_6 : Fz fGEdge.rep L v_5 a0.Edges) : HC Try.prog 75 [.agg [.int .i64 a0.States, v_1, v_3, v_5].toArray] H (fun v H' => ∃ (Z' : Nat → Prop) , (∀ b, Z b → Z' b) ∧ v = .bool (decide (nCheck a0 ≠ 0)) ∧ Own H' Z' (L)) := by
  refine (nfaWrong1_ok (n := a0) (@nfaWrong1_wp a0) hO hf_2 hf_4 hf_6).mono ?_
  rintro v H' ⟨Z', r0, hz, hq, hv, hO'⟩
  obtain rfl := hq
  exact ⟨Z', hz, hv, hO'⟩

theorem indexNfa_ok {s : List GNfa} {f : (GNfa → Bool)} {g_3 : FuncId} {cs_4 : List Value} {v_1 : Value} {Q : Int → Prop} {H : Heap} {Z : Nat → Prop} {L : List As} (h : wp_indexNfa s f Q) (hO : Own H Z (L)) (hf_2 : Fz rGNfa L v_1 s) (hg_5 : ∀ args w, (callFunc g_3 args).run Try.prog w = .ok (.enter g_3 args) w) (hp_6 : ∀ (Ls : List As) (q0 : GNfa) (v_7 : Value) (v_9 : Value) (v_11 : Value) {H : Heap} {Z : Nat → Prop}, Own H Z (Ls ++ L) → Fz fInt.rep (Ls ++ L) v_7 q0.Starts → Fz fInt.rep (Ls ++ L) v_9 q0.Ends → Fz fGEdge.rep (Ls ++ L) v_11 q0.Edges → HC Try.prog g_3 ([] ++ [.agg [.int .i64 q0.States, v_7, v_9, v_11].toArray] ++ cs_4) H (fun v H' => ∃ Z' : Nat → Prop, (∀ b, Z b → Z' b) ∧ v = .bool (f q0) ∧ Own H' Z' (Ls ++ L))) : HC Try.prog 100 [v_1, .func (.func g_3) #[] cs_4.toArray] H (fun v H' => ∃ (Z' : Nat → Prop) (r0 : Int) , (∀ b, Z b → Z' b) ∧ Q r0 ∧ v = .int .i64 r0 ∧ Own H' Z' (L)) := by
 replace hO := hO.inZ
 replace hO := Fz.items [_] hf_2 hO
 unfold wp_indexNfa at h
 refine hc_of_hw (N := 19) (rs := [(.tmp 4)]) Try.func100 rfl rfl rfl rfl (hw_seq (hw_region (hl_v (v_assign rfl) rfl (hl_nil (thenQ_n (hw_seq (hw_seq (hw_region (hl_v (v_move rfl) rfl ?_)))))))))
 have hln_13 := Sl.cap (hO.fsl 0 rfl)
 refine hl_v (v_lenL rfl Try.underlying87 rfl (hO.fsl 0 rfl)) rfl (hl_v (v_move rfl) rfl (hl_nil (thenQ_n (hw_block ?_))))
 obtain ⟨I_14, h, hI_16⟩ := h
 refine hw_lp (fun n' g' H' => ∃ (k : Nat) (Z' : Nat → Prop), n' = s.length - k ∧ g' = [(0, v_1), (1, .func (.func g_3) #[] cs_4.toArray), (7, .int .i64 (s.length : Int)), (8, .int .i64 (k : Int))] ∧ I_14 k ∧ k ≤ s.length ∧ Own H' Z' (fz rGNfa v_1 s :: inZ Z :: L)) _ _ (a_c 0 rfl (a_c 1 rfl (a_c 7 rfl (a_c 8 rfl a_n)))) ⟨0, _, rfl, rfl, h, by omega, hO⟩ ?_
 rintro _ _ H_17 ⟨k, Z_18, rfl, rfl, h, hb_19, hO⟩
 replace h := hI_16 k h hb_19
 refine hw_seq (hw_region (hl_v (v_lss rfl rfl) rfl (hl_nil (thenQ_n (hw_seq (hw_cond rfl (fun hc_20 => ?_) (fun hc_20 => ?_)))))))
 ·replace h := ite_t h hc_20
  refine hw_skip (thenQ_n (hw_seq (hw_block (hw_seq (hw_region (hl_v (v_move rfl) rfl (hl_v (v_assign rfl) rfl (hl_nil (thenQ_n (hw_seq (hw_region (hl_v (v_move rfl) rfl (hl_v (v_move rfl) rfl (hl_v (v_move rfl) rfl (hl_v (v_ixL Try.underlying87 Try.sizeOf25 rfl rfl (hO.fsl 0 rfl) (by exact ⟨Int.natCast_nonneg _, of_decide_eq_true hc_20⟩)) rfl ?_)))))))))))))))
  obtain ⟨cs_27, ha_28, v_21, v_23, v_25, rfl, he_22, he_24, he_26⟩ := sl_rec (hO.fsl 0 rfl) (by exact ⟨Int.natCast_nonneg _, of_decide_eq_true hc_20⟩)
  replace hO := Sl.item he_22 hO
  replace hO := Sl.item he_24 hO
  replace hO := Sl.item he_26 hO
  refine hl_v (v_loadA Try.isAgg25 Try.sizeOf25 rfl ha_28 rfl) rfl (hl_h (h_callv (fs := []) (cs := cs_4) hg_5 rfl (evs_cons rfl evs_nil) (hp_6 [_, _, _, _, _] (s.getD k default) v_21 v_23 v_25 hO (Fz.of (i := 2) rfl) (Fz.of (i := 1) rfl) (Fz.of (i := 0) rfl))) rfl ?_)
  rintro _ H_30 ⟨Z_31, _, rfl, hO⟩
  refine hl_nil (thenQ_n (hw_cond rfl (fun hc_33 => ?_) (fun hc_33 => ?_)))
  ·replace h := ite_t h hc_33
   refine hw_seq (hw_region (hl_v (v_move rfl) rfl (hl_v (v_assign rfl) rfl (hl_nil (thenQ_n (hw_sub _ (a_c 4 rfl a_n) (hw_ret (blockQ_r (thenQ_r (thenQ_r (blockQ_r (thenQ_r (ret_i _ (ra_t rfl ra_nil) ?_)))))))))))))
   exact ⟨_, (k : Int), (hO.inz 4 rfl), h, rfl, (Own.sel (Ls := [fz fGEdge.rep v_25 ((s.getD k default).Edges), fz fInt.rep v_23 ((s.getD k default).Ends), fz fInt.rep v_21 ((s.getD k default).Starts), fz rGNfa v_1 s, inZ Z]) (L := L) [] rfl hO)⟩
  ·replace h := ite_f h hc_33
   refine hw_skip (blockQ_n (thenQ_n (hw_region (hl_v (v_add rfl rfl (by have hq := of_decide_eq_true hc_20; have hm := hln_13; constructor <;> omega)) rfl (hl_v (v_move rfl) rfl (hl_nil (thenQ_n ?_)))))))
   exact ⟨_, _, (a_c 0 rfl (a_c 1 rfl (a_c 7 rfl (a_c 8 rfl a_n)))), ⟨k + 1, _, rfl, rfl, h, (by have hq := of_decide_eq_true hc_20; omega), (Own.sel (Ls := [fz fGEdge.rep v_25 ((s.getD k default).Edges), fz fInt.rep v_23 ((s.getD k default).Ends), fz fInt.rep v_21 ((s.getD k default).Starts), fz rGNfa v_1 s, inZ Z]) (L := L) [3, 4] rfl hO)⟩, (by have hq := of_decide_eq_true hc_20; omega)⟩
 ·replace h := ite_f h hc_20
  refine hw_exit (thenQ_e (thenQ_e (blockQ_hit (thenQ_n (hw_seq (hw_region (hl_v (v_assign rfl) rfl (hl_nil (thenQ_n (hw_ret (ret_i _ (ra_t rfl ra_nil) ?_)))))))))))
  exact ⟨_, (-1), (hO.inz 1 rfl), h, rfl, (Own.sel (Ls := [fz rGNfa v_1 s, inZ Z]) (L := L) [] rfl hO)⟩
theorem indexNfa_spec {a0 : List GNfa} {a1 : (GNfa → Bool)} {g_3 : FuncId} {cs_4 : List Value} {v_1 : Value} {L : List As} {H : Heap} {Z : Nat → Prop} (hO : Own H Z (L)) (hf_2 : Fz rGNfa L v_1 a0) (hg_5 : ∀ args w, (callFunc g_3 args).run Try.prog w = .ok (.enter g_3 args) w) (hp_6 : ∀ (Ls : List As) (q0 : GNfa) (v_7 : Value) (v_9 : Value) (v_11 : Value) {H : Heap} {Z : Nat → Prop}, Own H Z (Ls ++ L) → Fz fInt.rep (Ls ++ L) v_7 q0.Starts → Fz fInt.rep (Ls ++ L) v_9 q0.Ends → Fz fGEdge.rep (Ls ++ L) v_11 q0.Edges → HC Try.prog g_3 ([] ++ [.agg [.int .i64 q0.States, v_7, v_9, v_11].toArray] ++ cs_4) H (fun v H' => ∃ Z' : Nat → Prop, (∀ b, Z b → Z' b) ∧ v = .bool (a1 q0) ∧ Own H' Z' (Ls ++ L))) : HC Try.prog 100 [v_1, .func (.func g_3) #[] cs_4.toArray] H (fun v H' => ∃ (Z' : Nat → Prop) , (∀ b, Z b → Z' b) ∧ v = .int .i64 (idxF a1 a0) ∧ Own H' Z' (L)) := by
  refine (indexNfa_ok (s := a0) (f := a1) (@indexNfa_wp a0 a1) hO hf_2 hg_5 hp_6).mono ?_
  rintro v H' ⟨Z', r0, hz, hq, hv, hO'⟩
  obtain rfl := hq
  exact ⟨Z', hz, hv, hO'⟩

theorem containsNfa_ok {s : List GNfa} {f : (GNfa → Bool)} {g_3 : FuncId} {cs_4 : List Value} {v_1 : Value} {Q : Bool → Prop} {H : Heap} {Z : Nat → Prop} {L : List As} (h : wp_containsNfa s f Q) (hO : Own H Z (L)) (hf_2 : Fz rGNfa L v_1 s) (hg_5 : ∀ args w, (callFunc g_3 args).run Try.prog w = .ok (.enter g_3 args) w) (hp_6 : ∀ (Ls : List As) (q0 : GNfa) (v_7 : Value) (v_9 : Value) (v_11 : Value) {H : Heap} {Z : Nat → Prop}, Own H Z (Ls ++ L) → Fz fInt.rep (Ls ++ L) v_7 q0.Starts → Fz fInt.rep (Ls ++ L) v_9 q0.Ends → Fz fGEdge.rep (Ls ++ L) v_11 q0.Edges → HC Try.prog g_3 ([] ++ [.agg [.int .i64 q0.States, v_7, v_9, v_11].toArray] ++ cs_4) H (fun v H' => ∃ Z' : Nat → Prop, (∀ b, Z b → Z' b) ∧ v = .bool (f q0) ∧ Own H' Z' (Ls ++ L))) : HC Try.prog 74 [v_1, .func (.func g_3) #[] cs_4.toArray] H (fun v H' => ∃ (Z' : Nat → Prop) (r0 : Bool) , (∀ b, Z b → Z' b) ∧ Q r0 ∧ v = .bool r0 ∧ Own H' Z' (L)) := by
 replace hO := hO.inZ
 replace hO := Fz.items [_] hf_2 hO
 unfold wp_containsNfa at h
 refine hc_of_hw (N := 9) (rs := [(.tmp 4)]) Try.func74 rfl rfl rfl rfl (hw_seq (hw_region (hl_v (v_assign rfl) rfl (hl_nil (thenQ_n (hw_seq (hw_region (hl_v (v_move rfl) rfl (hl_v (v_move rfl) rfl (hl_h (h_call Try.call100 (evs_cons rfl (evs_cons rfl evs_nil)) (indexNfa_spec (a0 := s) hO (Fz.of (i := 0) rfl) hg_5 (fun Ls => by have hq := hp_6 (Ls ++ [fz rGNfa v_1 s, inZ Z]); rw [List.append_assoc] at hq; exact hq))) rfl ?_))))))))))
 rintro _ H_13 ⟨Z_14, _, rfl, hO⟩
 refine hl_v (v_geq rfl rfl) rfl (hl_v (v_assign rfl) rfl (hl_nil (thenQ_n (hw_ret (ret_i _ (ra_t rfl ra_nil) ?_)))))
 exact ⟨_, decide (0 ≤ idxF f s), (hO.inz 1 rfl), h, rfl, (Own.sel (Ls := [fz rGNfa v_1 s, inZ Z]) (L := L) [] rfl hO)⟩
theorem containsNfa_spec {a0 : List GNfa} {a1 : (GNfa → Bool)} {g_3 : FuncId} {cs_4 : List Value} {v_1 : Value} {L : List As} {H : Heap} {Z : Nat → Prop} (hO : Own H Z (L)) (hf_2 : Fz rGNfa L v_1 a0) (hg_5 : ∀ args w, (callFunc g_3 args).run Try.prog w = .ok (.enter g_3 args) w) (hp_6 : ∀ (Ls : List As) (q0 : GNfa) (v_7 : Value) (v_9 : Value) (v_11 : Value) {H : Heap} {Z : Nat → Prop}, Own H Z (Ls ++ L) → Fz fInt.rep (Ls ++ L) v_7 q0.Starts → Fz fInt.rep (Ls ++ L) v_9 q0.Ends → Fz fGEdge.rep (Ls ++ L) v_11 q0.Edges → HC Try.prog g_3 ([] ++ [.agg [.int .i64 q0.States, v_7, v_9, v_11].toArray] ++ cs_4) H (fun v H' => ∃ Z' : Nat → Prop, (∀ b, Z b → Z' b) ∧ v = .bool (a1 q0) ∧ Own H' Z' (Ls ++ L))) : HC Try.prog 74 [v_1, .func (.func g_3) #[] cs_4.toArray] H (fun v H' => ∃ (Z' : Nat → Prop) , (∀ b, Z b → Z' b) ∧ v = .bool (a0.any a1) ∧ Own H' Z' (L)) := by
  refine (containsNfa_ok (s := a0) (f := a1) (@containsNfa_wp a0 a1) hO hf_2 hg_5 hp_6).mono ?_
  rintro v H' ⟨Z', r0, hz, hq, hv, hO'⟩
  obtain rfl := hq
  exact ⟨Z', hz, hv, hO'⟩

theorem nfaWrong_ok {l : List GNfa} {v_1 : Value} {Q : Bool → Prop} {H : Heap} {Z : Nat → Prop} {L : List As} (h : wp_nfaWrong l Q) (hO : Own H Z (L)) (hf_2 : Fz rGNfa L v_1 l) : HC Try.prog 35 [v_1] H (fun v H' => ∃ (Z' : Nat → Prop) (r0 : Bool) , (∀ b, Z b → Z' b) ∧ Q r0 ∧ v = .bool r0 ∧ Own H' Z' (L)) := by
 replace hO := hO.inZ
 replace hO := Fz.items [_] hf_2 hO
 unfold wp_nfaWrong at h
 refine hc_of_hw (N := 5) (rs := [(.tmp 2)]) Try.func35 rfl rfl rfl rfl (hw_seq (hw_region (hl_v (v_assign rfl) rfl (hl_nil (thenQ_n (hw_seq (hw_region (hl_v (v_move rfl) rfl (hl_h (h_call Try.call74 (evs_cons rfl (evs_cons rfl evs_nil)) (containsNfa_spec (a0 := l) hO (Fz.of (i := 0) rfl) Try.call75 (fun Ls q0 vq0 vq1 vq2 H Z hO hq0 hq1 hq2 => HC.mono (nfaWrong1_spec (a0 := q0) hO hq0 hq1 hq2) (fun v H' h => h)))) rfl ?_)))))))))
 rintro _ H_9 ⟨Z_10, _, rfl, hO⟩
 refine hl_v (v_assign rfl) rfl (hl_nil (thenQ_n (hw_ret (ret_i _ (ra_t rfl ra_nil) ?_))))
 exact ⟨_, l.any (fun q0 => decide (nCheck q0 ≠ 0)), (hO.inz 1 rfl), h, rfl, (Own.sel (Ls := [fz rGNfa v_1 l, inZ Z]) (L := L) [] rfl hO)⟩
theorem nfaWrong_spec {a0 : List GNfa} {v_1 : Value} {L : List As} {H : Heap} {Z : Nat → Prop} (hO : Own H Z (L)) (hf_2 : Fz rGNfa L v_1 a0) : HC Try.prog 35 [v_1] H (fun v H' => ∃ (Z' : Nat → Prop) , (∀ b, Z b → Z' b) ∧ v = .bool ((a0.any fun n => decide (nCheck n ≠ 0))) ∧ Own H' Z' (L)) := by
  refine (nfaWrong_ok (l := a0) (@nfaWrong_wp a0) hO hf_2).mono ?_
  rintro v H' ⟨Z', r0, hz, hq, hv, hO'⟩
  obtain rfl := hq
  exact ⟨Z', hz, hv, hO'⟩

theorem nfaTakes1_ok {s : Int} {c0 : List (Int × Bool)} {b_1 : Nat} {b_2 : Nat} {Q : Bool → Prop} {H : Heap} {Z : Nat → Prop} {L : List As} (h : wp_nfaTakes1 s c0 Q) (hO : Own H Z (L)) (ht_3 : Tb L (Value.int .i64) Value.bool b_2 c0) (hb_4 : Bx L b_1 [.map (some b_2)] 66) : HC Try.prog 38 [.int .i64 s, ptr b_1 0] H (fun v H' => ∃ (r0 : Bool) , Q r0 ∧ v = .bool r0 ∧ H' = H) := by
 unfold wp_nfaTakes1 at h
 refine hc_of_hw (N := 7) (rs := [(.tmp 3)]) Try.func38 rfl rfl rfl rfl (hw_seq (hw_region (hl_v (v_assign rfl) rfl (hl_nil (thenQ_n (hw_seq (hw_region (hl_v (v_load1 Try.isAgg66 rfl (Blk.cell (hb_4 _ _ hO) rfl)) rfl (hl_v (v_move rfl) rfl (hl_v (v_lookup1 (d := false) (keyInt Try.underlying3) rfl Try.underlying66 Try.zeroValue4 rfl rfl (ht_3 _ _ hO)) rfl (hl_v (v_assign rfl) rfl (hl_nil (thenQ_n (hw_ret (ret_i _ (ra_t rfl ra_nil) ?_)))))))))))))))
 exact ⟨((aget c0 s).getD false), h, rfl, rfl⟩
theorem nfaTakes1_spec {a0 : Int} {a1 : List (Int × Bool)} {b_1 : Nat} {b_2 : Nat} {L : List As} {H : Heap} {Z : Nat → Prop} (hO : Own H Z (L)) (ht_3 : Tb L (Value.int .i64) Value.bool b_2 a1) (hb_4 : Bx L b_1 [.map (some b_2)] 66) : HC Try.prog 38 [.int .i64 a0, ptr b_1 0] H (fun v H' => v = .bool ((aget a1 a0).getD false) ∧ H' = H) := by
  refine (nfaTakes1_ok (s := a0) (c0 := a1) (@nfaTakes1_wp a0 a1) hO ht_3 hb_4).mono ?_
  rintro v H' ⟨r0, hq, hv, hH⟩
  obtain rfl := hq
  exact ⟨hv, hH⟩

theorem indexInt_ok {s : List Int} {f : (Int → Bool)} {g_3 : FuncId} {cs_4 : List Value} {v_1 : Value} {Q : Int → Prop} {H : Heap} {Z : Nat → Prop} {L : List As} (h : wp_indexInt s f Q) (hO : Own H Z (L)) (hr_2 : Rd fInt.rep L v_1 s) (hg_5 : ∀ args w, (callFunc g_3 args).run Try.prog w = .ok (.enter g_3 args) w) (hp_6 : ∀ (Ls : List As) (q0 : Int)  {H : Heap} {Z : Nat → Prop}, Own H Z (Ls ++ L) → HC Try.prog g_3 ([] ++ [.int .i64 q0] ++ cs_4) H (fun v H' => ∃ Z' : Nat → Prop, (∀ b, Z b → Z' b) ∧ v = .bool (f q0) ∧ Own H' Z' (Ls ++ L))) : HC Try.prog 76 [v_1, .func (.func g_3) #[] cs_4.toArray] H (fun v H' => ∃ (Z' : Nat → Prop) (r0 : Int) , (∀ b, Z b → Z' b) ∧ Q r0 ∧ v = .int .i64 r0 ∧ Own H' Z' (L)) := by
 replace hO := hO.inZ
 unfold wp_indexInt at h
 refine hc_of_hw (N := 19) (rs := [(.tmp 4)]) Try.func76 rfl rfl rfl rfl (hw_seq (hw_region (hl_v (v_assign rfl) rfl (hl_nil (thenQ_n (hw_seq (hw_seq (hw_region (hl_v (v_move rfl) rfl ?_)))))))))
 have hln_7 := Sl.cap (Rd.sl hr_2 (Own.tails [_] hO))
 refine hl_v (v_lenL rfl Try.underlying22 rfl (Rd.sl hr_2 (Own.tails [_] hO))) rfl (hl_v (v_move rfl) rfl (hl_nil (thenQ_n (hw_block ?_))))
 obtain ⟨I_8, h, hI_10⟩ := h
 refine hw_lp (fun n' g' H' => ∃ (k : Nat) (Z' : Nat → Prop), n' = s.length - k ∧ g' = [(0, v_1), (1, .func (.func g_3) #[] cs_4.toArray), (7, .int .i64 (s.length : Int)), (8, .int .i64 (k : Int))] ∧ I_8 k ∧ k ≤ s.length ∧ Own H' Z' (inZ Z :: L)) _ _ (a_c 0 rfl (a_c 1 rfl (a_c 7 rfl (a_c 8 rfl a_n)))) ⟨0, _, rfl, rfl, h, by omega, hO⟩ ?_
 rintro _ _ H_11 ⟨k, Z_12, rfl, rfl, h, hb_13, hO⟩
 replace h := hI_10 k h hb_13
 refine hw_seq (hw_region (hl_v (v_lss rfl rfl) rfl (hl_nil (thenQ_n (hw_seq (hw_cond rfl (fun hc_14 => ?_) (fun hc_14 => ?_)))))))
 ·replace h := ite_t h hc_14
  refine hw_skip (thenQ_n (hw_seq (hw_block (hw_seq (hw_region (hl_v (v_move rfl) rfl (hl_v (v_assign rfl) rfl (hl_nil (thenQ_n (hw_seq (hw_region (hl_v (v_move rfl) rfl (hl_v (v_move rfl) rfl (hl_v (v_move rfl) rfl (hl_v (v_ixL Try.underlying22 Try.sizeOf3 rfl rfl (Rd.sl hr_2 (Own.tails [_] hO)) (by exact ⟨Int.natCast_nonneg _, of_decide_eq_true hc_14⟩)) rfl (hl_v (v_loadSc Try.isAgg3 rfl (Rd.sl hr_2 (Own.tails [_] hO)) rfl (by exact ⟨Int.natCast_nonneg _, of_decide_eq_true hc_14⟩) rfl) rfl (hl_h (h_callv (fs := []) (cs := cs_4) hg_5 rfl (evs_cons rfl evs_nil) (hp_6 [_] (s.getD k default) hO)) rfl ?_)))))))))))))))))
  rintro _ H_15 ⟨Z_16, _, rfl, hO⟩
  refine hl_nil (thenQ_n (hw_cond rfl (fun hc_18 => ?_) (fun hc_18 => ?_)))
  ·replace h := ite_t h hc_18
   refine hw_seq (hw_region (hl_v (v_move rfl) rfl (hl_v (v_assign rfl) rfl (hl_nil (thenQ_n (hw_sub _ (a_c 4 rfl a_n) (hw_ret (blockQ_r (thenQ_r (thenQ_r (blockQ_r (thenQ_r (ret_i _ (ra_t rfl ra_nil) ?_)))))))))))))
   exact ⟨_, (k : Int), (hO.inz 0 rfl), h, rfl, (Own.sel (Ls := [inZ Z]) (L := L) [] rfl hO)⟩
  ·replace h := ite_f h hc_18
   refine hw_skip (blockQ_n (thenQ_n (hw_region (hl_v (v_add rfl rfl (by have hq := of_decide_eq_true hc_14; have hm := hln_7; constructor <;> omega)) rfl (hl_v (v_move rfl) rfl (hl_nil (thenQ_n ?_)))))))
   exact ⟨_, _, (a_c 0 rfl (a_c 1 rfl (a_c 7 rfl (a_c 8 rfl a_n)))), ⟨k + 1, _, rfl, rfl, h, (by have hq := of_decide_eq_true hc_14; omega), hO⟩, (by have hq := of_decide_eq_true hc_14; omega)⟩
 ·replace h := ite_f h hc_14
  refine hw_exit (thenQ_e (thenQ_e (blockQ_hit (thenQ_n (hw_seq (hw_region (hl_v (v_assign rfl) rfl (hl_nil (thenQ_n (hw_ret (ret_i _ (ra_t rfl ra_nil) ?_)))))))))))
  exact ⟨_, (-1), (hO.inz 0 rfl), h, rfl, (Own.sel (Ls := [inZ Z]) (L := L) [] rfl hO)⟩
theorem indexInt_spec {a0 : List Int} {a1 : (Int → Bool)} {g_3 : FuncId} {cs_4 : List Value} {v_1 : Value} {L : List As} {H : Heap} {Z : Nat → Prop} (hO : Own H Z (L)) (hr_2 : Rd fInt.rep L v_1 a0) (hg_5 : ∀ args w, (callFunc g_3 args).run Try.prog w = .ok (.enter g_3 args) w) (hp_6 : ∀ (Ls : List As) (q0 : Int)  {H : Heap} {Z : Nat → Prop}, Own H Z (Ls ++ L) → HC Try.prog g_3 ([] ++ [.int .i64 q0] ++ cs_4) H (fun v H' => ∃ Z' : Nat → Prop, (∀ b, Z b → Z' b) ∧ v = .bool (a1 q0) ∧ Own H' Z' (Ls ++ L))) : HC Try.prog 76 [v_1, .func (.func g_3) #[] cs_4.toArray] H (fun v H' => ∃ (Z' : Nat → Prop) , (∀ b, Z b → Z' b) ∧ v = .int .i64 (idxF a1 a0) ∧ Own H' Z' (L)) := by
  refine (indexInt_ok (s := a0) (f := a1) (@indexInt_wp a0 a1) hO hr_2 hg_5 hp_6).mono ?_
  rintro v H' ⟨Z', r0, hz, hq, hv, hO'⟩
  obtain rfl := hq
  exact ⟨Z', hz, hv, hO'⟩

theorem containsInt_ok {s : List Int} {f : (Int → Bool)} {g_3 : FuncId} {cs_4 : List Value} {v_1 : Value} {Q : Bool → Prop} {H : Heap} {Z : Nat → Prop} {L : List As} (h : wp_containsInt s f Q) (hO : Own H Z (L)) (hr_2 : Rd fInt.rep L v_1 s) (hg_5 : ∀ args w, (callFunc g_3 args).run Try.prog w = .ok (.enter g_3 args) w) (hp_6 : ∀ (Ls : List As) (q0 : Int)  {H : Heap} {Z : Nat → Prop}, Own H Z (Ls ++ L) → HC Try.prog g_3 ([] ++ [.int .i64 q0] ++ cs_4) H (fun v H' => ∃ Z' : Nat → Prop, (∀ b, Z b → Z' b) ∧ v = .bool (f q0) ∧ Own H' Z' (Ls ++ L))) : HC Try.prog 37 [v_1, .func (.func g_3) #[] cs_4.toArray] H (fun v H' => ∃ (Z' : Nat → Prop) (r0 : Bool) , (∀ b, Z b → Z' b) ∧ Q r0 ∧ v = .bool r0 ∧ Own H' Z' (L)) := by
 replace hO := hO.inZ
 unfold wp_containsInt at h
 refine hc_of_hw (N := 9) (rs := [(.tmp 4)]) Try.func37 rfl rfl rfl rfl (hw_seq (hw_region (hl_v (v_assign rfl) rfl (hl_nil (thenQ_n (hw_seq (hw_region (hl_v (v_move rfl) rfl (hl_v (v_move rfl) rfl (hl_h (h_call Try.call76 (evs_cons rfl (evs_cons rfl evs_nil)) (indexInt_spec (a0 := s) hO (Rd.tails [_] hr_2) hg_5 (fun Ls => by have hq := hp_6 (Ls ++ [inZ Z]); rw [List.append_assoc] at hq; exact hq))) rfl ?_))))))))))
 rintro _ H_7 ⟨Z_8, _, rfl, hO⟩
 refine hl_v (v_geq rfl rfl) rfl (hl_v (v_assign rfl) rfl (hl_nil (thenQ_n (hw_ret (ret_i _ (ra_t rfl ra_nil) ?_)))))
 exact ⟨_, decide (0 ≤ idxF f s), (hO.inz 0 rfl), h, rfl, (Own.sel (Ls := [inZ Z]) (L := L) [] rfl hO)⟩
theorem containsInt_spec {a0 : List Int} {a1 : (Int → Bool)} {g_3 : FuncId} {cs_4 : List Value} {v_1 : Value} {L : List As} {H : Heap} {Z : Nat → Prop} (hO : Own H Z (L)) (hr_2 : Rd fInt.rep L v_1 a0) (hg_5 : ∀ args w, (callFunc g_3 args).run Try.prog w = .ok (.enter g_3 args) w) (hp_6 : ∀ (Ls : List As) (q0 : Int)  {H : Heap} {Z : Nat → Prop}, Own H Z (Ls ++ L) → HC Try.prog g_3 ([] ++ [.int .i64 q0] ++ cs_4) H (fun v H' => ∃ Z' : Nat → Prop, (∀ b, Z b → Z' b) ∧ v = .bool (a1 q0) ∧ Own H' Z' (Ls ++ L))) : HC Try.prog 37 [v_1, .func (.func g_3) #[] cs_4.toArray] H (fun v H' => ∃ (Z' : Nat → Prop) , (∀ b, Z b → Z' b) ∧ v = .bool (a0.any a1) ∧ Own H' Z' (L)) := by
  refine (containsInt_ok (s := a0) (f := a1) (@containsInt_wp a0 a1) hO hr_2 hg_5 hp_6).mono ?_
  rintro v H' ⟨Z', r0, hz, hq, hv, hO'⟩
  obtain rfl := hq
  exact ⟨Z', hz, hv, hO'⟩

theorem nfaTakes_ok {n : GNfa} {w : List UInt8} {v_1 : Value} {v_3 : Value} {v_5 : Value} {Q : Bool → Int → Prop} {H : Heap} {Z : Nat → Prop} {L : List As} (h : wp_nfaTakes n w Q) (hO : Own H Z (L)) (hf_2 : Fz fInt.rep L v_1 n.Starts) (hf_4 : Fz fInt.rep L v_3 n.Ends) (hf_6 : Fz fGEdge.rep L v_5 n.Edges) : HC Try.prog 10 [.agg [.int .i64 n.States, v_1, v_3, v_5].toArray, str w] H (fun v H' => ∃ (Z' : Nat → Prop) (r0 : Bool) (r1 : Int) , (∀ b, Z b → Z' b) ∧ Q r0 r1 ∧ v = .tuple #[.bool r0, .int .i64 r1] ∧ Own H' Z' (L)) := by
 replace hO := hO.inZ
 replace hO := Fz.items [_] hf_2 hO
 replace hO := Fz.items [_, _] hf_4 hO
 replace hO := Fz.items [_, _, _] hf_6 hO
 unfold wp_nfaTakes at h
 refine hc_of_hw (N := 52) (rs := [(.tmp 4), (.tmp 5)]) Try.func10 rfl rfl rfl rfl (hw_seq (hw_region (hl_h (o_box (cs := [.int .i64 n.States, v_1, v_3, v_5]) hO rfl rfl) rfl ?_)))
 rintro _ H_7 ⟨b_8, rfl, hO⟩
 refine hl_v (v_assign rfl) rfl (hl_v (v_assign rfl) rfl (hl_nil (thenQ_n (hw_seq (hw_seq (hw_region (hl_v (v_loadA Try.isAgg25 Try.sizeOf25 rfl (Blk.at0 (hO.box 0 rfl)) rfl) rfl ?_)))))))
 have hsh_11 := Sl.sh (hO.fsl 3 rfl)
 have hsh_12 := Sl.sh (hO.fsl 2 rfl)
 have hsh_13 := Sl.sh (hO.fsl 1 rfl)
 refine hl_h (o_litR (r := rGNfa) (l := [n]) (xs := [.tmp 11]) (css := [[.int .i64 n.States, v_1, v_3, v_5]]) hO Try.underlying87 Try.sizeOf25 Try.zeroValue25 rfl (evs_cons rfl evs_nil) rfl rfl rfl (by obtain ⟨_, _, _, hw⟩ := hsh_11; (try subst hw); obtain ⟨_, _, _, hw⟩ := hsh_12; (try subst hw); obtain ⟨_, _, _, hw⟩ := hsh_13; (try subst hw); rfl) rfl (relAll_cons ⟨_, _, _, rfl, (hO.fsl 3 rfl), (hO.fsl 2 rfl), (hO.fsl 1 rfl)⟩ relAll_nil)) rfl ?_
 rintro v_10 H_9 hO
 obtain ⟨Z_14, _, hO⟩ := hO.freezeR (i := 0) rfl
 refine hl_h (h_call Try.call35 (evs_cons rfl evs_nil) (nfaWrong_spec (a0 := [n]) hO (Fz.of (i := 0) rfl))) rfl ?_
 rintro _ H_15 ⟨Z_16, _, rfl, hO⟩
 refine hl_nil (thenQ_n (hw_cond rfl (fun hc_18 => ?_) (fun hc_18 => ?_)))
 ·replace h := ite_t h hc_18
  refine hw_seq (hw_region (hl_v (v_assign rfl) rfl (hl_v (v_assign rfl) rfl (hl_nil (thenQ_n (hw_ret (thenQ_r (ret_i _ (ra_t rfl (ra_t rfl ra_nil)) ?_))))))))
  exact ⟨_, false, 1, (hO.inz 5 rfl), h, rfl, (Own.sel (Ls := [fz rGNfa v_10 [n], box b_8 [.int .i64 n.States, v_1, v_3, v_5] 25, fz fGEdge.rep v_5 n.Edges, fz fInt.rep v_3 n.Ends, fz fInt.rep v_1 n.Starts, inZ Z]) (L := L) [] rfl hO)⟩
 ·replace h := ite_f h hc_18
  refine hw_skip (thenQ_n (hw_seq (hw_region (hl_v (v_fieldA Try.underlying25 rfl Try.sizeOf22 rfl) rfl (hl_v (v_load1 Try.isAgg22 rfl (Blk.cell (hO.box 1 rfl) rfl)) rfl (hl_h (h_call Try.call36 (evs_cons rfl evs_nil) (nfaMembers_spec (a0 := n.Starts) hO (Rd.of_fz (i := 4) rfl))) rfl ?_))))))
  rintro _ H_20 ⟨Z_21, b_19, _, rfl, hO⟩
  refine hl_h (o_alloc (cs := [.map none]) hO Try.zeroValue66 rfl) rfl ?_
  rintro _ H_23 ⟨b_24, rfl, hO⟩
  refine hl_s (o_store1 hO 0 rfl Try.sizeOf66 rfl rfl rfl rfl) ?_
  rintro _ H_25 hO
  refine hl_nil (thenQ_n (hw_seq (hw_seq (hw_region (hl_v (v_move rfl) rfl (hl_v (v_lenS rfl Try.underlying9 rfl) rfl (hl_v (v_move rfl) rfl (hl_nil (thenQ_n (hw_sub _ (a_c 1 rfl (a_c 2 rfl (a_c 6 rfl (a_c 18 rfl (a_c 19 rfl a_n))))) (hw_block ?_)))))))))))
  obtain ⟨I_27, h, hI_29⟩ := h
  refine hw_lp (fun n' g' H' => ∃ (xat : List (Int × Bool)) (k : Nat) (b_26 : Nat) (Z' : Nat → Prop), n' = w.length - k ∧ g' = [(1, str w), (2, ptr b_8 0), (6, ptr b_24 0), (18, .int .i64 (w.length : Int)), (19, .int .i64 (k : Int))] ∧ I_27 xat k ∧ k ≤ w.length ∧ Own H' Z' (box b_24 [.map (some b_26)] 66 :: tbl (Value.int .i64) Value.bool b_26 xat :: box b_8 [.int .i64 n.States, v_1, v_3, v_5] 25 :: fz fGEdge.rep v_5 n.Edges :: fz fInt.rep v_3 n.Ends :: fz fInt.rep v_1 n.Starts :: inZ Z :: L)) _ _ (a_c 1 rfl (a_c 2 rfl (a_c 6 rfl (a_c 18 rfl (a_c 19 rfl a_n))))) ⟨membersL n.Starts, 0, b_19, _, rfl, rfl, h, by omega, (Own.sel (Ls := [box b_24 [.map (some b_19)] 66, tbl (Value.int .i64) Value.bool b_19 (membersL n.Starts), fz rGNfa v_10 [n], box b_8 [.int .i64 n.States, v_1, v_3, v_5] 25, fz fGEdge.rep v_5 n.Edges, fz fInt.rep v_3 n.Ends, fz fInt.rep v_1 n.Starts, inZ Z]) (L := L) [0, 1, 3, 4, 5, 6, 7] rfl hO)⟩ ?_
  rintro _ _ H_30 ⟨xat, k, b_26, Z_31, rfl, rfl, h, hb_32, hO⟩
  replace h := hI_29 xat k h hb_32
  refine hw_seq (hw_region (hl_v (v_lss rfl rfl) rfl (hl_nil (thenQ_n (hw_seq (hw_cond rfl (fun hc_33 => ?_) (fun hc_33 => ?_)))))))
  ·replace h := ite_t h hc_33
   refine hw_skip (thenQ_n (hw_seq (hw_block (hw_seq (hw_region (hl_v (v_move rfl) rfl (hl_v (v_assign rfl) rfl (hl_nil (thenQ_n (hw_seq (hw_region (hl_h (o_makeMap (ke := (Value.int .i64)) (ve := Value.bool) hO) rfl ?_))))))))))))
   rintro _ H_34 ⟨b_35, rfl, hO⟩
   refine hl_v (v_assign rfl) rfl (hl_nil (thenQ_n (hw_seq (hw_seq (hw_region (hl_v (v_fieldA Try.underlying25 rfl Try.sizeOf23 rfl) rfl (hl_v (v_load1 Try.isAgg23 rfl (Blk.cell (hO.box 3 rfl) rfl)) rfl ?_)))))))
   have hln_36 := Sl.cap (hO.fsl 4 rfl)
   refine hl_v (v_lenL rfl Try.underlying23 rfl (hO.fsl 4 rfl)) rfl (hl_v (v_move rfl) rfl (hl_nil (thenQ_n (hw_block ?_))))
   obtain ⟨I_38, h, hI_40⟩ := h
   refine hw_lp (fun n' g' H' => ∃ (next : List (Int × Bool)) (k2 : Nat) (b_37 : Nat) (Z' : Nat → Prop), n' = n.Edges.length - k2 ∧ g' = [(1, str w), (2, ptr b_8 0), (6, ptr b_24 0), (7, .int .i64 (k : Int)), (8, .map (some b_37)), (18, .int .i64 (w.length : Int)), (19, .int .i64 (k : Int)), (24, v_5), (25, .int .i64 (n.Edges.length : Int)), (26, .int .i64 (k2 : Int))] ∧ I_38 next k2 ∧ k2 ≤ n.Edges.length ∧ Own H' Z' (tbl (Value.int .i64) Value.bool b_37 next :: box b_24 [.map (some b_26)] 66 :: tbl (Value.int .i64) Value.bool b_26 xat :: box b_8 [.int .i64 n.States, v_1, v_3, v_5] 25 :: fz fGEdge.rep v_5 n.Edges :: fz fInt.rep v_3 n.Ends :: fz fInt.rep v_1 n.Starts :: inZ Z :: L)) _ _ (a_c 1 rfl (a_c 2 rfl (a_c 6 rfl (a_c 7 rfl (a_c 8 rfl (a_c 18 rfl (a_c 19 rfl (a_c 24 rfl (a_c 25 rfl (a_c 26 rfl a_n)))))))))) ⟨[], 0, b_35, _, rfl, rfl, h, by omega, hO⟩ ?_
   rintro _ _ H_41 ⟨next, k2, b_37, Z_42, rfl, rfl, h, hb_43, hO⟩
   replace h := hI_40 next k2 h hb_43
   refine hw_seq (hw_region (hl_v (v_lss rfl rfl) rfl (hl_nil (thenQ_n (hw_seq (hw_cond rfl (fun hc_44 => ?_) (fun hc_44 => ?_)))))))
   ·replace h := ite_t h hc_44
    refine hw_skip (thenQ_n (hw_seq (hw_block (hw_seq (hw_region (hl_v (v_ixL Try.underlying23 Try.sizeOf69 rfl rfl (hO.fsl 4 rfl) (by exact ⟨Int.natCast_nonneg _, of_decide_eq_true hc_44⟩)) rfl (hl_v (v_loadFl Try.isAgg69 Try.sizeOf69 rfl (hO.fsl 4 rfl) rfl (by exact ⟨Int.natCast_nonneg _, of_decide_eq_true hc_44⟩)) rfl (hl_h (o_alloc (cs := (fGEdge.enc (⟨(0 : Int), (0 : Int), BSet.zero⟩ : GEdge))) hO Try.zeroValue69 rfl) rfl ?_))))))))
    rintro _ H_45 ⟨b_46, rfl, hO⟩
    refine hl_s (o_storeA (us := (fGEdge.enc (n.Edges.getD k2 default))) hO 0 rfl Try.sizeOf69 rfl rfl rfl rfl (by intro u hu; exact (fGEdge).one _ u hu)) ?_
    rintro _ H_47 hO
    refine hl_nil (thenQ_n (hw_seq (hw_held (fun H' => ∃ Z' : Nat → Prop, Own H' Z' (box b_46 (fGEdge.enc (n.Edges.getD k2 default)) 69 :: tbl (Value.int .i64) Value.bool b_37 next :: box b_24 [.map (some b_26)] 66 :: tbl (Value.int .i64) Value.bool b_26 xat :: box b_8 [.int .i64 n.States, v_1, v_3, v_5] 25 :: fz fGEdge.rep v_5 n.Edges :: fz fInt.rep v_3 n.Ends :: fz fInt.rep v_1 n.Starts :: inZ Z :: L)) (.step 0 false (.step 1 false (.step 2 false (.step 3 false (.step 4 false (.step 5 false (.step 6 false (.step 7 false (.step 8 false (.step 9 false (.step 10 true (.step 11 false .done)))))))))))) Try.mixed (by kernel_rfl) ⟨_, hO⟩ (hd_v rfl (fun H' hS => by obtain ⟨Z', hO⟩ := hS; exact (v_load1 Try.isAgg66 rfl (Blk.cell (hO.box 2 rfl) rfl))) rfl (hd_v rfl (fun _ _ => (v_fieldA Try.underlying69 rfl Try.sizeOf3 rfl)) rfl (hd_v rfl (fun H' hS => by obtain ⟨Z', hO⟩ := hS; exact (v_load1 Try.isAgg3 rfl (Blk.cell (hO.box 0 rfl) rfl))) rfl (hd_v rfl (fun H' hS => by obtain ⟨Z', hO⟩ := hS; exact (v_lookup1 (d := false) (keyInt Try.underlying3) rfl Try.underlying66 Try.zeroValue4 rfl rfl (hO.tbl 3 rfl))) rfl (hd_v rfl (fun _ _ => (v_move rfl)) rfl (hd_g rfl rfl rfl (fun hg _ _ => (v_fieldA Try.underlying69 rfl Try.sizeOf34 rfl)) rfl (hd_g rfl rfl rfl (fun hg H' hS => by obtain ⟨Z', hO⟩ := hS; exact (v_loadA (cs := (sw ((n.Edges.getD k2 default).Set))) Try.isAgg34 Try.sizeOf34 (gv_ok rfl hg) (Blk.sub (n := 4) (hO.box 0 rfl) rfl) rfl)) rfl (hd_g rfl rfl rfl (fun hg _ _ => (v_move rfl)) rfl (hd_g rfl rfl rfl (fun hg _ _ => (v_move rfl)) rfl ?_))))))))))))
    refine hd_g rfl rfl rfl (fun hg _ _ => (v_idxS Try.underlying9 (gv_ok rfl hg) (gv_ok rfl hg) (by exact ⟨Int.natCast_nonneg _, of_decide_eq_true hc_33⟩))) rfl (hd_gc (v := .bool (((n.Edges.getD k2 default).Set).has (w.getD k 0).toNat)) (R := fun H' => ∃ Z' : Nat → Prop, Own H' Z' (box b_46 (fGEdge.enc (n.Edges.getD k2 default)) 69 :: tbl (Value.int .i64) Value.bool b_37 next :: box b_24 [.map (some b_26)] 66 :: tbl (Value.int .i64) Value.bool b_26 xat :: box b_8 [.int .i64 n.States, v_1, v_3, v_5] 25 :: fz fGEdge.rep v_5 n.Edges :: fz fInt.rep v_3 n.Ends :: fz fInt.rep v_1 n.Starts :: inZ Z :: L)) rfl rfl (fun hg => OpH.mono (h_call Try.call16 (evs_cons (gv_ok rfl hg) (evs_cons (gv_ok rfl hg) evs_nil)) (setHas_spec (a0 := (n.Edges.getD k2 default).Set) (a1 := (w.getD k 0)) hO)) (g_c)) ⟨_, hO⟩ (fun H' hR => by obtain ⟨Z', hO⟩ := hR; exact ⟨Z', hO⟩) rfl ?_)
    rintro H_48 ⟨Z_49, hO⟩
    refine hd_v rfl (fun _ _ => (v_and rfl rfl)) rfl (hd_nil (thenQ_n (hw_cond rfl (fun hc_51 => ?_) (fun hc_51 => ?_))))
    ·replace h := ite_t h hc_51
     refine hw_region (hl_v (v_move rfl) rfl (hl_v (v_fieldA Try.underlying69 rfl Try.sizeOf3 rfl) rfl (hl_v (v_load1 Try.isAgg3 rfl (Blk.cell (hO.box 0 rfl) rfl)) rfl (hl_s (o_mapUpdate (k := (n.Edges.getD k2 default).To) (v := true) hO 1 rfl (keyInt Try.underlying3) rfl Try.underlying66 rfl rfl rfl) ?_))))
     rintro _ H_52 hO
     refine hl_nil (blockQ_n (thenQ_n (hw_region (hl_v (v_add rfl rfl (by have hq := of_decide_eq_true hc_44; have hm := hln_36; constructor <;> omega)) rfl (hl_v (v_move rfl) rfl (hl_nil (thenQ_n ?_)))))))
     exact ⟨_, _, (a_c 1 rfl (a_c 2 rfl (a_c 6 rfl (a_c 7 rfl (a_c 8 rfl (a_c 18 rfl (a_c 19 rfl (a_c 24 rfl (a_c 25 rfl (a_c 26 rfl a_n)))))))))), ⟨(aput next ((n.Edges.getD k2 default).To) true), k2 + 1, b_37, _, rfl, rfl, h, (by have hq := of_decide_eq_true hc_44; omega), (Own.sel (Ls := [box b_46 (fGEdge.enc (n.Edges.getD k2 default)) 69, tbl (Value.int .i64) Value.bool b_37 (aput next ((n.Edges.getD k2 default).To) true), box b_24 [.map (some b_26)] 66, tbl (Value.int .i64) Value.bool b_26 xat, box b_8 [.int .i64 n.States, v_1, v_3, v_5] 25, fz fGEdge.rep v_5 n.Edges, fz fInt.rep v_3 n.Ends, fz fInt.rep v_1 n.Starts, inZ Z]) (L := L) [1, 2, 3, 4, 5, 6, 7, 8] rfl hO)⟩, (by have hq := of_decide_eq_true hc_44; omega)⟩
    ·replace h := ite_f h hc_51
     refine hw_skip (blockQ_n (thenQ_n (hw_region (hl_v (v_add rfl rfl (by have hq := of_decide_eq_true hc_44; have hm := hln_36; constructor <;> omega)) rfl (hl_v (v_move rfl) rfl (hl_nil (thenQ_n ?_)))))))
     exact ⟨_, _, (a_c 1 rfl (a_c 2 rfl (a_c 6 rfl (a_c 7 rfl (a_c 8 rfl (a_c 18 rfl (a_c 19 rfl (a_c 24 rfl (a_c 25 rfl (a_c 26 rfl a_n)))))))))), ⟨next, k2 + 1, b_37, _, rfl, rfl, h, (by have hq := of_decide_eq_true hc_44; omega), (Own.sel (Ls := [box b_46 (fGEdge.enc (n.Edges.getD k2 default)) 69, tbl (Value.int .i64) Value.bool b_37 next, box b_24 [.map (some b_26)] 66, tbl (Value.int .i64) Value.bool b_26 xat, box b_8 [.int .i64 n.States, v_1, v_3, v_5] 25, fz fGEdge.rep v_5 n.Edges, fz fInt.rep v_3 n.Ends, fz fInt.rep v_1 n.Starts, inZ Z]) (L := L) [1, 2, 3, 4, 5, 6, 7, 8] rfl hO)⟩, (by have hq := of_decide_eq_true hc_44; omega)⟩
   ·replace h := ite_f h hc_44
    refine hw_exit (thenQ_e (thenQ_e (blockQ_hit (thenQ_n (hw_region (hl_v (v_move rfl) rfl (hl_s (o_store1 hO 1 rfl Try.sizeOf66 rfl rfl rfl rfl) ?_)))))))
    rintro _ H_53 hO
    refine hl_nil (blockQ_n (thenQ_n (hw_region ?_)))
    obtain ⟨hs_54, h⟩ := h
    refine hl_v (v_add rfl rfl hs_54) rfl (hl_v (v_move rfl) rfl (hl_nil (thenQ_n ?_)))
    exact ⟨_, _, (a_c 1 rfl (a_c 2 rfl (a_c 6 rfl (a_c 18 rfl (a_c 19 rfl a_n))))), ⟨next, k + 1, b_37, _, rfl, rfl, h, (by have hq := of_decide_eq_true hc_33; omega), (Own.sel (Ls := [tbl (Value.int .i64) Value.bool b_37 next, box b_24 [.map (some b_37)] 66, tbl (Value.int .i64) Value.bool b_26 xat, box b_8 [.int .i64 n.States, v_1, v_3, v_5] 25, fz fGEdge.rep v_5 n.Edges, fz fInt.rep v_3 n.Ends, fz fInt.rep v_1 n.Starts, inZ Z]) (L := L) [1, 0, 3, 4, 5, 6, 7] rfl hO)⟩, (by have hq := of_decide_eq_true hc_33; omega)⟩
  ·replace h := ite_f h hc_33
   refine hw_exit (thenQ_e (thenQ_e (blockQ_hit (thenQ_n (hw_seq (hw_region (hl_v (v_fieldA Try.underlying25 rfl Try.sizeOf22 rfl) rfl (hl_v (v_load1 Try.isAgg22 rfl (Blk.cell (hO.box 2 rfl) rfl)) rfl (hl_v (v_makeFunc (us := []) (vs := [_]) rfl rfl) rfl (hl_h (h_call Try.call37 (evs_cons rfl (evs_cons rfl evs_nil)) (containsInt_spec (a0 := n.Ends) hO (Rd.of_fz (i := 4) rfl) Try.call38 (fun Ls q0 H Z hO => HC.mono (nfaTakes1_spec (a0 := q0) (a1 := xat) hO (Tb.tails Ls (Tb.of (i := 1) rfl)) (Bx.tails Ls (Bx.of (i := 0) rfl))) (fun v H' h => ⟨Z, fun _ h => h, h.1, h.2 ▸ hO⟩)))) rfl ?_))))))))))
   rintro _ H_55 ⟨Z_56, _, rfl, hO⟩
   refine hl_v (v_assign rfl) rfl (hl_v (v_assign rfl) rfl (hl_nil (thenQ_n (hw_ret (ret_i _ (ra_t rfl (ra_t rfl ra_nil)) ?_)))))
   exact ⟨_, n.Ends.any (fun q0 => (aget xat q0).getD false), 0, (hO.inz 6 rfl), h, rfl, (Own.sel (Ls := [box b_24 [.map (some b_26)] 66, tbl (Value.int .i64) Value.bool b_26 xat, box b_8 [.int .i64 n.States, v_1, v_3, v_5] 25, fz fGEdge.rep v_5 n.Edges, fz fInt.rep v_3 n.Ends, fz fInt.rep v_1 n.Starts, inZ Z]) (L := L) [] rfl hO)⟩
theorem nfaTakes_spec {a0 : GNfa} {a1 : List UInt8} {v_1 : Value} {v_3 : Value} {v_5 : Value} {L : List As} (hp : a1.length ≤ 140737488351232) {H : Heap} {Z : Nat → Prop} (hO : Own H Z (L)) (hf_2 : Fz fInt.rep L v_1 a0.Starts) (hf_4 : Fz fInt.rep L v_3 a0.Ends) (hf_6 : Fz fGEdge.rep L v_5 a0.Edges) : HC Try.prog 10 [.agg [.int .i64 a0.States, v_1, v_3, v_5].toArray, str a1] H (fun v H' => ∃ (Z' : Nat → Prop) , (∀ b, Z b → Z' b) ∧ v = .tuple #[.bool ((nTakes a0 a1).1), .int .i64 ((nTakes a0 a1).2)] ∧ Own H' Z' (L)) := by
  refine (nfaTakes_ok (n := a0) (w := a1) (@nfaTakes_wp a0 a1 hp) hO hf_2 hf_4 hf_6).mono ?_
  rintro v H' ⟨Z', r0, r1, hz, hq, hv, hO'⟩
  obtain ⟨rfl, rfl⟩ := hq
  exact ⟨Z', hz, hv, hO'⟩

theorem nfaEmpty1_ok {s : Int} {c0 : List (Int × Bool)} {b_1 : Nat} {b_2 : Nat} {Q : Bool → Prop} {H : Heap} {Z : Nat → Prop} {L : List As} (h : wp_nfaEmpty1 s c0 Q) (hO : Own H Z (L)) (ht_3 : Tb L (Value.int .i64) Value.bool b_2 c0) (hb_4 : Bx L b_1 [.map (some b_2)] 66) : HC Try.prog 79 [.int .i64 s, ptr b_1 0] H (fun v H' => ∃ (r0 : Bool) , Q r0 ∧ v = .bool r0 ∧ H' = H) := by
 unfold wp_nfaEmpty1 at h
 refine hc_of_hw (N := 7) (rs := [(.tmp 3)]) Try.func79 rfl rfl rfl rfl (hw_seq (hw_region (hl_v (v_assign rfl) rfl (hl_nil (thenQ_n (hw_seq (hw_region (hl_v (v_load1 Try.isAgg66 rfl (Blk.cell (hb_4 _ _ hO) rfl)) rfl (hl_v (v_move rfl) rfl (hl_v (v_lookup1 (d := false) (keyInt Try.underlying3) rfl Try.underlying66 Try.zeroValue4 rfl rfl (ht_3 _ _ hO)) rfl (hl_v (v_assign rfl) rfl (hl_nil (thenQ_n (hw_ret (ret_i _ (ra_t rfl ra_nil) ?_)))))))))))))))
 exact ⟨((aget c0 s).getD false), h, rfl, rfl⟩
theorem nfaEmpty1_spec {a0 : Int} {a1 : List (Int × Bool)} {b_1 : Nat} {b_2 : Nat} {L : List As} {H : Heap} {Z : Nat → Prop} (hO : Own H Z (L)) (ht_3 : Tb L (Value.int .i64) Value.bool b_2 a1) (hb_4 : Bx L b_1 [.map (some b_2)] 66) : HC Try.prog 79 [.int .i64 a0, ptr b_1 0] H (fun v H' => v = .bool ((aget a1 a0).getD false) ∧ H' = H) := by
  refine (nfaEmpty1_ok (s := a0) (c0 := a1) (@nfaEmpty1_wp a0 a1) hO ht_3 hb_4).mono ?_
  rintro v H' ⟨r0, hq, hv, hH⟩
  obtain rfl := hq
  exact ⟨hv, hH⟩

theorem nfaEmpty_ok {n : GNfa} {v_1 : Value} {v_3 : Value} {v_5 : Value} {Q : Bool → Prop} {H : Heap} {Z : Nat → Prop} {L : List As} (h : wp_nfaEmpty n Q) (hO : Own H Z (L)) (hf_2 : Fz fInt.rep L v_1 n.Starts) (hf_4 : Fz fInt.rep L v_3 n.Ends) (hf_6 : Fz fGEdge.rep L v_5 n.Edges) : HC Try.prog 47 [.agg [.int .i64 n.States, v_1, v_3, v_5].toArray] H (fun v H' => ∃ (Z' : Nat → Prop) (r0 : Bool) , (∀ b, Z b → Z' b) ∧ Q r0 ∧ v = .bool r0 ∧ Own H' Z' (L)) := by
 replace hO := hO.inZ
 replace hO := Fz.items [_] hf_2 hO
 replace hO := Fz.items [_, _] hf_4 hO
 replace hO := Fz.items [_, _, _] hf_6 hO
 unfold wp_nfaEmpty at h
 refine hc_of_hw (N := 11) (rs := [(.tmp 2)]) Try.func47 rfl rfl rfl rfl (hw_seq (hw_region (hl_h (o_box (cs := [.int .i64 n.States, v_1, v_3, v_5]) hO rfl rfl) rfl ?_)))
 rintro _ H_7 ⟨b_8, rfl, hO⟩
 refine hl_v (v_assign rfl) rfl (hl_nil (thenQ_n (hw_seq (hw_region (hl_v (v_fieldA Try.underlying25 rfl Try.sizeOf22 rfl) rfl (hl_v (v_load1 Try.isAgg22 rfl (Blk.cell (hO.box 0 rfl) rfl)) rfl (hl_h (h_call Try.call36 (evs_cons rfl evs_nil) (nfaMembers_spec (a0 := n.Ends) hO (Rd.of_fz (i := 2) rfl))) rfl ?_)))))))
 rintro _ H_10 ⟨Z_11, b_9, _, rfl, hO⟩
 refine hl_h (o_alloc (cs := [.map none]) hO Try.zeroValue66 rfl) rfl ?_
 rintro _ H_13 ⟨b_14, rfl, hO⟩
 refine hl_s (o_store1 hO 0 rfl Try.sizeOf66 rfl rfl rfl rfl) ?_
 rintro _ H_15 hO
 refine hl_nil (thenQ_n (hw_seq (hw_region (hl_v (v_fieldA Try.underlying25 rfl Try.sizeOf22 rfl) rfl (hl_v (v_load1 Try.isAgg22 rfl (Blk.cell (hO.box 2 rfl) rfl)) rfl (hl_v (v_makeFunc (us := []) (vs := [_]) rfl rfl) rfl (hl_h (h_call Try.call37 (evs_cons rfl (evs_cons rfl evs_nil)) (containsInt_spec (a0 := n.Starts) hO (Rd.of_fz (i := 5) rfl) Try.call79 (fun Ls q0 H Z hO => HC.mono (nfaEmpty1_spec (a0 := q0) (a1 := membersL n.Ends) hO (Tb.tails Ls (Tb.of (i := 1) rfl)) (Bx.tails Ls (Bx.of (i := 0) rfl))) (fun v H' h => ⟨Z, fun _ h => h, h.1, h.2 ▸ hO⟩)))) rfl ?_)))))))
 rintro _ H_16 ⟨Z_17, _, rfl, hO⟩
 refine hl_v (v_assign rfl) rfl (hl_nil (thenQ_n (hw_ret (ret_i _ (ra_t rfl ra_nil) ?_))))
 exact ⟨_, n.Starts.any (fun q0 => (aget (membersL n.Ends) q0).getD false), (hO.inz 6 rfl), h, rfl, (Own.sel (Ls := [box b_14 [.map (some b_9)] 66, tbl (Value.int .i64) Value.bool b_9 (membersL n.Ends), box b_8 [.int .i64 n.States, v_1, v_3, v_5] 25, fz fGEdge.rep v_5 n.Edges, fz fInt.rep v_3 n.Ends, fz fInt.rep v_1 n.Starts, inZ Z]) (L := L) [] rfl hO)⟩
theorem nfaEmpty_spec {a0 : GNfa} {v_1 : Value} {v_3 : Value} {v_5 : Value} {L : List As} {H : Heap} {Z : Nat → Prop} (hO : Own H Z (L)) (hf_2 : Fz fInt.rep L v_1 a0.Starts) (hf_4 : Fz fInt.rep L v_3 a0.Ends) (hf_6 : Fz fGEdge.rep L v_5 a0.Edges) : HC Try.prog 47 [.agg [.int .i64 a0.States, v_1, v_3, v_5].toArray] H (fun v H' => ∃ (Z' : Nat → Prop) , (∀ b, Z b → Z' b) ∧ v = .bool (nEmpty a0) ∧ Own H' Z' (L)) := by
  refine (nfaEmpty_ok (n := a0) (@nfaEmpty_wp a0) hO hf_2 hf_4 hf_6).mono ?_
  rintro v H' ⟨Z', r0, hz, hq, hv, hO'⟩
  obtain rfl := hq
  exact ⟨Z', hz, hv, hO'⟩

theorem cloneInt_ok {s : List Int} {v_1 : Value} {Q : (List Int) → Prop} {H : Heap} {Z : Nat → Prop} {L : List As} (h : wp_cloneInt s Q) (hO : Own H Z (L)) (hr_2 : Rd fInt.rep L v_1 s) : HC Try.prog 46 [v_1] H (fun v H' => ∃ (Z' : Nat → Prop) (r0 : List Int) (v_3 : Value), (∀ b, Z b → Z' b) ∧ Q r0 ∧ v = v_3 ∧ Own H' Z' (own fInt 3 v_3 r0 :: L)) := by
 replace hO := hO.inZ
 unfold wp_cloneInt at h
 refine hc_of_hw (N := 8) (rs := [(.tmp 2)]) Try.func46 rfl rfl rfl rfl (hw_seq (hw_region (hl_v (v_assign rfl) rfl (hl_nil (thenQ_n (hw_seq (hw_seq (hw_region (hl_v (v_move rfl) rfl ?_)))))))))
 replace h := h (isNil v_1) (fun hn => Sl.isNil (Rd.sl hr_2 (Own.tails [_] hO)) hn)
 refine hl_v (v_eqlNil Try.underlying22 rfl (Rd.sl hr_2 (Own.tails [_] hO))) rfl (hl_nil (thenQ_n (hw_cond rfl (fun hc_4 => ?_) (fun hc_4 => ?_))))
 ·replace h := ite_t h hc_4
  refine hw_seq (hw_region (hl_v (v_assign rfl) rfl (hl_nil (thenQ_n (hw_ret (thenQ_r ?_))))))
  replace hO := hO.nil fInt 3
  refine ret_i _ (ra_t rfl ra_nil) ?_
  exact ⟨_, [], .slice none 0 0, (hO.inz 1 rfl), h, rfl, (Own.sel (Ls := [own fInt 3 (.slice none 0 0) [], inZ Z]) (L := L) [0] rfl hO)⟩
 ·replace h := ite_f h hc_4
  refine hw_skip (thenQ_n (hw_seq (hw_region (hl_h (o_lit0 (g := fInt) hO Try.underlying22 Try.sizeOf3) rfl ?_))))
  rintro v_6 H_5 hO
  refine hl_v (v_move rfl) rfl ?_
  obtain ⟨hs_9, h⟩ := h
  refine hl_h (o_append (l2 := s) hO 0 rfl rfl Try.underlying22 Try.type3 rfl rfl rfl rfl rfl rfl rfl (Rd.sl hr_2 (Own.tails [_, _] hO)) hs_9 (le63 hs_9 rfl)) rfl ?_
  rintro v_8 H_7 hO
  refine hl_v (v_assign rfl) rfl (hl_nil (thenQ_n (hw_ret (ret_i _ (ra_t rfl ra_nil) ?_))))
  exact ⟨_, ([] ++ s), v_8, (hO.inz 1 rfl), h, rfl, (Own.sel (Ls := [own fInt 3 v_8 ([] ++ s), inZ Z]) (L := L) [0] rfl hO)⟩
theorem cloneInt_spec {a0 : List Int} {v_1 : Value} {L : List As} (hp : a0.length ≤ 17592186044416) {H : Heap} {Z : Nat → Prop} (hO : Own H Z (L)) (hr_2 : Rd fInt.rep L v_1 a0) : HC Try.prog 46 [v_1] H (fun v H' => ∃ (Z' : Nat → Prop) (v_3 : Value), (∀ b, Z b → Z' b) ∧ v = v_3 ∧ Own H' Z' (own fInt 3 v_3 (a0) :: L)) := by
  refine (cloneInt_ok (s := a0) (@cloneInt_wp a0 hp) hO hr_2).mono ?_
  rintro v H' ⟨Z', r0, v_3, hz, hq, hv, hO'⟩
  obtain rfl := hq
  exact ⟨Z', v_3, hz, hv, hO'⟩

theorem growInt_ok {s : List Int} {n : Int}  {Q : (List Int) → Prop} {H : Heap} {Z : Nat → Prop} {L : List As} (h : wp_growInt s n Q) (hO : Own H Z (L))  : HC Try.prog 80 [.slice none 0 0, .int .i64 n] H (fun v H' => ∃ (Z' : Nat → Prop) (r0 : List Int) (v_1 : Value), (∀ b, Z b → Z' b) ∧ Q r0 ∧ v = v_1 ∧ Own H' Z' (own fInt 3 v_1 r0 :: L)) := by
 replace hO := hO.inZ
 unfold wp_growInt at h
 refine hc_of_hw (N := 27) (rs := [(.tmp 4)]) Try.func80 rfl rfl rfl rfl (hw_seq (hw_region (hl_v (v_assign rfl) rfl (hl_nil (thenQ_n (hw_seq (hw_seq (hw_region (hl_v (v_move rfl) rfl (hl_v (v_lss rfl rfl) rfl (hl_nil (thenQ_n (hw_cond rfl (fun hc_2 => ?_) (fun hc_2 => ?_))))))))))))))
 ·replace h := ite_t h hc_2
  exact h.elim
 ·replace h := ite_f h hc_2
  refine hw_skip (thenQ_n ?_)
  obtain ⟨K_4, h, hk_7⟩ := h
  refine hw_jn (fun g' H' => ∃ (s2 : List Int) (v_3 : Value) (Z' : Nat → Prop), g' = [(0, v_3)] ∧ K_4 s2 ∧ Own H' Z' (own fInt 3 v_3 s2 :: inZ Z :: L)) ?_ ?_
  ·refine hw_seq (hw_region (hl_v (v_move rfl) rfl (hl_v (v_move rfl) rfl (hl_v (v_capNil rfl Try.underlying22 rfl) rfl (hl_v (v_move rfl) rfl (hl_v (v_lenL rfl Try.underlying22 rfl (Sl.nil (r := fInt.rep) (S := fun _ => True))) rfl ?_))))))
   obtain ⟨hs_8, h⟩ := h
   refine hl_v (v_sub rfl rfl hs_8) rfl ?_
   obtain ⟨hs_9, h⟩ := h
   refine hl_v (v_sub rfl rfl hs_9) rfl (hl_v (v_assign rfl) rfl (hl_nil (thenQ_n (hw_seq (hw_region (hl_v (v_move rfl) rfl (hl_v (v_gtr rfl rfl) rfl (hl_nil (thenQ_n (hw_sub _ (a_c 0 rfl (a_c 1 rfl (a_c 16 rfl a_n))) (hw_cond rfl (fun hc_10 => ?_) (fun hc_10 => ?_))))))))))))
   ·replace h := ite_t h hc_10
    refine hw_region (hl_v (v_move rfl) rfl (hl_v (v_move rfl) rfl (hl_v (v_capNil rfl Try.underlying22 rfl) rfl (hl_v (v_sliceLh (r := fInt.rep) (S := fun _ => True) (l := []) Try.underlying22 Try.sizeOf3 rfl rfl Sl.nil (by decide)) rfl (hl_v (v_move rfl) rfl ?_)))))
    obtain ⟨hs_13, h⟩ := h
    refine hl_h (o_appendZ (g := fInt) (d := (0 : Int)) hO rfl Try.underlying22 Try.underlying3 Try.type3 rfl rfl rfl rfl rfl rfl hs_13.1 hs_13.2.1 hs_13.2.2) rfl ?_
    rintro v_12 H_11 hO
    refine hl_v (v_move rfl) rfl (hl_v (v_lenL rfl Try.underlying22 rfl (Sl.nil (r := fInt.rep) (S := fun _ => True))) rfl ?_)
    obtain ⟨hs_14, h⟩ := h
    refine hl_v (v_sliceLh Try.underlying22 Try.sizeOf3 rfl rfl (hO.osl 0 rfl) hs_14) rfl ?_
    replace hO : Own H_11 Z (own fInt 3 (slv v_12 1 0 0) ((List.replicate (n - (0 - 0)).toNat (0 : Int)).take 0) :: inZ Z :: L) := hO.trunc (i := 0) rfl (by have hq := hs_14; omega)
    refine hl_v (v_assign rfl) rfl (hl_nil (thenQ_n (⟨_, (a_c 0 rfl a_n), ⟨((List.replicate (n - (0 - 0)).toNat (0 : Int)).take 0), (slv v_12 1 0 0), _, rfl, h, hO⟩⟩)))
   ·replace h := ite_f h hc_10
    refine hw_skip (thenQ_n ?_)
    replace hO := hO.nil fInt 3
    refine ⟨_, (a_c 0 rfl a_n), ⟨[], .slice none 0 0, _, rfl, h, hO⟩⟩
  ·rintro _ H_5 ⟨s2, v_3, Z_6, rfl, h, hO⟩
   replace h := hk_7 s2 h
   refine hw_seq (hw_region (hl_v (v_move rfl) rfl (hl_v (v_assign rfl) rfl (hl_nil (thenQ_n (hw_ret (ret_i _ (ra_t rfl ra_nil) ?_)))))))
   exact ⟨_, s2, v_3, (hO.inz 1 rfl), h, rfl, (Own.sel (Ls := [own fInt 3 v_3 s2, inZ Z]) (L := L) [0] rfl hO)⟩
theorem growInt_spec {a0 : List Int} {a1 : Int}  {L : List As} (hp : 0 ≤ a1 ∧ a1 ≤ 17592186044416) {H : Heap} {Z : Nat → Prop} (hO : Own H Z (L))  : HC Try.prog 80 [.slice none 0 0, .int .i64 a1] H (fun v H' => ∃ (Z' : Nat → Prop) (v_1 : Value), (∀ b, Z b → Z' b) ∧ v = v_1 ∧ Own H' Z' (own fInt 3 v_1 (([] : List Int)) :: L)) := by
  refine (growInt_ok (s := a0) (n := a1) (@growInt_wp a0 a1 hp) hO).mono ?_
  rintro v H' ⟨Z', r0, v_1, hz, hq, hv, hO'⟩
  obtain rfl := hq
  exact ⟨Z', v_1, hz, hv, hO'⟩

theorem concatInt_ok {slices : List (List Int)} {v_1 : Value} {Q : (List Int) → Prop} {H : Heap} {Z : Nat → Prop} {L : List As} (h : wp_concatInt slices Q) (hO : Own H Z (L)) (hf_2 : Fz (Rep.sl fInt.rep) L v_1 slices) : HC Try.prog 48 [v_1] H (fun v H' => ∃ (Z' : Nat → Prop) (r0 : List Int) (v_3 : Value), (∀ b, Z b → Z' b) ∧ Q r0 ∧ v = v_3 ∧ Own H' Z' (own fInt 3 v_3 r0 :: L)) := by
 replace hO := hO.inZ
 replace hO := Fz.items [_] hf_2 hO
 unfold wp_concatInt at h
 refine hc_of_hw (N := 36) (rs := [(.tmp 2)]) Try.func48 rfl rfl rfl rfl (hw_seq (hw_region (hl_v (v_assign rfl) rfl (hl_nil (thenQ_n (hw_seq (hw_region (hl_v (v_assign rfl) rfl (hl_nil (thenQ_n (hw_seq (hw_seq (hw_region (hl_v (v_move rfl) rfl ?_))))))))))))))
 have hln_4 := Sl.cap (hO.fsl 0 rfl)
 refine hl_v (v_lenL rfl Try.underlying111 rfl (hO.fsl 0 rfl)) rfl (hl_v (v_move rfl) rfl (hl_nil (thenQ_n (hw_block ?_))))
 obtain ⟨I_5, h, hI_7⟩ := h
 refine hw_lp (fun n' g' H' => ∃ (size : Int) (k : Nat) (Z' : Nat → Prop), n' = slices.length - k ∧ g' = [(0, v_1), (3, .int .i64 size), (9, v_1), (10, .int .i64 (slices.length : Int)), (11, .int .i64 (k : Int))] ∧ I_5 size k ∧ k ≤ slices.length ∧ Own H' Z' (fz (Rep.sl fInt.rep) v_1 slices :: inZ Z :: L)) _ _ (a_c 0 rfl (a_c 3 rfl (a_c 9 rfl (a_c 10 rfl (a_c 11 rfl a_n))))) ⟨0, 0, _, rfl, rfl, h, by omega, hO⟩ ?_
 rintro _ _ H_8 ⟨size, k, Z_9, rfl, rfl, h, hb_10, hO⟩
 replace h := hI_7 size k h hb_10
 refine hw_seq (hw_region (hl_v (v_lss rfl rfl) rfl (hl_nil (thenQ_n (hw_seq (hw_cond rfl (fun hc_11 => ?_) (fun hc_11 => ?_)))))))
 ·replace h := ite_t h hc_11
  refine hw_skip (thenQ_n (hw_seq (hw_block (hw_seq (hw_region (hl_v (v_ixL Try.underlying111 Try.sizeOf22 rfl rfl (hO.fsl 0 rfl) (by exact ⟨Int.natCast_nonneg _, of_decide_eq_true hc_11⟩)) rfl ?_))))))
  obtain ⟨v_12, ha_14, he_13⟩ := sl_row (hO.fsl 0 rfl) (by exact ⟨Int.natCast_nonneg _, of_decide_eq_true hc_11⟩)
  replace hO := Sl.item he_13 hO
  refine hl_v (v_load1 Try.isAgg22 rfl ha_14) rfl (hl_v (v_assign rfl) rfl (hl_nil (thenQ_n (hw_seq (hw_region (hl_v (v_move rfl) rfl (hl_v (v_move rfl) rfl ?_)))))))
  have hln_15 := Sl.cap (hO.fsl 0 rfl)
  refine hl_v (v_lenL rfl Try.underlying22 rfl (hO.fsl 0 rfl)) rfl ?_
  obtain ⟨hs_16, h⟩ := h
  refine hl_v (v_add rfl rfl hs_16) rfl (hl_v (v_assign rfl) rfl (hl_nil (thenQ_n (hw_seq (hw_region (hl_v (v_move rfl) rfl (hl_v (v_lss rfl rfl) rfl (hl_nil (thenQ_n (hw_sub _ (a_c 0 rfl (a_c 3 rfl (a_c 9 rfl (a_c 10 rfl (a_c 11 rfl (a_c 20 rfl a_n)))))) (hw_cond rfl (fun hc_17 => ?_) (fun hc_17 => ?_))))))))))))
  ·replace h := ite_t h hc_17
   exact h.elim
  ·replace h := ite_f h hc_17
   refine hw_skip (blockQ_n (thenQ_n (hw_region (hl_v (v_add rfl rfl (by have hq := of_decide_eq_true hc_11; have hm := hln_4; constructor <;> omega)) rfl (hl_v (v_move rfl) rfl (hl_nil (thenQ_n ?_)))))))
   exact ⟨_, _, (a_c 0 rfl (a_c 3 rfl (a_c 9 rfl (a_c 10 rfl (a_c 11 rfl a_n))))), ⟨(size + ((slices.getD k default).length : Int)), k + 1, _, rfl, rfl, h, (by have hq := of_decide_eq_true hc_11; omega), (Own.sel (Ls := [fz fInt.rep v_12 (slices.getD k default), fz (Rep.sl fInt.rep) v_1 slices, inZ Z]) (L := L) [1, 2] rfl hO)⟩, (by have hq := of_decide_eq_true hc_11; omega)⟩
 ·replace h := ite_f h hc_11
  refine hw_exit (thenQ_e (thenQ_e (blockQ_hit (thenQ_n (hw_seq (hw_region (hl_v (v_move rfl) rfl ?_)))))))
  obtain ⟨hs_18, h⟩ := h
  refine hl_h (h_call Try.call80 (evs_cons (show _ = some (.slice none 0 0) from rfl) (evs_cons rfl evs_nil)) (growInt_spec (a0 := ([] : List Int)) (a1 := size) hs_18 hO)) rfl ?_
  rintro v_19 H_20 ⟨Z_21, _, _, rfl, hO⟩
  refine hl_v (v_assign rfl) rfl (hl_nil (thenQ_n (hw_seq (hw_seq (hw_region (hl_v (v_move rfl) rfl (hl_v (v_lenL rfl Try.underlying111 rfl (hO.fsl 1 rfl)) rfl (hl_v (v_move rfl) rfl (hl_nil (thenQ_n (hw_block ?_)))))))))))
  obtain ⟨I_24, h, hI_26⟩ := h
  refine hw_lp (fun n' g' H' => ∃ (newslice : List Int) (k2 : Nat) (v_23 : Value) (Z' : Nat → Prop), n' = slices.length - k2 ∧ g' = [(6, v_23), (25, v_1), (26, .int .i64 (slices.length : Int)), (27, .int .i64 (k2 : Int))] ∧ I_24 newslice k2 ∧ k2 ≤ slices.length ∧ Own H' Z' (own fInt 3 v_23 newslice :: fz (Rep.sl fInt.rep) v_1 slices :: inZ Z :: L)) _ _ (a_c 6 rfl (a_c 25 rfl (a_c 26 rfl (a_c 27 rfl a_n)))) ⟨([] : List Int), 0, v_19, _, rfl, rfl, h, by omega, hO⟩ ?_
  rintro _ _ H_27 ⟨newslice, k2, v_23, Z_28, rfl, rfl, h, hb_29, hO⟩
  replace h := hI_26 newslice k2 h hb_29
  refine hw_seq (hw_region (hl_v (v_lss rfl rfl) rfl (hl_nil (thenQ_n (hw_seq (hw_cond rfl (fun hc_30 => ?_) (fun hc_30 => ?_)))))))
  ·replace h := ite_t h hc_30
   refine hw_skip (thenQ_n (hw_seq (hw_block (hw_seq (hw_region (hl_v (v_ixL Try.underlying111 Try.sizeOf22 rfl rfl (hO.fsl 1 rfl) (by exact ⟨Int.natCast_nonneg _, of_decide_eq_true hc_30⟩)) rfl ?_))))))
   obtain ⟨v_31, ha_33, he_32⟩ := sl_row (hO.fsl 1 rfl) (by exact ⟨Int.natCast_nonneg _, of_decide_eq_true hc_30⟩)
   replace hO := Sl.item he_32 hO
   refine hl_v (v_load1 Try.isAgg22 rfl ha_33) rfl (hl_v (v_assign rfl) rfl (hl_nil (thenQ_n (hw_region (hl_v (v_move rfl) rfl (hl_v (v_move rfl) rfl ?_))))))
   obtain ⟨hs_36, h⟩ := h
   refine hl_h (o_append (l2 := (slices.getD k2 default)) hO 1 rfl rfl Try.underlying22 Try.type3 rfl rfl rfl rfl rfl rfl rfl (hO.fsl 0 rfl) hs_36 (le63 hs_36 rfl)) rfl ?_
   rintro v_35 H_34 hO
   refine hl_v (v_assign rfl) rfl (hl_nil (blockQ_n (thenQ_n (hw_region (hl_v (v_add rfl rfl (by have hq := of_decide_eq_true hc_30; have hm := hln_4; constructor <;> omega)) rfl (hl_v (v_move rfl) rfl (hl_nil (thenQ_n ?_))))))))
   exact ⟨_, _, (a_c 6 rfl (a_c 25 rfl (a_c 26 rfl (a_c 27 rfl a_n)))), ⟨(newslice ++ (slices.getD k2 default)), k2 + 1, v_35, _, rfl, rfl, h, (by have hq := of_decide_eq_true hc_30; omega), (Own.sel (Ls := [fz fInt.rep v_31 (slices.getD k2 default), own fInt 3 v_35 (newslice ++ (slices.getD k2 default)), fz (Rep.sl fInt.rep) v_1 slices, inZ Z]) (L := L) [1, 2, 3] rfl hO)⟩, (by have hq := of_decide_eq_true hc_30; omega)⟩
  ·replace h := ite_f h hc_30
   refine hw_exit (thenQ_e (thenQ_e (blockQ_hit (thenQ_n (hw_seq (hw_region (hl_v (v_move rfl) rfl (hl_v (v_assign rfl) rfl (hl_nil (thenQ_n (hw_ret (ret_i _ (ra_t rfl ra_nil) ?_))))))))))))
   exact ⟨_, newslice, v_23, (hO.inz 2 rfl), h, rfl, (Own.sel (Ls := [own fInt 3 v_23 newslice, fz (Rep.sl fInt.rep) v_1 slices, inZ Z]) (L := L) [0] rfl hO)⟩
theorem concatInt_spec {a0 : List (List Int)} {v_1 : Value} {L : List As} (hp : a0.flatten.length ≤ 17592186044416) {H : Heap} {Z : Nat → Prop} (hO : Own H Z (L)) (hf_2 : Fz (Rep.sl fInt.rep) L v_1 a0) : HC Try.prog 48 [v_1] H (fun v H' => ∃ (Z' : Nat → Prop) (v_3 : Value), (∀ b, Z b → Z' b) ∧ v = v_3 ∧ Own H' Z' (own fInt 3 v_3 (a0.flatten) :: L)) := by
  refine (concatInt_ok (slices := a0) (@concatInt_wp a0 hp) hO hf_2).mono ?_
  rintro v H' ⟨Z', r0, v_3, hz, hq, hv, hO'⟩
  obtain rfl := hq
  exact ⟨Z', v_3, hz, hv, hO'⟩

theorem nfaMore_ok {l : List Int} {xby : Int} {v_1 : Value} {Q : (List Int) → Prop} {H : Heap} {Z : Nat → Prop} {L : List As} (h : wp_nfaMore l xby Q) (hO : Own H Z (L)) (hr_2 : Rd fInt.rep L v_1 l) : HC Try.prog 45 [v_1, .int .i64 xby] H (fun v H' => ∃ (Z' : Nat → Prop) (r0 : List Int) (v_3 : Value), (∀ b, Z b → Z' b) ∧ Q r0 ∧ v = v_3 ∧ Own H' Z' (own fInt 3 v_3 r0 :: L)) := by
 replace hO := hO.inZ
 unfold wp_nfaMore at h
 refine hc_of_hw (N := 23) (rs := [(.tmp 4)]) Try.func45 rfl rfl rfl rfl (hw_seq (hw_region (hl_v (v_assign rfl) rfl (hl_nil (thenQ_n (hw_seq (hw_region (hl_v (v_move rfl) rfl ?_))))))))
 obtain ⟨hs_4, h⟩ := h
 refine hl_h (h_call Try.call46 (evs_cons rfl evs_nil) (cloneInt_spec (a0 := l) hs_4 hO (Rd.tails [_] hr_2))) rfl ?_
 rintro v_5 H_6 ⟨Z_7, _, _, rfl, hO⟩
 refine hl_v (v_assign rfl) rfl (hl_nil (thenQ_n (hw_seq (hw_seq (hw_region (hl_v (v_move rfl) rfl ?_))))))
 have hln_9 := Sl.cap (hO.osl 0 rfl)
 refine hl_v (v_lenL rfl Try.underlying22 rfl (hO.osl 0 rfl)) rfl (hl_v (v_move rfl) rfl (hl_nil (thenQ_n (hw_block ?_))))
 obtain ⟨I_11, h, hI_13⟩ := h
 refine hw_lp (fun n' g' H' => ∃ (out : List Int) (k : Nat) (v_10 : Value) (Z' : Nat → Prop), n' = l.length - k ∧ g' = [(1, .int .i64 xby), (5, v_10), (10, .int .i64 (l.length : Int)), (11, .int .i64 (k : Int))] ∧ I_11 out k ∧ k ≤ l.length ∧ Own H' Z' (own fInt 3 v_10 out :: inZ Z :: L)) _ _ (a_c 1 rfl (a_c 5 rfl (a_c 10 rfl (a_c 11 rfl a_n)))) ⟨l, 0, v_5, _, rfl, rfl, h, by omega, hO⟩ ?_
 rintro _ _ H_14 ⟨out, k, v_10, Z_15, rfl, rfl, h, hb_16, hO⟩
 replace h := hI_13 out k h hb_16
 refine hw_seq (hw_region (hl_v (v_lss rfl rfl) rfl (hl_nil (thenQ_n (hw_seq (hw_cond rfl (fun hc_17 => ?_) (fun hc_17 => ?_)))))))
 ·replace h := ite_t h hc_17
  refine hw_skip (thenQ_n (hw_seq (hw_block (hw_seq (hw_region (hl_v (v_move rfl) rfl (hl_v (v_assign rfl) rfl (hl_nil (thenQ_n (hw_region (hl_v (v_move rfl) rfl (hl_v (v_move rfl) rfl ?_))))))))))))
  obtain ⟨hs_18, h⟩ := h
  refine hl_v (v_ixL Try.underlying22 Try.sizeOf3 rfl rfl (hO.osl 0 rfl) hs_18) rfl (hl_v (v_loadSc Try.isAgg3 rfl (hO.osl 0 rfl) rfl hs_18 rfl) rfl (hl_v (v_move rfl) rfl ?_))
  obtain ⟨hs_19, h⟩ := h
  refine hl_v (v_add rfl rfl hs_19) rfl (hl_v (v_ixL Try.underlying22 Try.sizeOf3 rfl rfl (hO.osl 0 rfl) hs_18) rfl (hl_s (o_set1 (x' := ((out.getD k default) + xby)) hO 0 rfl Try.sizeOf3 rfl rfl rfl rfl hs_18 rfl rfl) ?_))
  rintro _ H_20 hO
  refine hl_nil (blockQ_n (thenQ_n (hw_region (hl_v (v_add rfl rfl (by have hq := of_decide_eq_true hc_17; have hm := hln_9; constructor <;> omega)) rfl (hl_v (v_move rfl) rfl (hl_nil (thenQ_n ?_)))))))
  exact ⟨_, _, (a_c 1 rfl (a_c 5 rfl (a_c 10 rfl (a_c 11 rfl a_n)))), ⟨(out.set k ((out.getD k default) + xby)), k + 1, v_10, _, rfl, rfl, h, (by have hq := of_decide_eq_true hc_17; omega), hO⟩, (by have hq := of_decide_eq_true hc_17; omega)⟩
 ·replace h := ite_f h hc_17
  refine hw_exit (thenQ_e (thenQ_e (blockQ_hit (thenQ_n (hw_seq (hw_region (hl_v (v_move rfl) rfl (hl_v (v_assign rfl) rfl (hl_nil (thenQ_n (hw_ret (ret_i _ (ra_t rfl ra_nil) ?_))))))))))))
  exact ⟨_, out, v_10, (hO.inz 1 rfl), h, rfl, (Own.sel (Ls := [own fInt 3 v_10 out, inZ Z]) (L := L) [0] rfl hO)⟩
theorem nfaMore_spec {a0 : List Int} {a1 : Int} {v_1 : Value} {L : List As} (hp : (a0.length ≤ 4096 ∧ ∀ s ∈ a0, 0 ≤ s ∧ s ≤ 4096) ∧ 0 ≤ a1 ∧ a1 ≤ 4096) {H : Heap} {Z : Nat → Prop} (hO : Own H Z (L)) (hr_2 : Rd fInt.rep L v_1 a0) : HC Try.prog 45 [v_1, .int .i64 a1] H (fun v H' => ∃ (Z' : Nat → Prop) (v_3 : Value), (∀ b, Z b → Z' b) ∧ v = v_3 ∧ Own H' Z' (own fInt 3 v_3 ((a0.map (· + a1))) :: L)) := by
  refine (nfaMore_ok (l := a0) (xby := a1) (@nfaMore_wp a0 a1 hp) hO hr_2).mono ?_
  rintro v H' ⟨Z', r0, v_3, hz, hq, hv, hO'⟩
  obtain rfl := hq
  exact ⟨Z', v_3, hz, hv, hO'⟩

theorem nbEdge_ok {b : Gnfa_builder} {xfrom : Int} {to : Int} {s : BSet} {v_2 : Value} {v_3 : Value} {v_4 : Value} {b_1 : Nat} {Q : Gnfa_builder → Prop} {H : Heap} {Z : Nat → Prop} {L : List As} (h : wp_nbEdge b xfrom to s Q) (hO : Own H Z (box b_1 [.int .i64 b.Nfa.States, v_2, v_3, v_4, .bool b.full] 77 :: own fInt 3 v_2 b.Nfa.Starts :: own fInt 3 v_3 b.Nfa.Ends :: own fGEdge 69 v_4 b.Nfa.Edges :: L))  : HC Try.prog 43 [ptr b_1 0, .int .i64 xfrom, .int .i64 to, sv s] H (fun v H' => ∃ (Z' : Nat → Prop) (m0 : Gnfa_builder) (v_5 : Value) (v_6 : Value) (v_7 : Value), (∀ b, Z b → Z' b) ∧ Q m0 ∧ v = .tuple #[] ∧ Own H' Z' (box b_1 [.int .i64 m0.Nfa.States, v_5, v_6, v_7, .bool m0.full] 77 :: own fInt 3 v_5 m0.Nfa.Starts :: own fInt 3 v_6 m0.Nfa.Ends :: own fGEdge 69 v_7 m0.Nfa.Edges :: L)) := by
 replace hO := hO.inZ
 unfold wp_nbEdge at h
 refine hc_of_hw (N := 33) (rs := []) Try.func43 rfl rfl rfl rfl (hw_seq (hw_region (hl_h (o_box (cs := (sw s)) hO rfl rfl) rfl ?_)))
 rintro _ H_8 ⟨b_9, rfl, hO⟩
 refine hl_nil (thenQ_n (hw_seq (hw_seq (hw_region (hl_v (v_move rfl) rfl (hl_v (v_nilCheck rfl) rfl (hl_v (v_fieldA Try.underlying77 rfl Try.sizeOf25 rfl) rfl (hl_v (v_fieldA Try.underlying25 rfl Try.sizeOf23 rfl) rfl (hl_v (v_load1 Try.isAgg23 rfl (Blk.cell (hO.box 2 rfl) rfl)) rfl ?_)))))))))
 have hln_10 := Sl.cap (hO.osl 5 rfl)
 refine hl_v (v_lenL rfl Try.underlying23 rfl (hO.osl 5 rfl)) rfl (hl_v (v_geq rfl rfl) rfl (hl_nil (thenQ_n (hw_cond rfl (fun hc_11 => ?_) (fun hc_11 => ?_)))))
 ·replace h := ite_t h hc_11
  refine hw_seq (hw_region (hl_v (v_move rfl) rfl (hl_v (v_nilCheck rfl) rfl (hl_v (v_fieldA Try.underlying77 rfl Try.sizeOf4 rfl) rfl (hl_s (o_store1 hO 2 rfl Try.sizeOf4 rfl rfl rfl rfl) ?_)))))
  rintro _ H_12 hO
  refine hl_nil (thenQ_n (hw_sub _ a_n (hw_ret (thenQ_r (ret_i _ ra_nil ?_)))))
  exact ⟨_, (⟨b.Nfa, true⟩ : Gnfa_builder), v_2, v_3, v_4, (hO.inz 1 rfl), h, rfl, (Own.sel (Ls := [box b_9 (sw s) 34, inZ Z, box b_1 [.int .i64 b.Nfa.States, v_2, v_3, v_4, .bool true] 77, own fInt 3 v_2 b.Nfa.Starts, own fInt 3 v_3 b.Nfa.Ends, own fGEdge 69 v_4 b.Nfa.Edges]) (L := L) [2, 3, 4, 5] rfl hO)⟩
 ·replace h := ite_f h hc_11
  refine hw_skip (thenQ_n (hw_held2 12 (fun H' => ∃ Z' : Nat → Prop, Own H' Z' (box b_9 (sw s) 34 :: inZ Z :: box b_1 [.int .i64 b.Nfa.States, v_2, v_3, v_4, .bool b.full] 77 :: own fInt 3 v_2 b.Nfa.Starts :: own fInt 3 v_3 b.Nfa.Ends :: L)) (.step 0 false (.step 1 false (.step 2 false (.step 3 false (.step 4 false (.step 5 false (.step 6 false (.step 7 false (.step 8 false (.step 9 false (.step 10 true (.step 11 true .done)))))))))))) (.step 12 true (.step 13 true (.step 14 true (.step 15 true .done)))) Try.mixed (by kernel_rfl) ⟨_, (Own.sel (Ls := [box b_9 (sw s) 34, inZ Z, box b_1 [.int .i64 b.Nfa.States, v_2, v_3, v_4, .bool b.full] 77, own fInt 3 v_2 b.Nfa.Starts, own fInt 3 v_3 b.Nfa.Ends, own fGEdge 69 v_4 b.Nfa.Edges]) (L := L) [0, 1, 2, 3, 4] rfl hO)⟩ (hd_v rfl (fun _ _ => (v_move rfl)) rfl (hd_v rfl (fun _ _ => (v_move rfl)) rfl (hd_v rfl (fun _ _ => (v_nilCheck rfl)) rfl (hd_v rfl (fun _ _ => (v_fieldA Try.underlying77 rfl Try.sizeOf25 rfl)) rfl (hd_v rfl (fun _ _ => (v_fieldA Try.underlying25 rfl Try.sizeOf23 rfl)) rfl (hd_v rfl (fun H' hS => by obtain ⟨Z', hO⟩ := hS; exact (v_load1 Try.isAgg23 rfl (Blk.cell (hO.box 2 rfl) rfl))) rfl (hd_v rfl (fun _ _ => (v_move rfl)) rfl (hd_v rfl (fun _ _ => (v_move rfl)) rfl (hd_v rfl (fun H' hS => by obtain ⟨Z', hO⟩ := hS; exact (v_loadA Try.isAgg34 Try.sizeOf34 rfl (Blk.at0 (hO.box 0 rfl)) rfl)) rfl (hd_v rfl (fun _ _ => (v_buildF (cs := (fGEdge.enc (⟨xfrom, to, s⟩ : GEdge))) (xs := [.tmp 24, .tmp 25, .tmp 26]) (is := [0, 1, 2]) rfl (evs_cons rfl (evs_cons rfl (evs_cons rfl evs_nil))) (fun w => by show _ = _; kernel_rfl))) rfl ?_))))))))))))
  refine hd_h (o_lit (g := fGEdge) (l := [(⟨xfrom, to, s⟩ : GEdge)]) (xs := [.tmp 27]) hO Try.underlying23 Try.sizeOf69 Try.zeroValue69 rfl (evs_cons rfl evs_nil) rfl rfl rfl rfl rfl) (by rintro v_14 H_13 hO; exact ⟨_, (Own.sel (Ls := [own fGEdge 69 v_14 [(⟨xfrom, to, s⟩ : GEdge)], box b_9 (sw s) 34, inZ Z, box b_1 [.int .i64 b.Nfa.States, v_2, v_3, v_4, .bool b.full] 77, own fInt 3 v_2 b.Nfa.Starts, own fInt 3 v_3 b.Nfa.Ends, own fGEdge 69 v_4 b.Nfa.Edges]) (L := L) [1, 2, 3, 4, 5] rfl hO)⟩) rfl ?_
  rintro v_14 H_13 hO
  obtain ⟨hs_17, h⟩ := h
  refine hd_h (o_append (l2 := [(⟨xfrom, to, s⟩ : GEdge)]) hO 6 rfl rfl Try.underlying23 Try.type69 rfl rfl rfl rfl rfl rfl rfl (hO.osl 0 rfl) hs_17 (le63 hs_17 rfl)) (by rintro v_16 H_15 hO; exact ⟨_, (Own.sel (Ls := [own fGEdge 69 v_14 [(⟨xfrom, to, s⟩ : GEdge)], box b_9 (sw s) 34, inZ Z, box b_1 [.int .i64 b.Nfa.States, v_2, v_3, v_4, .bool b.full] 77, own fInt 3 v_2 b.Nfa.Starts, own fInt 3 v_3 b.Nfa.Ends, own fGEdge 69 v_16 (b.Nfa.Edges ++ [(⟨xfrom, to, s⟩ : GEdge)])]) (L := L) [1, 2, 3, 4, 5] rfl hO)⟩) rfl ?_
  rintro v_16 H_15 hO
  refine hd_nil (hd_h (OpV.toH (v_nilCheck rfl)) (fun _ _ hR => trivial) rfl ?_)
  rintro vv HH ⟨hvv, hHH⟩
  obtain rfl := hvv.symm
  obtain rfl := hHH.symm
  refine hd_h (OpV.toH (v_fieldA Try.underlying77 rfl Try.sizeOf25 rfl)) (fun _ _ hR => trivial) rfl ?_
  rintro vv HH ⟨hvv, hHH⟩
  obtain rfl := hvv.symm
  obtain rfl := hHH.symm
  refine hd_h (OpV.toH (v_fieldA Try.underlying25 rfl Try.sizeOf23 rfl)) (fun _ _ hR => trivial) rfl ?_
  rintro vv HH ⟨hvv, hHH⟩
  obtain rfl := hvv.symm
  obtain rfl := hHH.symm
  refine hd_s (o_store1 hO 3 rfl Try.sizeOf23 rfl rfl rfl (Sl.one (hO.osl 6 rfl))) (fun _ _ _ => trivial) ?_
  rintro _ H_18 hO
  refine hd_nil (ret_n _ ra_nil ?_)
  exact ⟨_, (⟨(⟨b.Nfa.States, b.Nfa.Starts, b.Nfa.Ends, (b.Nfa.Edges ++ [(⟨xfrom, to, s⟩ : GEdge)])⟩ : GNfa), b.full⟩ : Gnfa_builder), v_2, v_3, v_16, (hO.inz 2 rfl), h, rfl, (Own.sel (Ls := [own fGEdge 69 v_14 [(⟨xfrom, to, s⟩ : GEdge)], box b_9 (sw s) 34, inZ Z, box b_1 [.int .i64 b.Nfa.States, v_2, v_3, v_16, .bool b.full] 77, own fInt 3 v_2 b.Nfa.Starts, own fInt 3 v_3 b.Nfa.Ends, own fGEdge 69 v_16 (b.Nfa.Edges ++ [(⟨xfrom, to, s⟩ : GEdge)])]) (L := L) [3, 4, 5, 6] rfl hO)⟩
theorem nbEdge_spec {a0 : Gnfa_builder} {a1 : Int} {a2 : Int} {a3 : BSet} {v_2 : Value} {v_3 : Value} {v_4 : Value} {b_1 : Nat} {L : List As} {H : Heap} {Z : Nat → Prop} (hO : Own H Z (box b_1 [.int .i64 a0.Nfa.States, v_2, v_3, v_4, .bool a0.full] 77 :: own fInt 3 v_2 a0.Nfa.Starts :: own fInt 3 v_3 a0.Nfa.Ends :: own fGEdge 69 v_4 a0.Nfa.Edges :: L))  : HC Try.prog 43 [ptr b_1 0, .int .i64 a1, .int .i64 a2, sv a3] H (fun v H' => ∃ (Z' : Nat → Prop) (v_5 : Value) (v_6 : Value) (v_7 : Value), (∀ a0, Z a0 → Z' a0) ∧ v = .tuple #[] ∧ Own H' Z' (box b_1 [.int .i64 (nbEdge a0 ⟨a1, a2, a3⟩).Nfa.States, v_5, v_6, v_7, .bool (nbEdge a0 ⟨a1, a2, a3⟩).full] 77 :: own fInt 3 v_5 (nbEdge a0 ⟨a1, a2, a3⟩).Nfa.Starts :: own fInt 3 v_6 (nbEdge a0 ⟨a1, a2, a3⟩).Nfa.Ends :: own fGEdge 69 v_7 (nbEdge a0 ⟨a1, a2, a3⟩).Nfa.Edges :: L)) := by
  refine (nbEdge_ok (b := a0) (xfrom := a1) (to := a2) (s := a3) (@nbEdge_wp a0 a1 a2 a3) hO).mono ?_
  rintro v H' ⟨Z', m0, v_5, v_6, v_7, hz, hq, hv, hO'⟩
  obtain rfl := hq
  exact ⟨Z', v_5, v_6, v_7, hz, hv, hO'⟩

theorem nbPut_ok {b : Gnfa_builder} {n : GNfa} {xby : Int} {v_2 : Value} {v_3 : Value} {v_4 : Value} {v_5 : Value} {v_7 : Value} {v_9 : Value} {b_1 : Nat} {Q : Gnfa_builder → Prop} {H : Heap} {Z : Nat → Prop} {L : List As} (h : wp_nbPut b n xby Q) (hO : Own H Z (box b_1 [.int .i64 b.Nfa.States, v_2, v_3, v_4, .bool b.full] 77 :: own fInt 3 v_2 b.Nfa.Starts :: own fInt 3 v_3 b.Nfa.Ends :: own fGEdge 69 v_4 b.Nfa.Edges :: L)) (hf_6 : Fz fInt.rep L v_5 n.Starts) (hf_8 : Fz fInt.rep L v_7 n.Ends) (hf_10 : Fz fGEdge.rep L v_9 n.Edges) : HC Try.prog 49 [ptr b_1 0, .agg [.int .i64 n.States, v_5, v_7, v_9].toArray, .int .i64 xby] H (fun v H' => ∃ (Z' : Nat → Prop) (m0 : Gnfa_builder) (v_11 : Value) (v_12 : Value) (v_13 : Value), (∀ b, Z b → Z' b) ∧ Q m0 ∧ v = .tuple #[] ∧ Own H' Z' (box b_1 [.int .i64 m0.Nfa.States, v_11, v_12, v_13, .bool m0.full] 77 :: own fInt 3 v_11 m0.Nfa.Starts :: own fInt 3 v_12 m0.Nfa.Ends :: own fGEdge 69 v_13 m0.Nfa.Edges :: L)) := by
 replace hO := hO.inZ
 replace hO := Fz.items [_, _, _, _, _] hf_6 hO
 replace hO := Fz.items [_, _, _, _, _, _] hf_8 hO
 replace hO := Fz.items [_, _, _, _, _, _, _] hf_10 hO
 unfold wp_nbPut at h
 refine hc_of_hw (N := 28) (rs := []) Try.func49 rfl rfl rfl rfl (hw_seq (hw_region (hl_h (o_box (cs := [.int .i64 n.States, v_5, v_7, v_9]) hO rfl rfl) rfl ?_)))
 rintro _ H_14 ⟨b_15, rfl, hO⟩
 refine hl_nil (thenQ_n (hw_seq (hw_region (hl_v (v_fieldA Try.underlying25 rfl Try.sizeOf23 rfl) rfl (hl_v (v_load1 Try.isAgg23 rfl (Blk.cell (hO.box 0 rfl) rfl)) rfl ?_)))))
 have hln_16 := Sl.cap (hO.fsl 1 rfl)
 refine hl_v (v_lenL rfl Try.underlying23 rfl (hO.fsl 1 rfl)) rfl (hl_v (v_move rfl) rfl (hl_nil (thenQ_n (hw_block ?_))))
 obtain ⟨I_20, h, hI_22⟩ := h
 refine hw_lp (fun n' g' H' => ∃ (b2 : Gnfa_builder) (k : Nat) (v_17 : Value) (v_18 : Value) (v_19 : Value) (Z' : Nat → Prop), n' = n.Edges.length - k ∧ g' = [(0, ptr b_1 0), (2, .int .i64 xby), (9, v_9), (10, .int .i64 (n.Edges.length : Int)), (11, .int .i64 (k : Int))] ∧ I_20 b2 k ∧ k ≤ n.Edges.length ∧ Own H' Z' (fz fGEdge.rep v_9 n.Edges :: inZ Z :: box b_1 [.int .i64 b2.Nfa.States, v_17, v_18, v_19, .bool b2.full] 77 :: own fInt 3 v_17 b2.Nfa.Starts :: own fInt 3 v_18 b2.Nfa.Ends :: own fGEdge 69 v_19 b2.Nfa.Edges :: L)) _ _ (a_c 0 rfl (a_c 2 rfl (a_c 9 rfl (a_c 10 rfl (a_c 11 rfl a_n))))) ⟨b, 0, v_2, v_3, v_4, _, rfl, rfl, h, by omega, (Own.sel (Ls := [box b_15 [.int .i64 n.States, v_5, v_7, v_9] 25, fz fGEdge.rep v_9 n.Edges, fz fInt.rep v_7 n.Ends, fz fInt.rep v_5 n.Starts, inZ Z, box b_1 [.int .i64 b.Nfa.States, v_2, v_3, v_4, .bool b.full] 77, own fInt 3 v_2 b.Nfa.Starts, own fInt 3 v_3 b.Nfa.Ends, own fGEdge 69 v_4 b.Nfa.Edges]) (L := L) [1, 4, 5, 6, 7, 8] rfl hO)⟩ ?_
 rintro _ _ H_23 ⟨b2, k, v_17, v_18, v_19, Z_24, rfl, rfl, h, hb_25, hO⟩
 replace h := hI_22 b2 k h hb_25
 refine hw_seq (hw_region (hl_v (v_lss rfl rfl) rfl (hl_nil (thenQ_n (hw_seq (hw_cond rfl (fun hc_26 => ?_) (fun hc_26 => ?_)))))))
 ·replace h := ite_t h hc_26
  refine hw_skip (thenQ_n (hw_seq (hw_block (hw_seq (hw_region (hl_v (v_ixL Try.underlying23 Try.sizeOf69 rfl rfl (hO.fsl 0 rfl) (by exact ⟨Int.natCast_nonneg _, of_decide_eq_true hc_26⟩)) rfl (hl_v (v_loadFl Try.isAgg69 Try.sizeOf69 rfl (hO.fsl 0 rfl) rfl (by exact ⟨Int.natCast_nonneg _, of_decide_eq_true hc_26⟩)) rfl (hl_h (o_alloc (cs := (fGEdge.enc (⟨(0 : Int), (0 : Int), BSet.zero⟩ : GEdge))) hO Try.zeroValue69 rfl) rfl ?_))))))))
  rintro _ H_27 ⟨b_28, rfl, hO⟩
  refine hl_s (o_storeA (us := (fGEdge.enc (n.Edges.getD k default))) hO 0 rfl Try.sizeOf69 rfl rfl rfl rfl (by intro u hu; exact (fGEdge).one _ u hu)) ?_
  rintro _ H_29 hO
  refine hl_nil (thenQ_n (hw_region (hl_v (v_move rfl) rfl (hl_v (v_fieldA Try.underlying69 rfl Try.sizeOf3 rfl) rfl (hl_v (v_load1 Try.isAgg3 rfl (Blk.cell (hO.box 0 rfl) rfl)) rfl (hl_v (v_move rfl) rfl ?_))))))
  obtain ⟨hs_30, h⟩ := h
  refine hl_v (v_add rfl rfl hs_30) rfl (hl_v (v_fieldA Try.underlying69 rfl Try.sizeOf3 rfl) rfl (hl_v (v_load1 Try.isAgg3 rfl (Blk.cell (hO.box 0 rfl) rfl)) rfl (hl_v (v_move rfl) rfl ?_)))
  obtain ⟨hs_31, h⟩ := h
  refine hl_v (v_add rfl rfl hs_31) rfl (hl_v (v_fieldA Try.underlying69 rfl Try.sizeOf34 rfl) rfl (hl_v (v_loadA (cs := (sw ((n.Edges.getD k default).Set))) Try.isAgg34 Try.sizeOf34 rfl (Blk.sub (n := 4) (hO.box 0 rfl) rfl) rfl) rfl (hl_h (h_call Try.call43 (evs_cons rfl (evs_cons rfl (evs_cons rfl (evs_cons rfl evs_nil)))) (nbEdge_spec (a0 := b2) (a1 := ((n.Edges.getD k default).From + xby)) (a2 := ((n.Edges.getD k default).To + xby)) (a3 := (n.Edges.getD k default).Set) (L := box b_28 (fGEdge.enc (n.Edges.getD k default)) 69 :: fz fGEdge.rep v_9 n.Edges :: inZ Z :: L) (Own.sel (Ls := [box b_28 (fGEdge.enc (n.Edges.getD k default)) 69, fz fGEdge.rep v_9 n.Edges, inZ Z, box b_1 [.int .i64 b2.Nfa.States, v_17, v_18, v_19, .bool b2.full] 77, own fInt 3 v_17 b2.Nfa.Starts, own fInt 3 v_18 b2.Nfa.Ends, own fGEdge 69 v_19 b2.Nfa.Edges]) (L := L) [3, 4, 5, 6, 0, 1, 2] rfl hO))) rfl ?_)))
  rintro _ H_32 ⟨Z_33, v_35, v_36, v_37, _, rfl, hO⟩
  refine hl_nil (blockQ_n (thenQ_n (hw_region (hl_v (v_add rfl rfl (by have hq := of_decide_eq_true hc_26; have hm := hln_16; constructor <;> omega)) rfl (hl_v (v_move rfl) rfl (hl_nil (thenQ_n ?_)))))))
  exact ⟨_, _, (a_c 0 rfl (a_c 2 rfl (a_c 9 rfl (a_c 10 rfl (a_c 11 rfl a_n))))), ⟨(nbEdge b2 ⟨((n.Edges.getD k default).From + xby), ((n.Edges.getD k default).To + xby), ((n.Edges.getD k default).Set)⟩), k + 1, v_35, v_36, v_37, _, rfl, rfl, h, (by have hq := of_decide_eq_true hc_26; omega), (Own.sel (Ls := [box b_1 [.int .i64 (((nbEdge b2 ⟨((n.Edges.getD k default).From + xby), ((n.Edges.getD k default).To + xby), ((n.Edges.getD k default).Set)⟩).Nfa).States), v_35, v_36, v_37, .bool ((nbEdge b2 ⟨((n.Edges.getD k default).From + xby), ((n.Edges.getD k default).To + xby), ((n.Edges.getD k default).Set)⟩).full)] 77, own fInt 3 v_35 (((nbEdge b2 ⟨((n.Edges.getD k default).From + xby), ((n.Edges.getD k default).To + xby), ((n.Edges.getD k default).Set)⟩).Nfa).Starts), own fInt 3 v_36 (((nbEdge b2 ⟨((n.Edges.getD k default).From + xby), ((n.Edges.getD k default).To + xby), ((n.Edges.getD k default).Set)⟩).Nfa).Ends), own fGEdge 69 v_37 (((nbEdge b2 ⟨((n.Edges.getD k default).From + xby), ((n.Edges.getD k default).To + xby), ((n.Edges.getD k default).Set)⟩).Nfa).Edges), box b_28 (fGEdge.enc (n.Edges.getD k default)) 69, fz fGEdge.rep v_9 n.Edges, inZ Z]) (L := L) [5, 6, 0, 1, 2, 3] rfl hO)⟩, (by have hq := of_decide_eq_true hc_26; omega)⟩
 ·replace h := ite_f h hc_26
  refine hw_exit (thenQ_e (thenQ_e (blockQ_hit (ret_n _ ra_nil ?_))))
  exact ⟨_, b2, v_17, v_18, v_19, (hO.inz 1 rfl), h, rfl, (Own.sel (Ls := [fz fGEdge.rep v_9 n.Edges, inZ Z, box b_1 [.int .i64 b2.Nfa.States, v_17, v_18, v_19, .bool b2.full] 77, own fInt 3 v_17 b2.Nfa.Starts, own fInt 3 v_18 b2.Nfa.Ends, own fGEdge 69 v_19 b2.Nfa.Edges]) (L := L) [2, 3, 4, 5] rfl hO)⟩
theorem nbPut_spec {a0 : Gnfa_builder} {a1 : GNfa} {a2 : Int} {v_2 : Value} {v_3 : Value} {v_4 : Value} {v_5 : Value} {v_7 : Value} {v_9 : Value} {b_1 : Nat} {L : List As} (hp : ∀ x ∈ a1.Edges, i64 (x.From + a2) ∧ i64 (x.To + a2)) {H : Heap} {Z : Nat → Prop} (hO : Own H Z (box b_1 [.int .i64 a0.Nfa.States, v_2, v_3, v_4, .bool a0.full] 77 :: own fInt 3 v_2 a0.Nfa.Starts :: own fInt 3 v_3 a0.Nfa.Ends :: own fGEdge 69 v_4 a0.Nfa.Edges :: L)) (hf_6 : Fz fInt.rep L v_5 a1.Starts) (hf_8 : Fz fInt.rep L v_7 a1.Ends) (hf_10 : Fz fGEdge.rep L v_9 a1.Edges) : HC Try.prog 49 [ptr b_1 0, .agg [.int .i64 a1.States, v_5, v_7, v_9].toArray, .int .i64 a2] H (fun v H' => ∃ (Z' : Nat → Prop) (v_11 : Value) (v_12 : Value) (v_13 : Value), (∀ a0, Z a0 → Z' a0) ∧ v = .tuple #[] ∧ Own H' Z' (box b_1 [.int .i64 (nbPut a0 a1 a2).Nfa.States, v_11, v_12, v_13, .bool (nbPut a0 a1 a2).full] 77 :: own fInt 3 v_11 (nbPut a0 a1 a2).Nfa.Starts :: own fInt 3 v_12 (nbPut a0 a1 a2).Nfa.Ends :: own fGEdge 69 v_13 (nbPut a0 a1 a2).Nfa.Edges :: L)) := by
  refine (nbPut_ok (b := a0) (n := a1) (xby := a2) (@nbPut_wp a0 a1 a2 hp) hO hf_6 hf_8 hf_10).mono ?_
  rintro v H' ⟨Z', m0, v_11, v_12, v_13, hz, hq, hv, hO'⟩
  obtain rfl := hq
  exact ⟨Z', v_11, v_12, v_13, hz, hv, hO'⟩

theorem nbEnd_ok {b : Gnfa_builder} {v_2 : Value} {v_3 : Value} {v_4 : Value} {b_1 : Nat} {Q : GNfa → Int → Prop} {H : Heap} {Z : Nat → Prop} {L : List As} (h : wp_nbEnd b Q) (hO : Own H Z (box b_1 [.int .i64 b.Nfa.States, v_2, v_3, v_4, .bool b.full] 77 :: own fInt 3 v_2 b.Nfa.Starts :: own fInt 3 v_3 b.Nfa.Ends :: own fGEdge 69 v_4 b.Nfa.Edges :: L))  : HC Try.prog 44 [ptr b_1 0] H (fun v H' => ∃ (Z' : Nat → Prop) (r0 : GNfa) (r1 : Int) (v_5 : Value) (v_6 : Value) (v_7 : Value), (∀ b, Z b → Z' b) ∧ Q r0 r1 ∧ v = .tuple #[.agg [.int .i64 r0.States, v_5, v_6, v_7].toArray, .int .i64 r1] ∧ Own H' Z' (own fInt 3 v_5 r0.Starts :: own fInt 3 v_6 r0.Ends :: own fGEdge 69 v_7 r0.Edges :: L)) := by
 replace hO := hO.inZ
 unfold wp_nbEnd at h
 refine hc_of_hw (N := 21) (rs := [(.cell 2 25), (.tmp 3)]) Try.func44 rfl rfl rfl rfl (hw_seq (hw_region (hl_h (o_alloc (cs := [.int .i64 (0 : Int), .slice none 0 0, .slice none 0 0, .slice none 0 0]) hO Try.zeroValue25 rfl) rfl ?_)))
 rintro _ H_8 ⟨b_9, rfl, hO⟩
 refine hl_v (v_assign rfl) rfl (hl_nil (thenQ_n (hw_seq (hw_seq (hw_region (hl_v (v_move rfl) rfl (hl_v (v_nilCheck rfl) rfl (hl_v (v_fieldA Try.underlying77 rfl Try.sizeOf4 rfl) rfl (hl_v (v_load1 Try.isAgg4 rfl (Blk.cell (hO.box 2 rfl) rfl)) rfl (hl_v (v_move rfl) rfl (hl_g rfl rfl (fun hg => (v_move rfl)) rfl (hl_g rfl rfl (fun hg => (v_nilCheck (gv_ok rfl hg))) rfl (hl_g rfl rfl (fun hg => (v_fieldA Try.underlying77 rfl Try.sizeOf25 (gv_ok rfl hg))) rfl (hl_g rfl rfl (fun hg => (v_fieldA Try.underlying25 rfl Try.sizeOf3 (gv_ok rfl hg))) rfl (hl_g rfl rfl (fun hg => (v_load1 Try.isAgg3 (gv_ok rfl hg) (Blk.cell (hO.box 2 rfl) rfl))) rfl (hl_g rfl rfl (fun hg => (v_gtr (gv_ok rfl hg) rfl)) rfl (hl_v (v_or rfl rfl) rfl (hl_nil (thenQ_n (hw_sub _ (a_c 0 rfl (a_c 2 rfl (a_c 15 rfl a_n))) (hw_cond rfl (fun hc_10 => ?_) (fun hc_10 => ?_))))))))))))))))))))))
 ·replace h := ite_t h hc_10
  refine hw_seq (hw_region (hl_v (v_buildF (cs := [.int .i64 (0 : Int), .slice none 0 0, .slice none 0 0, .slice none 0 0]) (xs := []) (is := []) rfl evs_nil (fun w => by show _ = _; kernel_rfl)) rfl (hl_s (o_storeA (us := [.int .i64 (0 : Int), .slice none 0 0, .slice none 0 0, .slice none 0 0]) hO 0 rfl Try.sizeOf25 rfl rfl rfl rfl (by simp only [List.forall_mem_cons]; exact ⟨rfl, rfl, rfl, rfl, by simp⟩)) ?_)))
  rintro _ H_11 hO
  refine hl_v (v_assign rfl) rfl (hl_nil (thenQ_n (hw_ret (thenQ_r ?_))))
  replace hO := hO.nil fInt 3
  replace hO := hO.nil fInt 3
  replace hO := hO.nil fGEdge 69
  refine ret_i _ (ra_c rfl (fun w hw => run_loadVar_at (cs := [.int .i64 (0 : Int), .slice none 0 0, .slice none 0 0, .slice none 0 0]) Try.isAgg25 Try.sizeOf25 (Blk.at0 (hO.box 3 rfl)) rfl w hw) (ra_t rfl ra_nil)) ?_
  exact ⟨_, (⟨(0 : Int), [], [], []⟩ : GNfa), 2, .slice none 0 0, .slice none 0 0, .slice none 0 0, (hO.inz 4 rfl), h, rfl, (Own.sel (Ls := [own fGEdge 69 (.slice none 0 0) [], own fInt 3 (.slice none 0 0) [], own fInt 3 (.slice none 0 0) [], box b_9 [.int .i64 (0 : Int), .slice none 0 0, .slice none 0 0, .slice none 0 0] 25, inZ Z, box b_1 [.int .i64 b.Nfa.States, v_2, v_3, v_4, .bool b.full] 77, own fInt 3 v_2 b.Nfa.Starts, own fInt 3 v_3 b.Nfa.Ends, own fGEdge 69 v_4 b.Nfa.Edges]) (L := L) [2, 1, 0] rfl hO)⟩
 ·replace h := ite_f h hc_10
  refine hw_skip (thenQ_n (hw_seq (hw_region (hl_v (v_move rfl) rfl (hl_v (v_nilCheck rfl) rfl (hl_v (v_fieldA Try.underlying77 rfl Try.sizeOf25 rfl) rfl (hl_v (v_loadA (cs := [.int .i64 b.Nfa.States, v_2, v_3, v_4]) Try.isAgg25 Try.sizeOf25 rfl (Blk.sub (n := 4) (hO.box 2 rfl) rfl) rfl) rfl (hl_s (o_storeA (us := [.int .i64 b.Nfa.States, v_2, v_3, v_4]) hO 0 rfl Try.sizeOf25 rfl rfl rfl rfl (by simp only [List.forall_mem_cons]; exact ⟨rfl, (Sl.one (hO.osl 3 rfl)), (Sl.one (hO.osl 4 rfl)), (Sl.one (hO.osl 5 rfl)), by simp⟩)) ?_))))))))
  rintro _ H_12 hO
  refine hl_v (v_assign rfl) rfl (hl_nil (thenQ_n (hw_ret (ret_i _ (ra_c rfl (fun w hw => run_loadVar_at (cs := [.int .i64 b.Nfa.States, v_2, v_3, v_4]) Try.isAgg25 Try.sizeOf25 (Blk.at0 (hO.box 0 rfl)) rfl w hw) (ra_t rfl ra_nil)) ?_))))
  exact ⟨_, b.Nfa, 0, v_2, v_3, v_4, (hO.inz 1 rfl), h, rfl, (Own.sel (Ls := [box b_9 [.int .i64 b.Nfa.States, v_2, v_3, v_4] 25, inZ Z, box b_1 [.int .i64 b.Nfa.States, v_2, v_3, v_4, .bool b.full] 77, own fInt 3 v_2 b.Nfa.Starts, own fInt 3 v_3 b.Nfa.Ends, own fGEdge 69 v_4 b.Nfa.Edges]) (L := L) [3, 4, 5] rfl hO)⟩
theorem nbEnd_spec {a0 : Gnfa_builder} {v_2 : Value} {v_3 : Value} {v_4 : Value} {b_1 : Nat} {L : List As} {H : Heap} {Z : Nat → Prop} (hO : Own H Z (box b_1 [.int .i64 a0.Nfa.States, v_2, v_3, v_4, .bool a0.full] 77 :: own fInt 3 v_2 a0.Nfa.Starts :: own fInt 3 v_3 a0.Nfa.Ends :: own fGEdge 69 v_4 a0.Nfa.Edges :: L))  : HC Try.prog 44 [ptr b_1 0] H (fun v H' => ∃ (Z' : Nat → Prop) (v_5 : Value) (v_6 : Value) (v_7 : Value), (∀ a0, Z a0 → Z' a0) ∧ v = .tuple #[.agg [.int .i64 ((nbEnd a0).1).States, v_5, v_6, v_7].toArray, .int .i64 ((nbEnd a0).2)] ∧ Own H' Z' (own fInt 3 v_5 ((nbEnd a0).1).Starts :: own fInt 3 v_6 ((nbEnd a0).1).Ends :: own fGEdge 69 v_7 ((nbEnd a0).1).Edges :: L)) := by
  refine (nbEnd_ok (b := a0) (@nbEnd_wp a0) hO).mono ?_
  rintro v H' ⟨Z', r0, r1, v_5, v_6, v_7, hz, hq, hv, hO'⟩
  obtain ⟨rfl, rfl⟩ := hq
  exact ⟨Z', v_5, v_6, v_7, hz, hv, hO'⟩

theorem setOf_spec {a0 : List UInt8} {v : Value} {L : List As} {H : Heap} {Z : Nat → Prop} (hO : Own H Z L) (hr : Rd fByte.rep L v a0) : HC Try.prog 42 [v] H (fun v H' => ∃ (Z' : Nat → Prop), (∀ b, Z b → Z' b) ∧ v = sv (BSet.ofL a0) ∧ Own H' Z' L) :=
  (Of_spec ((hr.sl hO).inb (by decide)) fun _ h => h).mono fun v H' ⟨h1, h2⟩ => ⟨Z, fun _ h => h, h1, hO.ext h2⟩
theorem nfaText_ok {s : List UInt8}  {Q : GNfa → Int → Prop} {H : Heap} {Z : Nat → Prop} {L : List As} (h : wp_nfaText s Q) (hO : Own H Z (L))  : HC Try.prog 13 [str s] H (fun v H' => ∃ (Z' : Nat → Prop) (r0 : GNfa) (r1 : Int) (v_1 : Value) (v_2 : Value) (v_3 : Value), (∀ b, Z b → Z' b) ∧ Q r0 r1 ∧ v = .tuple #[.agg [.int .i64 r0.States, v_1, v_2, v_3].toArray, .int .i64 r1] ∧ Own H' Z' (own fInt 3 v_1 r0.Starts :: own fInt 3 v_2 r0.Ends :: own fGEdge 69 v_3 r0.Edges :: L)) := by
 replace hO := hO.inZ
 unfold wp_nfaText at h
 refine hc_of_hw (N := 43) (rs := [(.cell 2 25), (.tmp 3)]) Try.func13 rfl rfl rfl rfl (hw_seq (hw_region (hl_h (o_alloc (cs := [.int .i64 (0 : Int), .slice none 0 0, .slice none 0 0, .slice none 0 0]) hO Try.zeroValue25 rfl) rfl ?_)))
 rintro _ H_4 ⟨b_5, rfl, hO⟩
 refine hl_v (v_assign rfl) rfl (hl_nil (thenQ_n (hw_seq (hw_seq (hw_region (hl_v (v_move rfl) rfl (hl_v (v_lenS rfl Try.underlying9 rfl) rfl (hl_v (v_gtr rfl rfl) rfl (hl_nil (thenQ_n (hw_cond rfl (fun hc_6 => ?_) (fun hc_6 => ?_))))))))))))
 ·replace h := ite_t h hc_6
  refine hw_seq (hw_region (hl_v (v_buildF (cs := [.int .i64 (0 : Int), .slice none 0 0, .slice none 0 0, .slice none 0 0]) (xs := []) (is := []) rfl evs_nil (fun w => by show _ = _; kernel_rfl)) rfl (hl_s (o_storeA (us := [.int .i64 (0 : Int), .slice none 0 0, .slice none 0 0, .slice none 0 0]) hO 0 rfl Try.sizeOf25 rfl rfl rfl rfl (by simp only [List.forall_mem_cons]; exact ⟨rfl, rfl, rfl, rfl, by simp⟩)) ?_)))
  rintro _ H_7 hO
  refine hl_v (v_assign rfl) rfl (hl_nil (thenQ_n (hw_ret (thenQ_r ?_))))
  replace hO := hO.nil fInt 3
  replace hO := hO.nil fInt 3
  replace hO := hO.nil fGEdge 69
  refine ret_i _ (ra_c rfl (fun w hw => run_loadVar_at (cs := [.int .i64 (0 : Int), .slice none 0 0, .slice none 0 0, .slice none 0 0]) Try.isAgg25 Try.sizeOf25 (Blk.at0 (hO.box 3 rfl)) rfl w hw) (ra_t rfl ra_nil)) ?_
  exact ⟨_, (⟨(0 : Int), [], [], []⟩ : GNfa), 2, .slice none 0 0, .slice none 0 0, .slice none 0 0, (hO.inz 4 rfl), h, rfl, (Own.sel (Ls := [own fGEdge 69 (.slice none 0 0) [], own fInt 3 (.slice none 0 0) [], own fInt 3 (.slice none 0 0) [], box b_5 [.int .i64 (0 : Int), .slice none 0 0, .slice none 0 0, .slice none 0 0] 25, inZ Z]) (L := L) [2, 1, 0] rfl hO)⟩
 ·replace h := ite_f h hc_6
  refine hw_skip (thenQ_n (hw_seq (hw_region (hl_v (v_move rfl) rfl (hl_v (v_lenS rfl Try.underlying9 rfl) rfl ?_)))))
  obtain ⟨hs_8, h⟩ := h
  refine hl_v (v_add rfl rfl hs_8) rfl (hl_h (o_lit (g := fInt) (l := [0]) (xs := [_]) hO Try.underlying22 Try.sizeOf3 Try.zeroValue3 rfl (evs_cons (show _ = some (.int .i64 0) from rfl) evs_nil) rfl rfl rfl rfl rfl) rfl ?_)
  rintro v_10 H_9 hO
  refine hl_v (v_move rfl) rfl (hl_v (v_lenS rfl Try.underlying9 rfl) rfl (hl_h (o_lit (g := fInt) (l := [(s.length : Int)]) (xs := [.tmp 16]) hO Try.underlying22 Try.sizeOf3 Try.zeroValue3 rfl (evs_cons rfl evs_nil) rfl rfl rfl rfl rfl) rfl ?_))
  rintro v_12 H_11 hO
  have hsh_13 := Sl.sh (hO.osl 1 rfl)
  have hsh_14 := Sl.sh (hO.osl 0 rfl)
  refine hl_v (v_buildF (cs := [.int .i64 ((s.length : Int) + 1), v_10, v_12, .slice none 0 0]) (xs := [.tmp 13, .tmp 14, .tmp 17]) (is := [0, 1, 2]) rfl (evs_cons rfl (evs_cons rfl (evs_cons rfl evs_nil))) (fun w => by obtain ⟨_, _, _, hw⟩ := hsh_13; (try subst hw); obtain ⟨_, _, _, hw⟩ := hsh_14; (try subst hw); show _ = _; kernel_rfl)) rfl ?_
  have hsh_15 := Sl.sh (hO.osl 1 rfl)
  have hsh_16 := Sl.sh (hO.osl 0 rfl)
  refine hl_v (v_buildF (cs := [.int .i64 ((s.length : Int) + 1), v_10, v_12, .slice none 0 0, .bool false]) (xs := [.tmp 18]) (is := [0]) rfl (evs_cons rfl evs_nil) (fun w => by obtain ⟨_, _, _, hw⟩ := hsh_15; (try subst hw); obtain ⟨_, _, _, hw⟩ := hsh_16; (try subst hw); show _ = _; kernel_rfl)) rfl (hl_h (o_box (cs := [.int .i64 ((s.length : Int) + 1), v_10, v_12, .slice none 0 0, .bool false]) hO rfl rfl) rfl ?_)
  rintro _ H_17 ⟨b_18, rfl, hO⟩
  refine hl_v (v_assign rfl) rfl (hl_nil (thenQ_n (hw_sub _ (a_c 0 rfl (a_c 2 rfl (a_c 4 rfl a_n))) (hw_seq (hw_region (hl_v (v_move rfl) rfl (hl_v (v_makeFunc (us := [_]) (vs := []) rfl rfl) rfl (hl_v (v_assign rfl) rfl (hl_nil (thenQ_n (hw_seq (hw_seq (hw_region (hl_v (v_move rfl) rfl (hl_v (v_lenS rfl Try.underlying9 rfl) rfl (hl_v (v_move rfl) rfl (hl_nil (thenQ_n (hw_block ?_)))))))))))))))))))
  obtain ⟨I_22, h, hI_24⟩ := h
  replace hO := hO.nil fGEdge 69
  refine hw_lp (fun n' g' H' => ∃ (b : Gnfa_builder) (k : Nat) (v_19 : Value) (v_20 : Value) (v_21 : Value) (Z' : Nat → Prop), n' = s.length - k ∧ g' = [(0, str s), (2, ptr b_5 0), (4, ptr b_18 0), (5, .func (.func 43) #[ptr b_18 0] #[]), (24, .int .i64 (s.length : Int)), (25, .int .i64 (k : Int))] ∧ I_22 b k ∧ k ≤ s.length ∧ Own H' Z' (own fGEdge 69 v_21 b.Nfa.Edges :: box b_18 [.int .i64 b.Nfa.States, v_19, v_20, v_21, .bool b.full] 77 :: own fInt 3 v_20 b.Nfa.Ends :: own fInt 3 v_19 b.Nfa.Starts :: box b_5 [.int .i64 (0 : Int), .slice none 0 0, .slice none 0 0, .slice none 0 0] 25 :: inZ Z :: L)) _ _ (a_c 0 rfl (a_c 2 rfl (a_c 4 rfl (a_c 5 rfl (a_c 24 rfl (a_c 25 rfl a_n)))))) ⟨(⟨(⟨((s.length : Int) + 1), [0], [(s.length : Int)], []⟩ : GNfa), false⟩ : Gnfa_builder), 0, v_10, v_12, .slice none 0 0, _, rfl, rfl, h, by omega, hO⟩ ?_
  rintro _ _ H_25 ⟨b, k, v_19, v_20, v_21, Z_26, rfl, rfl, h, hb_27, hO⟩
  replace h := hI_24 b k h hb_27
  refine hw_seq (hw_region (hl_v (v_lss rfl rfl) rfl (hl_nil (thenQ_n (hw_seq (hw_cond rfl (fun hc_28 => ?_) (fun hc_28 => ?_)))))))
  ·replace h := ite_t h hc_28
   refine hw_skip (thenQ_n (hw_seq (hw_block (hw_seq (hw_region (hl_v (v_move rfl) rfl (hl_v (v_assign rfl) rfl (hl_nil (thenQ_n (hw_region (hl_v (v_move rfl) rfl (hl_v (v_move rfl) rfl (hl_v (v_move rfl) rfl ?_)))))))))))))
   obtain ⟨hs_29, h⟩ := h
   refine hl_v (v_add rfl rfl hs_29) rfl (hl_v (v_move rfl) rfl (hl_v (v_move rfl) rfl (hl_v (v_idxS Try.underlying9 rfl rfl (by exact ⟨Int.natCast_nonneg _, of_decide_eq_true hc_28⟩)) rfl (hl_h (o_lit (g := fByte) (l := [(s.getD k 0)]) (xs := [.tmp 34]) hO Try.underlying94 Try.sizeOf5 Try.zeroValue5 rfl (evs_cons rfl evs_nil) rfl rfl rfl rfl rfl) rfl ?_))))
   rintro v_31 H_30 hO
   refine hl_h (h_call Try.call42 (evs_cons rfl evs_nil) (setOf_spec (a0 := [(s.getD k 0)]) hO (Rd.of_own (i := 0) rfl))) rfl ?_
   rintro _ H_32 ⟨Z_33, _, rfl, hO⟩
   refine hl_h (h_callv (fs := [ptr b_18 0]) (cs := []) Try.call43 rfl (evs_cons rfl (evs_cons rfl (evs_cons rfl evs_nil))) (nbEdge_spec (a0 := b) (a1 := (k : Int)) (a2 := ((k : Int) + 1)) (a3 := BSet.ofL [(s.getD k 0)]) (L := own fByte 5 v_31 [(s.getD k 0)] :: box b_5 [.int .i64 (0 : Int), .slice none 0 0, .slice none 0 0, .slice none 0 0] 25 :: inZ Z :: L) (Own.sel (Ls := [own fByte 5 v_31 [(s.getD k 0)], own fGEdge 69 v_21 b.Nfa.Edges, box b_18 [.int .i64 b.Nfa.States, v_19, v_20, v_21, .bool b.full] 77, own fInt 3 v_20 b.Nfa.Ends, own fInt 3 v_19 b.Nfa.Starts, box b_5 [.int .i64 (0 : Int), .slice none 0 0, .slice none 0 0, .slice none 0 0] 25, inZ Z]) (L := L) [2, 4, 3, 1, 0, 5, 6] rfl hO))) rfl ?_
   rintro _ H_35 ⟨Z_36, v_38, v_39, v_40, _, rfl, hO⟩
   refine hl_nil (blockQ_n (thenQ_n (hw_region (hl_v (v_add rfl rfl hs_29) rfl (hl_v (v_move rfl) rfl (hl_nil (thenQ_n ?_)))))))
   exact ⟨_, _, (a_c 0 rfl (a_c 2 rfl (a_c 4 rfl (a_c 5 rfl (a_c 24 rfl (a_c 25 rfl a_n)))))), ⟨(nbEdge b ⟨(k : Int), ((k : Int) + 1), (BSet.ofL [(s.getD k 0)])⟩), k + 1, v_38, v_39, v_40, _, rfl, rfl, h, (by have hq := of_decide_eq_true hc_28; omega), (Own.sel (Ls := [box b_18 [.int .i64 (((nbEdge b ⟨(k : Int), ((k : Int) + 1), (BSet.ofL [(s.getD k 0)])⟩).Nfa).States), v_38, v_39, v_40, .bool ((nbEdge b ⟨(k : Int), ((k : Int) + 1), (BSet.ofL [(s.getD k 0)])⟩).full)] 77, own fInt 3 v_38 (((nbEdge b ⟨(k : Int), ((k : Int) + 1), (BSet.ofL [(s.getD k 0)])⟩).Nfa).Starts), own fInt 3 v_39 (((nbEdge b ⟨(k : Int), ((k : Int) + 1), (BSet.ofL [(s.getD k 0)])⟩).Nfa).Ends), own fGEdge 69 v_40 (((nbEdge b ⟨(k : Int), ((k : Int) + 1), (BSet.ofL [(s.getD k 0)])⟩).Nfa).Edges), own fByte 5 v_31 [(s.getD k 0)], box b_5 [.int .i64 (0 : Int), .slice none 0 0, .slice none 0 0, .slice none 0 0] 25, inZ Z]) (L := L) [3, 0, 2, 1, 5, 6] rfl hO)⟩, (by have hq := of_decide_eq_true hc_28; omega)⟩
  ·replace h := ite_f h hc_28
   refine hw_exit (thenQ_e (thenQ_e (blockQ_hit (thenQ_n (hw_seq (hw_region (hl_v (v_move rfl) rfl (hl_h (h_call Try.call44 (evs_cons rfl evs_nil) (nbEnd_spec (a0 := b) (L := box b_5 [.int .i64 (0 : Int), .slice none 0 0, .slice none 0 0, .slice none 0 0] 25 :: inZ Z :: L) (Own.sel (Ls := [own fGEdge 69 v_21 b.Nfa.Edges, box b_18 [.int .i64 b.Nfa.States, v_19, v_20, v_21, .bool b.full] 77, own fInt 3 v_20 b.Nfa.Ends, own fInt 3 v_19 b.Nfa.Starts, box b_5 [.int .i64 (0 : Int), .slice none 0 0, .slice none 0 0, .slice none 0 0] 25, inZ Z]) (L := L) [1, 3, 2, 0, 4, 5] rfl hO))) rfl ?_))))))))
   rintro _ H_44 ⟨Z_45, v_41, v_42, v_43, _, rfl, hO⟩
   refine hl_v (v_extract rfl rfl) rfl (hl_v (v_extract rfl rfl) rfl (hl_s (o_storeA (us := [.int .i64 (((nbEnd b).1).States), v_41, v_42, v_43]) hO 3 rfl Try.sizeOf25 rfl rfl rfl rfl (by simp only [List.forall_mem_cons]; exact ⟨rfl, (Sl.one (hO.osl 0 rfl)), (Sl.one (hO.osl 1 rfl)), (Sl.one (hO.osl 2 rfl)), by simp⟩)) ?_))
   rintro _ H_47 hO
   refine hl_v (v_assign rfl) rfl (hl_nil (thenQ_n (hw_ret (ret_i _ (ra_c rfl (fun w hw => run_loadVar_at (cs := [.int .i64 (((nbEnd b).1).States), v_41, v_42, v_43]) Try.isAgg25 Try.sizeOf25 (Blk.at0 (hO.box 3 rfl)) rfl w hw) (ra_t rfl ra_nil)) ?_))))
   exact ⟨_, ((nbEnd b).1), (nbEnd b).2, v_41, v_42, v_43, (hO.inz 4 rfl), h, rfl, (Own.sel (Ls := [own fInt 3 v_41 (((nbEnd b).1).Starts), own fInt 3 v_42 (((nbEnd b).1).Ends), own fGEdge 69 v_43 (((nbEnd b).1).Edges), box b_5 [.int .i64 (((nbEnd b).1).States), v_41, v_42, v_43] 25, inZ Z]) (L := L) [0, 1, 2] rfl hO)⟩
theorem nfaText_spec {a0 : List UInt8}  {L : List As} {H : Heap} {Z : Nat → Prop} (hO : Own H Z (L))  : HC Try.prog 13 [str a0] H (fun v H' => ∃ (Z' : Nat → Prop) (v_1 : Value) (v_2 : Value) (v_3 : Value), (∀ b, Z b → Z' b) ∧ v = .tuple #[.agg [.int .i64 ((nText a0).1).States, v_1, v_2, v_3].toArray, .int .i64 ((nText a0).2)] ∧ Own H' Z' (own fInt 3 v_1 ((nText a0).1).Starts :: own fInt 3 v_2 ((nText a0).1).Ends :: own fGEdge 69 v_3 ((nText a0).1).Edges :: L)) := by
  refine (nfaText_ok (s := a0) (@nfaText_wp a0) hO).mono ?_
  rintro v H' ⟨Z', r0, r1, v_1, v_2, v_3, hz, hq, hv, hO'⟩
  obtain ⟨rfl, rfl⟩ := hq
  exact ⟨Z', v_1, v_2, v_3, hz, hv, hO'⟩

theorem nfaSet_ok {s : BSet}  {Q : GNfa → Prop} {H : Heap} {Z : Nat → Prop} {L : List As} (h : wp_nfaSet s Q) (hO : Own H Z (L))  : HC Try.prog 15 [sv s] H (fun v H' => ∃ (Z' : Nat → Prop) (r0 : GNfa) (v_1 : Value) (v_2 : Value) (v_3 : Value), (∀ b, Z b → Z' b) ∧ Q r0 ∧ v = .agg [.int .i64 r0.States, v_1, v_2, v_3].toArray ∧ Own H' Z' (own fInt 3 v_1 r0.Starts :: own fInt 3 v_2 r0.Ends :: own fGEdge 69 v_3 r0.Edges :: L)) := by
 replace hO := hO.inZ
 unfold wp_nfaSet at h
 refine hc_of_hw (N := 15) (rs := [(.cell 2 25)]) Try.func15 rfl rfl rfl rfl (hw_seq (hw_region (hl_h (o_box (cs := (sw s)) hO rfl rfl) rfl ?_)))
 rintro _ H_4 ⟨b_5, rfl, hO⟩
 refine hl_h (o_alloc (cs := [.int .i64 (0 : Int), .slice none 0 0, .slice none 0 0, .slice none 0 0]) hO Try.zeroValue25 rfl) rfl ?_
 rintro _ H_6 ⟨b_7, rfl, hO⟩
 refine hl_nil (thenQ_n (hw_seq (hw_region (hl_h (o_lit (g := fInt) (l := [0]) (xs := [_]) hO Try.underlying22 Try.sizeOf3 Try.zeroValue3 rfl (evs_cons (show _ = some (.int .i64 0) from rfl) evs_nil) rfl rfl rfl rfl rfl) rfl ?_))))
 rintro v_9 H_8 hO
 refine hl_h (o_lit (g := fInt) (l := [1]) (xs := [_]) hO Try.underlying22 Try.sizeOf3 Try.zeroValue3 rfl (evs_cons (show _ = some (.int .i64 1) from rfl) evs_nil) rfl rfl rfl rfl rfl) rfl ?_
 rintro v_11 H_10 hO
 have hsh_12 := Sl.sh (hO.osl 1 rfl)
 have hsh_13 := Sl.sh (hO.osl 0 rfl)
 refine hl_v (v_buildF (cs := [.int .i64 2, v_9, v_11, .slice none 0 0]) (xs := [_, .tmp 4, .tmp 5]) (is := [0, 1, 2]) rfl (evs_cons (show _ = some (.int .i64 2) from rfl) (evs_cons rfl (evs_cons rfl evs_nil))) (fun w => by obtain ⟨_, _, _, hw⟩ := hsh_12; (try subst hw); obtain ⟨_, _, _, hw⟩ := hsh_13; (try subst hw); show _ = _; kernel_rfl)) rfl (hl_h (o_alloc (cs := [.int .i64 (0 : Int), .slice none 0 0, .slice none 0 0, .slice none 0 0]) hO Try.zeroValue25 rfl) rfl ?_)
 rintro _ H_14 ⟨b_15, rfl, hO⟩
 refine hl_s (o_storeA (us := [.int .i64 2, v_9, v_11, .slice none 0 0]) hO 0 rfl Try.sizeOf25 rfl rfl rfl rfl (by simp only [List.forall_mem_cons]; exact ⟨rfl, (Sl.one (hO.osl 2 rfl)), (Sl.one (hO.osl 1 rfl)), rfl, by simp⟩)) ?_
 rintro _ H_16 hO
 refine hl_nil (thenQ_n ?_)
 obtain ⟨K_20, h, hk_23⟩ := h
 refine hw_jn (fun g' H' => ∃ (n : GNfa) (v_17 : Value) (v_18 : Value) (v_19 : Value) (Z' : Nat → Prop), g' = [(2, ptr b_7 0), (3, ptr b_15 0)] ∧ K_20 n ∧ Own H' Z' (own fGEdge 69 v_19 n.Edges :: box b_15 [.int .i64 n.States, v_17, v_18, v_19] 25 :: own fInt 3 v_18 n.Ends :: own fInt 3 v_17 n.Starts :: box b_7 [.int .i64 (0 : Int), .slice none 0 0, .slice none 0 0, .slice none 0 0] 25 :: inZ Z :: L)) ?_ ?_
 ·refine hw_seq (hw_region (hl_v (v_loadA Try.isAgg34 Try.sizeOf34 rfl (Blk.at0 (hO.box 4 rfl)) rfl) rfl (hl_v (v_buildS0 Try.underlying34 Try.zeroValue34 Try.sizeOf32) rfl (hl_v (v_neqSet Try.underlying34 Try.underlying32 Try.sizeOf32 (by kernel_rfl) rfl rfl) rfl (hl_nil (thenQ_n (hw_cond rfl (fun hc_24 => ?_) (fun hc_24 => ?_))))))))
  ·replace h := ite_t h hc_24
   refine hw_region (hl_v (v_loadA Try.isAgg34 Try.sizeOf34 rfl (Blk.at0 (hO.box 4 rfl)) rfl) rfl (hl_v (v_buildF (cs := (fGEdge.enc (⟨(0 : Int), 1, s⟩ : GEdge))) (xs := [_, .tmp 10]) (is := [1, 2]) rfl (evs_cons (show _ = some (.int .i64 1) from rfl) (evs_cons rfl evs_nil)) (fun w => by show _ = _; kernel_rfl)) rfl (hl_h (o_lit (g := fGEdge) (l := [(⟨(0 : Int), 1, s⟩ : GEdge)]) (xs := [.tmp 11]) hO Try.underlying23 Try.sizeOf69 Try.zeroValue69 rfl (evs_cons rfl evs_nil) rfl rfl rfl rfl rfl) rfl ?_)))
   rintro v_26 H_25 hO
   refine hl_v (v_fieldA Try.underlying25 rfl Try.sizeOf23 rfl) rfl (hl_s (o_store1 hO 1 rfl Try.sizeOf23 rfl rfl rfl (Sl.one (hO.osl 0 rfl))) ?_)
   rintro _ H_27 hO
   refine hl_nil (thenQ_n (⟨_, (a_c 2 rfl (a_c 3 rfl a_n)), ⟨(⟨2, [0], [1], [(⟨(0 : Int), 1, s⟩ : GEdge)]⟩ : GNfa), v_9, v_11, v_26, _, rfl, h, (Own.sel (Ls := [own fGEdge 69 v_26 [(⟨(0 : Int), 1, s⟩ : GEdge)], box b_15 [.int .i64 2, v_9, v_11, v_26] 25, own fInt 3 v_11 [1], own fInt 3 v_9 [0], box b_7 [.int .i64 (0 : Int), .slice none 0 0, .slice none 0 0, .slice none 0 0] 25, box b_5 (sw s) 34, inZ Z]) (L := L) [0, 1, 2, 3, 4, 6] rfl hO)⟩⟩))
  ·replace h := ite_f h hc_24
   refine hw_skip (thenQ_n ?_)
   replace hO := hO.nil fGEdge 69
   refine ⟨_, (a_c 2 rfl (a_c 3 rfl a_n)), ⟨(⟨2, [0], [1], []⟩ : GNfa), v_9, v_11, .slice none 0 0, _, rfl, h, (Own.sel (Ls := [own fGEdge 69 (.slice none 0 0) [], box b_15 [.int .i64 2, v_9, v_11, .slice none 0 0] 25, own fInt 3 v_11 [1], own fInt 3 v_9 [0], box b_7 [.int .i64 (0 : Int), .slice none 0 0, .slice none 0 0, .slice none 0 0] 25, box b_5 (sw s) 34, inZ Z]) (L := L) [0, 1, 2, 3, 4, 6] rfl hO)⟩⟩
 ·rintro _ H_21 ⟨n, v_17, v_18, v_19, Z_22, rfl, h, hO⟩
  replace h := hk_23 n h
  refine hw_seq (hw_region (hl_v (v_loadA Try.isAgg25 Try.sizeOf25 rfl (Blk.at0 (hO.box 1 rfl)) rfl) rfl (hl_s (o_storeA (us := [.int .i64 n.States, v_17, v_18, v_19]) hO 4 rfl Try.sizeOf25 rfl rfl rfl rfl (by simp only [List.forall_mem_cons]; exact ⟨rfl, (Sl.one (hO.osl 3 rfl)), (Sl.one (hO.osl 2 rfl)), (Sl.one (hO.osl 0 rfl)), by simp⟩)) ?_)))
  rintro _ H_28 hO
  refine hl_nil (thenQ_n (hw_ret (ret_i _ (ra_c rfl (fun w hw => run_loadVar_at (cs := [.int .i64 n.States, v_17, v_18, v_19]) Try.isAgg25 Try.sizeOf25 (Blk.at0 (hO.box 4 rfl)) rfl w hw) ra_nil) ?_)))
  exact ⟨_, n, v_17, v_18, v_19, (hO.inz 5 rfl), h, rfl, (Own.sel (Ls := [own fGEdge 69 v_19 n.Edges, box b_15 [.int .i64 n.States, v_17, v_18, v_19] 25, own fInt 3 v_18 n.Ends, own fInt 3 v_17 n.Starts, box b_7 [.int .i64 n.States, v_17, v_18, v_19] 25, inZ Z]) (L := L) [3, 2, 0] rfl hO)⟩
theorem nfaSet_spec {a0 : BSet}  {L : List As} {H : Heap} {Z : Nat → Prop} (hO : Own H Z (L))  : HC Try.prog 15 [sv a0] H (fun v H' => ∃ (Z' : Nat → Prop) (v_1 : Value) (v_2 : Value) (v_3 : Value), (∀ b, Z b → Z' b) ∧ v = .agg [.int .i64 (nSet a0).States, v_1, v_2, v_3].toArray ∧ Own H' Z' (own fInt 3 v_1 (nSet a0).Starts :: own fInt 3 v_2 (nSet a0).Ends :: own fGEdge 69 v_3 (nSet a0).Edges :: L)) := by
  refine (nfaSet_ok (s := a0) (@nfaSet_wp a0) hO).mono ?_
  rintro v H' ⟨Z', r0, v_1, v_2, v_3, hz, hq, hv, hO'⟩
  obtain rfl := hq
  exact ⟨Z', v_1, v_2, v_3, hz, hv, hO'⟩

theorem nfaAlt_ok {a : GNfa} {b : GNfa} {v_1 : Value} {v_3 : Value} {v_5 : Value} {v_7 : Value} {v_9 : Value} {v_11 : Value} {Q : GNfa → Int → Prop} {H : Heap} {Z : Nat → Prop} {L : List As} (h : wp_nfaAlt a b Q) (hO : Own H Z (L)) (hf_2 : Fz fInt.rep L v_1 a.Starts) (hf_4 : Fz fInt.rep L v_3 a.Ends) (hf_6 : Fz fGEdge.rep L v_5 a.Edges) (hf_8 : Fz fInt.rep L v_7 b.Starts) (hf_10 : Fz fInt.rep L v_9 b.Ends) (hf_12 : Fz fGEdge.rep L v_11 b.Edges) : HC Try.prog 18 [.agg [.int .i64 a.States, v_1, v_3, v_5].toArray, .agg [.int .i64 b.States, v_7, v_9, v_11].toArray] H (fun v H' => ∃ (Z' : Nat → Prop) (r0 : GNfa) (r1 : Int) (v_13 : Value) (v_14 : Value) (v_15 : Value), (∀ b, Z b → Z' b) ∧ Q r0 r1 ∧ v = .tuple #[.agg [.int .i64 r0.States, v_13, v_14, v_15].toArray, .int .i64 r1] ∧ Own H' Z' (own fInt 3 v_13 r0.Starts :: own fInt 3 v_14 r0.Ends :: own fGEdge 69 v_15 r0.Edges :: L)) := by
 replace hO := hO.inZ
 replace hO := Fz.items [_] hf_2 hO
 replace hO := Fz.items [_, _] hf_4 hO
 replace hO := Fz.items [_, _, _] hf_6 hO
 replace hO := Fz.items [_, _, _, _] hf_8 hO
 replace hO := Fz.items [_, _, _, _, _] hf_10 hO
 replace hO := Fz.items [_, _, _, _, _, _] hf_12 hO
 unfold wp_nfaAlt at h
 refine hc_of_hw (N := 49) (rs := [(.cell 4 25), (.tmp 5)]) Try.func18 rfl rfl rfl rfl (hw_seq (hw_region (hl_h (o_box (cs := [.int .i64 a.States, v_1, v_3, v_5]) hO rfl rfl) rfl ?_)))
 rintro _ H_16 ⟨b_17, rfl, hO⟩
 refine hl_h (o_box (cs := [.int .i64 b.States, v_7, v_9, v_11]) hO rfl rfl) rfl ?_
 rintro _ H_18 ⟨b_19, rfl, hO⟩
 refine hl_h (o_alloc (cs := [.int .i64 (0 : Int), .slice none 0 0, .slice none 0 0, .slice none 0 0]) hO Try.zeroValue25 rfl) rfl ?_
 rintro _ H_20 ⟨b_21, rfl, hO⟩
 refine hl_v (v_assign rfl) rfl (hl_nil (thenQ_n (hw_seq (hw_seq (hw_region (hl_v (v_loadA Try.isAgg25 Try.sizeOf25 rfl (Blk.at0 (hO.box 2 rfl)) rfl) rfl (hl_v (v_loadA Try.isAgg25 Try.sizeOf25 rfl (Blk.at0 (hO.box 1 rfl)) rfl) rfl ?_)))))))
 have hsh_24 := Sl.sh (hO.fsl 8 rfl)
 have hsh_25 := Sl.sh (hO.fsl 7 rfl)
 have hsh_26 := Sl.sh (hO.fsl 6 rfl)
 have hsh_27 := Sl.sh (hO.fsl 5 rfl)
 have hsh_28 := Sl.sh (hO.fsl 4 rfl)
 have hsh_29 := Sl.sh (hO.fsl 3 rfl)
 refine hl_h (o_litR (r := rGNfa) (l := [a, b]) (xs := [.tmp 8, .tmp 9]) (css := [[.int .i64 a.States, v_1, v_3, v_5], [.int .i64 b.States, v_7, v_9, v_11]]) hO Try.underlying87 Try.sizeOf25 Try.zeroValue25 rfl (evs_cons rfl (evs_cons rfl evs_nil)) rfl rfl rfl (by obtain ⟨_, _, _, hw⟩ := hsh_24; (try subst hw); obtain ⟨_, _, _, hw⟩ := hsh_25; (try subst hw); obtain ⟨_, _, _, hw⟩ := hsh_26; (try subst hw); obtain ⟨_, _, _, hw⟩ := hsh_27; (try subst hw); obtain ⟨_, _, _, hw⟩ := hsh_28; (try subst hw); obtain ⟨_, _, _, hw⟩ := hsh_29; (try subst hw); rfl) rfl (relAll_cons ⟨_, _, _, rfl, (hO.fsl 8 rfl), (hO.fsl 7 rfl), (hO.fsl 6 rfl)⟩ (relAll_cons ⟨_, _, _, rfl, (hO.fsl 5 rfl), (hO.fsl 4 rfl), (hO.fsl 3 rfl)⟩ relAll_nil))) rfl ?_
 rintro v_23 H_22 hO
 obtain ⟨Z_30, _, hO⟩ := hO.freezeR (i := 0) rfl
 refine hl_h (h_call Try.call35 (evs_cons rfl evs_nil) (nfaWrong_spec (a0 := [a, b]) hO (Fz.of (i := 0) rfl))) rfl ?_
 rintro _ H_31 ⟨Z_32, _, rfl, hO⟩
 refine hl_nil (thenQ_n (hw_cond rfl (fun hc_34 => ?_) (fun hc_34 => ?_)))
 ·replace h := ite_t h hc_34
  refine hw_seq (hw_region (hl_v (v_buildF (cs := [.int .i64 (0 : Int), .slice none 0 0, .slice none 0 0, .slice none 0 0]) (xs := []) (is := []) rfl evs_nil (fun w => by show _ = _; kernel_rfl)) rfl (hl_s (o_storeA (us := [.int .i64 (0 : Int), .slice none 0 0, .slice none 0 0, .slice none 0 0]) hO 1 rfl Try.sizeOf25 rfl rfl rfl rfl (by simp only [List.forall_mem_cons]; exact ⟨rfl, rfl, rfl, rfl, by simp⟩)) ?_)))
  rintro _ H_35 hO
  refine hl_v (v_assign rfl) rfl (hl_nil (thenQ_n (hw_ret (thenQ_r ?_))))
  replace hO := hO.nil fInt 3
  replace hO := hO.nil fInt 3
  replace hO := hO.nil fGEdge 69
  refine ret_i _ (ra_c rfl (fun w hw => run_loadVar_at (cs := [.int .i64 (0 : Int), .slice none 0 0, .slice none 0 0, .slice none 0 0]) Try.isAgg25 Try.sizeOf25 (Blk.at0 (hO.box 4 rfl)) rfl w hw) (ra_t rfl ra_nil)) ?_
  exact ⟨_, (⟨(0 : Int), [], [], []⟩ : GNfa), 1, .slice none 0 0, .slice none 0 0, .slice none 0 0, (hO.inz 13 rfl), h, rfl, (Own.sel (Ls := [own fGEdge 69 (.slice none 0 0) [], own fInt 3 (.slice none 0 0) [], own fInt 3 (.slice none 0 0) [], fz rGNfa v_23 [a, b], box b_21 [.int .i64 (0 : Int), .slice none 0 0, .slice none 0 0, .slice none 0 0] 25, box b_19 [.int .i64 b.States, v_7, v_9, v_11] 25, box b_17 [.int .i64 a.States, v_1, v_3, v_5] 25, fz fGEdge.rep v_11 b.Edges, fz fInt.rep v_9 b.Ends, fz fInt.rep v_7 b.Starts, fz fGEdge.rep v_5 a.Edges, fz fInt.rep v_3 a.Ends, fz fInt.rep v_1 a.Starts, inZ Z]) (L := L) [2, 1, 0] rfl hO)⟩
 ·replace h := ite_f h hc_34
  refine hw_skip (thenQ_n (hw_seq (hw_region (hl_v (v_fieldA Try.underlying25 rfl Try.sizeOf3 rfl) rfl (hl_v (v_load1 Try.isAgg3 rfl (Blk.cell (hO.box 3 rfl) rfl)) rfl (hl_v (v_assign rfl) rfl (hl_nil (thenQ_n (hw_seq (hw_held2 23 (fun H' => ∃ Z' : Nat → Prop, Own H' Z' (fz rGNfa v_23 [a, b] :: box b_21 [.int .i64 (0 : Int), .slice none 0 0, .slice none 0 0, .slice none 0 0] 25 :: box b_19 [.int .i64 b.States, v_7, v_9, v_11] 25 :: box b_17 [.int .i64 a.States, v_1, v_3, v_5] 25 :: fz fGEdge.rep v_11 b.Edges :: fz fInt.rep v_9 b.Ends :: fz fInt.rep v_7 b.Starts :: fz fGEdge.rep v_5 a.Edges :: fz fInt.rep v_3 a.Ends :: fz fInt.rep v_1 a.Starts :: inZ Z :: L)) (.step 0 false (.step 1 false (.step 2 false (.step 3 false (.step 4 false (.step 5 false (.step 6 false (.step 7 false (.step 8 false (.step 12 false (.step 13 false (.step 14 false (.step 15 false (.step 16 false (.step 9 true (.step 10 true (.step 11 true (.step 17 true (.step 18 true (.step 19 true (.step 20 false (.step 21 false (.step 22 true .done))))))))))))))))))))))) (.step 23 true .done) Try.mixed (by kernel_rfl) ⟨_, hO⟩ (hd_v rfl (fun _ _ => (v_move rfl)) rfl (hd_v rfl (fun _ _ => (v_fieldA Try.underlying25 rfl Try.sizeOf3 rfl)) rfl (hd_v rfl (fun H' hS => by obtain ⟨Z', hO⟩ := hS; exact (v_load1 Try.isAgg3 rfl (Blk.cell (hO.box 2 rfl) rfl))) rfl ?_)))))))))))))
  obtain ⟨hs_36, h⟩ := h
  refine hd_v rfl (fun _ _ => (v_add rfl rfl hs_36)) rfl (hd_v rfl (fun _ _ => (v_fieldA Try.underlying25 rfl Try.sizeOf22 rfl)) rfl (hd_v rfl (fun H' hS => by obtain ⟨Z', hO⟩ := hS; exact (v_load1 Try.isAgg22 rfl (Blk.cell (hO.box 3 rfl) rfl))) rfl (hd_v rfl (fun _ _ => (v_fieldA Try.underlying25 rfl Try.sizeOf22 rfl)) rfl (hd_v rfl (fun H' hS => by obtain ⟨Z', hO⟩ := hS; exact (v_load1 Try.isAgg22 rfl (Blk.cell (hO.box 2 rfl) rfl))) rfl (hd_v rfl (fun _ _ => (v_move rfl)) rfl (hd_v rfl (fun _ _ => (v_fieldA Try.underlying25 rfl Try.sizeOf22 rfl)) rfl (hd_v rfl (fun H' hS => by obtain ⟨Z', hO⟩ := hS; exact (v_load1 Try.isAgg22 rfl (Blk.cell (hO.box 3 rfl) rfl))) rfl (hd_v rfl (fun _ _ => (v_fieldA Try.underlying25 rfl Try.sizeOf22 rfl)) rfl (hd_v rfl (fun H' hS => by obtain ⟨Z', hO⟩ := hS; exact (v_load1 Try.isAgg22 rfl (Blk.cell (hO.box 2 rfl) rfl))) rfl (hd_v rfl (fun _ _ => (v_move rfl)) rfl ?_))))))))))
  obtain ⟨hs_37, h⟩ := h
  refine hd_h (h_call Try.call45 (evs_cons rfl (evs_cons rfl evs_nil)) (nfaMore_spec (a0 := b.Starts) (a1 := a.States) hs_37 hO (Rd.of_fz (i := 6) rfl))) (by rintro v_38 H_39 ⟨Z_40, _, _, rfl, hO⟩; exact ⟨_, (Own.sel (Ls := [own fInt 3 v_38 (b.Starts.map (· + a.States)), fz rGNfa v_23 [a, b], box b_21 [.int .i64 (0 : Int), .slice none 0 0, .slice none 0 0, .slice none 0 0] 25, box b_19 [.int .i64 b.States, v_7, v_9, v_11] 25, box b_17 [.int .i64 a.States, v_1, v_3, v_5] 25, fz fGEdge.rep v_11 b.Edges, fz fInt.rep v_9 b.Ends, fz fInt.rep v_7 b.Starts, fz fGEdge.rep v_5 a.Edges, fz fInt.rep v_3 a.Ends, fz fInt.rep v_1 a.Starts, inZ Z]) (L := L) [1, 2, 3, 4, 5, 6, 7, 8, 9, 10, 11] rfl hO)⟩) rfl ?_
  rintro v_38 H_39 ⟨Z_40, _, _, rfl, hO⟩
  obtain ⟨Z_44, _, hO⟩ := hO.freeze (i := 0) rfl
  have hsh_45 := Sl.sh (hO.fsl 10 rfl)
  have hsh_46 := Sl.sh (hO.fsl 0 rfl)
  refine hd_h (o_litR (r := (Rep.sl fInt.rep)) (l := [a.Starts, (b.Starts.map (· + a.States))]) (xs := [.tmp 20, .tmp 24]) (css := [[v_1], [v_38]]) hO Try.underlying111 Try.sizeOf22 Try.zeroValue22 rfl (evs_cons rfl (evs_cons rfl evs_nil)) rfl rfl rfl (by obtain ⟨_, _, _, hw⟩ := hsh_45; (try subst hw); obtain ⟨_, _, _, hw⟩ := hsh_46; (try subst hw); rfl) rfl (relAll_cons ⟨_, rfl, (hO.fsl 10 rfl)⟩ (relAll_cons ⟨_, rfl, (hO.fsl 0 rfl)⟩ relAll_nil))) (by rintro v_43 H_42 hO; exact ⟨_, (Own.sel (Ls := [ownR (Rep.sl fInt.rep) 22 v_43 [a.Starts, (b.Starts.map (· + a.States))], fz fInt.rep v_38 (b.Starts.map (· + a.States)), fz rGNfa v_23 [a, b], box b_21 [.int .i64 (0 : Int), .slice none 0 0, .slice none 0 0, .slice none 0 0] 25, box b_19 [.int .i64 b.States, v_7, v_9, v_11] 25, box b_17 [.int .i64 a.States, v_1, v_3, v_5] 25, fz fGEdge.rep v_11 b.Edges, fz fInt.rep v_9 b.Ends, fz fInt.rep v_7 b.Starts, fz fGEdge.rep v_5 a.Edges, fz fInt.rep v_3 a.Ends, fz fInt.rep v_1 a.Starts, inZ Z]) (L := L) [2, 3, 4, 5, 6, 7, 8, 9, 10, 11, 12] rfl hO)⟩) rfl ?_
  rintro v_43 H_42 hO
  obtain ⟨Z_47, _, hO⟩ := hO.freezeR (i := 0) rfl
  obtain ⟨hs_48, h⟩ := h
  refine hd_h (h_call Try.call48 (evs_cons rfl evs_nil) (concatInt_spec (a0 := [a.Starts, (b.Starts.map (· + a.States))]) hs_48 hO (Fz.of (i := 0) rfl))) (by rintro v_49 H_50 ⟨Z_51, _, _, rfl, hO⟩; exact ⟨_, (Own.sel (Ls := [own fInt 3 v_49 ([a.Starts, (b.Starts.map (· + a.States))].flatten), fz (Rep.sl fInt.rep) v_43 [a.Starts, (b.Starts.map (· + a.States))], fz fInt.rep v_38 (b.Starts.map (· + a.States)), fz rGNfa v_23 [a, b], box b_21 [.int .i64 (0 : Int), .slice none 0 0, .slice none 0 0, .slice none 0 0] 25, box b_19 [.int .i64 b.States, v_7, v_9, v_11] 25, box b_17 [.int .i64 a.States, v_1, v_3, v_5] 25, fz fGEdge.rep v_11 b.Edges, fz fInt.rep v_9 b.Ends, fz fInt.rep v_7 b.Starts, fz fGEdge.rep v_5 a.Edges, fz fInt.rep v_3 a.Ends, fz fInt.rep v_1 a.Starts, inZ Z]) (L := L) [3, 4, 5, 6, 7, 8, 9, 10, 11, 12, 13] rfl hO)⟩) rfl ?_
  rintro v_49 H_50 ⟨Z_51, _, _, rfl, hO⟩
  obtain ⟨hs_53, h⟩ := h
  refine hd_h (h_call Try.call45 (evs_cons rfl (evs_cons rfl evs_nil)) (nfaMore_spec (a0 := b.Ends) (a1 := a.States) hs_53 hO (Rd.of_fz (i := 8) rfl))) (by rintro v_54 H_55 ⟨Z_56, _, _, rfl, hO⟩; exact ⟨_, (Own.sel (Ls := [own fInt 3 v_54 (b.Ends.map (· + a.States)), own fInt 3 v_49 ([a.Starts, (b.Starts.map (· + a.States))].flatten), fz (Rep.sl fInt.rep) v_43 [a.Starts, (b.Starts.map (· + a.States))], fz fInt.rep v_38 (b.Starts.map (· + a.States)), fz rGNfa v_23 [a, b], box b_21 [.int .i64 (0 : Int), .slice none 0 0, .slice none 0 0, .slice none 0 0] 25, box b_19 [.int .i64 b.States, v_7, v_9, v_11] 25, box b_17 [.int .i64 a.States, v_1, v_3, v_5] 25, fz fGEdge.rep v_11 b.Edges, fz fInt.rep v_9 b.Ends, fz fInt.rep v_7 b.Starts, fz fGEdge.rep v_5 a.Edges, fz fInt.rep v_3 a.Ends, fz fInt.rep v_1 a.Starts, inZ Z]) (L := L) [4, 5, 6, 7, 8, 9, 10, 11, 12, 13, 14] rfl hO)⟩) rfl ?_
  rintro v_54 H_55 ⟨Z_56, _, _, rfl, hO⟩
  obtain ⟨Z_60, _, hO⟩ := hO.freeze (i := 0) rfl
  replace hO : Own H_55 Z_60 (fz fInt.rep v_54 (b.Ends.map (· + a.States)) :: own fInt 3 v_49 ([a.Starts, (b.Starts.map (· + a.States))].flatten) :: fz (Rep.sl fInt.rep) v_43 [a.Starts, (b.Starts.map (· + a.States))] :: fz fInt.rep v_38 (b.Starts.map (· + a.States)) :: fz rGNfa v_23 [a, b] :: box b_21 [.int .i64 (0 : Int), .slice none 0 0, .slice none 0 0, .slice none 0 0] 25 :: box b_19 [.int .i64 b.States, v_7, v_9, v_11] 25 :: box b_17 [.int .i64 a.States, v_1, v_3, v_5] 25 :: fz fGEdge.rep v_11 b.Edges :: fz fInt.rep v_9 b.Ends :: fz fInt.rep v_7 b.Starts :: fz fGEdge.rep v_5 a.Edges :: fz fInt.rep v_3 a.Ends :: fz fInt.rep v_1 a.Starts :: inZ Z :: L) := hO
  have hsh_61 := Sl.sh (hO.fsl 12 rfl)
  have hsh_62 := Sl.sh (hO.fsl 0 rfl)
  refine hd_h (o_litR (r := (Rep.sl fInt.rep)) (l := [a.Ends, (b.Ends.map (· + a.States))]) (xs := [.tmp 28, .tmp 32]) (css := [[v_3], [v_54]]) hO Try.underlying111 Try.sizeOf22 Try.zeroValue22 rfl (evs_cons rfl (evs_cons rfl evs_nil)) rfl rfl rfl (by obtain ⟨_, _, _, hw⟩ := hsh_61; (try subst hw); obtain ⟨_, _, _, hw⟩ := hsh_62; (try subst hw); rfl) rfl (relAll_cons ⟨_, rfl, (hO.fsl 12 rfl)⟩ (relAll_cons ⟨_, rfl, (hO.fsl 0 rfl)⟩ relAll_nil))) (by rintro v_59 H_58 hO; exact ⟨_, (Own.sel (Ls := [ownR (Rep.sl fInt.rep) 22 v_59 [a.Ends, (b.Ends.map (· + a.States))], fz fInt.rep v_54 (b.Ends.map (· + a.States)), own fInt 3 v_49 ([a.Starts, (b.Starts.map (· + a.States))].flatten), fz (Rep.sl fInt.rep) v_43 [a.Starts, (b.Starts.map (· + a.States))], fz fInt.rep v_38 (b.Starts.map (· + a.States)), fz rGNfa v_23 [a, b], box b_21 [.int .i64 (0 : Int), .slice none 0 0, .slice none 0 0, .slice none 0 0] 25, box b_19 [.int .i64 b.States, v_7, v_9, v_11] 25, box b_17 [.int .i64 a.States, v_1, v_3, v_5] 25, fz fGEdge.rep v_11 b.Edges, fz fInt.rep v_9 b.Ends, fz fInt.rep v_7 b.Starts, fz fGEdge.rep v_5 a.Edges, fz fInt.rep v_3 a.Ends, fz fInt.rep v_1 a.Starts, inZ Z]) (L := L) [5, 6, 7, 8, 9, 10, 11, 12, 13, 14, 15] rfl hO)⟩) rfl ?_
  rintro v_59 H_58 hO
  obtain ⟨Z_63, _, hO⟩ := hO.freezeR (i := 0) rfl
  obtain ⟨hs_64, h⟩ := h
  refine hd_h (h_call Try.call48 (evs_cons rfl evs_nil) (concatInt_spec (a0 := [a.Ends, (b.Ends.map (· + a.States))]) hs_64 hO (Fz.of (i := 0) rfl))) (by rintro v_65 H_66 ⟨Z_67, _, _, rfl, hO⟩; exact ⟨_, (Own.sel (Ls := [own fInt 3 v_65 ([a.Ends, (b.Ends.map (· + a.States))].flatten), fz (Rep.sl fInt.rep) v_59 [a.Ends, (b.Ends.map (· + a.States))], fz fInt.rep v_54 (b.Ends.map (· + a.States)), own fInt 3 v_49 ([a.Starts, (b.Starts.map (· + a.States))].flatten), fz (Rep.sl fInt.rep) v_43 [a.Starts, (b.Starts.map (· + a.States))], fz fInt.rep v_38 (b.Starts.map (· + a.States)), fz rGNfa v_23 [a, b], box b_21 [.int .i64 (0 : Int), .slice none 0 0, .slice none 0 0, .slice none 0 0] 25, box b_19 [.int .i64 b.States, v_7, v_9, v_11] 25, box b_17 [.int .i64 a.States, v_1, v_3, v_5] 25, fz fGEdge.rep v_11 b.Edges, fz fInt.rep v_9 b.Ends, fz fInt.rep v_7 b.Starts, fz fGEdge.rep v_5 a.Edges, fz fInt.rep v_3 a.Ends, fz fInt.rep v_1 a.Starts, inZ Z]) (L := L) [6, 7, 8, 9, 10, 11, 12, 13, 14, 15, 16] rfl hO)⟩) rfl ?_
  rintro v_65 H_66 ⟨Z_67, _, _, rfl, hO⟩
  have hsh_69 := Sl.sh (hO.osl 3 rfl)
  have hsh_70 := Sl.sh (hO.osl 0 rfl)
  refine hd_v rfl (fun _ _ => (v_buildF (cs := [.int .i64 (a.States + b.States), v_49, v_65, .slice none 0 0]) (xs := [.tmp 18, .tmp 26, .tmp 34]) (is := [0, 1, 2]) rfl (evs_cons rfl (evs_cons rfl (evs_cons rfl evs_nil))) (fun w => by obtain ⟨_, _, _, hw⟩ := hsh_69; (try subst hw); obtain ⟨_, _, _, hw⟩ := hsh_70; (try subst hw); show _ = _; kernel_rfl))) rfl ?_
  have hsh_71 := Sl.sh (hO.osl 3 rfl)
  have hsh_72 := Sl.sh (hO.osl 0 rfl)
  refine hd_v rfl (fun _ _ => (v_buildF (cs := [.int .i64 (a.States + b.States), v_49, v_65, .slice none 0 0, .bool false]) (xs := [.tmp 35]) (is := [0]) rfl (evs_cons rfl evs_nil) (fun w => by obtain ⟨_, _, _, hw⟩ := hsh_71; (try subst hw); obtain ⟨_, _, _, hw⟩ := hsh_72; (try subst hw); show _ = _; kernel_rfl))) rfl (hd_h (o_box (cs := [.int .i64 (a.States + b.States), v_49, v_65, .slice none 0 0, .bool false]) hO rfl rfl) (by rintro _ H_73 ⟨b_74, rfl, hO⟩; exact ⟨_, (Own.sel (Ls := [box b_74 [.int .i64 (a.States + b.States), v_49, v_65, .slice none 0 0, .bool false] 77, own fInt 3 v_65 ([a.Ends, (b.Ends.map (· + a.States))].flatten), fz (Rep.sl fInt.rep) v_59 [a.Ends, (b.Ends.map (· + a.States))], fz fInt.rep v_54 (b.Ends.map (· + a.States)), own fInt 3 v_49 ([a.Starts, (b.Starts.map (· + a.States))].flatten), fz (Rep.sl fInt.rep) v_43 [a.Starts, (b.Starts.map (· + a.States))], fz fInt.rep v_38 (b.Starts.map (· + a.States)), fz rGNfa v_23 [a, b], box b_21 [.int .i64 (0 : Int), .slice none 0 0, .slice none 0 0, .slice none 0 0] 25, box b_19 [.int .i64 b.States, v_7, v_9, v_11] 25, box b_17 [.int .i64 a.States, v_1, v_3, v_5] 25, fz fGEdge.rep v_11 b.Edges, fz fInt.rep v_9 b.Ends, fz fInt.rep v_7 b.Starts, fz fGEdge.rep v_5 a.Edges, fz fInt.rep v_3 a.Ends, fz fInt.rep v_1 a.Starts, inZ Z]) (L := L) [7, 8, 9, 10, 11, 12, 13, 14, 15, 16, 17] rfl hO)⟩) rfl ?_)
  rintro _ H_73 ⟨b_74, rfl, hO⟩
  refine hd_nil (hd_h (OpV.toH (v_assign rfl)) (fun _ _ hR => trivial) rfl ?_)
  rintro vv HH ⟨hvv, hHH⟩
  obtain rfl := hvv.symm
  obtain rfl := hHH.symm
  refine hd_nil (thenQ_n (hw_seq (hw_region (hl_v (v_move rfl) rfl (hl_v (v_loadA Try.isAgg25 Try.sizeOf25 rfl (Blk.at0 (hO.box 10 rfl)) rfl) rfl ?_)))))
  replace hO := hO.nil fGEdge 69
  obtain ⟨hs_75, h⟩ := h
  refine hl_h (h_call Try.call49 (evs_cons rfl (evs_cons rfl (evs_cons (show _ = some (.int .i64 0) from rfl) evs_nil))) (nbPut_spec (a0 := (⟨(⟨(a.States + b.States), [a.Starts, (b.Starts.map (· + a.States))].flatten, [a.Ends, (b.Ends.map (· + a.States))].flatten, []⟩ : GNfa), false⟩ : Gnfa_builder)) (a1 := a) (a2 := 0) (L := fz (Rep.sl fInt.rep) v_59 [a.Ends, (b.Ends.map (· + a.States))] :: fz fInt.rep v_54 (b.Ends.map (· + a.States)) :: fz (Rep.sl fInt.rep) v_43 [a.Starts, (b.Starts.map (· + a.States))] :: fz fInt.rep v_38 (b.Starts.map (· + a.States)) :: fz rGNfa v_23 [a, b] :: box b_21 [.int .i64 (0 : Int), .slice none 0 0, .slice none 0 0, .slice none 0 0] 25 :: box b_19 [.int .i64 b.States, v_7, v_9, v_11] 25 :: box b_17 [.int .i64 a.States, v_1, v_3, v_5] 25 :: fz fGEdge.rep v_11 b.Edges :: fz fInt.rep v_9 b.Ends :: fz fInt.rep v_7 b.Starts :: fz fGEdge.rep v_5 a.Edges :: fz fInt.rep v_3 a.Ends :: fz fInt.rep v_1 a.Starts :: inZ Z :: L) hs_75 (Own.sel (Ls := [own fGEdge 69 (.slice none 0 0) [], box b_74 [.int .i64 (a.States + b.States), v_49, v_65, .slice none 0 0, .bool false] 77, own fInt 3 v_65 ([a.Ends, (b.Ends.map (· + a.States))].flatten), fz (Rep.sl fInt.rep) v_59 [a.Ends, (b.Ends.map (· + a.States))], fz fInt.rep v_54 (b.Ends.map (· + a.States)), own fInt 3 v_49 ([a.Starts, (b.Starts.map (· + a.States))].flatten), fz (Rep.sl fInt.rep) v_43 [a.Starts, (b.Starts.map (· + a.States))], fz fInt.rep v_38 (b.Starts.map (· + a.States)), fz rGNfa v_23 [a, b], box b_21 [.int .i64 (0 : Int), .slice none 0 0, .slice none 0 0, .slice none 0 0] 25, box b_19 [.int .i64 b.States, v_7, v_9, v_11] 25, box b_17 [.int .i64 a.States, v_1, v_3, v_5] 25, fz fGEdge.rep v_11 b.Edges, fz fInt.rep v_9 b.Ends, fz fInt.rep v_7 b.Starts, fz fGEdge.rep v_5 a.Edges, fz fInt.rep v_3 a.Ends, fz fInt.rep v_1 a.Starts, inZ Z]) (L := L) [1, 5, 2, 0, 3, 4, 6, 7, 8, 9, 10, 11, 12, 13, 14, 15, 16, 17, 18] rfl hO) (Fz.of (i := 13) rfl) (Fz.of (i := 12) rfl) (Fz.of (i := 11) rfl))) rfl ?_
  rintro _ H_76 ⟨Z_77, v_79, v_80, v_81, _, rfl, hO⟩
  refine hl_nil (thenQ_n (hw_sub _ (a_c 3 rfl (a_c 4 rfl (a_c 6 rfl (a_c 7 rfl a_n)))) (hw_seq (hw_region (hl_v (v_move rfl) rfl (hl_v (v_loadA Try.isAgg25 Try.sizeOf25 rfl (Blk.at0 (hO.box 10 rfl)) rfl) rfl (hl_v (v_move rfl) rfl ?_)))))))
  obtain ⟨hs_82, h⟩ := h
  refine hl_h (h_call Try.call49 (evs_cons rfl (evs_cons rfl (evs_cons rfl evs_nil))) (nbPut_spec (a0 := (nbPut (⟨(⟨(a.States + b.States), [a.Starts, (b.Starts.map (· + a.States))].flatten, [a.Ends, (b.Ends.map (· + a.States))].flatten, []⟩ : GNfa), false⟩ : Gnfa_builder) a 0)) (a1 := b) (a2 := a.States) (L := fz (Rep.sl fInt.rep) v_59 [a.Ends, (b.Ends.map (· + a.States))] :: fz fInt.rep v_54 (b.Ends.map (· + a.States)) :: fz (Rep.sl fInt.rep) v_43 [a.Starts, (b.Starts.map (· + a.States))] :: fz fInt.rep v_38 (b.Starts.map (· + a.States)) :: fz rGNfa v_23 [a, b] :: box b_21 [.int .i64 (0 : Int), .slice none 0 0, .slice none 0 0, .slice none 0 0] 25 :: box b_19 [.int .i64 b.States, v_7, v_9, v_11] 25 :: box b_17 [.int .i64 a.States, v_1, v_3, v_5] 25 :: fz fGEdge.rep v_11 b.Edges :: fz fInt.rep v_9 b.Ends :: fz fInt.rep v_7 b.Starts :: fz fGEdge.rep v_5 a.Edges :: fz fInt.rep v_3 a.Ends :: fz fInt.rep v_1 a.Starts :: inZ Z :: L) hs_82 (Own.sel (Ls := [box b_74 [.int .i64 (((nbPut (⟨(⟨(a.States + b.States), [a.Starts, (b.Starts.map (· + a.States))].flatten, [a.Ends, (b.Ends.map (· + a.States))].flatten, []⟩ : GNfa), false⟩ : Gnfa_builder) a 0).Nfa).States), v_79, v_80, v_81, .bool ((nbPut (⟨(⟨(a.States + b.States), [a.Starts, (b.Starts.map (· + a.States))].flatten, [a.Ends, (b.Ends.map (· + a.States))].flatten, []⟩ : GNfa), false⟩ : Gnfa_builder) a 0).full)] 77, own fInt 3 v_79 (((nbPut (⟨(⟨(a.States + b.States), [a.Starts, (b.Starts.map (· + a.States))].flatten, [a.Ends, (b.Ends.map (· + a.States))].flatten, []⟩ : GNfa), false⟩ : Gnfa_builder) a 0).Nfa).Starts), own fInt 3 v_80 (((nbPut (⟨(⟨(a.States + b.States), [a.Starts, (b.Starts.map (· + a.States))].flatten, [a.Ends, (b.Ends.map (· + a.States))].flatten, []⟩ : GNfa), false⟩ : Gnfa_builder) a 0).Nfa).Ends), own fGEdge 69 v_81 (((nbPut (⟨(⟨(a.States + b.States), [a.Starts, (b.Starts.map (· + a.States))].flatten, [a.Ends, (b.Ends.map (· + a.States))].flatten, []⟩ : GNfa), false⟩ : Gnfa_builder) a 0).Nfa).Edges), fz (Rep.sl fInt.rep) v_59 [a.Ends, (b.Ends.map (· + a.States))], fz fInt.rep v_54 (b.Ends.map (· + a.States)), fz (Rep.sl fInt.rep) v_43 [a.Starts, (b.Starts.map (· + a.States))], fz fInt.rep v_38 (b.Starts.map (· + a.States)), fz rGNfa v_23 [a, b], box b_21 [.int .i64 (0 : Int), .slice none 0 0, .slice none 0 0, .slice none 0 0] 25, box b_19 [.int .i64 b.States, v_7, v_9, v_11] 25, box b_17 [.int .i64 a.States, v_1, v_3, v_5] 25, fz fGEdge.rep v_11 b.Edges, fz fInt.rep v_9 b.Ends, fz fInt.rep v_7 b.Starts, fz fGEdge.rep v_5 a.Edges, fz fInt.rep v_3 a.Ends, fz fInt.rep v_1 a.Starts, inZ Z]) (L := L) [0, 1, 2, 3, 4, 5, 6, 7, 8, 9, 10, 11, 12, 13, 14, 15, 16, 17, 18] rfl hO) (Fz.of (i := 10) rfl) (Fz.of (i := 9) rfl) (Fz.of (i := 8) rfl))) rfl ?_
  rintro _ H_83 ⟨Z_84, v_86, v_87, v_88, _, rfl, hO⟩
  refine hl_nil (thenQ_n (hw_seq (hw_region (hl_v (v_move rfl) rfl (hl_h (h_call Try.call44 (evs_cons rfl evs_nil) (nbEnd_spec (a0 := (nbPut (nbPut (⟨(⟨(a.States + b.States), [a.Starts, (b.Starts.map (· + a.States))].flatten, [a.Ends, (b.Ends.map (· + a.States))].flatten, []⟩ : GNfa), false⟩ : Gnfa_builder) a 0) b a.States)) (L := fz (Rep.sl fInt.rep) v_59 [a.Ends, (b.Ends.map (· + a.States))] :: fz fInt.rep v_54 (b.Ends.map (· + a.States)) :: fz (Rep.sl fInt.rep) v_43 [a.Starts, (b.Starts.map (· + a.States))] :: fz fInt.rep v_38 (b.Starts.map (· + a.States)) :: fz rGNfa v_23 [a, b] :: box b_21 [.int .i64 (0 : Int), .slice none 0 0, .slice none 0 0, .slice none 0 0] 25 :: box b_19 [.int .i64 b.States, v_7, v_9, v_11] 25 :: box b_17 [.int .i64 a.States, v_1, v_3, v_5] 25 :: fz fGEdge.rep v_11 b.Edges :: fz fInt.rep v_9 b.Ends :: fz fInt.rep v_7 b.Starts :: fz fGEdge.rep v_5 a.Edges :: fz fInt.rep v_3 a.Ends :: fz fInt.rep v_1 a.Starts :: inZ Z :: L) (Own.sel (Ls := [box b_74 [.int .i64 (((nbPut (nbPut (⟨(⟨(a.States + b.States), [a.Starts, (b.Starts.map (· + a.States))].flatten, [a.Ends, (b.Ends.map (· + a.States))].flatten, []⟩ : GNfa), false⟩ : Gnfa_builder) a 0) b a.States).Nfa).States), v_86, v_87, v_88, .bool ((nbPut (nbPut (⟨(⟨(a.States + b.States), [a.Starts, (b.Starts.map (· + a.States))].flatten, [a.Ends, (b.Ends.map (· + a.States))].flatten, []⟩ : GNfa), false⟩ : Gnfa_builder) a 0) b a.States).full)] 77, own fInt 3 v_86 (((nbPut (nbPut (⟨(⟨(a.States + b.States), [a.Starts, (b.Starts.map (· + a.States))].flatten, [a.Ends, (b.Ends.map (· + a.States))].flatten, []⟩ : GNfa), false⟩ : Gnfa_builder) a 0) b a.States).Nfa).Starts), own fInt 3 v_87 (((nbPut (nbPut (⟨(⟨(a.States + b.States), [a.Starts, (b.Starts.map (· + a.States))].flatten, [a.Ends, (b.Ends.map (· + a.States))].flatten, []⟩ : GNfa), false⟩ : Gnfa_builder) a 0) b a.States).Nfa).Ends), own fGEdge 69 v_88 (((nbPut (nbPut (⟨(⟨(a.States + b.States), [a.Starts, (b.Starts.map (· + a.States))].flatten, [a.Ends, (b.Ends.map (· + a.States))].flatten, []⟩ : GNfa), false⟩ : Gnfa_builder) a 0) b a.States).Nfa).Edges), fz (Rep.sl fInt.rep) v_59 [a.Ends, (b.Ends.map (· + a.States))], fz fInt.rep v_54 (b.Ends.map (· + a.States)), fz (Rep.sl fInt.rep) v_43 [a.Starts, (b.Starts.map (· + a.States))], fz fInt.rep v_38 (b.Starts.map (· + a.States)), fz rGNfa v_23 [a, b], box b_21 [.int .i64 (0 : Int), .slice none 0 0, .slice none 0 0, .slice none 0 0] 25, box b_19 [.int .i64 b.States, v_7, v_9, v_11] 25, box b_17 [.int .i64 a.States, v_1, v_3, v_5] 25, fz fGEdge.rep v_11 b.Edges, fz fInt.rep v_9 b.Ends, fz fInt.rep v_7 b.Starts, fz fGEdge.rep v_5 a.Edges, fz fInt.rep v_3 a.Ends, fz fInt.rep v_1 a.Starts, inZ Z]) (L := L) [0, 1, 2, 3, 4, 5, 6, 7, 8, 9, 10, 11, 12, 13, 14, 15, 16, 17, 18] rfl hO))) rfl ?_)))))
  rintro _ H_92 ⟨Z_93, v_89, v_90, v_91, _, rfl, hO⟩
  refine hl_v (v_extract rfl rfl) rfl (hl_v (v_extract rfl rfl) rfl (hl_s (o_storeA (us := [.int .i64 (((nbEnd (nbPut (nbPut (⟨(⟨(a.States + b.States), [a.Starts, (b.Starts.map (· + a.States))].flatten, [a.Ends, (b.Ends.map (· + a.States))].flatten, []⟩ : GNfa), false⟩ : Gnfa_builder) a 0) b a.States)).1).States), v_89, v_90, v_91]) hO 8 rfl Try.sizeOf25 rfl rfl rfl rfl (by simp only [List.forall_mem_cons]; exact ⟨rfl, (Sl.one (hO.osl 0 rfl)), (Sl.one (hO.osl 1 rfl)), (Sl.one (hO.osl 2 rfl)), by simp⟩)) ?_))
  rintro _ H_95 hO
  refine hl_v (v_assign rfl) rfl (hl_nil (thenQ_n (hw_ret (ret_i _ (ra_c rfl (fun w hw => run_loadVar_at (cs := [.int .i64 (((nbEnd (nbPut (nbPut (⟨(⟨(a.States + b.States), [a.Starts, (b.Starts.map (· + a.States))].flatten, [a.Ends, (b.Ends.map (· + a.States))].flatten, []⟩ : GNfa), false⟩ : Gnfa_builder) a 0) b a.States)).1).States), v_89, v_90, v_91]) Try.isAgg25 Try.sizeOf25 (Blk.at0 (hO.box 8 rfl)) rfl w hw) (ra_t rfl ra_nil)) ?_))))
  exact ⟨_, ((nbEnd (nbPut (nbPut (⟨(⟨(a.States + b.States), [a.Starts, (b.Starts.map (· + a.States))].flatten, [a.Ends, (b.Ends.map (· + a.States))].flatten, []⟩ : GNfa), false⟩ : Gnfa_builder) a 0) b a.States)).1), (nbEnd (nbPut (nbPut (⟨(⟨(a.States + b.States), [a.Starts, (b.Starts.map (· + a.States))].flatten, [a.Ends, (b.Ends.map (· + a.States))].flatten, []⟩ : GNfa), false⟩ : Gnfa_builder) a 0) b a.States)).2, v_89, v_90, v_91, (hO.inz 17 rfl), h, rfl, (Own.sel (Ls := [own fInt 3 v_89 (((nbEnd (nbPut (nbPut (⟨(⟨(a.States + b.States), [a.Starts, (b.Starts.map (· + a.States))].flatten, [a.Ends, (b.Ends.map (· + a.States))].flatten, []⟩ : GNfa), false⟩ : Gnfa_builder) a 0) b a.States)).1).Starts), own fInt 3 v_90 (((nbEnd (nbPut (nbPut (⟨(⟨(a.States + b.States), [a.Starts, (b.Starts.map (· + a.States))].flatten, [a.Ends, (b.Ends.map (· + a.States))].flatten, []⟩ : GNfa), false⟩ : Gnfa_builder) a 0) b a.States)).1).Ends), own fGEdge 69 v_91 (((nbEnd (nbPut (nbPut (⟨(⟨(a.States + b.States), [a.Starts, (b.Starts.map (· + a.States))].flatten, [a.Ends, (b.Ends.map (· + a.States))].flatten, []⟩ : GNfa), false⟩ : Gnfa_builder) a 0) b a.States)).1).Edges), fz (Rep.sl fInt.rep) v_59 [a.Ends, (b.Ends.map (· + a.States))], fz fInt.rep v_54 (b.Ends.map (· + a.States)), fz (Rep.sl fInt.rep) v_43 [a.Starts, (b.Starts.map (· + a.States))], fz fInt.rep v_38 (b.Starts.map (· + a.States)), fz rGNfa v_23 [a, b], box b_21 [.int .i64 (((nbEnd (nbPut (nbPut (⟨(⟨(a.States + b.States), [a.Starts, (b.Starts.map (· + a.States))].flatten, [a.Ends, (b.Ends.map (· + a.States))].flatten, []⟩ : GNfa), false⟩ : Gnfa_builder) a 0) b a.States)).1).States), v_89, v_90, v_91] 25, box b_19 [.int .i64 b.States, v_7, v_9, v_11] 25, box b_17 [.int .i64 a.States, v_1, v_3, v_5] 25, fz fGEdge.rep v_11 b.Edges, fz fInt.rep v_9 b.Ends, fz fInt.rep v_7 b.Starts, fz fGEdge.rep v_5 a.Edges, fz fInt.rep v_3 a.Ends, fz fInt.rep v_1 a.Starts, inZ Z]) (L := L) [0, 1, 2] rfl hO)⟩
theorem nfaAlt_spec {a0 : GNfa} {a1 : GNfa} {v_1 : Value} {v_3 : Value} {v_5 : Value} {v_7 : Value} {v_9 : Value} {v_11 : Value} {L : List As} {H : Heap} {Z : Nat → Prop} (hO : Own H Z (L)) (hf_2 : Fz fInt.rep L v_1 a0.Starts) (hf_4 : Fz fInt.rep L v_3 a0.Ends) (hf_6 : Fz fGEdge.rep L v_5 a0.Edges) (hf_8 : Fz fInt.rep L v_7 a1.Starts) (hf_10 : Fz fInt.rep L v_9 a1.Ends) (hf_12 : Fz fGEdge.rep L v_11 a1.Edges) : HC Try.prog 18 [.agg [.int .i64 a0.States, v_1, v_3, v_5].toArray, .agg [.int .i64 a1.States, v_7, v_9, v_11].toArray] H (fun v H' => ∃ (Z' : Nat → Prop) (v_13 : Value) (v_14 : Value) (v_15 : Value), (∀ a1, Z a1 → Z' a1) ∧ v = .tuple #[.agg [.int .i64 ((nAlt a0 a1).1).States, v_13, v_14, v_15].toArray, .int .i64 ((nAlt a0 a1).2)] ∧ Own H' Z' (own fInt 3 v_13 ((nAlt a0 a1).1).Starts :: own fInt 3 v_14 ((nAlt a0 a1).1).Ends :: own fGEdge 69 v_15 ((nAlt a0 a1).1).Edges :: L)) := by
  refine (nfaAlt_ok (a := a0) (b := a1) (@nfaAlt_wp a0 a1) hO hf_2 hf_4 hf_6 hf_8 hf_10 hf_12).mono ?_
  rintro v H' ⟨Z', r0, r1, v_13, v_14, v_15, hz, hq, hv, hO'⟩
  obtain ⟨rfl, rfl⟩ := hq
  exact ⟨Z', v_13, v_14, v_15, hz, hv, hO'⟩

end Go.Proofs.Ytbaciogbhjcdoaa
