/- Walks: functions do as their plain formulas say. No condition. -/
import Derived.Test.YtbaciogbhjcdoaaProg
import Derived.Test.YtbaciogbhjcdoaaTer
import Derived.Test.YtbaciogbhjcdoaaP10r
import Derived.Test.YtbaciogbhjcdoaaG10
set_option linter.unusedVariables false
set_option linter.unusedSimpArgs false
set_option maxRecDepth 20000
namespace Go.Proofs.Ytbaciogbhjcdoaa
open Go.Proofs
theorem rHasI_spec {a0 : BSet} {a1 : Int} {L : List As} (hp : 0 ≤ a1 ∧ a1 < 256) {H : Heap} {Z : Nat → Prop} (hO : Own H Z L) : HC Try.prog 40 [sv a0, .int .i64 a1] H (fun v H' => ∃ (Z' : Nat → Prop), (∀ b, Z b → Z' b) ∧ v = .bool (a0.has a1.toNat) ∧ Own H' Z' L) := by
  obtain ⟨k, rfl⟩ := Int.eq_ofNat_of_zero_le hp.1
  exact (rHas_spec (by omega)).mono fun v H' ⟨h1, h2⟩ => ⟨Z, fun _ h => h, h1, hO.ext h2⟩
theorem rOfI_spec {a0 : List UInt8} {v : Value} {L : List As} {H : Heap} {Z : Nat → Prop} (hO : Own H Z L) (hr : Rd fByte.rep L v a0) : HC Try.prog 82 [v] H (fun v H' => ∃ (Z' : Nat → Prop), (∀ b, Z b → Z' b) ∧ v = sv (BSet.ofL a0) ∧ Own H' Z' L) :=
  (rOf_spec ((hr.sl hO).inb (by decide)) fun _ h => h).mono fun v H' ⟨h1, h2⟩ => ⟨Z, fun _ h => h, h1, hO.ext h2⟩
theorem rStates_ok {l : List Int} {n : Int} {v_1 : Value} {Q : Bool → Prop} {H : Heap} {Z : Nat → Prop} {L : List As} (h : wp_rStates l n Q) (hO : Own H Z (L)) (hr_2 : Rd fInt.rep L v_1 l) : HC Try.prog 77 [v_1, .int .i64 n] H (fun v H' => ∃ (r0 : Bool) , Q r0 ∧ v = .bool r0 ∧ H' = H) := by
 unfold wp_rStates at h
 refine hc_of_hw (N := 41) (rs := [(.tmp 4)]) Try.func77 rfl rfl rfl rfl (hw_seq (hw_region (hl_v (v_assign rfl) rfl (hl_nil (thenQ_n (hw_seq (hw_seq (hw_region (hl_v (v_assign rfl) rfl (hl_nil (thenQ_n (hw_block ?_))))))))))))
 obtain ⟨I_3, h, hI_5⟩ := h
 refine hw_lp (fun n' g' H' => ∃ (i : Nat) (Z' : Nat → Prop), n' = l.length - i ∧ g' = [(0, v_1), (1, .int .i64 n), (5, .int .i64 (i : Int))] ∧ I_3 i ∧ i ≤ l.length ∧ Own H' Z' (L) ∧ H = H') _ _ (a_c 0 rfl (a_c 1 rfl (a_c 5 rfl a_n))) ⟨0, _, rfl, rfl, h, by omega, hO, rfl⟩ ?_
 rintro _ _ H_6 ⟨i, Z_7, rfl, rfl, h, hb_8, hO, rfl⟩
 replace h := hI_5 i h hb_8
 refine hw_seq (hw_seq (hw_region (hl_v (v_move rfl) rfl (hl_v (v_move rfl) rfl ?_))))
 have hln_9 := Sl.cap (Rd.sl hr_2 hO)
 refine hl_v (v_lenL rfl Try.underlying22 rfl (Rd.sl hr_2 hO)) rfl (hl_v (v_lss rfl rfl) rfl (hl_nil (thenQ_n (hw_cond rfl (fun hc_10 => ?_) (fun hc_10 => ?_)))))
 ·replace h := ite_t h hc_10
  refine hw_skip (thenQ_n (hw_seq (hw_block (hw_seq (hw_quiet Try.mixed (by kernel_rfl) (hq_v (v_move rfl) rfl (hq_v (v_move rfl) rfl (hq_v (v_ixL Try.underlying22 Try.sizeOf3 rfl rfl (Rd.sl hr_2 hO) (by exact ⟨Int.natCast_nonneg _, of_decide_eq_true hc_10⟩)) rfl (hq_v (v_loadSc Try.isAgg3 rfl (Rd.sl hr_2 hO) rfl (by exact ⟨Int.natCast_nonneg _, of_decide_eq_true hc_10⟩) rfl) rfl (hq_v (v_lss rfl rfl) rfl (hq_v (v_move rfl) rfl (hq_g rfl rfl (fun hg => (v_move rfl)) rfl (hq_g rfl rfl (fun hg => (v_move rfl)) rfl (hq_g rfl rfl (fun hg => (v_ixL Try.underlying22 Try.sizeOf3 (gv_ok rfl hg) (gv_ok rfl hg) (Rd.sl hr_2 hO) (by exact ⟨Int.natCast_nonneg _, of_decide_eq_true hc_10⟩))) rfl (hq_g rfl rfl (fun hg => (v_loadSc Try.isAgg3 (gv_ok rfl hg) (Rd.sl hr_2 hO) rfl (by exact ⟨Int.natCast_nonneg _, of_decide_eq_true hc_10⟩) rfl)) rfl (hq_g rfl rfl (fun hg => (v_move rfl)) rfl (hq_g rfl rfl (fun hg => (v_geq (gv_ok rfl hg) (gv_ok rfl hg))) rfl (hq_v (v_or rfl rfl) rfl (hq_v (v_move rfl) rfl (hq_g rfl rfl (fun hg => (v_move rfl)) rfl (hq_g rfl rfl (fun hg => (v_gtr (gv_ok rfl hg) rfl)) rfl (hq_g rfl rfl (fun hg => (v_move (gv_ok rfl hg))) rfl (hq_g rfl rfl (fun hg => (v_move rfl)) rfl (hq_g rfl rfl (fun hg => (v_move rfl)) rfl ?_))))))))))))))))))))))))
  obtain ⟨hs_11, h⟩ := h
  refine hq_g rfl rfl (fun hg => (v_sub (gv_ok rfl hg) rfl (hs_11 ⟨(gb_bool (gb_gv hg).2), (gb_bool (gb_gv hg).1)⟩))) rfl ?_
  obtain ⟨hs_12, h⟩ := h
  refine hq_g rfl rfl (fun hg => (v_ixL Try.underlying22 Try.sizeOf3 (gv_ok rfl hg) (gv_ok rfl hg) (Rd.sl hr_2 hO) (hs_12 ⟨(gb_bool (gb_gv hg).2), (gb_bool (gb_gv hg).1)⟩))) rfl ?_
  obtain ⟨hs_13, h⟩ := h
  refine hq_g rfl rfl (fun hg => (v_loadSc Try.isAgg3 (gv_ok rfl hg) (Rd.sl hr_2 hO) rfl (hs_13 ⟨(gb_bool (gb_gv hg).2), (gb_bool (gb_gv hg).1)⟩) rfl)) rfl (hq_g rfl rfl (fun hg => (v_move rfl)) rfl (hq_g rfl rfl (fun hg => (v_move rfl)) rfl (hq_g rfl rfl (fun hg => (v_ixL Try.underlying22 Try.sizeOf3 (gv_ok rfl hg) (gv_ok rfl hg) (Rd.sl hr_2 hO) (by exact ⟨Int.natCast_nonneg _, of_decide_eq_true hc_10⟩))) rfl (hq_g rfl rfl (fun hg => (v_loadSc Try.isAgg3 (gv_ok rfl hg) (Rd.sl hr_2 hO) rfl (by exact ⟨Int.natCast_nonneg _, of_decide_eq_true hc_10⟩) rfl)) rfl (hq_g rfl rfl (fun hg => (v_geq (gv_ok rfl hg) (gv_ok rfl hg))) rfl (hq_g rfl rfl (fun hg => (v_and (gv_ok rfl hg) (gvgb_ok rfl hg))) rfl (hq_v (v_or rfl rfl) rfl (hq_nil (thenQ_n (hw_sub _ (a_c 0 rfl (a_c 1 rfl (a_c 5 rfl (a_c 40 rfl a_n)))) (hw_cond rfl (fun hc_14 => ?_) (fun hc_14 => ?_))))))))))))
  ·replace h := ite_t h hc_14
   refine hw_seq (hw_region (hl_v (v_assign rfl) rfl (hl_nil (thenQ_n (hw_ret (blockQ_r (thenQ_r (thenQ_r (blockQ_r (thenQ_r (ret_i _ (ra_t rfl ra_nil) ?_)))))))))))
   exact ⟨false, h, rfl, rfl⟩
  ·replace h := ite_f h hc_14
   refine hw_skip (blockQ_n (thenQ_n (hw_region (hl_v (v_move rfl) rfl (hl_v (v_add rfl rfl (by have hq := of_decide_eq_true hc_10; have hm := hln_9; constructor <;> omega)) rfl (hl_v (v_assign rfl) rfl (hl_nil (thenQ_n ?_))))))))
   exact ⟨_, _, (a_c 0 rfl (a_c 1 rfl (a_c 5 rfl a_n))), ⟨i + 1, _, rfl, rfl, h, (by have hq := of_decide_eq_true hc_10; omega), hO, rfl⟩, (by have hq := of_decide_eq_true hc_10; omega)⟩
 ·replace h := ite_f h hc_10
  refine hw_exit (thenQ_e (thenQ_e (blockQ_hit (thenQ_n (hw_seq (hw_region (hl_v (v_assign rfl) rfl (hl_nil (thenQ_n (hw_ret (ret_i _ (ra_t rfl ra_nil) ?_)))))))))))
  exact ⟨true, h, rfl, rfl⟩
theorem rStates_spec {a0 : List Int} {a1 : Int} {v_1 : Value} {L : List As} (hp : a0.length ≤ 17592186044416) {H : Heap} {Z : Nat → Prop} (hO : Own H Z (L)) (hr_2 : Rd fInt.rep L v_1 a0) : HC Try.prog 77 [v_1, .int .i64 a1] H (fun v H' => v = .bool (nStates a0 a1) ∧ H' = H) := by
  refine (rStates_ok (l := a0) (n := a1) (@rStates_wp a0 a1 hp) hO hr_2).mono ?_
  rintro v H' ⟨r0, hq, hv, hH⟩
  obtain rfl := hq
  exact ⟨hv, hH⟩

theorem rRight_ok {n : GNfa} {v_1 : Value} {v_3 : Value} {v_5 : Value} {Q : Bool → Prop} {H : Heap} {Z : Nat → Prop} {L : List As} (h : wp_rRight n Q) (hO : Own H Z (L)) (hf_2 : Fz fInt.rep L v_1 n.Starts) (hf_4 : Fz fInt.rep L v_3 n.Ends) (hf_6 : Fz fGEdge.rep L v_5 n.Edges) : HC Try.prog 39 [.agg [.int .i64 n.States, v_1, v_3, v_5].toArray] H (fun v H' => ∃ (Z' : Nat → Prop) (r0 : Bool) , (∀ b, Z b → Z' b) ∧ Q r0 ∧ v = .bool r0 ∧ Own H' Z' (L)) := by
 replace hO := hO.inZ
 replace hO := Fz.items [_] hf_2 hO
 replace hO := Fz.items [_, _] hf_4 hO
 replace hO := Fz.items [_, _, _] hf_6 hO
 unfold wp_rRight at h
 refine hc_of_hw (N := 75) (rs := [(.tmp 2)]) Try.func39 rfl rfl rfl rfl (hw_seq (hw_region (hl_h (o_box (cs := [.int .i64 n.States, v_1, v_3, v_5]) hO rfl rfl) rfl ?_)))
 rintro _ H_7 ⟨b_8, rfl, hO⟩
 refine hl_v (v_assign rfl) rfl (hl_nil (thenQ_n (hw_seq (hw_seq (hw_region (hl_v (v_fieldA Try.underlying25 rfl Try.sizeOf3 rfl) rfl (hl_v (v_load1 Try.isAgg3 rfl (Blk.cell (hO.box 0 rfl) rfl)) rfl (hl_v (v_lss rfl rfl) rfl (hl_v (v_move rfl) rfl (hl_g rfl rfl (fun hg => (v_fieldA Try.underlying25 rfl Try.sizeOf3 rfl)) rfl (hl_g rfl rfl (fun hg => (v_load1 Try.isAgg3 (gv_ok rfl hg) (Blk.cell (hO.box 0 rfl) rfl))) rfl (hl_g rfl rfl (fun hg => (v_gtr (gv_ok rfl hg) rfl)) rfl (hl_v (v_or rfl rfl) rfl (hl_v (v_move rfl) rfl (hl_g rfl rfl (fun hg => (v_fieldA Try.underlying25 rfl Try.sizeOf22 rfl)) rfl (hl_g rfl rfl (fun hg => (v_load1 Try.isAgg22 (gv_ok rfl hg) (Blk.cell (hO.box 0 rfl) rfl))) rfl (hl_g rfl rfl (fun hg => (v_fieldA Try.underlying25 rfl Try.sizeOf3 rfl)) rfl (hl_g rfl rfl (fun hg => (v_load1 Try.isAgg3 (gv_ok rfl hg) (Blk.cell (hO.box 0 rfl) rfl))) rfl ?_))))))))))))))))))
 obtain ⟨hs_9, h⟩ := h
 refine hl_g rfl rfl (fun hg => (v_call Try.call77 (evs_cons (gv_ok rfl hg) (evs_cons (gv_ok rfl hg) evs_nil)) (rStates_spec (a0 := n.Starts) (a1 := n.States) (hs_9 (gb_bool hg)) hO (Rd.of_fz (i := 3) rfl)))) rfl (hl_g rfl rfl (fun hg => (v_not (gv_ok rfl hg))) rfl (hl_v (v_or rfl rfl) rfl (hl_v (v_move rfl) rfl (hl_g rfl rfl (fun hg => (v_fieldA Try.underlying25 rfl Try.sizeOf22 rfl)) rfl (hl_g rfl rfl (fun hg => (v_load1 Try.isAgg22 (gv_ok rfl hg) (Blk.cell (hO.box 0 rfl) rfl))) rfl (hl_g rfl rfl (fun hg => (v_fieldA Try.underlying25 rfl Try.sizeOf3 rfl)) rfl (hl_g rfl rfl (fun hg => (v_load1 Try.isAgg3 (gv_ok rfl hg) (Blk.cell (hO.box 0 rfl) rfl))) rfl ?_)))))))
 obtain ⟨hs_10, h⟩ := h
 refine hl_g rfl rfl (fun hg => (v_call Try.call77 (evs_cons (gv_ok rfl hg) (evs_cons (gv_ok rfl hg) evs_nil)) (rStates_spec (a0 := n.Ends) (a1 := n.States) (hs_10 (gb_bool hg)) hO (Rd.of_fz (i := 2) rfl)))) rfl (hl_g rfl rfl (fun hg => (v_not (gv_ok rfl hg))) rfl (hl_v (v_or rfl rfl) rfl (hl_v (v_move rfl) rfl (hl_g rfl rfl (fun hg => (v_fieldA Try.underlying25 rfl Try.sizeOf23 rfl)) rfl (hl_g rfl rfl (fun hg => (v_load1 Try.isAgg23 (gv_ok rfl hg) (Blk.cell (hO.box 0 rfl) rfl))) rfl ?_)))))
 have hln_11 := Sl.cap (hO.fsl 1 rfl)
 refine hl_g rfl rfl (fun hg => (v_lenL rfl Try.underlying23 (gv_ok rfl hg) (hO.fsl 1 rfl))) rfl (hl_g rfl rfl (fun hg => (v_gtr (gv_ok rfl hg) rfl)) rfl (hl_v (v_or rfl rfl) rfl (hl_nil (thenQ_n (hw_sub _ (a_c 1 rfl (a_c 34 rfl a_n)) (hw_cond rfl (fun hc_12 => ?_) (fun hc_12 => ?_)))))))
 ·replace h := ite_t h hc_12
  refine hw_seq (hw_region (hl_v (v_assign rfl) rfl (hl_nil (thenQ_n (hw_ret (thenQ_r (ret_i _ (ra_t rfl ra_nil) ?_)))))))
  exact ⟨_, false, (hO.inz 4 rfl), h, rfl, (Own.sel (Ls := [box b_8 [.int .i64 n.States, v_1, v_3, v_5] 25, fz fGEdge.rep v_5 n.Edges, fz fInt.rep v_3 n.Ends, fz fInt.rep v_1 n.Starts, inZ Z]) (L := L) [] rfl hO)⟩
 ·replace h := ite_f h hc_12
  refine hw_skip (thenQ_n (hw_seq (hw_seq (hw_region (hl_v (v_assign rfl) rfl (hl_nil (thenQ_n (hw_block ?_))))))))
  obtain ⟨I_13, h, hI_15⟩ := h
  refine hw_lp (fun n' g' H' => ∃ (i : Nat) (Z' : Nat → Prop), n' = n.Edges.length - i ∧ g' = [(1, ptr b_8 0), (3, .int .i64 (i : Int))] ∧ I_13 i ∧ i ≤ n.Edges.length ∧ Own H' Z' (box b_8 [.int .i64 n.States, v_1, v_3, v_5] 25 :: fz fGEdge.rep v_5 n.Edges :: fz fInt.rep v_3 n.Ends :: fz fInt.rep v_1 n.Starts :: inZ Z :: L)) _ _ (a_c 1 rfl (a_c 3 rfl a_n)) ⟨0, _, rfl, rfl, h, by omega, hO⟩ ?_
  rintro _ _ H_16 ⟨i, Z_17, rfl, rfl, h, hb_18, hO⟩
  replace h := hI_15 i h hb_18
  refine hw_seq (hw_seq (hw_region (hl_v (v_move rfl) rfl (hl_v (v_fieldA Try.underlying25 rfl Try.sizeOf23 rfl) rfl (hl_v (v_load1 Try.isAgg23 rfl (Blk.cell (hO.box 0 rfl) rfl)) rfl (hl_v (v_lenL rfl Try.underlying23 rfl (hO.fsl 1 rfl)) rfl (hl_v (v_lss rfl rfl) rfl (hl_nil (thenQ_n (hw_cond rfl (fun hc_19 => ?_) (fun hc_19 => ?_)))))))))))
  ·replace h := ite_t h hc_19
   refine hw_skip (thenQ_n (hw_seq (hw_block (hw_seq (hw_region (hl_v (v_fieldA Try.underlying25 rfl Try.sizeOf23 rfl) rfl (hl_v (v_load1 Try.isAgg23 rfl (Blk.cell (hO.box 0 rfl) rfl)) rfl (hl_v (v_move rfl) rfl (hl_v (v_ixL Try.underlying23 Try.sizeOf69 rfl rfl (hO.fsl 1 rfl) (by exact ⟨Int.natCast_nonneg _, of_decide_eq_true hc_19⟩)) rfl (hl_v (v_loadFl Try.isAgg69 Try.sizeOf69 rfl (hO.fsl 1 rfl) rfl (by exact ⟨Int.natCast_nonneg _, of_decide_eq_true hc_19⟩)) rfl (hl_h (o_alloc (cs := (fGEdge.enc (⟨(0 : Int), (0 : Int), BSet.zero⟩ : GEdge))) hO Try.zeroValue69 rfl) rfl ?_)))))))))))
   rintro _ H_20 ⟨b_21, rfl, hO⟩
   refine hl_s (o_storeA (us := (fGEdge.enc (n.Edges.getD i default))) hO 0 rfl Try.sizeOf69 rfl rfl rfl rfl (by intro u hu; exact (fGEdge).one _ u hu)) ?_
   rintro _ H_22 hO
   refine hl_nil (thenQ_n (hw_seq (hw_region (hl_v (v_fieldA Try.underlying69 rfl Try.sizeOf3 rfl) rfl (hl_v (v_load1 Try.isAgg3 rfl (Blk.cell (hO.box 0 rfl) rfl)) rfl (hl_v (v_lss rfl rfl) rfl (hl_v (v_move rfl) rfl (hl_g rfl rfl (fun hg => (v_fieldA Try.underlying69 rfl Try.sizeOf3 rfl)) rfl (hl_g rfl rfl (fun hg => (v_load1 Try.isAgg3 (gv_ok rfl hg) (Blk.cell (hO.box 0 rfl) rfl))) rfl (hl_g rfl rfl (fun hg => (v_fieldA Try.underlying25 rfl Try.sizeOf3 rfl)) rfl (hl_g rfl rfl (fun hg => (v_load1 Try.isAgg3 (gv_ok rfl hg) (Blk.cell (hO.box 1 rfl) rfl))) rfl (hl_g rfl rfl (fun hg => (v_geq (gv_ok rfl hg) (gv_ok rfl hg))) rfl (hl_v (v_or rfl rfl) rfl (hl_v (v_move rfl) rfl (hl_g rfl rfl (fun hg => (v_fieldA Try.underlying69 rfl Try.sizeOf3 rfl)) rfl (hl_g rfl rfl (fun hg => (v_load1 Try.isAgg3 (gv_ok rfl hg) (Blk.cell (hO.box 0 rfl) rfl))) rfl (hl_g rfl rfl (fun hg => (v_lss (gv_ok rfl hg) rfl)) rfl (hl_v (v_or rfl rfl) rfl (hl_v (v_move rfl) rfl (hl_g rfl rfl (fun hg => (v_fieldA Try.underlying69 rfl Try.sizeOf3 rfl)) rfl (hl_g rfl rfl (fun hg => (v_load1 Try.isAgg3 (gv_ok rfl hg) (Blk.cell (hO.box 0 rfl) rfl))) rfl (hl_g rfl rfl (fun hg => (v_fieldA Try.underlying25 rfl Try.sizeOf3 rfl)) rfl (hl_g rfl rfl (fun hg => (v_load1 Try.isAgg3 (gv_ok rfl hg) (Blk.cell (hO.box 1 rfl) rfl))) rfl (hl_g rfl rfl (fun hg => (v_geq (gv_ok rfl hg) (gv_ok rfl hg))) rfl (hl_v (v_or rfl rfl) rfl (hl_v (v_move rfl) rfl (hl_g rfl rfl (fun hg => (v_fieldA Try.underlying69 rfl Try.sizeOf34 rfl)) rfl (hl_g rfl rfl (fun hg => (v_loadA (cs := (sw ((n.Edges.getD i default).Set))) Try.isAgg34 Try.sizeOf34 (gv_ok rfl hg) (Blk.sub (n := 4) (hO.box 0 rfl) rfl) rfl)) rfl ?_))))))))))))))))))))))))))))
   refine hl_g rfl rfl (fun hg => (v_buildS0 Try.underlying34 Try.zeroValue34 Try.sizeOf32)) rfl (hl_g rfl rfl (fun hg => (v_eqlSet Try.underlying34 Try.underlying32 Try.sizeOf32 (by kernel_rfl) (gv_ok rfl hg) (gv_ok rfl hg))) rfl (hl_v (v_or rfl rfl) rfl (hl_nil (thenQ_n (hw_sub _ (a_c 1 rfl (a_c 3 rfl (a_c 74 rfl a_n))) (hw_cond rfl (fun hc_23 => ?_) (fun hc_23 => ?_)))))))
   ·replace h := ite_t h hc_23
    refine hw_seq (hw_region (hl_v (v_assign rfl) rfl (hl_nil (thenQ_n (hw_ret (blockQ_r (thenQ_r (thenQ_r (blockQ_r (thenQ_r (ret_i _ (ra_t rfl ra_nil) ?_)))))))))))
    exact ⟨_, false, (hO.inz 5 rfl), h, rfl, (Own.sel (Ls := [box b_21 (fGEdge.enc (n.Edges.getD i default)) 69, box b_8 [.int .i64 n.States, v_1, v_3, v_5] 25, fz fGEdge.rep v_5 n.Edges, fz fInt.rep v_3 n.Ends, fz fInt.rep v_1 n.Starts, inZ Z]) (L := L) [] rfl hO)⟩
   ·replace h := ite_f h hc_23
    refine hw_skip (blockQ_n (thenQ_n (hw_region (hl_v (v_move rfl) rfl (hl_v (v_add rfl rfl (by have hq := of_decide_eq_true hc_19; have hm := hln_11; constructor <;> omega)) rfl (hl_v (v_assign rfl) rfl (hl_nil (thenQ_n ?_))))))))
    exact ⟨_, _, (a_c 1 rfl (a_c 3 rfl a_n)), ⟨i + 1, _, rfl, rfl, h, (by have hq := of_decide_eq_true hc_19; omega), (Own.sel (Ls := [box b_21 (fGEdge.enc (n.Edges.getD i default)) 69, box b_8 [.int .i64 n.States, v_1, v_3, v_5] 25, fz fGEdge.rep v_5 n.Edges, fz fInt.rep v_3 n.Ends, fz fInt.rep v_1 n.Starts, inZ Z]) (L := L) [1, 2, 3, 4, 5] rfl hO)⟩, (by have hq := of_decide_eq_true hc_19; omega)⟩
  ·replace h := ite_f h hc_19
   refine hw_exit (thenQ_e (thenQ_e (blockQ_hit (thenQ_n (hw_seq (hw_region (hl_v (v_assign rfl) rfl (hl_nil (thenQ_n (hw_ret (ret_i _ (ra_t rfl ra_nil) ?_)))))))))))
   exact ⟨_, true, (hO.inz 4 rfl), h, rfl, (Own.sel (Ls := [box b_8 [.int .i64 n.States, v_1, v_3, v_5] 25, fz fGEdge.rep v_5 n.Edges, fz fInt.rep v_3 n.Ends, fz fInt.rep v_1 n.Starts, inZ Z]) (L := L) [] rfl hO)⟩
theorem rRight_spec {a0 : GNfa} {v_1 : Value} {v_3 : Value} {v_5 : Value} {L : List As} (hp : a0.Starts.length ≤ 17592186044416 ∧ a0.Ends.length ≤ 17592186044416) {H : Heap} {Z : Nat → Prop} (hO : Own H Z (L)) (hf_2 : Fz fInt.rep L v_1 a0.Starts) (hf_4 : Fz fInt.rep L v_3 a0.Ends) (hf_6 : Fz fGEdge.rep L v_5 a0.Edges) : HC Try.prog 39 [.agg [.int .i64 a0.States, v_1, v_3, v_5].toArray] H (fun v H' => ∃ (Z' : Nat → Prop) , (∀ b, Z b → Z' b) ∧ v = .bool (nRight a0) ∧ Own H' Z' (L)) := by
  refine (rRight_ok (n := a0) (@rRight_wp a0 hp) hO hf_2 hf_4 hf_6).mono ?_
  rintro v H' ⟨Z', r0, hz, hq, hv, hO'⟩
  obtain rfl := hq
  exact ⟨Z', hz, hv, hO'⟩

theorem rIn_ok {s : Int} {l : List Int} {v_1 : Value} {Q : Bool → Prop} {H : Heap} {Z : Nat → Prop} {L : List As} (h : wp_rIn s l Q) (hO : Own H Z (L)) (hr_2 : Rd fInt.rep L v_1 l) : HC Try.prog 41 [.int .i64 s, v_1] H (fun v H' => ∃ (r0 : Bool) , Q r0 ∧ v = .bool r0 ∧ H' = H) := by
 unfold wp_rIn at h
 refine hc_of_hw (N := 18) (rs := [(.tmp 4)]) Try.func41 rfl rfl rfl rfl (hw_seq (hw_region (hl_v (v_assign rfl) rfl (hl_nil (thenQ_n (hw_seq (hw_seq (hw_region (hl_v (v_assign rfl) rfl (hl_nil (thenQ_n (hw_block ?_))))))))))))
 obtain ⟨I_3, h, hI_5⟩ := h
 refine hw_lp (fun n' g' H' => ∃ (i : Nat) (Z' : Nat → Prop), n' = l.length - i ∧ g' = [(0, .int .i64 s), (1, v_1), (5, .int .i64 (i : Int))] ∧ I_3 i ∧ i ≤ l.length ∧ Own H' Z' (L) ∧ H = H') _ _ (a_c 0 rfl (a_c 1 rfl (a_c 5 rfl a_n))) ⟨0, _, rfl, rfl, h, by omega, hO, rfl⟩ ?_
 rintro _ _ H_6 ⟨i, Z_7, rfl, rfl, h, hb_8, hO, rfl⟩
 replace h := hI_5 i h hb_8
 refine hw_seq (hw_seq (hw_region (hl_v (v_move rfl) rfl (hl_v (v_move rfl) rfl ?_))))
 have hln_9 := Sl.cap (Rd.sl hr_2 hO)
 refine hl_v (v_lenL rfl Try.underlying22 rfl (Rd.sl hr_2 hO)) rfl (hl_v (v_lss rfl rfl) rfl (hl_nil (thenQ_n (hw_cond rfl (fun hc_10 => ?_) (fun hc_10 => ?_)))))
 ·replace h := ite_t h hc_10
  refine hw_skip (thenQ_n (hw_seq (hw_block (hw_seq (hw_region (hl_v (v_move rfl) rfl (hl_v (v_move rfl) rfl (hl_v (v_ixL Try.underlying22 Try.sizeOf3 rfl rfl (Rd.sl hr_2 hO) (by exact ⟨Int.natCast_nonneg _, of_decide_eq_true hc_10⟩)) rfl (hl_v (v_loadSc Try.isAgg3 rfl (Rd.sl hr_2 hO) rfl (by exact ⟨Int.natCast_nonneg _, of_decide_eq_true hc_10⟩) rfl) rfl (hl_v (v_move rfl) rfl (hl_v (v_eql rfl rfl) rfl (hl_nil (thenQ_n (hw_cond rfl (fun hc_11 => ?_) (fun hc_11 => ?_)))))))))))))))
  ·replace h := ite_t h hc_11
   refine hw_seq (hw_region (hl_v (v_assign rfl) rfl (hl_nil (thenQ_n (hw_ret (blockQ_r (thenQ_r (thenQ_r (blockQ_r (thenQ_r (ret_i _ (ra_t rfl ra_nil) ?_)))))))))))
   exact ⟨true, h, rfl, rfl⟩
  ·replace h := ite_f h hc_11
   refine hw_skip (blockQ_n (thenQ_n (hw_region (hl_v (v_move rfl) rfl (hl_v (v_add rfl rfl (by have hq := of_decide_eq_true hc_10; have hm := hln_9; constructor <;> omega)) rfl (hl_v (v_assign rfl) rfl (hl_nil (thenQ_n ?_))))))))
   exact ⟨_, _, (a_c 0 rfl (a_c 1 rfl (a_c 5 rfl a_n))), ⟨i + 1, _, rfl, rfl, h, (by have hq := of_decide_eq_true hc_10; omega), hO, rfl⟩, (by have hq := of_decide_eq_true hc_10; omega)⟩
 ·replace h := ite_f h hc_10
  refine hw_exit (thenQ_e (thenQ_e (blockQ_hit (thenQ_n (hw_seq (hw_region (hl_v (v_assign rfl) rfl (hl_nil (thenQ_n (hw_ret (ret_i _ (ra_t rfl ra_nil) ?_)))))))))))
  exact ⟨false, h, rfl, rfl⟩
theorem rIn_spec {a0 : Int} {a1 : List Int} {v_1 : Value} {L : List As} {H : Heap} {Z : Nat → Prop} (hO : Own H Z (L)) (hr_2 : Rd fInt.rep L v_1 a1) : HC Try.prog 41 [.int .i64 a0, v_1] H (fun v H' => v = .bool (a1.contains a0) ∧ H' = H) := by
  refine (rIn_ok (s := a0) (l := a1) (@rIn_wp a0 a1) hO hr_2).mono ?_
  rintro v H' ⟨r0, hq, hv, hH⟩
  obtain rfl := hq
  exact ⟨hv, hH⟩

theorem rFew_ok {n : GNfa} {v_1 : Value} {v_3 : Value} {v_5 : Value} {Q : Bool → Prop} {H : Heap} {Z : Nat → Prop} {L : List As} (h : wp_rFew n Q) (hO : Own H Z (L)) (hf_2 : Fz fInt.rep L v_1 n.Starts) (hf_4 : Fz fInt.rep L v_3 n.Ends) (hf_6 : Fz fGEdge.rep L v_5 n.Edges) : HC Try.prog 9 [.agg [.int .i64 n.States, v_1, v_3, v_5].toArray] H (fun v H' => ∃ (Z' : Nat → Prop) (r0 : Bool) , (∀ b, Z b → Z' b) ∧ Q r0 ∧ v = .bool r0 ∧ Own H' Z' (L)) := by
 replace hO := hO.inZ
 replace hO := Fz.items [_] hf_2 hO
 replace hO := Fz.items [_, _] hf_4 hO
 replace hO := Fz.items [_, _, _] hf_6 hO
 unfold wp_rFew at h
 refine hc_of_hw (N := 27) (rs := [(.tmp 2)]) Try.func9 rfl rfl rfl rfl (hw_seq (hw_region (hl_h (o_box (cs := [.int .i64 n.States, v_1, v_3, v_5]) hO rfl rfl) rfl ?_)))
 rintro _ H_7 ⟨b_8, rfl, hO⟩
 refine hl_v (v_assign rfl) rfl (hl_nil (thenQ_n (hw_seq (hw_region (hl_v (v_fieldA Try.underlying25 rfl Try.sizeOf3 rfl) rfl (hl_v (v_load1 Try.isAgg3 rfl (Blk.cell (hO.box 0 rfl) rfl)) rfl (hl_v (v_leq rfl rfl) rfl (hl_v (v_move rfl) rfl (hl_g rfl rfl (fun hg => (v_fieldA Try.underlying25 rfl Try.sizeOf3 rfl)) rfl (hl_g rfl rfl (fun hg => (v_load1 Try.isAgg3 (gv_ok rfl hg) (Blk.cell (hO.box 0 rfl) rfl))) rfl (hl_g rfl rfl (fun hg => (v_gtr (gv_ok rfl hg) rfl)) rfl (hl_v (v_or rfl rfl) rfl (hl_v (v_move rfl) rfl (hl_g rfl rfl (fun hg => (v_fieldA Try.underlying25 rfl Try.sizeOf23 rfl)) rfl (hl_g rfl rfl (fun hg => (v_load1 Try.isAgg23 (gv_ok rfl hg) (Blk.cell (hO.box 0 rfl) rfl))) rfl ?_)))))))))))))))
 have hln_9 := Sl.cap (hO.fsl 1 rfl)
 refine hl_g rfl rfl (fun hg => (v_lenL rfl Try.underlying23 (gv_ok rfl hg) (hO.fsl 1 rfl))) rfl (hl_g rfl rfl (fun hg => (v_leq (gv_ok rfl hg) rfl)) rfl (hl_v (v_and rfl rfl) rfl (hl_v (v_move rfl) rfl (hl_g rfl rfl (fun hg => (v_fieldA Try.underlying25 rfl Try.sizeOf22 rfl)) rfl (hl_g rfl rfl (fun hg => (v_load1 Try.isAgg22 (gv_ok rfl hg) (Blk.cell (hO.box 0 rfl) rfl))) rfl ?_)))))
 have hln_10 := Sl.cap (hO.fsl 3 rfl)
 refine hl_g rfl rfl (fun hg => (v_lenL rfl Try.underlying22 (gv_ok rfl hg) (hO.fsl 3 rfl))) rfl (hl_g rfl rfl (fun hg => (v_fieldA Try.underlying25 rfl Try.sizeOf22 rfl)) rfl (hl_g rfl rfl (fun hg => (v_load1 Try.isAgg22 (gv_ok rfl hg) (Blk.cell (hO.box 0 rfl) rfl))) rfl ?_))
 have hln_11 := Sl.cap (hO.fsl 2 rfl)
 refine hl_g rfl rfl (fun hg => (v_lenL rfl Try.underlying22 (gv_ok rfl hg) (hO.fsl 2 rfl))) rfl ?_
 obtain ⟨hs_12, h⟩ := h
 refine hl_g rfl rfl (fun hg => (v_add (gv_ok rfl hg) (gv_ok rfl hg) (hs_12 (gb_bool hg)))) rfl (hl_g rfl rfl (fun hg => (v_leq (gv_ok rfl hg) rfl)) rfl (hl_v (v_and rfl rfl) rfl (hl_v (v_assign rfl) rfl (hl_nil (thenQ_n (hw_sub _ (a_c 2 rfl a_n) (hw_ret (ret_i _ (ra_t rfl ra_nil) ?_))))))))
 exact ⟨_, (((decide (n.States ≤ 40) || decide (4096 < n.States)) && decide ((n.Edges.length : Int) ≤ 120)) && decide (((n.Starts.length : Int) + (n.Ends.length : Int)) ≤ 100)), (hO.inz 4 rfl), h, rfl, (Own.sel (Ls := [box b_8 [.int .i64 n.States, v_1, v_3, v_5] 25, fz fGEdge.rep v_5 n.Edges, fz fInt.rep v_3 n.Ends, fz fInt.rep v_1 n.Starts, inZ Z]) (L := L) [] rfl hO)⟩
theorem rFew_spec {a0 : GNfa} {v_1 : Value} {v_3 : Value} {v_5 : Value} {L : List As} (hp : a0.Starts.length ≤ 17592186044416 ∧ a0.Ends.length ≤ 17592186044416) {H : Heap} {Z : Nat → Prop} (hO : Own H Z (L)) (hf_2 : Fz fInt.rep L v_1 a0.Starts) (hf_4 : Fz fInt.rep L v_3 a0.Ends) (hf_6 : Fz fGEdge.rep L v_5 a0.Edges) : HC Try.prog 9 [.agg [.int .i64 a0.States, v_1, v_3, v_5].toArray] H (fun v H' => ∃ (Z' : Nat → Prop) , (∀ b, Z b → Z' b) ∧ v = .bool (nFew a0) ∧ Own H' Z' (L)) := by
  refine (rFew_ok (n := a0) (@rFew_wp a0 hp) hO hf_2 hf_4 hf_6).mono ?_
  rintro v H' ⟨Z', r0, hz, hq, hv, hO'⟩
  obtain rfl := hq
  exact ⟨Z', hz, hv, hO'⟩

end Go.Proofs.Ytbaciogbhjcdoaa
