/- Walks: functions do as their plain formulas say. No condition. -/
import Derived.Test.YtbaciogbhjcdoaaProg
import Derived.Test.YtbaciogbhjcdoaaSep4
import Derived.Test.YtbaciogbhjcdoaaP10j
import Derived.Test.YtbaciogbhjcdoaaSep6
import Derived.Test.YtbaciogbhjcdoaaG10r
set_option linter.unusedVariables false
set_option linter.unusedSimpArgs false
set_option maxRecDepth 20000
namespace Go.Proofs.Ytbaciogbhjcdoaa
open Go.Proofs
theorem eqv_69_10j (a b : GEdge) (w : World) : (Op.equalIn 10000 69 (.agg (fGEdge.enc a).toArray) (.agg (fGEdge.enc b).toArray)).run Try.prog w = .ok (decide (a = b)) w := by
  have hF := (show ∀ fs, Try.prog.underlying 69 = some (.struct fs) → Try.prog.fieldsOf 69 = fs from fun fs h => by unfold Program.fieldsOf; rw [h]) _ Try.underlying69
  have e : decide (a = b) = (decide (a.From = b.From) && (decide (a.To = b.To) && (decide (a.Set = b.Set) && true))) := by
    obtain ⟨a0, a1, a2⟩ := a; obtain ⟨b0, b1, b2⟩ := b
    rw [Bool.eq_iff_iff]; simp [GEdge.mk.injEq]
  rw [e, show (10000 : Nat) = 9999 + 1 from rfl, run_equalIn_struct w 9999 69 _ _ (by rw [hF]; exact Try.underlying69) (by kernel_rfl), hF]
  exact (eqF_cons (by decide) (part1 Try.isAgg3 rfl) (part1 Try.isAgg3 rfl) (eqI Try.underlying3) (eqF_cons (by decide) (part1 Try.isAgg3 rfl) (part1 Try.isAgg3 rfl) (eqI Try.underlying3) (eqF_cons (by decide) (partA Try.isAgg34 Try.sizeOf34 rfl) (partA Try.isAgg34 Try.sizeOf34 rfl) (eqSet (d := 9997) Try.underlying34 Try.underlying32 Try.sizeOf32) eqF_nil))) w
theorem rInts_ok {a : List Int} {b : List Int} {v_1 : Value} {v_3 : Value} {Q : Bool → Prop} {H : Heap} {Z : Nat → Prop} {L : List As} (h : wp_rInts a b Q) (hO : Own H Z (L)) (hr_2 : Rd fInt.rep L v_1 a) (hr_4 : Rd fInt.rep L v_3 b) : HC Try.prog 55 [v_1, v_3] H (fun v H' => ∃ (r0 : Bool) , Q r0 ∧ v = .bool r0 ∧ H' = H) := by
  have hZ : ∀ b, Z b → Z b := fun _ h => h
  unfold wp_rInts at h
  refine hc_of_hw (N := 26) (rs := [(.tmp 4)]) Try.func55 rfl rfl rfl rfl ?_
  refine hw_seq ?_
  refine hw_region ?_
  refine hl_v (v_assign rfl) rfl ?_
  refine hl_nil ?_
  refine thenQ_n ?_
  refine hw_sub _ (ai_cons (t := 0) rfl (ai_cons (t := 1) rfl ai_nil)) ?_
  refine hw_seq ?_
  refine hw_seq ?_
  refine hw_region ?_
  refine hl_v (v_move rfl) rfl ?_
  have hln_5 := Sl.cap (Rd.sl hr_2 hO)
  refine hl_v (v_lenL rfl Try.underlying22 rfl (Rd.sl hr_2 hO)) rfl ?_
  refine hl_v (v_move rfl) rfl ?_
  have hln_6 := Sl.cap (Rd.sl hr_4 hO)
  refine hl_v (v_lenL rfl Try.underlying22 rfl (Rd.sl hr_4 hO)) rfl ?_
  refine hl_v (v_neq rfl rfl) rfl ?_
  refine hl_nil ?_
  refine thenQ_n ?_
  refine hw_sub _ (ai_cons (t := 0) rfl (ai_cons (t := 1) rfl (ai_cons (t := 10) rfl ai_nil))) ?_
  refine hw_cond rfl (fun hc_7 => ?_) (fun hc_7 => ?_)
  · replace h := ite_t h hc_7
    refine hw_seq ?_
    refine hw_region ?_
    refine hl_v (v_assign rfl) rfl ?_
    refine hl_nil ?_
    refine thenQ_n ?_
    refine hw_sub _ (ai_cons (t := 4) rfl ai_nil) ?_
    refine hw_ret ?_
    refine thenQ_r ?_
    refine ret_i _ (ra_t rfl ra_nil) ?_
    exact ⟨false, h, rfl, rfl⟩
  · replace h := ite_f h hc_7
    refine hw_skip ?_
    refine thenQ_n ?_
    refine hw_seq ?_
    refine hw_seq ?_
    refine hw_region ?_
    refine hl_v (v_assign rfl) rfl ?_
    refine hl_nil ?_
    refine thenQ_n ?_
    refine hw_sub _ (ai_cons (t := 0) rfl (ai_cons (t := 1) rfl (ai_cons (t := 5) rfl ai_nil))) ?_
    refine hw_block ?_
    obtain ⟨I_8, h, hI_10⟩ := h
    refine hw_lp (fun n' g' H' => ∃ (i : Nat) (Z' : Nat → Prop), n' = a.length - i ∧ g' = [(0, v_1), (1, v_3), (5, .int .i64 (i : Int))] ∧ (∀ b, Z b → Z' b) ∧ I_8 i ∧ i ≤ a.length ∧ Own H' Z' (L) ∧ H = H') _ _ (ai_cons (t := 0) rfl (ai_cons (t := 1) rfl (ai_cons (t := 5) rfl ai_nil))) ⟨0, _, rfl, rfl, hZ, h, by omega, hO, rfl⟩ ?_
    rintro _ _ H_11 ⟨i, Z_12, rfl, rfl, hZ, h, hb_13, hO, rfl⟩
    replace h := hI_10 i h hb_13
    refine hw_seq ?_
    refine hw_seq ?_
    refine hw_region ?_
    refine hl_v (v_move rfl) rfl ?_
    refine hl_v (v_move rfl) rfl ?_
    refine hl_v (v_lenL rfl Try.underlying22 rfl (Rd.sl hr_2 hO)) rfl ?_
    refine hl_v (v_lss rfl rfl) rfl ?_
    refine hl_nil ?_
    refine thenQ_n ?_
    refine hw_sub _ (ai_cons (t := 0) rfl (ai_cons (t := 1) rfl (ai_cons (t := 5) rfl (ai_cons (t := 14) rfl ai_nil)))) ?_
    refine hw_cond rfl (fun hc_14 => ?_) (fun hc_14 => ?_)
    · replace h := ite_t h hc_14
      refine hw_skip ?_
      refine thenQ_n ?_
      refine hw_seq ?_
      refine hw_block ?_
      refine hw_seq ?_
      refine hw_quiet Try.mixed (by kernel_rfl) ?_
      refine hq_v (v_move rfl) rfl ?_
      refine hq_v (v_move rfl) rfl ?_
      refine hq_v (v_ixL Try.underlying22 Try.sizeOf3 rfl rfl (Rd.sl hr_2 hO) (by exact ⟨Int.natCast_nonneg _, of_decide_eq_true hc_14⟩)) rfl ?_
      refine hq_v (v_loadSc Try.isAgg3 rfl (Rd.sl hr_2 hO) rfl (by exact ⟨Int.natCast_nonneg _, of_decide_eq_true hc_14⟩) rfl) rfl ?_
      refine hq_v (v_move rfl) rfl ?_
      refine hq_v (v_move rfl) rfl ?_
      obtain ⟨hs_15, h⟩ := h
      refine hq_v (v_ixL Try.underlying22 Try.sizeOf3 rfl rfl (Rd.sl hr_4 hO) hs_15) rfl ?_
      refine hq_v (v_loadSc Try.isAgg3 rfl (Rd.sl hr_4 hO) rfl hs_15 rfl) rfl ?_
      refine hq_v (v_neq rfl rfl) rfl ?_
      refine hq_nil ?_
      refine thenQ_n ?_
      refine hw_sub _ (ai_cons (t := 0) rfl (ai_cons (t := 1) rfl (ai_cons (t := 5) rfl (ai_cons (t := 25) rfl ai_nil)))) ?_
      refine hw_cond rfl (fun hc_16 => ?_) (fun hc_16 => ?_)
      · replace h := ite_t h hc_16
        refine hw_seq ?_
        refine hw_region ?_
        refine hl_v (v_assign rfl) rfl ?_
        refine hl_nil ?_
        refine thenQ_n ?_
        refine hw_sub _ (ai_cons (t := 4) rfl ai_nil) ?_
        refine hw_ret ?_
        refine blockQ_r ?_
        refine thenQ_r ?_
        refine thenQ_r ?_
        refine blockQ_r ?_
        refine thenQ_r ?_
        refine ret_i _ (ra_t rfl ra_nil) ?_
        exact ⟨false, h, rfl, rfl⟩
      · replace h := ite_f h hc_16
        refine hw_skip ?_
        refine blockQ_n ?_
        refine thenQ_n ?_
        refine hw_region ?_
        refine hl_v (v_move rfl) rfl ?_
        refine hl_v (v_add rfl rfl (by have hq := of_decide_eq_true hc_14; have hm := hln_5; constructor <;> omega)) rfl ?_
        refine hl_v (v_assign rfl) rfl ?_
        refine hl_nil ?_
        refine thenQ_n ?_
        exact ⟨_, _, (ai_cons (t := 0) rfl (ai_cons (t := 1) rfl (ai_cons (t := 5) rfl ai_nil))), ⟨i + 1, _, rfl, rfl, hZ, h, (by have hq := of_decide_eq_true hc_14; omega), hO, rfl⟩, (by have hq := of_decide_eq_true hc_14; omega)⟩
    · replace h := ite_f h hc_14
      refine hw_exit ?_
      refine thenQ_e ?_
      refine thenQ_e ?_
      refine blockQ_hit ?_
      refine thenQ_n ?_
      refine hw_seq ?_
      refine hw_region ?_
      refine hl_v (v_assign rfl) rfl ?_
      refine hl_nil ?_
      refine thenQ_n ?_
      refine hw_sub _ (ai_cons (t := 4) rfl ai_nil) ?_
      refine hw_ret ?_
      refine ret_i _ (ra_t rfl ra_nil) ?_
      exact ⟨true, h, rfl, rfl⟩
theorem rInts_spec {a0 : List Int} {a1 : List Int} {v_1 : Value} {v_3 : Value} {L : List As} {H : Heap} {Z : Nat → Prop} (hO : Own H Z (L)) (hr_2 : Rd fInt.rep L v_1 a0) (hr_4 : Rd fInt.rep L v_3 a1) : HC Try.prog 55 [v_1, v_3] H (fun v H' => v = .bool (decide (a0 = a1)) ∧ H' = H) := by
  refine (rInts_ok (a := a0) (b := a1) (@rInts_wp a0 a1) hO hr_2 hr_4).mono ?_
  rintro v H' ⟨r0, hq, hv, hH⟩
  obtain rfl := hq
  exact ⟨hv, hH⟩

theorem rEmpty_ok {n : GNfa} {v_1 : Value} {v_3 : Value} {v_5 : Value} {Q : Bool → Prop} {H : Heap} {Z : Nat → Prop} {L : List As} (h : wp_rEmpty n Q) (hO : Own H Z (L)) (hf_2 : Fz fInt.rep L v_1 n.Starts) (hf_4 : Fz fInt.rep L v_3 n.Ends) (hf_6 : Fz fGEdge.rep L v_5 n.Edges) : HC Try.prog 52 [.agg [.int .i64 n.States, v_1, v_3, v_5].toArray] H (fun v H' => ∃ (Z' : Nat → Prop) (r0 : Bool) , (∀ b, Z b → Z' b) ∧ Q r0 ∧ v = .bool r0 ∧ Own H' Z' (L)) := by
  have hZ : ∀ b, Z b → Z b := fun _ h => h
  replace hO := Fz.item hf_2 hO
  replace hO := Fz.items [_] hf_4 hO
  replace hO := Fz.items [_, _] hf_6 hO
  unfold wp_rEmpty at h
  refine hc_of_hw (N := 19) (rs := [(.tmp 2)]) Try.func52 rfl rfl rfl rfl ?_
  refine hw_seq ?_
  refine hw_region ?_
  refine hl_h (o_box (cs := [.int .i64 n.States, v_1, v_3, v_5]) hO rfl rfl) rfl ?_
  rintro _ H_7 ⟨b_8, rfl, hO⟩
  replace hO : Own H_7 Z (box b_8 [.int .i64 n.States, v_1, v_3, v_5] 25 :: fz fGEdge.rep v_5 n.Edges :: fz fInt.rep v_3 n.Ends :: fz fInt.rep v_1 n.Starts :: L) := hO
  refine hl_v (v_assign rfl) rfl ?_
  refine hl_nil ?_
  refine thenQ_n ?_
  refine hw_sub _ (ai_cons (t := 1) rfl ai_nil) ?_
  refine hw_seq ?_
  refine hw_seq ?_
  refine hw_region ?_
  refine hl_v (v_assign rfl) rfl ?_
  refine hl_nil ?_
  refine thenQ_n ?_
  refine hw_sub _ (ai_cons (t := 1) rfl (ai_cons (t := 3) rfl ai_nil)) ?_
  refine hw_block ?_
  obtain ⟨I_9, h, hI_11⟩ := h
  refine hw_lp (fun n' g' H' => ∃ (i : Nat) (Z' : Nat → Prop), n' = n.Starts.length - i ∧ g' = [(1, ptr b_8 0), (3, .int .i64 (i : Int))] ∧ (∀ b, Z b → Z' b) ∧ I_9 i ∧ i ≤ n.Starts.length ∧ Own H' Z' (box b_8 [.int .i64 n.States, v_1, v_3, v_5] 25 :: fz fGEdge.rep v_5 n.Edges :: fz fInt.rep v_3 n.Ends :: fz fInt.rep v_1 n.Starts :: L)) _ _ (ai_cons (t := 1) rfl (ai_cons (t := 3) rfl ai_nil)) ⟨0, _, rfl, rfl, hZ, h, by omega, hO⟩ ?_
  rintro _ _ H_12 ⟨i, Z_13, rfl, rfl, hZ, h, hb_14, hO⟩
  replace h := hI_11 i h hb_14
  refine hw_seq ?_
  refine hw_seq ?_
  refine hw_region ?_
  refine hl_v (v_move rfl) rfl ?_
  refine hl_v (v_fieldA Try.underlying25 rfl Try.sizeOf22 rfl) rfl ?_
  refine hl_v (v_load1 Try.isAgg22 rfl (Blk.cell (hO.box 0 rfl) rfl)) rfl ?_
  have hln_15 := Sl.cap (hO.fsl 3 rfl)
  refine hl_v (v_lenL rfl Try.underlying22 rfl (hO.fsl 3 rfl)) rfl ?_
  refine hl_v (v_lss rfl rfl) rfl ?_
  refine hl_nil ?_
  refine thenQ_n ?_
  refine hw_sub _ (ai_cons (t := 1) rfl (ai_cons (t := 3) rfl (ai_cons (t := 8) rfl ai_nil))) ?_
  refine hw_cond rfl (fun hc_16 => ?_) (fun hc_16 => ?_)
  · replace h := ite_t h hc_16
    refine hw_skip ?_
    refine thenQ_n ?_
    refine hw_seq ?_
    refine hw_block ?_
    refine hw_seq ?_
    refine hw_quiet Try.mixed (by kernel_rfl) ?_
    refine hq_v (v_fieldA Try.underlying25 rfl Try.sizeOf22 rfl) rfl ?_
    refine hq_v (v_load1 Try.isAgg22 rfl (Blk.cell (hO.box 0 rfl) rfl)) rfl ?_
    refine hq_v (v_move rfl) rfl ?_
    refine hq_v (v_ixL Try.underlying22 Try.sizeOf3 rfl rfl (hO.fsl 3 rfl) (by exact ⟨Int.natCast_nonneg _, of_decide_eq_true hc_16⟩)) rfl ?_
    refine hq_v (v_loadSc Try.isAgg3 rfl (hO.fsl 3 rfl) rfl (by exact ⟨Int.natCast_nonneg _, of_decide_eq_true hc_16⟩) rfl) rfl ?_
    refine hq_v (v_fieldA Try.underlying25 rfl Try.sizeOf22 rfl) rfl ?_
    refine hq_v (v_load1 Try.isAgg22 rfl (Blk.cell (hO.box 0 rfl) rfl)) rfl ?_
    refine hq_v (v_call Try.call41 (evs_cons rfl (evs_cons rfl evs_nil)) (rIn_spec (a0 := (n.Starts.getD i default)) (a1 := n.Ends) hO (Rd.of_fz (i := 2) rfl))) rfl ?_
    refine hq_nil ?_
    refine thenQ_n ?_
    refine hw_sub _ (ai_cons (t := 1) rfl (ai_cons (t := 3) rfl (ai_cons (t := 18) rfl ai_nil))) ?_
    refine hw_cond rfl (fun hc_17 => ?_) (fun hc_17 => ?_)
    · replace h := ite_t h hc_17
      refine hw_seq ?_
      refine hw_region ?_
      refine hl_v (v_assign rfl) rfl ?_
      refine hl_nil ?_
      refine thenQ_n ?_
      refine hw_sub _ (ai_cons (t := 2) rfl ai_nil) ?_
      refine hw_ret ?_
      refine blockQ_r ?_
      refine thenQ_r ?_
      refine thenQ_r ?_
      refine blockQ_r ?_
      refine thenQ_r ?_
      refine ret_i _ (ra_t rfl ra_nil) ?_
      exact ⟨_, true, hZ, h, rfl, (Own.sel (Ls := [box b_8 [.int .i64 n.States, v_1, v_3, v_5] 25, fz fGEdge.rep v_5 n.Edges, fz fInt.rep v_3 n.Ends, fz fInt.rep v_1 n.Starts]) (L := L) [] rfl hO)⟩
    · replace h := ite_f h hc_17
      refine hw_skip ?_
      refine blockQ_n ?_
      refine thenQ_n ?_
      refine hw_region ?_
      refine hl_v (v_move rfl) rfl ?_
      refine hl_v (v_add rfl rfl (by have hq := of_decide_eq_true hc_16; have hm := hln_15; constructor <;> omega)) rfl ?_
      refine hl_v (v_assign rfl) rfl ?_
      refine hl_nil ?_
      refine thenQ_n ?_
      exact ⟨_, _, (ai_cons (t := 1) rfl (ai_cons (t := 3) rfl ai_nil)), ⟨i + 1, _, rfl, rfl, hZ, h, (by have hq := of_decide_eq_true hc_16; omega), hO⟩, (by have hq := of_decide_eq_true hc_16; omega)⟩
  · replace h := ite_f h hc_16
    refine hw_exit ?_
    refine thenQ_e ?_
    refine thenQ_e ?_
    refine blockQ_hit ?_
    refine thenQ_n ?_
    refine hw_seq ?_
    refine hw_region ?_
    refine hl_v (v_assign rfl) rfl ?_
    refine hl_nil ?_
    refine thenQ_n ?_
    refine hw_sub _ (ai_cons (t := 2) rfl ai_nil) ?_
    refine hw_ret ?_
    refine ret_i _ (ra_t rfl ra_nil) ?_
    exact ⟨_, false, hZ, h, rfl, (Own.sel (Ls := [box b_8 [.int .i64 n.States, v_1, v_3, v_5] 25, fz fGEdge.rep v_5 n.Edges, fz fInt.rep v_3 n.Ends, fz fInt.rep v_1 n.Starts]) (L := L) [] rfl hO)⟩
theorem rEmpty_spec {a0 : GNfa} {v_1 : Value} {v_3 : Value} {v_5 : Value} {L : List As} {H : Heap} {Z : Nat → Prop} (hO : Own H Z (L)) (hf_2 : Fz fInt.rep L v_1 a0.Starts) (hf_4 : Fz fInt.rep L v_3 a0.Ends) (hf_6 : Fz fGEdge.rep L v_5 a0.Edges) : HC Try.prog 52 [.agg [.int .i64 a0.States, v_1, v_3, v_5].toArray] H (fun v H' => ∃ (Z' : Nat → Prop) , (∀ b, Z b → Z' b) ∧ v = .bool (nEmpty a0) ∧ Own H' Z' (L)) := by
  refine (rEmpty_ok (n := a0) (@rEmpty_wp a0) hO hf_2 hf_4 hf_6).mono ?_
  rintro v H' ⟨Z', r0, hz, hq, hv, hO'⟩
  obtain rfl := hq
  exact ⟨Z', hz, hv, hO'⟩

theorem rSame_ok {a : GNfa} {b : GNfa} {v_1 : Value} {v_3 : Value} {v_5 : Value} {v_7 : Value} {v_9 : Value} {v_11 : Value} {Q : Bool → Prop} {H : Heap} {Z : Nat → Prop} {L : List As} (h : wp_rSame a b Q) (hO : Own H Z (L)) (hf_2 : Fz fInt.rep L v_1 a.Starts) (hf_4 : Fz fInt.rep L v_3 a.Ends) (hf_6 : Fz fGEdge.rep L v_5 a.Edges) (hf_8 : Fz fInt.rep L v_7 b.Starts) (hf_10 : Fz fInt.rep L v_9 b.Ends) (hf_12 : Fz fGEdge.rep L v_11 b.Edges) : HC Try.prog 21 [.agg [.int .i64 a.States, v_1, v_3, v_5].toArray, .agg [.int .i64 b.States, v_7, v_9, v_11].toArray] H (fun v H' => ∃ (Z' : Nat → Prop) (r0 : Bool) , (∀ b, Z b → Z' b) ∧ Q r0 ∧ v = .bool r0 ∧ Own H' Z' (L)) := by
  have hZ : ∀ b, Z b → Z b := fun _ h => h
  replace hO := Fz.item hf_2 hO
  replace hO := Fz.items [_] hf_4 hO
  replace hO := Fz.items [_, _] hf_6 hO
  replace hO := Fz.items [_, _, _] hf_8 hO
  replace hO := Fz.items [_, _, _, _] hf_10 hO
  replace hO := Fz.items [_, _, _, _, _] hf_12 hO
  unfold wp_rSame at h
  refine hc_of_hw (N := 54) (rs := [(.tmp 4)]) Try.func21 rfl rfl rfl rfl ?_
  refine hw_seq ?_
  refine hw_region ?_
  refine hl_h (o_box (cs := [.int .i64 a.States, v_1, v_3, v_5]) hO rfl rfl) rfl ?_
  rintro _ H_13 ⟨b_14, rfl, hO⟩
  replace hO : Own H_13 Z (box b_14 [.int .i64 a.States, v_1, v_3, v_5] 25 :: fz fGEdge.rep v_11 b.Edges :: fz fInt.rep v_9 b.Ends :: fz fInt.rep v_7 b.Starts :: fz fGEdge.rep v_5 a.Edges :: fz fInt.rep v_3 a.Ends :: fz fInt.rep v_1 a.Starts :: L) := hO
  refine hl_h (o_box (cs := [.int .i64 b.States, v_7, v_9, v_11]) hO rfl rfl) rfl ?_
  rintro _ H_15 ⟨b_16, rfl, hO⟩
  replace hO : Own H_15 Z (box b_16 [.int .i64 b.States, v_7, v_9, v_11] 25 :: box b_14 [.int .i64 a.States, v_1, v_3, v_5] 25 :: fz fGEdge.rep v_11 b.Edges :: fz fInt.rep v_9 b.Ends :: fz fInt.rep v_7 b.Starts :: fz fGEdge.rep v_5 a.Edges :: fz fInt.rep v_3 a.Ends :: fz fInt.rep v_1 a.Starts :: L) := hO
  refine hl_v (v_assign rfl) rfl ?_
  refine hl_nil ?_
  refine thenQ_n ?_
  refine hw_sub _ (ai_cons (t := 2) rfl (ai_cons (t := 3) rfl ai_nil)) ?_
  refine hw_seq ?_
  refine hw_seq ?_
  refine hw_region ?_
  refine hl_v (v_fieldA Try.underlying25 rfl Try.sizeOf3 rfl) rfl ?_
  refine hl_v (v_load1 Try.isAgg3 rfl (Blk.cell (hO.box 1 rfl) rfl)) rfl ?_
  refine hl_v (v_fieldA Try.underlying25 rfl Try.sizeOf3 rfl) rfl ?_
  refine hl_v (v_load1 Try.isAgg3 rfl (Blk.cell (hO.box 0 rfl) rfl)) rfl ?_
  refine hl_v (v_neq rfl rfl) rfl ?_
  refine hl_v (v_move rfl) rfl ?_
  refine hl_g rfl rfl (fun hg => (v_fieldA Try.underlying25 rfl Try.sizeOf22 rfl)) rfl ?_
  refine hl_g rfl rfl (fun hg => (v_load1 Try.isAgg22 (gv_ok rfl hg) (Blk.cell (hO.box 1 rfl) rfl))) rfl ?_
  refine hl_g rfl rfl (fun hg => (v_fieldA Try.underlying25 rfl Try.sizeOf22 rfl)) rfl ?_
  refine hl_g rfl rfl (fun hg => (v_load1 Try.isAgg22 (gv_ok rfl hg) (Blk.cell (hO.box 0 rfl) rfl))) rfl ?_
  refine hl_g rfl rfl (fun hg => (v_call Try.call55 (evs_cons (gv_ok rfl hg) (evs_cons (gv_ok rfl hg) evs_nil)) (rInts_spec (a0 := a.Starts) (a1 := b.Starts) hO (Rd.of_fz (i := 7) rfl) (Rd.of_fz (i := 4) rfl)))) rfl ?_
  refine hl_g rfl rfl (fun hg => (v_not (gv_ok rfl hg))) rfl ?_
  refine hl_v (v_or rfl rfl) rfl ?_
  refine hl_v (v_move rfl) rfl ?_
  refine hl_g rfl rfl (fun hg => (v_fieldA Try.underlying25 rfl Try.sizeOf22 rfl)) rfl ?_
  refine hl_g rfl rfl (fun hg => (v_load1 Try.isAgg22 (gv_ok rfl hg) (Blk.cell (hO.box 1 rfl) rfl))) rfl ?_
  refine hl_g rfl rfl (fun hg => (v_fieldA Try.underlying25 rfl Try.sizeOf22 rfl)) rfl ?_
  refine hl_g rfl rfl (fun hg => (v_load1 Try.isAgg22 (gv_ok rfl hg) (Blk.cell (hO.box 0 rfl) rfl))) rfl ?_
  refine hl_g rfl rfl (fun hg => (v_call Try.call55 (evs_cons (gv_ok rfl hg) (evs_cons (gv_ok rfl hg) evs_nil)) (rInts_spec (a0 := a.Ends) (a1 := b.Ends) hO (Rd.of_fz (i := 6) rfl) (Rd.of_fz (i := 3) rfl)))) rfl ?_
  refine hl_g rfl rfl (fun hg => (v_not (gv_ok rfl hg))) rfl ?_
  refine hl_v (v_or rfl rfl) rfl ?_
  refine hl_v (v_move rfl) rfl ?_
  refine hl_g rfl rfl (fun hg => (v_fieldA Try.underlying25 rfl Try.sizeOf23 rfl)) rfl ?_
  refine hl_g rfl rfl (fun hg => (v_load1 Try.isAgg23 (gv_ok rfl hg) (Blk.cell (hO.box 1 rfl) rfl))) rfl ?_
  have hln_17 := Sl.cap (hO.fsl 5 rfl)
  refine hl_g rfl rfl (fun hg => (v_lenL rfl Try.underlying23 (gv_ok rfl hg) (hO.fsl 5 rfl))) rfl ?_
  refine hl_g rfl rfl (fun hg => (v_fieldA Try.underlying25 rfl Try.sizeOf23 rfl)) rfl ?_
  refine hl_g rfl rfl (fun hg => (v_load1 Try.isAgg23 (gv_ok rfl hg) (Blk.cell (hO.box 0 rfl) rfl))) rfl ?_
  have hln_18 := Sl.cap (hO.fsl 2 rfl)
  refine hl_g rfl rfl (fun hg => (v_lenL rfl Try.underlying23 (gv_ok rfl hg) (hO.fsl 2 rfl))) rfl ?_
  refine hl_g rfl rfl (fun hg => (v_neq (gv_ok rfl hg) (gv_ok rfl hg))) rfl ?_
  refine hl_v (v_or rfl rfl) rfl ?_
  refine hl_nil ?_
  refine thenQ_n ?_
  refine hw_sub _ (ai_cons (t := 2) rfl (ai_cons (t := 3) rfl (ai_cons (t := 35) rfl ai_nil))) ?_
  refine hw_cond rfl (fun hc_19 => ?_) (fun hc_19 => ?_)
  · replace h := ite_t h hc_19
    refine hw_seq ?_
    refine hw_region ?_
    refine hl_v (v_assign rfl) rfl ?_
    refine hl_nil ?_
    refine thenQ_n ?_
    refine hw_sub _ (ai_cons (t := 4) rfl ai_nil) ?_
    refine hw_ret ?_
    refine thenQ_r ?_
    refine ret_i _ (ra_t rfl ra_nil) ?_
    exact ⟨_, false, hZ, h, rfl, (Own.sel (Ls := [box b_16 [.int .i64 b.States, v_7, v_9, v_11] 25, box b_14 [.int .i64 a.States, v_1, v_3, v_5] 25, fz fGEdge.rep v_11 b.Edges, fz fInt.rep v_9 b.Ends, fz fInt.rep v_7 b.Starts, fz fGEdge.rep v_5 a.Edges, fz fInt.rep v_3 a.Ends, fz fInt.rep v_1 a.Starts]) (L := L) [] rfl hO)⟩
  · replace h := ite_f h hc_19
    refine hw_skip ?_
    refine thenQ_n ?_
    refine hw_seq ?_
    refine hw_seq ?_
    refine hw_region ?_
    refine hl_v (v_assign rfl) rfl ?_
    refine hl_nil ?_
    refine thenQ_n ?_
    refine hw_sub _ (ai_cons (t := 2) rfl (ai_cons (t := 3) rfl (ai_cons (t := 5) rfl ai_nil))) ?_
    refine hw_block ?_
    obtain ⟨I_20, h, hI_22⟩ := h
    refine hw_lp (fun n' g' H' => ∃ (i : Nat) (Z' : Nat → Prop), n' = a.Edges.length - i ∧ g' = [(2, ptr b_14 0), (3, ptr b_16 0), (5, .int .i64 (i : Int))] ∧ (∀ b, Z b → Z' b) ∧ I_20 i ∧ i ≤ a.Edges.length ∧ Own H' Z' (box b_16 [.int .i64 b.States, v_7, v_9, v_11] 25 :: box b_14 [.int .i64 a.States, v_1, v_3, v_5] 25 :: fz fGEdge.rep v_11 b.Edges :: fz fInt.rep v_9 b.Ends :: fz fInt.rep v_7 b.Starts :: fz fGEdge.rep v_5 a.Edges :: fz fInt.rep v_3 a.Ends :: fz fInt.rep v_1 a.Starts :: L)) _ _ (ai_cons (t := 2) rfl (ai_cons (t := 3) rfl (ai_cons (t := 5) rfl ai_nil))) ⟨0, _, rfl, rfl, hZ, h, by omega, hO⟩ ?_
    rintro _ _ H_23 ⟨i, Z_24, rfl, rfl, hZ, h, hb_25, hO⟩
    replace h := hI_22 i h hb_25
    refine hw_seq ?_
    refine hw_seq ?_
    refine hw_region ?_
    refine hl_v (v_move rfl) rfl ?_
    refine hl_v (v_fieldA Try.underlying25 rfl Try.sizeOf23 rfl) rfl ?_
    refine hl_v (v_load1 Try.isAgg23 rfl (Blk.cell (hO.box 1 rfl) rfl)) rfl ?_
    refine hl_v (v_lenL rfl Try.underlying23 rfl (hO.fsl 5 rfl)) rfl ?_
    refine hl_v (v_lss rfl rfl) rfl ?_
    refine hl_nil ?_
    refine thenQ_n ?_
    refine hw_sub _ (ai_cons (t := 2) rfl (ai_cons (t := 3) rfl (ai_cons (t := 5) rfl (ai_cons (t := 40) rfl ai_nil)))) ?_
    refine hw_cond rfl (fun hc_26 => ?_) (fun hc_26 => ?_)
    · replace h := ite_t h hc_26
      refine hw_skip ?_
      refine thenQ_n ?_
      refine hw_seq ?_
      refine hw_block ?_
      refine hw_seq ?_
      refine hw_quiet Try.mixed (by kernel_rfl) ?_
      refine hq_v (v_fieldA Try.underlying25 rfl Try.sizeOf23 rfl) rfl ?_
      refine hq_v (v_load1 Try.isAgg23 rfl (Blk.cell (hO.box 1 rfl) rfl)) rfl ?_
      refine hq_v (v_move rfl) rfl ?_
      refine hq_v (v_ixL Try.underlying23 Try.sizeOf69 rfl rfl (hO.fsl 5 rfl) (by exact ⟨Int.natCast_nonneg _, of_decide_eq_true hc_26⟩)) rfl ?_
      refine hq_v (v_loadFl Try.isAgg69 Try.sizeOf69 rfl (hO.fsl 5 rfl) rfl (by exact ⟨Int.natCast_nonneg _, of_decide_eq_true hc_26⟩)) rfl ?_
      refine hq_v (v_fieldA Try.underlying25 rfl Try.sizeOf23 rfl) rfl ?_
      refine hq_v (v_load1 Try.isAgg23 rfl (Blk.cell (hO.box 0 rfl) rfl)) rfl ?_
      refine hq_v (v_move rfl) rfl ?_
      obtain ⟨hs_27, h⟩ := h
      refine hq_v (v_ixL Try.underlying23 Try.sizeOf69 rfl rfl (hO.fsl 2 rfl) hs_27) rfl ?_
      refine hq_v (v_loadFl Try.isAgg69 Try.sizeOf69 rfl (hO.fsl 2 rfl) rfl hs_27) rfl ?_
      refine hq_v (v_neqRec (by kernel_rfl) rfl rfl (eqv_69_10j _ _)) rfl ?_
      refine hq_nil ?_
      refine thenQ_n ?_
      refine hw_sub _ (ai_cons (t := 2) rfl (ai_cons (t := 3) rfl (ai_cons (t := 5) rfl (ai_cons (t := 53) rfl ai_nil)))) ?_
      refine hw_cond rfl (fun hc_28 => ?_) (fun hc_28 => ?_)
      · replace h := ite_t h hc_28
        refine hw_seq ?_
        refine hw_region ?_
        refine hl_v (v_assign rfl) rfl ?_
        refine hl_nil ?_
        refine thenQ_n ?_
        refine hw_sub _ (ai_cons (t := 4) rfl ai_nil) ?_
        refine hw_ret ?_
        refine blockQ_r ?_
        refine thenQ_r ?_
        refine thenQ_r ?_
        refine blockQ_r ?_
        refine thenQ_r ?_
        refine ret_i _ (ra_t rfl ra_nil) ?_
        exact ⟨_, false, hZ, h, rfl, (Own.sel (Ls := [box b_16 [.int .i64 b.States, v_7, v_9, v_11] 25, box b_14 [.int .i64 a.States, v_1, v_3, v_5] 25, fz fGEdge.rep v_11 b.Edges, fz fInt.rep v_9 b.Ends, fz fInt.rep v_7 b.Starts, fz fGEdge.rep v_5 a.Edges, fz fInt.rep v_3 a.Ends, fz fInt.rep v_1 a.Starts]) (L := L) [] rfl hO)⟩
      · replace h := ite_f h hc_28
        refine hw_skip ?_
        refine blockQ_n ?_
        refine thenQ_n ?_
        refine hw_region ?_
        refine hl_v (v_move rfl) rfl ?_
        refine hl_v (v_add rfl rfl (by have hq := of_decide_eq_true hc_26; have hm := hln_17; constructor <;> omega)) rfl ?_
        refine hl_v (v_assign rfl) rfl ?_
        refine hl_nil ?_
        refine thenQ_n ?_
        exact ⟨_, _, (ai_cons (t := 2) rfl (ai_cons (t := 3) rfl (ai_cons (t := 5) rfl ai_nil))), ⟨i + 1, _, rfl, rfl, hZ, h, (by have hq := of_decide_eq_true hc_26; omega), hO⟩, (by have hq := of_decide_eq_true hc_26; omega)⟩
    · replace h := ite_f h hc_26
      refine hw_exit ?_
      refine thenQ_e ?_
      refine thenQ_e ?_
      refine blockQ_hit ?_
      refine thenQ_n ?_
      refine hw_seq ?_
      refine hw_region ?_
      refine hl_v (v_assign rfl) rfl ?_
      refine hl_nil ?_
      refine thenQ_n ?_
      refine hw_sub _ (ai_cons (t := 4) rfl ai_nil) ?_
      refine hw_ret ?_
      refine ret_i _ (ra_t rfl ra_nil) ?_
      exact ⟨_, true, hZ, h, rfl, (Own.sel (Ls := [box b_16 [.int .i64 b.States, v_7, v_9, v_11] 25, box b_14 [.int .i64 a.States, v_1, v_3, v_5] 25, fz fGEdge.rep v_11 b.Edges, fz fInt.rep v_9 b.Ends, fz fInt.rep v_7 b.Starts, fz fGEdge.rep v_5 a.Edges, fz fInt.rep v_3 a.Ends, fz fInt.rep v_1 a.Starts]) (L := L) [] rfl hO)⟩
theorem rSame_spec {a0 : GNfa} {a1 : GNfa} {v_1 : Value} {v_3 : Value} {v_5 : Value} {v_7 : Value} {v_9 : Value} {v_11 : Value} {L : List As} {H : Heap} {Z : Nat → Prop} (hO : Own H Z (L)) (hf_2 : Fz fInt.rep L v_1 a0.Starts) (hf_4 : Fz fInt.rep L v_3 a0.Ends) (hf_6 : Fz fGEdge.rep L v_5 a0.Edges) (hf_8 : Fz fInt.rep L v_7 a1.Starts) (hf_10 : Fz fInt.rep L v_9 a1.Ends) (hf_12 : Fz fGEdge.rep L v_11 a1.Edges) : HC Try.prog 21 [.agg [.int .i64 a0.States, v_1, v_3, v_5].toArray, .agg [.int .i64 a1.States, v_7, v_9, v_11].toArray] H (fun v H' => ∃ (Z' : Nat → Prop) , (∀ a1, Z a1 → Z' a1) ∧ v = .bool (decide (a0 = a1)) ∧ Own H' Z' (L)) := by
  refine (rSame_ok (a := a0) (b := a1) (@rSame_wp a0 a1) hO hf_2 hf_4 hf_6 hf_8 hf_10 hf_12).mono ?_
  rintro v H' ⟨Z', r0, hz, hq, hv, hO'⟩
  obtain rfl := hq
  exact ⟨Z', hz, hv, hO'⟩

theorem rText_ok {s : List UInt8}  {Q : GNfa → Int → Prop} {H : Heap} {Z : Nat → Prop} {L : List As} (h : wp_rText s Q) (hO : Own H Z (L))  : HC Try.prog 58 [str s] H (fun v H' => ∃ (Z' : Nat → Prop) (r0 : GNfa) (r1 : Int) (v_1 : Value) (v_2 : Value) (v_3 : Value), (∀ b, Z b → Z' b) ∧ Q r0 r1 ∧ v = .tuple #[.agg [.int .i64 r0.States, v_1, v_2, v_3].toArray, .int .i64 r1] ∧ Own H' Z' (own fInt 3 v_1 r0.Starts :: own fInt 3 v_2 r0.Ends :: own fGEdge 69 v_3 r0.Edges :: L)) := by
  have hZ : ∀ b, Z b → Z b := fun _ h => h
  unfold wp_rText at h
  refine hc_of_hw (N := 41) (rs := [(.cell 2 25), (.tmp 3)]) Try.func58 rfl rfl rfl rfl ?_
  refine hw_seq ?_
  refine hw_region ?_
  refine hl_h (o_alloc (cs := [.int .i64 (0 : Int), .slice none 0 0, .slice none 0 0, .slice none 0 0]) hO Try.zeroValue25 rfl) rfl ?_
  rintro _ H_4 ⟨b_5, rfl, hO⟩
  replace hO : Own H_4 Z (box b_5 [.int .i64 (0 : Int), .slice none 0 0, .slice none 0 0, .slice none 0 0] 25 :: L) := hO
  refine hl_v (v_assign rfl) rfl ?_
  refine hl_nil ?_
  refine thenQ_n ?_
  refine hw_sub _ (ai_cons (t := 0) rfl (ai_cons (t := 2) rfl ai_nil)) ?_
  refine hw_seq ?_
  refine hw_seq ?_
  refine hw_region ?_
  refine hl_v (v_move rfl) rfl ?_
  refine hl_v (v_lenS rfl Try.underlying9 rfl) rfl ?_
  refine hl_v (v_gtr rfl rfl) rfl ?_
  refine hl_nil ?_
  refine thenQ_n ?_
  refine hw_sub _ (ai_cons (t := 0) rfl (ai_cons (t := 2) rfl (ai_cons (t := 8) rfl ai_nil))) ?_
  refine hw_cond rfl (fun hc_6 => ?_) (fun hc_6 => ?_)
  · replace h := ite_t h hc_6
    refine hw_seq ?_
    refine hw_region ?_
    refine hl_v (v_buildF (cs := [.int .i64 (0 : Int), .slice none 0 0, .slice none 0 0, .slice none 0 0]) (xs := []) (is := []) rfl evs_nil (fun w => by show _ = _; kernel_rfl)) rfl ?_
    refine hl_s (o_storeA (us := [.int .i64 (0 : Int), .slice none 0 0, .slice none 0 0, .slice none 0 0]) hO 0 rfl Try.sizeOf25 rfl rfl rfl rfl (by simp only [List.forall_mem_cons]; exact ⟨rfl, rfl, rfl, rfl, by simp⟩)) ?_
    rintro _ H_7 hO
    replace hO : Own H_7 Z (box b_5 [.int .i64 (0 : Int), .slice none 0 0, .slice none 0 0, .slice none 0 0] 25 :: L) := hO
    refine hl_v (v_assign rfl) rfl ?_
    refine hl_nil ?_
    refine thenQ_n ?_
    refine hw_sub _ (ai_cons (t := 2) rfl (ai_cons (t := 3) rfl ai_nil)) ?_
    refine hw_ret ?_
    refine thenQ_r ?_
    replace hO : Own H_7 Z (own fInt 3 (.slice none 0 0) [] :: box b_5 [.int .i64 (0 : Int), .slice none 0 0, .slice none 0 0, .slice none 0 0] 25 :: L) := hO.nil fInt 3
    replace hO : Own H_7 Z (own fInt 3 (.slice none 0 0) [] :: own fInt 3 (.slice none 0 0) [] :: box b_5 [.int .i64 (0 : Int), .slice none 0 0, .slice none 0 0, .slice none 0 0] 25 :: L) := hO.nil fInt 3
    replace hO : Own H_7 Z (own fGEdge 69 (.slice none 0 0) [] :: own fInt 3 (.slice none 0 0) [] :: own fInt 3 (.slice none 0 0) [] :: box b_5 [.int .i64 (0 : Int), .slice none 0 0, .slice none 0 0, .slice none 0 0] 25 :: L) := hO.nil fGEdge 69
    refine ret_i _ (ra_c rfl (fun w hw => run_loadVar_at (cs := [.int .i64 (0 : Int), .slice none 0 0, .slice none 0 0, .slice none 0 0]) Try.isAgg25 Try.sizeOf25 (Blk.at0 (hO.box 3 rfl)) rfl w hw) (ra_t rfl ra_nil)) ?_
    exact ⟨_, (⟨(0 : Int), [], [], []⟩ : GNfa), 2, .slice none 0 0, .slice none 0 0, .slice none 0 0, hZ, h, rfl, (Own.sel (Ls := [own fGEdge 69 (.slice none 0 0) [], own fInt 3 (.slice none 0 0) [], own fInt 3 (.slice none 0 0) [], box b_5 [.int .i64 (0 : Int), .slice none 0 0, .slice none 0 0, .slice none 0 0] 25]) (L := L) [2, 1, 0] rfl hO)⟩
  · replace h := ite_f h hc_6
    refine hw_skip ?_
    refine thenQ_n ?_
    refine hw_seq ?_
    refine hw_region ?_
    refine hl_v (v_move rfl) rfl ?_
    refine hl_v (v_lenS rfl Try.underlying9 rfl) rfl ?_
    obtain ⟨hs_8, h⟩ := h
    refine hl_v (v_add rfl rfl hs_8) rfl ?_
    refine hl_h (o_lit (g := fInt) (l := [0]) (xs := [_]) hO Try.underlying22 Try.sizeOf3 Try.zeroValue3 rfl (evs_cons (show _ = some (.int .i64 0) from rfl) evs_nil) rfl rfl rfl rfl rfl) rfl ?_
    rintro v_10 H_9 hO
    replace hO : Own H_9 Z (own fInt 3 v_10 [0] :: box b_5 [.int .i64 (0 : Int), .slice none 0 0, .slice none 0 0, .slice none 0 0] 25 :: L) := hO
    refine hl_v (v_move rfl) rfl ?_
    refine hl_v (v_lenS rfl Try.underlying9 rfl) rfl ?_
    refine hl_h (o_lit (g := fInt) (l := [(s.length : Int)]) (xs := [.tmp 15]) hO Try.underlying22 Try.sizeOf3 Try.zeroValue3 rfl (evs_cons rfl evs_nil) rfl rfl rfl rfl rfl) rfl ?_
    rintro v_12 H_11 hO
    replace hO : Own H_11 Z (own fInt 3 v_12 [(s.length : Int)] :: own fInt 3 v_10 [0] :: box b_5 [.int .i64 (0 : Int), .slice none 0 0, .slice none 0 0, .slice none 0 0] 25 :: L) := hO
    have hsh_13 := Sl.sh (hO.osl 1 rfl)
    have hsh_14 := Sl.sh (hO.osl 0 rfl)
    refine hl_v (v_buildF (cs := [.int .i64 ((s.length : Int) + 1), v_10, v_12, .slice none 0 0]) (xs := [.tmp 12, .tmp 13, .tmp 16]) (is := [0, 1, 2]) rfl (evs_cons rfl (evs_cons rfl (evs_cons rfl evs_nil))) (fun w => by obtain ⟨_, _, _, hw⟩ := hsh_13; (try subst hw); obtain ⟨_, _, _, hw⟩ := hsh_14; (try subst hw); show _ = _; kernel_rfl)) rfl ?_
    refine hl_h (o_alloc (cs := [.int .i64 (0 : Int), .slice none 0 0, .slice none 0 0, .slice none 0 0]) hO Try.zeroValue25 rfl) rfl ?_
    rintro _ H_15 ⟨b_16, rfl, hO⟩
    replace hO : Own H_15 Z (box b_16 [.int .i64 (0 : Int), .slice none 0 0, .slice none 0 0, .slice none 0 0] 25 :: own fInt 3 v_12 [(s.length : Int)] :: own fInt 3 v_10 [0] :: box b_5 [.int .i64 (0 : Int), .slice none 0 0, .slice none 0 0, .slice none 0 0] 25 :: L) := hO
    refine hl_s (o_storeA (us := [.int .i64 ((s.length : Int) + 1), v_10, v_12, .slice none 0 0]) hO 0 rfl Try.sizeOf25 rfl rfl rfl rfl (by simp only [List.forall_mem_cons]; exact ⟨rfl, (Sl.one (hO.osl 2 rfl)), (Sl.one (hO.osl 1 rfl)), rfl, by simp⟩)) ?_
    rintro _ H_17 hO
    replace hO : Own H_17 Z (box b_16 [.int .i64 ((s.length : Int) + 1), v_10, v_12, .slice none 0 0] 25 :: own fInt 3 v_12 [(s.length : Int)] :: own fInt 3 v_10 [0] :: box b_5 [.int .i64 (0 : Int), .slice none 0 0, .slice none 0 0, .slice none 0 0] 25 :: L) := hO
    refine hl_nil ?_
    refine thenQ_n ?_
    refine hw_sub _ (ai_cons (t := 0) rfl (ai_cons (t := 2) rfl (ai_cons (t := 4) rfl ai_nil))) ?_
    refine hw_seq ?_
    refine hw_seq ?_
    refine hw_region ?_
    refine hl_v (v_assign rfl) rfl ?_
    refine hl_nil ?_
    refine thenQ_n ?_
    refine hw_sub _ (ai_cons (t := 0) rfl (ai_cons (t := 2) rfl (ai_cons (t := 4) rfl (ai_cons (t := 5) rfl ai_nil)))) ?_
    refine hw_block ?_
    obtain ⟨I_21, h, hI_23⟩ := h
    replace hO : Own H_17 Z (own fGEdge 69 (.slice none 0 0) [] :: box b_16 [.int .i64 ((s.length : Int) + 1), v_10, v_12, .slice none 0 0] 25 :: own fInt 3 v_12 [(s.length : Int)] :: own fInt 3 v_10 [0] :: box b_5 [.int .i64 (0 : Int), .slice none 0 0, .slice none 0 0, .slice none 0 0] 25 :: L) := hO.nil fGEdge 69
    refine hw_lp (fun n' g' H' => ∃ (n : GNfa) (i : Nat) (v_18 : Value) (v_19 : Value) (v_20 : Value) (Z' : Nat → Prop), n' = s.length - i ∧ g' = [(0, str s), (2, ptr b_5 0), (4, ptr b_16 0), (5, .int .i64 (i : Int))] ∧ (∀ b, Z b → Z' b) ∧ I_21 n i ∧ i ≤ s.length ∧ Own H' Z' (own fGEdge 69 v_20 n.Edges :: box b_16 [.int .i64 n.States, v_18, v_19, v_20] 25 :: own fInt 3 v_19 n.Ends :: own fInt 3 v_18 n.Starts :: box b_5 [.int .i64 (0 : Int), .slice none 0 0, .slice none 0 0, .slice none 0 0] 25 :: L)) _ _ (ai_cons (t := 0) rfl (ai_cons (t := 2) rfl (ai_cons (t := 4) rfl (ai_cons (t := 5) rfl ai_nil)))) ⟨(⟨((s.length : Int) + 1), [0], [(s.length : Int)], []⟩ : GNfa), 0, v_10, v_12, .slice none 0 0, _, rfl, rfl, hZ, h, by omega, hO⟩ ?_
    rintro _ _ H_24 ⟨n, i, v_18, v_19, v_20, Z_25, rfl, rfl, hZ, h, hb_26, hO⟩
    replace h := hI_23 n i h hb_26
    refine hw_seq ?_
    refine hw_seq ?_
    refine hw_region ?_
    refine hl_v (v_move rfl) rfl ?_
    refine hl_v (v_move rfl) rfl ?_
    refine hl_v (v_lenS rfl Try.underlying9 rfl) rfl ?_
    refine hl_v (v_lss rfl rfl) rfl ?_
    refine hl_nil ?_
    refine thenQ_n ?_
    refine hw_sub _ (ai_cons (t := 0) rfl (ai_cons (t := 2) rfl (ai_cons (t := 4) rfl (ai_cons (t := 5) rfl (ai_cons (t := 21) rfl ai_nil))))) ?_
    refine hw_cond rfl (fun hc_27 => ?_) (fun hc_27 => ?_)
    · replace h := ite_t h hc_27
      refine hw_skip ?_
      refine thenQ_n ?_
      refine hw_seq ?_
      refine hw_block ?_
      refine hw_held2 15 (fun H' => ∃ Z' : Nat → Prop, Own H' Z' (box b_16 [.int .i64 n.States, v_18, v_19, v_20] 25 :: own fInt 3 v_19 n.Ends :: own fInt 3 v_18 n.Starts :: box b_5 [.int .i64 (0 : Int), .slice none 0 0, .slice none 0 0, .slice none 0 0] 25 :: L)) (.step 0 false (.step 1 false (.step 2 false (.step 3 false (.step 4 false (.step 5 false (.step 6 false (.step 7 false (.step 8 false (.step 9 false (.step 10 true (.step 11 true (.step 12 false (.step 13 true (.step 14 true .done))))))))))))))) (.step 15 true (.step 16 true .done)) Try.mixed (by kernel_rfl) ⟨_, (Own.sel (Ls := [own fGEdge 69 v_20 n.Edges, box b_16 [.int .i64 n.States, v_18, v_19, v_20] 25, own fInt 3 v_19 n.Ends, own fInt 3 v_18 n.Starts, box b_5 [.int .i64 (0 : Int), .slice none 0 0, .slice none 0 0, .slice none 0 0] 25]) (L := L) [1, 2, 3, 4] rfl hO)⟩ ?_
      refine hd_v rfl (fun _ _ => (v_fieldA Try.underlying25 rfl Try.sizeOf23 rfl)) rfl ?_
      refine hd_v rfl (fun H' hS => by obtain ⟨Z', hO⟩ := hS; exact (v_load1 Try.isAgg23 rfl (Blk.cell (hO.box 0 rfl) rfl))) rfl ?_
      refine hd_v rfl (fun _ _ => (v_move rfl)) rfl ?_
      refine hd_v rfl (fun _ _ => (v_move rfl)) rfl ?_
      obtain ⟨hs_28, h⟩ := h
      refine hd_v rfl (fun _ _ => (v_add rfl rfl hs_28)) rfl ?_
      refine hd_v rfl (fun _ _ => (v_move rfl)) rfl ?_
      refine hd_v rfl (fun _ _ => (v_move rfl)) rfl ?_
      refine hd_v rfl (fun _ _ => (v_move rfl)) rfl ?_
      refine hd_v rfl (fun _ _ => (v_add rfl rfl hs_28)) rfl ?_
      obtain ⟨hs_29, h⟩ := h
      refine hd_v rfl (fun _ _ => (v_sliceS Try.underlying9 rfl rfl rfl hs_29)) rfl ?_
      obtain ⟨hs_34, h⟩ := h
      refine hd_h (o_strBytes (l := ((s.take ((i : Int) + 1).toNat).drop i)) hO Try.underlying9 Try.underlying94 Try.underlying5 rfl hs_34) (by rintro v_30 H_31 ⟨Z_32, hz_33, hO⟩; replace hZ := fun b hb => hz_33 b (hZ b hb); exact ⟨_, (Own.sel (Ls := [fz fByte.rep v_30 ((s.take ((i : Int) + 1).toNat).drop i), own fGEdge 69 v_20 n.Edges, box b_16 [.int .i64 n.States, v_18, v_19, v_20] 25, own fInt 3 v_19 n.Ends, own fInt 3 v_18 n.Starts, box b_5 [.int .i64 (0 : Int), .slice none 0 0, .slice none 0 0, .slice none 0 0] 25]) (L := L) [2, 3, 4, 5] rfl hO)⟩) rfl ?_
      rintro v_30 H_31 ⟨Z_32, hz_33, hO⟩
      replace hZ := fun b hb => hz_33 b (hZ b hb)
      replace hO : Own H_31 Z_32 (fz fByte.rep v_30 ((s.take ((i : Int) + 1).toNat).drop i) :: own fGEdge 69 v_20 n.Edges :: box b_16 [.int .i64 n.States, v_18, v_19, v_20] 25 :: own fInt 3 v_19 n.Ends :: own fInt 3 v_18 n.Starts :: box b_5 [.int .i64 (0 : Int), .slice none 0 0, .slice none 0 0, .slice none 0 0] 25 :: L) := hO
      refine hd_h (h_call Try.call82 (evs_cons rfl evs_nil) (rOfI_spec (a0 := ((s.take ((i : Int) + 1).toNat).drop i)) hO (Rd.of_fz (i := 0) rfl))) (by rintro vv H_35 ⟨Z_36, hz_37, hv, hO⟩; obtain rfl := hv.symm; replace hZ := fun b hb => hz_37 b (hZ b hb); exact ⟨_, (Own.sel (Ls := [fz fByte.rep v_30 ((s.take ((i : Int) + 1).toNat).drop i), own fGEdge 69 v_20 n.Edges, box b_16 [.int .i64 n.States, v_18, v_19, v_20] 25, own fInt 3 v_19 n.Ends, own fInt 3 v_18 n.Starts, box b_5 [.int .i64 (0 : Int), .slice none 0 0, .slice none 0 0, .slice none 0 0] 25]) (L := L) [2, 3, 4, 5] rfl hO)⟩) rfl ?_
      rintro vv H_35 ⟨Z_36, hz_37, hv, hO⟩
      obtain rfl := hv.symm
      replace hZ := fun b hb => hz_37 b (hZ b hb)
      replace hO : Own H_35 Z_36 (fz fByte.rep v_30 ((s.take ((i : Int) + 1).toNat).drop i) :: own fGEdge 69 v_20 n.Edges :: box b_16 [.int .i64 n.States, v_18, v_19, v_20] 25 :: own fInt 3 v_19 n.Ends :: own fInt 3 v_18 n.Starts :: box b_5 [.int .i64 (0 : Int), .slice none 0 0, .slice none 0 0, .slice none 0 0] 25 :: L) := hO
      refine hd_v rfl (fun _ _ => (v_buildF (cs := (fGEdge.enc (⟨(i : Int), ((i : Int) + 1), BSet.ofL ((s.take ((i : Int) + 1).toNat).drop i)⟩ : GEdge))) (xs := [.tmp 26, .tmp 28, .tmp 35]) (is := [0, 1, 2]) rfl (evs_cons rfl (evs_cons rfl (evs_cons rfl evs_nil))) (fun w => by show _ = _; kernel_rfl))) rfl ?_
      refine hd_h (o_lit (g := fGEdge) (l := [(⟨(i : Int), ((i : Int) + 1), BSet.ofL ((s.take ((i : Int) + 1).toNat).drop i)⟩ : GEdge)]) (xs := [.tmp 36]) hO Try.underlying23 Try.sizeOf69 Try.zeroValue69 rfl (evs_cons rfl evs_nil) rfl rfl rfl rfl rfl) (by rintro v_39 H_38 hO; exact ⟨_, (Own.sel (Ls := [own fGEdge 69 v_39 [(⟨(i : Int), ((i : Int) + 1), BSet.ofL ((s.take ((i : Int) + 1).toNat).drop i)⟩ : GEdge)], fz fByte.rep v_30 ((s.take ((i : Int) + 1).toNat).drop i), own fGEdge 69 v_20 n.Edges, box b_16 [.int .i64 n.States, v_18, v_19, v_20] 25, own fInt 3 v_19 n.Ends, own fInt 3 v_18 n.Starts, box b_5 [.int .i64 (0 : Int), .slice none 0 0, .slice none 0 0, .slice none 0 0] 25]) (L := L) [3, 4, 5, 6] rfl hO)⟩) rfl ?_
      rintro v_39 H_38 hO
      replace hO : Own H_38 Z_36 (own fGEdge 69 v_39 [(⟨(i : Int), ((i : Int) + 1), BSet.ofL ((s.take ((i : Int) + 1).toNat).drop i)⟩ : GEdge)] :: fz fByte.rep v_30 ((s.take ((i : Int) + 1).toNat).drop i) :: own fGEdge 69 v_20 n.Edges :: box b_16 [.int .i64 n.States, v_18, v_19, v_20] 25 :: own fInt 3 v_19 n.Ends :: own fInt 3 v_18 n.Starts :: box b_5 [.int .i64 (0 : Int), .slice none 0 0, .slice none 0 0, .slice none 0 0] 25 :: L) := hO
      obtain ⟨hs_42, h⟩ := h
      refine hd_h (o_append (l2 := [(⟨(i : Int), ((i : Int) + 1), BSet.ofL ((s.take ((i : Int) + 1).toNat).drop i)⟩ : GEdge)]) hO 2 rfl rfl Try.underlying23 Try.type69 rfl rfl rfl rfl rfl rfl rfl (hO.osl 0 rfl) hs_42 (le63 hs_42 rfl)) (by rintro v_41 H_40 hO; exact ⟨_, (Own.sel (Ls := [own fGEdge 69 v_39 [(⟨(i : Int), ((i : Int) + 1), BSet.ofL ((s.take ((i : Int) + 1).toNat).drop i)⟩ : GEdge)], fz fByte.rep v_30 ((s.take ((i : Int) + 1).toNat).drop i), own fGEdge 69 v_41 (n.Edges ++ [(⟨(i : Int), ((i : Int) + 1), BSet.ofL ((s.take ((i : Int) + 1).toNat).drop i)⟩ : GEdge)]), box b_16 [.int .i64 n.States, v_18, v_19, v_20] 25, own fInt 3 v_19 n.Ends, own fInt 3 v_18 n.Starts, box b_5 [.int .i64 (0 : Int), .slice none 0 0, .slice none 0 0, .slice none 0 0] 25]) (L := L) [3, 4, 5, 6] rfl hO)⟩) rfl ?_
      rintro v_41 H_40 hO
      replace hO : Own H_40 Z_36 (own fGEdge 69 v_39 [(⟨(i : Int), ((i : Int) + 1), BSet.ofL ((s.take ((i : Int) + 1).toNat).drop i)⟩ : GEdge)] :: fz fByte.rep v_30 ((s.take ((i : Int) + 1).toNat).drop i) :: own fGEdge 69 v_41 (n.Edges ++ [(⟨(i : Int), ((i : Int) + 1), BSet.ofL ((s.take ((i : Int) + 1).toNat).drop i)⟩ : GEdge)]) :: box b_16 [.int .i64 n.States, v_18, v_19, v_20] 25 :: own fInt 3 v_19 n.Ends :: own fInt 3 v_18 n.Starts :: box b_5 [.int .i64 (0 : Int), .slice none 0 0, .slice none 0 0, .slice none 0 0] 25 :: L) := hO
      refine hd_nil ?_
      refine hd_h (OpV.toH (v_fieldA Try.underlying25 rfl Try.sizeOf23 rfl)) (fun _ _ hR => trivial) rfl ?_
      rintro vv HH ⟨hvv, hHH⟩
      obtain rfl := hvv.symm
      obtain rfl := hHH.symm
      refine hd_s (o_store1 hO 3 rfl Try.sizeOf23 rfl rfl rfl (Sl.one (hO.osl 2 rfl))) (fun _ _ _ => trivial) ?_
      rintro _ H_43 hO
      replace hO : Own H_43 Z_36 (own fGEdge 69 v_39 [(⟨(i : Int), ((i : Int) + 1), BSet.ofL ((s.take ((i : Int) + 1).toNat).drop i)⟩ : GEdge)] :: fz fByte.rep v_30 ((s.take ((i : Int) + 1).toNat).drop i) :: own fGEdge 69 v_41 (n.Edges ++ [(⟨(i : Int), ((i : Int) + 1), BSet.ofL ((s.take ((i : Int) + 1).toNat).drop i)⟩ : GEdge)]) :: box b_16 [.int .i64 n.States, v_18, v_19, v_41] 25 :: own fInt 3 v_19 n.Ends :: own fInt 3 v_18 n.Starts :: box b_5 [.int .i64 (0 : Int), .slice none 0 0, .slice none 0 0, .slice none 0 0] 25 :: L) := hO
      refine hd_nil ?_
      refine blockQ_n ?_
      refine thenQ_n ?_
      refine hw_region ?_
      refine hl_v (v_move rfl) rfl ?_
      refine hl_v (v_add rfl rfl hs_28) rfl ?_
      refine hl_v (v_assign rfl) rfl ?_
      refine hl_nil ?_
      refine thenQ_n ?_
      exact ⟨_, _, (ai_cons (t := 0) rfl (ai_cons (t := 2) rfl (ai_cons (t := 4) rfl (ai_cons (t := 5) rfl ai_nil)))), ⟨(⟨n.States, n.Starts, n.Ends, (n.Edges ++ [(⟨(i : Int), ((i : Int) + 1), BSet.ofL ((s.take ((i : Int) + 1).toNat).drop i)⟩ : GEdge)])⟩ : GNfa), i + 1, v_18, v_19, v_41, _, rfl, rfl, hZ, h, (by have hq := of_decide_eq_true hc_27; omega), (Own.sel (Ls := [own fGEdge 69 v_39 [(⟨(i : Int), ((i : Int) + 1), BSet.ofL ((s.take ((i : Int) + 1).toNat).drop i)⟩ : GEdge)], fz fByte.rep v_30 ((s.take ((i : Int) + 1).toNat).drop i), own fGEdge 69 v_41 (n.Edges ++ [(⟨(i : Int), ((i : Int) + 1), BSet.ofL ((s.take ((i : Int) + 1).toNat).drop i)⟩ : GEdge)]), box b_16 [.int .i64 n.States, v_18, v_19, v_41] 25, own fInt 3 v_19 n.Ends, own fInt 3 v_18 n.Starts, box b_5 [.int .i64 (0 : Int), .slice none 0 0, .slice none 0 0, .slice none 0 0] 25]) (L := L) [2, 3, 4, 5, 6] rfl hO)⟩, (by have hq := of_decide_eq_true hc_27; omega)⟩
    · replace h := ite_f h hc_27
      refine hw_exit ?_
      refine thenQ_e ?_
      refine thenQ_e ?_
      refine blockQ_hit ?_
      refine thenQ_n ?_
      refine hw_seq ?_
      refine hw_region ?_
      refine hl_v (v_loadA Try.isAgg25 Try.sizeOf25 rfl (Blk.at0 (hO.box 1 rfl)) rfl) rfl ?_
      refine hl_s (o_storeA (us := [.int .i64 n.States, v_18, v_19, v_20]) hO 4 rfl Try.sizeOf25 rfl rfl rfl rfl (by simp only [List.forall_mem_cons]; exact ⟨rfl, (Sl.one (hO.osl 3 rfl)), (Sl.one (hO.osl 2 rfl)), (Sl.one (hO.osl 0 rfl)), by simp⟩)) ?_
      rintro _ H_44 hO
      replace hO : Own H_44 Z_25 (own fGEdge 69 v_20 n.Edges :: box b_16 [.int .i64 n.States, v_18, v_19, v_20] 25 :: own fInt 3 v_19 n.Ends :: own fInt 3 v_18 n.Starts :: box b_5 [.int .i64 n.States, v_18, v_19, v_20] 25 :: L) := hO
      refine hl_v (v_assign rfl) rfl ?_
      refine hl_nil ?_
      refine thenQ_n ?_
      refine hw_sub _ (ai_cons (t := 2) rfl (ai_cons (t := 3) rfl ai_nil)) ?_
      refine hw_ret ?_
      refine ret_i _ (ra_c rfl (fun w hw => run_loadVar_at (cs := [.int .i64 n.States, v_18, v_19, v_20]) Try.isAgg25 Try.sizeOf25 (Blk.at0 (hO.box 4 rfl)) rfl w hw) (ra_t rfl ra_nil)) ?_
      exact ⟨_, n, 0, v_18, v_19, v_20, hZ, h, rfl, (Own.sel (Ls := [own fGEdge 69 v_20 n.Edges, box b_16 [.int .i64 n.States, v_18, v_19, v_20] 25, own fInt 3 v_19 n.Ends, own fInt 3 v_18 n.Starts, box b_5 [.int .i64 n.States, v_18, v_19, v_20] 25]) (L := L) [3, 2, 0] rfl hO)⟩
theorem rText_spec {a0 : List UInt8}  {L : List As} {H : Heap} {Z : Nat → Prop} (hO : Own H Z (L))  : HC Try.prog 58 [str a0] H (fun v H' => ∃ (Z' : Nat → Prop) (v_1 : Value) (v_2 : Value) (v_3 : Value), (∀ b, Z b → Z' b) ∧ v = .tuple #[.agg [.int .i64 ((nText a0).1).States, v_1, v_2, v_3].toArray, .int .i64 ((nText a0).2)] ∧ Own H' Z' (own fInt 3 v_1 ((nText a0).1).Starts :: own fInt 3 v_2 ((nText a0).1).Ends :: own fGEdge 69 v_3 ((nText a0).1).Edges :: L)) := by
  refine (rText_ok (s := a0) (@rText_wp a0) hO).mono ?_
  rintro v H' ⟨Z', r0, r1, v_1, v_2, v_3, hz, hq, hv, hO'⟩
  obtain ⟨rfl, rfl⟩ := hq
  exact ⟨Z', v_1, v_2, v_3, hz, hv, hO'⟩

theorem rShift_ok {l : List Int} {xby : Int} {v_1 : Value} {Q : (List Int) → Prop} {H : Heap} {Z : Nat → Prop} {L : List As} (h : wp_rShift l xby Q) (hO : Own H Z (L)) (hr_2 : Rd fInt.rep L v_1 l) : HC Try.prog 50 [v_1, .int .i64 xby] H (fun v H' => ∃ (Z' : Nat → Prop) (r0 : List Int) (v_3 : Value), (∀ b, Z b → Z' b) ∧ Q r0 ∧ v = v_3 ∧ Own H' Z' (own fInt 3 v_3 r0 :: L)) := by
  have hZ : ∀ b, Z b → Z b := fun _ h => h
  unfold wp_rShift at h
  refine hc_of_hw (N := 23) (rs := [(.tmp 4)]) Try.func50 rfl rfl rfl rfl ?_
  refine hw_seq ?_
  refine hw_region ?_
  refine hl_v (v_assign rfl) rfl ?_
  refine hl_nil ?_
  refine thenQ_n ?_
  refine hw_sub _ (ai_cons (t := 0) rfl (ai_cons (t := 1) rfl ai_nil)) ?_
  refine hw_seq ?_
  refine hw_region ?_
  refine hl_v (v_assign rfl) rfl ?_
  refine hl_nil ?_
  refine thenQ_n ?_
  refine hw_sub _ (ai_cons (t := 0) rfl (ai_cons (t := 1) rfl (ai_cons (t := 5) rfl ai_nil))) ?_
  refine hw_seq ?_
  refine hw_seq ?_
  refine hw_region ?_
  refine hl_v (v_assign rfl) rfl ?_
  refine hl_nil ?_
  refine thenQ_n ?_
  refine hw_sub _ (ai_cons (t := 0) rfl (ai_cons (t := 1) rfl (ai_cons (t := 5) rfl (ai_cons (t := 6) rfl ai_nil)))) ?_
  refine hw_block ?_
  obtain ⟨I_5, h, hI_7⟩ := h
  replace hO : Own H Z (own fInt 3 (.slice none 0 0) [] :: L) := hO.nil fInt 3
  refine hw_lp (fun n' g' H' => ∃ (out : List Int) (i : Nat) (v_4 : Value) (Z' : Nat → Prop), n' = l.length - i ∧ g' = [(0, v_1), (1, .int .i64 xby), (5, v_4), (6, .int .i64 (i : Int))] ∧ (∀ b, Z b → Z' b) ∧ I_5 out i ∧ i ≤ l.length ∧ Own H' Z' (own fInt 3 v_4 out :: L)) _ _ (ai_cons (t := 0) rfl (ai_cons (t := 1) rfl (ai_cons (t := 5) rfl (ai_cons (t := 6) rfl ai_nil)))) ⟨[], 0, .slice none 0 0, _, rfl, rfl, hZ, h, by omega, hO⟩ ?_
  rintro _ _ H_8 ⟨out, i, v_4, Z_9, rfl, rfl, hZ, h, hb_10, hO⟩
  replace h := hI_7 out i h hb_10
  refine hw_seq ?_
  refine hw_seq ?_
  refine hw_region ?_
  refine hl_v (v_move rfl) rfl ?_
  refine hl_v (v_move rfl) rfl ?_
  have hln_11 := Sl.cap (Rd.sl hr_2 (Own.tails [_] hO))
  refine hl_v (v_lenL rfl Try.underlying22 rfl (Rd.sl hr_2 (Own.tails [_] hO))) rfl ?_
  refine hl_v (v_lss rfl rfl) rfl ?_
  refine hl_nil ?_
  refine thenQ_n ?_
  refine hw_sub _ (ai_cons (t := 0) rfl (ai_cons (t := 1) rfl (ai_cons (t := 5) rfl (ai_cons (t := 6) rfl (ai_cons (t := 10) rfl ai_nil))))) ?_
  refine hw_cond rfl (fun hc_12 => ?_) (fun hc_12 => ?_)
  · replace h := ite_t h hc_12
    refine hw_skip ?_
    refine thenQ_n ?_
    refine hw_seq ?_
    refine hw_block ?_
    refine hw_region ?_
    refine hl_v (v_move rfl) rfl ?_
    refine hl_v (v_move rfl) rfl ?_
    refine hl_v (v_move rfl) rfl ?_
    refine hl_v (v_ixL Try.underlying22 Try.sizeOf3 rfl rfl (Rd.sl hr_2 (Own.tails [_] hO)) (by exact ⟨Int.natCast_nonneg _, of_decide_eq_true hc_12⟩)) rfl ?_
    refine hl_v (v_loadSc Try.isAgg3 rfl (Rd.sl hr_2 (Own.tails [_] hO)) rfl (by exact ⟨Int.natCast_nonneg _, of_decide_eq_true hc_12⟩) rfl) rfl ?_
    refine hl_v (v_move rfl) rfl ?_
    obtain ⟨hs_13, h⟩ := h
    refine hl_v (v_add rfl rfl hs_13) rfl ?_
    refine hl_h (o_lit (g := fInt) (l := [((l.getD i default) + xby)]) (xs := [.tmp 19]) hO Try.underlying22 Try.sizeOf3 Try.zeroValue3 rfl (evs_cons rfl evs_nil) rfl rfl rfl rfl rfl) rfl ?_
    rintro v_15 H_14 hO
    replace hO : Own H_14 Z_9 (own fInt 3 v_15 [((l.getD i default) + xby)] :: own fInt 3 v_4 out :: L) := hO
    obtain ⟨hs_18, h⟩ := h
    refine hl_h (o_append (l2 := [((l.getD i default) + xby)]) hO 1 rfl rfl Try.underlying22 Try.type3 rfl rfl rfl rfl rfl rfl rfl (hO.osl 0 rfl) hs_18 (le63 hs_18 rfl)) rfl ?_
    rintro v_17 H_16 hO
    replace hO : Own H_16 Z_9 (own fInt 3 v_15 [((l.getD i default) + xby)] :: own fInt 3 v_17 (out ++ [((l.getD i default) + xby)]) :: L) := hO
    refine hl_v (v_assign rfl) rfl ?_
    refine hl_nil ?_
    refine blockQ_n ?_
    refine thenQ_n ?_
    refine hw_region ?_
    refine hl_v (v_move rfl) rfl ?_
    refine hl_v (v_add rfl rfl (by have hq := of_decide_eq_true hc_12; have hm := hln_11; constructor <;> omega)) rfl ?_
    refine hl_v (v_assign rfl) rfl ?_
    refine hl_nil ?_
    refine thenQ_n ?_
    exact ⟨_, _, (ai_cons (t := 0) rfl (ai_cons (t := 1) rfl (ai_cons (t := 5) rfl (ai_cons (t := 6) rfl ai_nil)))), ⟨(out ++ [((l.getD i default) + xby)]), i + 1, v_17, _, rfl, rfl, hZ, h, (by have hq := of_decide_eq_true hc_12; omega), (Own.sel (Ls := [own fInt 3 v_15 [((l.getD i default) + xby)], own fInt 3 v_17 (out ++ [((l.getD i default) + xby)])]) (L := L) [1] rfl hO)⟩, (by have hq := of_decide_eq_true hc_12; omega)⟩
  · replace h := ite_f h hc_12
    refine hw_exit ?_
    refine thenQ_e ?_
    refine thenQ_e ?_
    refine blockQ_hit ?_
    refine thenQ_n ?_
    refine hw_seq ?_
    refine hw_region ?_
    refine hl_v (v_move rfl) rfl ?_
    refine hl_v (v_assign rfl) rfl ?_
    refine hl_nil ?_
    refine thenQ_n ?_
    refine hw_sub _ (ai_cons (t := 4) rfl ai_nil) ?_
    refine hw_ret ?_
    refine ret_i _ (ra_t rfl ra_nil) ?_
    exact ⟨_, out, v_4, hZ, h, rfl, hO⟩
theorem rShift_spec {a0 : List Int} {a1 : Int} {v_1 : Value} {L : List As} (hp : (a0.length ≤ 4096 ∧ ∀ s ∈ a0, 0 ≤ s ∧ s ≤ 4096) ∧ 0 ≤ a1 ∧ a1 ≤ 4096) {H : Heap} {Z : Nat → Prop} (hO : Own H Z (L)) (hr_2 : Rd fInt.rep L v_1 a0) : HC Try.prog 50 [v_1, .int .i64 a1] H (fun v H' => ∃ (Z' : Nat → Prop) (v_3 : Value), (∀ b, Z b → Z' b) ∧ v = v_3 ∧ Own H' Z' (own fInt 3 v_3 ((a0.map (· + a1))) :: L)) := by
  refine (rShift_ok (l := a0) (xby := a1) (@rShift_wp a0 a1 hp) hO hr_2).mono ?_
  rintro v H' ⟨Z', r0, v_3, hz, hq, hv, hO'⟩
  obtain rfl := hq
  exact ⟨Z', v_3, hz, hv, hO'⟩

theorem rBoth_ok {l : List Int} {m : List Int} {v_1 : Value} {v_3 : Value} {Q : (List Int) → Prop} {H : Heap} {Z : Nat → Prop} {L : List As} (h : wp_rBoth l m Q) (hO : Own H Z (L)) (hr_2 : Rd fInt.rep L v_1 l) (hr_4 : Rd fInt.rep L v_3 m) : HC Try.prog 51 [v_1, v_3] H (fun v H' => ∃ (Z' : Nat → Prop) (r0 : List Int) (v_5 : Value), (∀ b, Z b → Z' b) ∧ Q r0 ∧ v = v_5 ∧ Own H' Z' (own fInt 3 v_5 r0 :: L)) := by
  have hZ : ∀ b, Z b → Z b := fun _ h => h
  unfold wp_rBoth at h
  refine hc_of_hw (N := 13) (rs := [(.tmp 4)]) Try.func51 rfl rfl rfl rfl ?_
  refine hw_seq ?_
  refine hw_region ?_
  refine hl_v (v_assign rfl) rfl ?_
  refine hl_nil ?_
  refine thenQ_n ?_
  refine hw_sub _ (ai_cons (t := 0) rfl (ai_cons (t := 1) rfl ai_nil)) ?_
  refine hw_seq ?_
  refine hw_region ?_
  refine hl_v (v_assign rfl) rfl ?_
  refine hl_nil ?_
  refine thenQ_n ?_
  refine hw_sub _ (ai_cons (t := 0) rfl (ai_cons (t := 1) rfl (ai_cons (t := 5) rfl ai_nil))) ?_
  refine hw_seq ?_
  refine hw_region ?_
  refine hl_v (v_move rfl) rfl ?_
  refine hl_v (v_move rfl) rfl ?_
  replace hO : Own H Z (own fInt 3 (.slice none 0 0) [] :: L) := hO.nil fInt 3
  obtain ⟨hs_8, h⟩ := h
  refine hl_h (o_append (l2 := l) hO 0 rfl rfl Try.underlying22 Try.type3 rfl rfl rfl rfl rfl rfl rfl (Rd.sl hr_2 (Own.tails [_] hO)) hs_8 (le63 hs_8 rfl)) rfl ?_
  rintro v_7 H_6 hO
  replace hO : Own H_6 Z (own fInt 3 v_7 ([] ++ l) :: L) := hO
  refine hl_v (v_assign rfl) rfl ?_
  refine hl_nil ?_
  refine thenQ_n ?_
  refine hw_sub _ (ai_cons (t := 1) rfl (ai_cons (t := 5) rfl ai_nil)) ?_
  refine hw_seq ?_
  refine hw_region ?_
  refine hl_v (v_move rfl) rfl ?_
  refine hl_v (v_move rfl) rfl ?_
  obtain ⟨hs_11, h⟩ := h
  refine hl_h (o_append (l2 := m) hO 0 rfl rfl Try.underlying22 Try.type3 rfl rfl rfl rfl rfl rfl rfl (Rd.sl hr_4 (Own.tails [_] hO)) hs_11 (le63 hs_11 rfl)) rfl ?_
  rintro v_10 H_9 hO
  replace hO : Own H_9 Z (own fInt 3 v_10 (([] ++ l) ++ m) :: L) := hO
  refine hl_v (v_assign rfl) rfl ?_
  refine hl_nil ?_
  refine thenQ_n ?_
  refine hw_sub _ (ai_cons (t := 5) rfl ai_nil) ?_
  refine hw_seq ?_
  refine hw_region ?_
  refine hl_v (v_move rfl) rfl ?_
  refine hl_v (v_assign rfl) rfl ?_
  refine hl_nil ?_
  refine thenQ_n ?_
  refine hw_sub _ (ai_cons (t := 4) rfl ai_nil) ?_
  refine hw_ret ?_
  refine ret_i _ (ra_t rfl ra_nil) ?_
  exact ⟨_, (([] ++ l) ++ m), v_10, hZ, h, rfl, hO⟩
theorem rBoth_spec {a0 : List Int} {a1 : List Int} {v_1 : Value} {v_3 : Value} {L : List As} (hp : a0.length ≤ 4096 ∧ a1.length ≤ 4096) {H : Heap} {Z : Nat → Prop} (hO : Own H Z (L)) (hr_2 : Rd fInt.rep L v_1 a0) (hr_4 : Rd fInt.rep L v_3 a1) : HC Try.prog 51 [v_1, v_3] H (fun v H' => ∃ (Z' : Nat → Prop) (v_5 : Value), (∀ b, Z b → Z' b) ∧ v = v_5 ∧ Own H' Z' (own fInt 3 v_5 ((a0 ++ a1)) :: L)) := by
  refine (rBoth_ok (l := a0) (m := a1) (@rBoth_wp a0 a1 hp) hO hr_2 hr_4).mono ?_
  rintro v H' ⟨Z', r0, v_5, hz, hq, hv, hO'⟩
  obtain rfl := hq
  exact ⟨Z', v_5, hz, hv, hO'⟩

theorem rShifted_ok {l : List GEdge} {xby : Int} {v_1 : Value} {Q : (List GEdge) → Prop} {H : Heap} {Z : Nat → Prop} {L : List As} (h : wp_rShifted l xby Q) (hO : Own H Z (L)) (hr_2 : Rd fGEdge.rep L v_1 l) : HC Try.prog 53 [v_1, .int .i64 xby] H (fun v H' => ∃ (Z' : Nat → Prop) (r0 : List GEdge) (v_3 : Value), (∀ b, Z b → Z' b) ∧ Q r0 ∧ v = v_3 ∧ Own H' Z' (own fGEdge 69 v_3 r0 :: L)) := by
  have hZ : ∀ b, Z b → Z b := fun _ h => h
  unfold wp_rShifted at h
  refine hc_of_hw (N := 37) (rs := [(.tmp 4)]) Try.func53 rfl rfl rfl rfl ?_
  refine hw_seq ?_
  refine hw_region ?_
  refine hl_v (v_assign rfl) rfl ?_
  refine hl_nil ?_
  refine thenQ_n ?_
  refine hw_sub _ (ai_cons (t := 0) rfl (ai_cons (t := 1) rfl ai_nil)) ?_
  refine hw_seq ?_
  refine hw_region ?_
  refine hl_v (v_assign rfl) rfl ?_
  refine hl_nil ?_
  refine thenQ_n ?_
  refine hw_sub _ (ai_cons (t := 0) rfl (ai_cons (t := 1) rfl (ai_cons (t := 5) rfl ai_nil))) ?_
  refine hw_seq ?_
  refine hw_seq ?_
  refine hw_region ?_
  refine hl_v (v_assign rfl) rfl ?_
  refine hl_nil ?_
  refine thenQ_n ?_
  refine hw_sub _ (ai_cons (t := 0) rfl (ai_cons (t := 1) rfl (ai_cons (t := 5) rfl (ai_cons (t := 6) rfl ai_nil)))) ?_
  refine hw_block ?_
  obtain ⟨I_5, h, hI_7⟩ := h
  replace hO : Own H Z (own fGEdge 69 (.slice none 0 0) [] :: L) := hO.nil fGEdge 69
  refine hw_lp (fun n' g' H' => ∃ (out : List GEdge) (i : Nat) (v_4 : Value) (Z' : Nat → Prop), n' = l.length - i ∧ g' = [(0, v_1), (1, .int .i64 xby), (5, v_4), (6, .int .i64 (i : Int))] ∧ (∀ b, Z b → Z' b) ∧ I_5 out i ∧ i ≤ l.length ∧ Own H' Z' (own fGEdge 69 v_4 out :: L)) _ _ (ai_cons (t := 0) rfl (ai_cons (t := 1) rfl (ai_cons (t := 5) rfl (ai_cons (t := 6) rfl ai_nil)))) ⟨[], 0, .slice none 0 0, _, rfl, rfl, hZ, h, by omega, hO⟩ ?_
  rintro _ _ H_8 ⟨out, i, v_4, Z_9, rfl, rfl, hZ, h, hb_10, hO⟩
  replace h := hI_7 out i h hb_10
  refine hw_seq ?_
  refine hw_seq ?_
  refine hw_region ?_
  refine hl_v (v_move rfl) rfl ?_
  refine hl_v (v_move rfl) rfl ?_
  have hln_11 := Sl.cap (Rd.sl hr_2 (Own.tails [_] hO))
  refine hl_v (v_lenL rfl Try.underlying23 rfl (Rd.sl hr_2 (Own.tails [_] hO))) rfl ?_
  refine hl_v (v_lss rfl rfl) rfl ?_
  refine hl_nil ?_
  refine thenQ_n ?_
  refine hw_sub _ (ai_cons (t := 0) rfl (ai_cons (t := 1) rfl (ai_cons (t := 5) rfl (ai_cons (t := 6) rfl (ai_cons (t := 10) rfl ai_nil))))) ?_
  refine hw_cond rfl (fun hc_12 => ?_) (fun hc_12 => ?_)
  · replace h := ite_t h hc_12
    refine hw_skip ?_
    refine thenQ_n ?_
    refine hw_seq ?_
    refine hw_block ?_
    refine hw_held2 23 (fun H' => ∃ Z' : Nat → Prop, Own H' Z' (L)) (.step 0 false (.step 1 false (.step 2 false (.step 3 false (.step 4 false (.step 5 false (.step 6 false (.step 7 false (.step 8 false (.step 9 false (.step 10 false (.step 11 false (.step 12 false (.step 13 false (.step 14 false (.step 15 false (.step 16 false (.step 17 false (.step 18 false (.step 19 false (.step 20 false (.step 21 true (.step 22 true .done))))))))))))))))))))))) (.step 23 true .done) Try.mixed (by kernel_rfl) ⟨_, (Own.sel (Ls := [own fGEdge 69 v_4 out]) (L := L) [] rfl hO)⟩ ?_
    refine hd_v rfl (fun _ _ => (v_move rfl)) rfl ?_
    refine hd_v rfl (fun _ _ => (v_move rfl)) rfl ?_
    refine hd_v rfl (fun _ _ => (v_move rfl)) rfl ?_
    refine hd_v rfl (fun H' hS => by obtain ⟨Z', hO⟩ := hS; exact (v_ixL Try.underlying23 Try.sizeOf69 rfl rfl (Rd.sl hr_2 hO) (by exact ⟨Int.natCast_nonneg _, of_decide_eq_true hc_12⟩))) rfl ?_
    refine hd_v rfl (fun _ _ => (v_fieldA Try.underlying69 rfl Try.sizeOf3 rfl)) rfl ?_
    refine hd_v rfl (fun H' hS => by obtain ⟨Z', hO⟩ := hS; exact (v_loadSub (j := 0) Try.isAgg3 rfl (Rd.sl hr_2 hO) rfl (by exact ⟨Int.natCast_nonneg _, of_decide_eq_true hc_12⟩) rfl)) rfl ?_
    refine hd_v rfl (fun _ _ => (v_move rfl)) rfl ?_
    obtain ⟨hs_13, h⟩ := h
    refine hd_v rfl (fun _ _ => (v_add rfl rfl hs_13)) rfl ?_
    refine hd_v rfl (fun _ _ => (v_move rfl)) rfl ?_
    refine hd_v rfl (fun _ _ => (v_move rfl)) rfl ?_
    refine hd_v rfl (fun H' hS => by obtain ⟨Z', hO⟩ := hS; exact (v_ixL Try.underlying23 Try.sizeOf69 rfl rfl (Rd.sl hr_2 hO) (by exact ⟨Int.natCast_nonneg _, of_decide_eq_true hc_12⟩))) rfl ?_
    refine hd_v rfl (fun _ _ => (v_fieldA Try.underlying69 rfl Try.sizeOf3 rfl)) rfl ?_
    refine hd_v rfl (fun H' hS => by obtain ⟨Z', hO⟩ := hS; exact (v_loadSub (j := 1) Try.isAgg3 rfl (Rd.sl hr_2 hO) rfl (by exact ⟨Int.natCast_nonneg _, of_decide_eq_true hc_12⟩) rfl)) rfl ?_
    refine hd_v rfl (fun _ _ => (v_move rfl)) rfl ?_
    obtain ⟨hs_14, h⟩ := h
    refine hd_v rfl (fun _ _ => (v_add rfl rfl hs_14)) rfl ?_
    refine hd_v rfl (fun _ _ => (v_move rfl)) rfl ?_
    refine hd_v rfl (fun _ _ => (v_move rfl)) rfl ?_
    refine hd_v rfl (fun H' hS => by obtain ⟨Z', hO⟩ := hS; exact (v_ixL Try.underlying23 Try.sizeOf69 rfl rfl (Rd.sl hr_2 hO) (by exact ⟨Int.natCast_nonneg _, of_decide_eq_true hc_12⟩))) rfl ?_
    refine hd_v rfl (fun _ _ => (v_fieldA Try.underlying69 rfl Try.sizeOf34 rfl)) rfl ?_
    refine hd_v rfl (fun H' hS => by obtain ⟨Z', hO⟩ := hS; exact (v_loadSubA (o := 2) Try.isAgg34 Try.sizeOf34 rfl (Rd.sl hr_2 hO) rfl (by exact ⟨Int.natCast_nonneg _, of_decide_eq_true hc_12⟩) rfl)) rfl ?_
    refine hd_v rfl (fun _ _ => (v_buildF (cs := (fGEdge.enc (⟨((l.getD i default).From + xby), ((l.getD i default).To + xby), (l.getD i default).Set⟩ : GEdge))) (xs := [.tmp 20, .tmp 27, .tmp 32]) (is := [0, 1, 2]) rfl (evs_cons rfl (evs_cons rfl (evs_cons rfl evs_nil))) (fun w => by show _ = _; kernel_rfl))) rfl ?_
    refine hd_h (o_lit (g := fGEdge) (l := [(⟨((l.getD i default).From + xby), ((l.getD i default).To + xby), (l.getD i default).Set⟩ : GEdge)]) (xs := [.tmp 33]) hO Try.underlying23 Try.sizeOf69 Try.zeroValue69 rfl (evs_cons rfl evs_nil) rfl rfl rfl rfl rfl) (by rintro v_16 H_15 hO; exact ⟨_, (Own.sel (Ls := [own fGEdge 69 v_16 [(⟨((l.getD i default).From + xby), ((l.getD i default).To + xby), (l.getD i default).Set⟩ : GEdge)], own fGEdge 69 v_4 out]) (L := L) [] rfl hO)⟩) rfl ?_
    rintro v_16 H_15 hO
    replace hO : Own H_15 Z_9 (own fGEdge 69 v_16 [(⟨((l.getD i default).From + xby), ((l.getD i default).To + xby), (l.getD i default).Set⟩ : GEdge)] :: own fGEdge 69 v_4 out :: L) := hO
    obtain ⟨hs_19, h⟩ := h
    refine hd_h (o_append (l2 := [(⟨((l.getD i default).From + xby), ((l.getD i default).To + xby), (l.getD i default).Set⟩ : GEdge)]) hO 1 rfl rfl Try.underlying23 Try.type69 rfl rfl rfl rfl rfl rfl rfl (hO.osl 0 rfl) hs_19 (le63 hs_19 rfl)) (by rintro v_18 H_17 hO; exact ⟨_, (Own.sel (Ls := [own fGEdge 69 v_16 [(⟨((l.getD i default).From + xby), ((l.getD i default).To + xby), (l.getD i default).Set⟩ : GEdge)], own fGEdge 69 v_18 (out ++ [(⟨((l.getD i default).From + xby), ((l.getD i default).To + xby), (l.getD i default).Set⟩ : GEdge)])]) (L := L) [] rfl hO)⟩) rfl ?_
    rintro v_18 H_17 hO
    replace hO : Own H_17 Z_9 (own fGEdge 69 v_16 [(⟨((l.getD i default).From + xby), ((l.getD i default).To + xby), (l.getD i default).Set⟩ : GEdge)] :: own fGEdge 69 v_18 (out ++ [(⟨((l.getD i default).From + xby), ((l.getD i default).To + xby), (l.getD i default).Set⟩ : GEdge)]) :: L) := hO
    refine hd_nil ?_
    refine hd_h (OpV.toH (v_assign rfl)) (fun _ _ hR => trivial) rfl ?_
    rintro vv HH ⟨hvv, hHH⟩
    obtain rfl := hvv.symm
    obtain rfl := hHH.symm
    refine hd_nil ?_
    refine blockQ_n ?_
    refine thenQ_n ?_
    refine hw_region ?_
    refine hl_v (v_move rfl) rfl ?_
    refine hl_v (v_add rfl rfl (by have hq := of_decide_eq_true hc_12; have hm := hln_11; constructor <;> omega)) rfl ?_
    refine hl_v (v_assign rfl) rfl ?_
    refine hl_nil ?_
    refine thenQ_n ?_
    exact ⟨_, _, (ai_cons (t := 0) rfl (ai_cons (t := 1) rfl (ai_cons (t := 5) rfl (ai_cons (t := 6) rfl ai_nil)))), ⟨(out ++ [(⟨((l.getD i default).From + xby), ((l.getD i default).To + xby), (l.getD i default).Set⟩ : GEdge)]), i + 1, v_18, _, rfl, rfl, hZ, h, (by have hq := of_decide_eq_true hc_12; omega), (Own.sel (Ls := [own fGEdge 69 v_16 [(⟨((l.getD i default).From + xby), ((l.getD i default).To + xby), (l.getD i default).Set⟩ : GEdge)], own fGEdge 69 v_18 (out ++ [(⟨((l.getD i default).From + xby), ((l.getD i default).To + xby), (l.getD i default).Set⟩ : GEdge)])]) (L := L) [1] rfl hO)⟩, (by have hq := of_decide_eq_true hc_12; omega)⟩
  · replace h := ite_f h hc_12
    refine hw_exit ?_
    refine thenQ_e ?_
    refine thenQ_e ?_
    refine blockQ_hit ?_
    refine thenQ_n ?_
    refine hw_seq ?_
    refine hw_region ?_
    refine hl_v (v_move rfl) rfl ?_
    refine hl_v (v_assign rfl) rfl ?_
    refine hl_nil ?_
    refine thenQ_n ?_
    refine hw_sub _ (ai_cons (t := 4) rfl ai_nil) ?_
    refine hw_ret ?_
    refine ret_i _ (ra_t rfl ra_nil) ?_
    exact ⟨_, out, v_4, hZ, h, rfl, hO⟩
theorem rShifted_spec {a0 : List GEdge} {a1 : Int} {v_1 : Value} {L : List As} (hp : (a0.length ≤ 65536 ∧ ∀ x ∈ a0, i64 (x.From + a1) ∧ i64 (x.To + a1))) {H : Heap} {Z : Nat → Prop} (hO : Own H Z (L)) (hr_2 : Rd fGEdge.rep L v_1 a0) : HC Try.prog 53 [v_1, .int .i64 a1] H (fun v H' => ∃ (Z' : Nat → Prop) (v_3 : Value), (∀ b, Z b → Z' b) ∧ v = v_3 ∧ Own H' Z' (own fGEdge 69 v_3 ((a0.map (eBy a1))) :: L)) := by
  refine (rShifted_ok (l := a0) (xby := a1) (@rShifted_wp a0 a1 hp) hO hr_2).mono ?_
  rintro v H' ⟨Z', r0, v_3, hz, hq, hv, hO'⟩
  obtain rfl := hq
  exact ⟨Z', v_3, hz, hv, hO'⟩

theorem rEnd_ok {n : GNfa} {v_1 : Value} {v_2 : Value} {v_3 : Value} {Q : GNfa → Int → Prop} {H : Heap} {Z : Nat → Prop} {L : List As} (h : wp_rEnd n Q) (hO : Own H Z (own fInt 3 v_1 n.Starts :: own fInt 3 v_2 n.Ends :: own fGEdge 69 v_3 n.Edges :: L))  : HC Try.prog 54 [.agg [.int .i64 n.States, v_1, v_2, v_3].toArray] H (fun v H' => ∃ (Z' : Nat → Prop) (r0 : GNfa) (r1 : Int) (v_4 : Value) (v_5 : Value) (v_6 : Value), (∀ b, Z b → Z' b) ∧ Q r0 r1 ∧ v = .tuple #[.agg [.int .i64 r0.States, v_4, v_5, v_6].toArray, .int .i64 r1] ∧ Own H' Z' (own fInt 3 v_4 r0.Starts :: own fInt 3 v_5 r0.Ends :: own fGEdge 69 v_6 r0.Edges :: L)) := by
  have hZ : ∀ b, Z b → Z b := fun _ h => h
  unfold wp_rEnd at h
  refine hc_of_hw (N := 15) (rs := [(.cell 2 25), (.tmp 3)]) Try.func54 rfl rfl rfl rfl ?_
  refine hw_seq ?_
  refine hw_region ?_
  refine hl_h (o_box (cs := [.int .i64 n.States, v_1, v_2, v_3]) hO rfl rfl) rfl ?_
  rintro _ H_7 ⟨b_8, rfl, hO⟩
  replace hO : Own H_7 Z (box b_8 [.int .i64 n.States, v_1, v_2, v_3] 25 :: own fInt 3 v_1 n.Starts :: own fInt 3 v_2 n.Ends :: own fGEdge 69 v_3 n.Edges :: L) := hO
  refine hl_h (o_alloc (cs := [.int .i64 (0 : Int), .slice none 0 0, .slice none 0 0, .slice none 0 0]) hO Try.zeroValue25 rfl) rfl ?_
  rintro _ H_9 ⟨b_10, rfl, hO⟩
  replace hO : Own H_9 Z (box b_10 [.int .i64 (0 : Int), .slice none 0 0, .slice none 0 0, .slice none 0 0] 25 :: box b_8 [.int .i64 n.States, v_1, v_2, v_3] 25 :: own fInt 3 v_1 n.Starts :: own fInt 3 v_2 n.Ends :: own fGEdge 69 v_3 n.Edges :: L) := hO
  refine hl_v (v_assign rfl) rfl ?_
  refine hl_nil ?_
  refine thenQ_n ?_
  refine hw_sub _ (ai_cons (t := 1) rfl (ai_cons (t := 2) rfl ai_nil)) ?_
  refine hw_seq ?_
  refine hw_seq ?_
  refine hw_region ?_
  refine hl_v (v_fieldA Try.underlying25 rfl Try.sizeOf3 rfl) rfl ?_
  refine hl_v (v_load1 Try.isAgg3 rfl (Blk.cell (hO.box 1 rfl) rfl)) rfl ?_
  refine hl_v (v_gtr rfl rfl) rfl ?_
  refine hl_v (v_move rfl) rfl ?_
  refine hl_g rfl rfl (fun hg => (v_fieldA Try.underlying25 rfl Try.sizeOf23 rfl)) rfl ?_
  refine hl_g rfl rfl (fun hg => (v_load1 Try.isAgg23 (gv_ok rfl hg) (Blk.cell (hO.box 1 rfl) rfl))) rfl ?_
  have hln_11 := Sl.cap (hO.osl 4 rfl)
  refine hl_g rfl rfl (fun hg => (v_lenL rfl Try.underlying23 (gv_ok rfl hg) (hO.osl 4 rfl))) rfl ?_
  refine hl_g rfl rfl (fun hg => (v_gtr (gv_ok rfl hg) rfl)) rfl ?_
  refine hl_v (v_or rfl rfl) rfl ?_
  refine hl_nil ?_
  refine thenQ_n ?_
  refine hw_sub _ (ai_cons (t := 1) rfl (ai_cons (t := 2) rfl (ai_cons (t := 12) rfl ai_nil))) ?_
  refine hw_cond rfl (fun hc_12 => ?_) (fun hc_12 => ?_)
  · replace h := ite_t h hc_12
    refine hw_seq ?_
    refine hw_region ?_
    refine hl_v (v_buildF (cs := [.int .i64 (0 : Int), .slice none 0 0, .slice none 0 0, .slice none 0 0]) (xs := []) (is := []) rfl evs_nil (fun w => by show _ = _; kernel_rfl)) rfl ?_
    refine hl_s (o_storeA (us := [.int .i64 (0 : Int), .slice none 0 0, .slice none 0 0, .slice none 0 0]) hO 0 rfl Try.sizeOf25 rfl rfl rfl rfl (by simp only [List.forall_mem_cons]; exact ⟨rfl, rfl, rfl, rfl, by simp⟩)) ?_
    rintro _ H_13 hO
    replace hO : Own H_13 Z (box b_10 [.int .i64 (0 : Int), .slice none 0 0, .slice none 0 0, .slice none 0 0] 25 :: box b_8 [.int .i64 n.States, v_1, v_2, v_3] 25 :: own fInt 3 v_1 n.Starts :: own fInt 3 v_2 n.Ends :: own fGEdge 69 v_3 n.Edges :: L) := hO
    refine hl_v (v_assign rfl) rfl ?_
    refine hl_nil ?_
    refine thenQ_n ?_
    refine hw_sub _ (ai_cons (t := 2) rfl (ai_cons (t := 3) rfl ai_nil)) ?_
    refine hw_ret ?_
    refine thenQ_r ?_
    replace hO : Own H_13 Z (own fInt 3 (.slice none 0 0) [] :: box b_10 [.int .i64 (0 : Int), .slice none 0 0, .slice none 0 0, .slice none 0 0] 25 :: box b_8 [.int .i64 n.States, v_1, v_2, v_3] 25 :: own fInt 3 v_1 n.Starts :: own fInt 3 v_2 n.Ends :: own fGEdge 69 v_3 n.Edges :: L) := hO.nil fInt 3
    replace hO : Own H_13 Z (own fInt 3 (.slice none 0 0) [] :: own fInt 3 (.slice none 0 0) [] :: box b_10 [.int .i64 (0 : Int), .slice none 0 0, .slice none 0 0, .slice none 0 0] 25 :: box b_8 [.int .i64 n.States, v_1, v_2, v_3] 25 :: own fInt 3 v_1 n.Starts :: own fInt 3 v_2 n.Ends :: own fGEdge 69 v_3 n.Edges :: L) := hO.nil fInt 3
    replace hO : Own H_13 Z (own fGEdge 69 (.slice none 0 0) [] :: own fInt 3 (.slice none 0 0) [] :: own fInt 3 (.slice none 0 0) [] :: box b_10 [.int .i64 (0 : Int), .slice none 0 0, .slice none 0 0, .slice none 0 0] 25 :: box b_8 [.int .i64 n.States, v_1, v_2, v_3] 25 :: own fInt 3 v_1 n.Starts :: own fInt 3 v_2 n.Ends :: own fGEdge 69 v_3 n.Edges :: L) := hO.nil fGEdge 69
    refine ret_i _ (ra_c rfl (fun w hw => run_loadVar_at (cs := [.int .i64 (0 : Int), .slice none 0 0, .slice none 0 0, .slice none 0 0]) Try.isAgg25 Try.sizeOf25 (Blk.at0 (hO.box 3 rfl)) rfl w hw) (ra_t rfl ra_nil)) ?_
    exact ⟨_, (⟨(0 : Int), [], [], []⟩ : GNfa), 2, .slice none 0 0, .slice none 0 0, .slice none 0 0, hZ, h, rfl, (Own.sel (Ls := [own fGEdge 69 (.slice none 0 0) [], own fInt 3 (.slice none 0 0) [], own fInt 3 (.slice none 0 0) [], box b_10 [.int .i64 (0 : Int), .slice none 0 0, .slice none 0 0, .slice none 0 0] 25, box b_8 [.int .i64 n.States, v_1, v_2, v_3] 25, own fInt 3 v_1 n.Starts, own fInt 3 v_2 n.Ends, own fGEdge 69 v_3 n.Edges]) (L := L) [2, 1, 0] rfl hO)⟩
  · replace h := ite_f h hc_12
    refine hw_skip ?_
    refine thenQ_n ?_
    refine hw_seq ?_
    refine hw_region ?_
    refine hl_v (v_loadA Try.isAgg25 Try.sizeOf25 rfl (Blk.at0 (hO.box 1 rfl)) rfl) rfl ?_
    refine hl_s (o_storeA (us := [.int .i64 n.States, v_1, v_2, v_3]) hO 0 rfl Try.sizeOf25 rfl rfl rfl rfl (by simp only [List.forall_mem_cons]; exact ⟨rfl, (Sl.one (hO.osl 2 rfl)), (Sl.one (hO.osl 3 rfl)), (Sl.one (hO.osl 4 rfl)), by simp⟩)) ?_
    rintro _ H_14 hO
    replace hO : Own H_14 Z (box b_10 [.int .i64 n.States, v_1, v_2, v_3] 25 :: box b_8 [.int .i64 n.States, v_1, v_2, v_3] 25 :: own fInt 3 v_1 n.Starts :: own fInt 3 v_2 n.Ends :: own fGEdge 69 v_3 n.Edges :: L) := hO
    refine hl_v (v_assign rfl) rfl ?_
    refine hl_nil ?_
    refine thenQ_n ?_
    refine hw_sub _ (ai_cons (t := 2) rfl (ai_cons (t := 3) rfl ai_nil)) ?_
    refine hw_ret ?_
    refine ret_i _ (ra_c rfl (fun w hw => run_loadVar_at (cs := [.int .i64 n.States, v_1, v_2, v_3]) Try.isAgg25 Try.sizeOf25 (Blk.at0 (hO.box 0 rfl)) rfl w hw) (ra_t rfl ra_nil)) ?_
    exact ⟨_, n, 0, v_1, v_2, v_3, hZ, h, rfl, (Own.sel (Ls := [box b_10 [.int .i64 n.States, v_1, v_2, v_3] 25, box b_8 [.int .i64 n.States, v_1, v_2, v_3] 25, own fInt 3 v_1 n.Starts, own fInt 3 v_2 n.Ends, own fGEdge 69 v_3 n.Edges]) (L := L) [2, 3, 4] rfl hO)⟩
theorem rEnd_spec {a0 : GNfa} {v_1 : Value} {v_2 : Value} {v_3 : Value} {L : List As} {H : Heap} {Z : Nat → Prop} (hO : Own H Z (own fInt 3 v_1 a0.Starts :: own fInt 3 v_2 a0.Ends :: own fGEdge 69 v_3 a0.Edges :: L))  : HC Try.prog 54 [.agg [.int .i64 a0.States, v_1, v_2, v_3].toArray] H (fun v H' => ∃ (Z' : Nat → Prop) (v_4 : Value) (v_5 : Value) (v_6 : Value), (∀ b, Z b → Z' b) ∧ v = .tuple #[.agg [.int .i64 ((nEnd a0).1).States, v_4, v_5, v_6].toArray, .int .i64 ((nEnd a0).2)] ∧ Own H' Z' (own fInt 3 v_4 ((nEnd a0).1).Starts :: own fInt 3 v_5 ((nEnd a0).1).Ends :: own fGEdge 69 v_6 ((nEnd a0).1).Edges :: L)) := by
  refine (rEnd_ok (n := a0) (@rEnd_wp a0) hO).mono ?_
  rintro v H' ⟨Z', r0, r1, v_4, v_5, v_6, hz, hq, hv, hO'⟩
  obtain ⟨rfl, rfl⟩ := hq
  exact ⟨Z', v_4, v_5, v_6, hz, hv, hO'⟩

theorem rAlt_ok {a : GNfa} {b : GNfa} {v_1 : Value} {v_3 : Value} {v_5 : Value} {v_7 : Value} {v_9 : Value} {v_11 : Value} {Q : GNfa → Int → Prop} {H : Heap} {Z : Nat → Prop} {L : List As} (h : wp_rAlt a b Q) (hO : Own H Z (L)) (hf_2 : Fz fInt.rep L v_1 a.Starts) (hf_4 : Fz fInt.rep L v_3 a.Ends) (hf_6 : Fz fGEdge.rep L v_5 a.Edges) (hf_8 : Fz fInt.rep L v_7 b.Starts) (hf_10 : Fz fInt.rep L v_9 b.Ends) (hf_12 : Fz fGEdge.rep L v_11 b.Edges) : HC Try.prog 20 [.agg [.int .i64 a.States, v_1, v_3, v_5].toArray, .agg [.int .i64 b.States, v_7, v_9, v_11].toArray] H (fun v H' => ∃ (Z' : Nat → Prop) (r0 : GNfa) (r1 : Int) (v_13 : Value) (v_14 : Value) (v_15 : Value), (∀ b, Z b → Z' b) ∧ Q r0 r1 ∧ v = .tuple #[.agg [.int .i64 r0.States, v_13, v_14, v_15].toArray, .int .i64 r1] ∧ Own H' Z' (own fInt 3 v_13 r0.Starts :: own fInt 3 v_14 r0.Ends :: own fGEdge 69 v_15 r0.Edges :: L)) := by
  have hZ : ∀ b, Z b → Z b := fun _ h => h
  replace hO := Fz.item hf_2 hO
  replace hO := Fz.items [_] hf_4 hO
  replace hO := Fz.items [_, _] hf_6 hO
  replace hO := Fz.items [_, _, _] hf_8 hO
  replace hO := Fz.items [_, _, _, _] hf_10 hO
  replace hO := Fz.items [_, _, _, _, _] hf_12 hO
  unfold wp_rAlt at h
  refine hc_of_hw (N := 57) (rs := [(.cell 4 25), (.tmp 5)]) Try.func20 rfl rfl rfl rfl ?_
  refine hw_seq ?_
  refine hw_region ?_
  refine hl_h (o_box (cs := [.int .i64 a.States, v_1, v_3, v_5]) hO rfl rfl) rfl ?_
  rintro _ H_16 ⟨b_17, rfl, hO⟩
  replace hO : Own H_16 Z (box b_17 [.int .i64 a.States, v_1, v_3, v_5] 25 :: fz fGEdge.rep v_11 b.Edges :: fz fInt.rep v_9 b.Ends :: fz fInt.rep v_7 b.Starts :: fz fGEdge.rep v_5 a.Edges :: fz fInt.rep v_3 a.Ends :: fz fInt.rep v_1 a.Starts :: L) := hO
  refine hl_h (o_box (cs := [.int .i64 b.States, v_7, v_9, v_11]) hO rfl rfl) rfl ?_
  rintro _ H_18 ⟨b_19, rfl, hO⟩
  replace hO : Own H_18 Z (box b_19 [.int .i64 b.States, v_7, v_9, v_11] 25 :: box b_17 [.int .i64 a.States, v_1, v_3, v_5] 25 :: fz fGEdge.rep v_11 b.Edges :: fz fInt.rep v_9 b.Ends :: fz fInt.rep v_7 b.Starts :: fz fGEdge.rep v_5 a.Edges :: fz fInt.rep v_3 a.Ends :: fz fInt.rep v_1 a.Starts :: L) := hO
  refine hl_h (o_alloc (cs := [.int .i64 (0 : Int), .slice none 0 0, .slice none 0 0, .slice none 0 0]) hO Try.zeroValue25 rfl) rfl ?_
  rintro _ H_20 ⟨b_21, rfl, hO⟩
  replace hO : Own H_20 Z (box b_21 [.int .i64 (0 : Int), .slice none 0 0, .slice none 0 0, .slice none 0 0] 25 :: box b_19 [.int .i64 b.States, v_7, v_9, v_11] 25 :: box b_17 [.int .i64 a.States, v_1, v_3, v_5] 25 :: fz fGEdge.rep v_11 b.Edges :: fz fInt.rep v_9 b.Ends :: fz fInt.rep v_7 b.Starts :: fz fGEdge.rep v_5 a.Edges :: fz fInt.rep v_3 a.Ends :: fz fInt.rep v_1 a.Starts :: L) := hO
  refine hl_v (v_assign rfl) rfl ?_
  refine hl_nil ?_
  refine thenQ_n ?_
  refine hw_sub _ (ai_cons (t := 2) rfl (ai_cons (t := 3) rfl (ai_cons (t := 4) rfl ai_nil))) ?_
  refine hw_seq ?_
  refine hw_seq ?_
  refine hw_region ?_
  refine hl_v (v_loadA Try.isAgg25 Try.sizeOf25 rfl (Blk.at0 (hO.box 2 rfl)) rfl) rfl ?_
  obtain ⟨hs_22, h⟩ := h
  refine hl_h (h_call Try.call39 (evs_cons rfl evs_nil) (rRight_spec (a0 := a) hs_22 hO (Fz.of (i := 8) rfl) (Fz.of (i := 7) rfl) (Fz.of (i := 6) rfl))) rfl ?_
  rintro vv H_23 ⟨Z_24, hz_25, hv, hO⟩
  obtain rfl := hv.symm
  replace hZ := fun b hb => hz_25 b (hZ b hb)
  replace hO : Own H_23 Z_24 (box b_21 [.int .i64 (0 : Int), .slice none 0 0, .slice none 0 0, .slice none 0 0] 25 :: box b_19 [.int .i64 b.States, v_7, v_9, v_11] 25 :: box b_17 [.int .i64 a.States, v_1, v_3, v_5] 25 :: fz fGEdge.rep v_11 b.Edges :: fz fInt.rep v_9 b.Ends :: fz fInt.rep v_7 b.Starts :: fz fGEdge.rep v_5 a.Edges :: fz fInt.rep v_3 a.Ends :: fz fInt.rep v_1 a.Starts :: L) := hO
  refine hl_v (v_not rfl) rfl ?_
  refine hl_v (v_move rfl) rfl ?_
  refine hl_g rfl rfl (fun hg => (v_loadA Try.isAgg25 Try.sizeOf25 rfl (Blk.at0 (hO.box 1 rfl)) rfl)) rfl ?_
  obtain ⟨hs_26, h⟩ := h
  refine hl_gc (v := .bool (nRight b)) (R := fun H' => ∃ Z' : Nat → Prop, (∀ b, Z_24 b → Z' b) ∧ Own H' Z' (box b_21 [.int .i64 (0 : Int), .slice none 0 0, .slice none 0 0, .slice none 0 0] 25 :: box b_19 [.int .i64 b.States, v_7, v_9, v_11] 25 :: box b_17 [.int .i64 a.States, v_1, v_3, v_5] 25 :: fz fGEdge.rep v_11 b.Edges :: fz fInt.rep v_9 b.Ends :: fz fInt.rep v_7 b.Starts :: fz fGEdge.rep v_5 a.Edges :: fz fInt.rep v_3 a.Ends :: fz fInt.rep v_1 a.Starts :: L)) rfl rfl (fun hg => OpH.mono (h_call Try.call39 (evs_cons (gv_ok rfl hg) evs_nil) (rRight_spec (a0 := b) (hs_26 (gb_bool hg)) hO (Fz.of (i := 5) rfl) (Fz.of (i := 4) rfl) (Fz.of (i := 3) rfl))) (by rintro _ H' ⟨Z', hz, rfl, hO⟩; exact ⟨rfl, Z', hz, hO⟩)) ⟨_, fun _ h => h, hO⟩ rfl ?_
  rintro H_27 ⟨Z_28, hz_29, hO⟩
  replace hZ := fun b hb => hz_29 b (hZ b hb)
  replace hO : Own H_27 Z_28 (box b_21 [.int .i64 (0 : Int), .slice none 0 0, .slice none 0 0, .slice none 0 0] 25 :: box b_19 [.int .i64 b.States, v_7, v_9, v_11] 25 :: box b_17 [.int .i64 a.States, v_1, v_3, v_5] 25 :: fz fGEdge.rep v_11 b.Edges :: fz fInt.rep v_9 b.Ends :: fz fInt.rep v_7 b.Starts :: fz fGEdge.rep v_5 a.Edges :: fz fInt.rep v_3 a.Ends :: fz fInt.rep v_1 a.Starts :: L) := hO
  refine hl_g rfl rfl (fun hg => (v_not (gv_ok rfl hg))) rfl ?_
  refine hl_v (v_or rfl rfl) rfl ?_
  refine hl_nil ?_
  refine thenQ_n ?_
  refine hw_sub _ (ai_cons (t := 2) rfl (ai_cons (t := 3) rfl (ai_cons (t := 4) rfl (ai_cons (t := 14) rfl ai_nil)))) ?_
  refine hw_cond rfl (fun hc_30 => ?_) (fun hc_30 => ?_)
  · replace h := ite_t h hc_30
    refine hw_seq ?_
    refine hw_region ?_
    refine hl_v (v_buildF (cs := [.int .i64 (0 : Int), .slice none 0 0, .slice none 0 0, .slice none 0 0]) (xs := []) (is := []) rfl evs_nil (fun w => by show _ = _; kernel_rfl)) rfl ?_
    refine hl_s (o_storeA (us := [.int .i64 (0 : Int), .slice none 0 0, .slice none 0 0, .slice none 0 0]) hO 0 rfl Try.sizeOf25 rfl rfl rfl rfl (by simp only [List.forall_mem_cons]; exact ⟨rfl, rfl, rfl, rfl, by simp⟩)) ?_
    rintro _ H_31 hO
    replace hO : Own H_31 Z_28 (box b_21 [.int .i64 (0 : Int), .slice none 0 0, .slice none 0 0, .slice none 0 0] 25 :: box b_19 [.int .i64 b.States, v_7, v_9, v_11] 25 :: box b_17 [.int .i64 a.States, v_1, v_3, v_5] 25 :: fz fGEdge.rep v_11 b.Edges :: fz fInt.rep v_9 b.Ends :: fz fInt.rep v_7 b.Starts :: fz fGEdge.rep v_5 a.Edges :: fz fInt.rep v_3 a.Ends :: fz fInt.rep v_1 a.Starts :: L) := hO
    refine hl_v (v_assign rfl) rfl ?_
    refine hl_nil ?_
    refine thenQ_n ?_
    refine hw_sub _ (ai_cons (t := 4) rfl (ai_cons (t := 5) rfl ai_nil)) ?_
    refine hw_ret ?_
    refine thenQ_r ?_
    replace hO : Own H_31 Z_28 (own fInt 3 (.slice none 0 0) [] :: box b_21 [.int .i64 (0 : Int), .slice none 0 0, .slice none 0 0, .slice none 0 0] 25 :: box b_19 [.int .i64 b.States, v_7, v_9, v_11] 25 :: box b_17 [.int .i64 a.States, v_1, v_3, v_5] 25 :: fz fGEdge.rep v_11 b.Edges :: fz fInt.rep v_9 b.Ends :: fz fInt.rep v_7 b.Starts :: fz fGEdge.rep v_5 a.Edges :: fz fInt.rep v_3 a.Ends :: fz fInt.rep v_1 a.Starts :: L) := hO.nil fInt 3
    replace hO : Own H_31 Z_28 (own fInt 3 (.slice none 0 0) [] :: own fInt 3 (.slice none 0 0) [] :: box b_21 [.int .i64 (0 : Int), .slice none 0 0, .slice none 0 0, .slice none 0 0] 25 :: box b_19 [.int .i64 b.States, v_7, v_9, v_11] 25 :: box b_17 [.int .i64 a.States, v_1, v_3, v_5] 25 :: fz fGEdge.rep v_11 b.Edges :: fz fInt.rep v_9 b.Ends :: fz fInt.rep v_7 b.Starts :: fz fGEdge.rep v_5 a.Edges :: fz fInt.rep v_3 a.Ends :: fz fInt.rep v_1 a.Starts :: L) := hO.nil fInt 3
    replace hO : Own H_31 Z_28 (own fGEdge 69 (.slice none 0 0) [] :: own fInt 3 (.slice none 0 0) [] :: own fInt 3 (.slice none 0 0) [] :: box b_21 [.int .i64 (0 : Int), .slice none 0 0, .slice none 0 0, .slice none 0 0] 25 :: box b_19 [.int .i64 b.States, v_7, v_9, v_11] 25 :: box b_17 [.int .i64 a.States, v_1, v_3, v_5] 25 :: fz fGEdge.rep v_11 b.Edges :: fz fInt.rep v_9 b.Ends :: fz fInt.rep v_7 b.Starts :: fz fGEdge.rep v_5 a.Edges :: fz fInt.rep v_3 a.Ends :: fz fInt.rep v_1 a.Starts :: L) := hO.nil fGEdge 69
    refine ret_i _ (ra_c rfl (fun w hw => run_loadVar_at (cs := [.int .i64 (0 : Int), .slice none 0 0, .slice none 0 0, .slice none 0 0]) Try.isAgg25 Try.sizeOf25 (Blk.at0 (hO.box 3 rfl)) rfl w hw) (ra_t rfl ra_nil)) ?_
    exact ⟨_, (⟨(0 : Int), [], [], []⟩ : GNfa), 1, .slice none 0 0, .slice none 0 0, .slice none 0 0, hZ, h, rfl, (Own.sel (Ls := [own fGEdge 69 (.slice none 0 0) [], own fInt 3 (.slice none 0 0) [], own fInt 3 (.slice none 0 0) [], box b_21 [.int .i64 (0 : Int), .slice none 0 0, .slice none 0 0, .slice none 0 0] 25, box b_19 [.int .i64 b.States, v_7, v_9, v_11] 25, box b_17 [.int .i64 a.States, v_1, v_3, v_5] 25, fz fGEdge.rep v_11 b.Edges, fz fInt.rep v_9 b.Ends, fz fInt.rep v_7 b.Starts, fz fGEdge.rep v_5 a.Edges, fz fInt.rep v_3 a.Ends, fz fInt.rep v_1 a.Starts]) (L := L) [2, 1, 0] rfl hO)⟩
  · replace h := ite_f h hc_30
    refine hw_skip ?_
    refine thenQ_n ?_
    refine hw_seq ?_
    refine hw_hj (fun f' H' => ∃ (v_34 : Value) (v_39 : Value) (v_44 : Value) (v_49 : Value) (b_56 : Nat) (Z' : Nat → Prop), AllIn f' [(2, ptr b_17 0), (3, ptr b_19 0), (4, ptr b_21 0), (6, ptr b_56 0)] ∧ (∀ b, Z b → Z' b) ∧ Own H' Z' (box b_56 [.int .i64 (a.States + b.States), v_39, v_49, .slice none 0 0] 25 :: own fInt 3 v_49 (a.Ends ++ (b.Ends.map (· + a.States))) :: own fInt 3 v_44 (b.Ends.map (· + a.States)) :: own fInt 3 v_39 (a.Starts ++ (b.Starts.map (· + a.States))) :: own fInt 3 v_34 (b.Starts.map (· + a.States)) :: box b_21 [.int .i64 (0 : Int), .slice none 0 0, .slice none 0 0, .slice none 0 0] 25 :: box b_19 [.int .i64 b.States, v_7, v_9, v_11] 25 :: box b_17 [.int .i64 a.States, v_1, v_3, v_5] 25 :: fz fGEdge.rep v_11 b.Edges :: fz fInt.rep v_9 b.Ends :: fz fInt.rep v_7 b.Starts :: fz fGEdge.rep v_5 a.Edges :: fz fInt.rep v_3 a.Ends :: fz fInt.rep v_1 a.Starts :: L)) ?_ ?_
    · skip
      refine hw_held2 23 (fun H' => ∃ Z' : Nat → Prop, Own H' Z' (box b_21 [.int .i64 (0 : Int), .slice none 0 0, .slice none 0 0, .slice none 0 0] 25 :: box b_19 [.int .i64 b.States, v_7, v_9, v_11] 25 :: box b_17 [.int .i64 a.States, v_1, v_3, v_5] 25 :: fz fGEdge.rep v_11 b.Edges :: fz fInt.rep v_9 b.Ends :: fz fInt.rep v_7 b.Starts :: fz fGEdge.rep v_5 a.Edges :: fz fInt.rep v_3 a.Ends :: fz fInt.rep v_1 a.Starts :: L)) (.step 0 false (.step 1 false (.step 2 false (.step 3 false (.step 4 false (.step 5 false (.step 6 false (.step 7 false (.step 8 false (.step 9 false (.step 10 false (.step 13 false (.step 14 false (.step 15 false (.step 16 false (.step 17 false (.step 18 false (.two 11 22 (.two 12 22 (.two 19 22 (.two 20 22 (.step 21 false (.step 22 true .done)) (.step 20 true (.step 21 false .done))) (.step 19 true (.step 20 true (.step 21 false .done)))) (.step 12 true (.step 19 true (.step 20 true (.step 21 false .done))))) (.step 11 true (.step 12 true (.step 19 true (.step 20 true (.step 21 false .done))))))))))))))))))))))) (.step 23 true .done) Try.mixed (by kernel_rfl) ⟨_, hO⟩ ?_
      refine hd_v rfl (fun _ _ => (v_fieldA Try.underlying25 rfl Try.sizeOf3 rfl)) rfl ?_
      refine hd_v rfl (fun H' hS => by obtain ⟨Z', hO⟩ := hS; exact (v_load1 Try.isAgg3 rfl (Blk.cell (hO.box 2 rfl) rfl))) rfl ?_
      refine hd_v rfl (fun _ _ => (v_fieldA Try.underlying25 rfl Try.sizeOf3 rfl)) rfl ?_
      refine hd_v rfl (fun H' hS => by obtain ⟨Z', hO⟩ := hS; exact (v_load1 Try.isAgg3 rfl (Blk.cell (hO.box 1 rfl) rfl))) rfl ?_
      obtain ⟨hs_32, h⟩ := h
      refine hd_v rfl (fun _ _ => (v_add rfl rfl hs_32)) rfl ?_
      refine hd_v rfl (fun _ _ => (v_fieldA Try.underlying25 rfl Try.sizeOf22 rfl)) rfl ?_
      refine hd_v rfl (fun H' hS => by obtain ⟨Z', hO⟩ := hS; exact (v_load1 Try.isAgg22 rfl (Blk.cell (hO.box 2 rfl) rfl))) rfl ?_
      refine hd_v rfl (fun _ _ => (v_fieldA Try.underlying25 rfl Try.sizeOf22 rfl)) rfl ?_
      refine hd_v rfl (fun H' hS => by obtain ⟨Z', hO⟩ := hS; exact (v_load1 Try.isAgg22 rfl (Blk.cell (hO.box 1 rfl) rfl))) rfl ?_
      refine hd_v rfl (fun _ _ => (v_fieldA Try.underlying25 rfl Try.sizeOf3 rfl)) rfl ?_
      refine hd_v rfl (fun H' hS => by obtain ⟨Z', hO⟩ := hS; exact (v_load1 Try.isAgg3 rfl (Blk.cell (hO.box 2 rfl) rfl))) rfl ?_
      refine hd_v rfl (fun _ _ => (v_fieldA Try.underlying25 rfl Try.sizeOf22 rfl)) rfl ?_
      refine hd_v rfl (fun H' hS => by obtain ⟨Z', hO⟩ := hS; exact (v_load1 Try.isAgg22 rfl (Blk.cell (hO.box 2 rfl) rfl))) rfl ?_
      refine hd_v rfl (fun _ _ => (v_fieldA Try.underlying25 rfl Try.sizeOf22 rfl)) rfl ?_
      refine hd_v rfl (fun H' hS => by obtain ⟨Z', hO⟩ := hS; exact (v_load1 Try.isAgg22 rfl (Blk.cell (hO.box 1 rfl) rfl))) rfl ?_
      refine hd_v rfl (fun _ _ => (v_fieldA Try.underlying25 rfl Try.sizeOf3 rfl)) rfl ?_
      refine hd_v rfl (fun H' hS => by obtain ⟨Z', hO⟩ := hS; exact (v_load1 Try.isAgg3 rfl (Blk.cell (hO.box 2 rfl) rfl))) rfl ?_
      refine hd_two ?_ ?_
      · skip
        obtain ⟨hs_33, h⟩ := h
        refine hd_h (h_call Try.call50 (evs_cons rfl (evs_cons rfl evs_nil)) (rShift_spec (a0 := b.Starts) (a1 := a.States) hs_33 hO (Rd.of_fz (i := 5) rfl))) (by rintro vv H_35 ⟨Z_36, v_34, hz_37, hv, hO⟩; obtain rfl := hv.symm; replace hZ := fun b hb => hz_37 b (hZ b hb); exact ⟨_, (Own.sel (Ls := [own fInt 3 v_34 (b.Starts.map (· + a.States)), box b_21 [.int .i64 (0 : Int), .slice none 0 0, .slice none 0 0, .slice none 0 0] 25, box b_19 [.int .i64 b.States, v_7, v_9, v_11] 25, box b_17 [.int .i64 a.States, v_1, v_3, v_5] 25, fz fGEdge.rep v_11 b.Edges, fz fInt.rep v_9 b.Ends, fz fInt.rep v_7 b.Starts, fz fGEdge.rep v_5 a.Edges, fz fInt.rep v_3 a.Ends, fz fInt.rep v_1 a.Starts]) (L := L) [1, 2, 3, 4, 5, 6, 7, 8, 9] rfl hO)⟩) rfl ?_
        rintro vv H_35 ⟨Z_36, v_34, hz_37, hv, hO⟩
        obtain rfl := hv.symm
        replace hZ := fun b hb => hz_37 b (hZ b hb)
        replace hO : Own H_35 Z_36 (own fInt 3 v_34 (b.Starts.map (· + a.States)) :: box b_21 [.int .i64 (0 : Int), .slice none 0 0, .slice none 0 0, .slice none 0 0] 25 :: box b_19 [.int .i64 b.States, v_7, v_9, v_11] 25 :: box b_17 [.int .i64 a.States, v_1, v_3, v_5] 25 :: fz fGEdge.rep v_11 b.Edges :: fz fInt.rep v_9 b.Ends :: fz fInt.rep v_7 b.Starts :: fz fGEdge.rep v_5 a.Edges :: fz fInt.rep v_3 a.Ends :: fz fInt.rep v_1 a.Starts :: L) := hO
        refine hd_two ?_ ?_
        · skip
          obtain ⟨hs_38, h⟩ := h
          refine hd_h (h_call Try.call51 (evs_cons rfl (evs_cons rfl evs_nil)) (rBoth_spec (a0 := a.Starts) (a1 := (b.Starts.map (· + a.States))) hs_38 hO (Rd.of_fz (i := 9) rfl) (Rd.of_own (i := 0) rfl))) (by rintro vv H_40 ⟨Z_41, v_39, hz_42, hv, hO⟩; obtain rfl := hv.symm; replace hZ := fun b hb => hz_42 b (hZ b hb); exact ⟨_, (Own.sel (Ls := [own fInt 3 v_39 (a.Starts ++ (b.Starts.map (· + a.States))), own fInt 3 v_34 (b.Starts.map (· + a.States)), box b_21 [.int .i64 (0 : Int), .slice none 0 0, .slice none 0 0, .slice none 0 0] 25, box b_19 [.int .i64 b.States, v_7, v_9, v_11] 25, box b_17 [.int .i64 a.States, v_1, v_3, v_5] 25, fz fGEdge.rep v_11 b.Edges, fz fInt.rep v_9 b.Ends, fz fInt.rep v_7 b.Starts, fz fGEdge.rep v_5 a.Edges, fz fInt.rep v_3 a.Ends, fz fInt.rep v_1 a.Starts]) (L := L) [2, 3, 4, 5, 6, 7, 8, 9, 10] rfl hO)⟩) rfl ?_
          rintro vv H_40 ⟨Z_41, v_39, hz_42, hv, hO⟩
          obtain rfl := hv.symm
          replace hZ := fun b hb => hz_42 b (hZ b hb)
          replace hO : Own H_40 Z_41 (own fInt 3 v_39 (a.Starts ++ (b.Starts.map (· + a.States))) :: own fInt 3 v_34 (b.Starts.map (· + a.States)) :: box b_21 [.int .i64 (0 : Int), .slice none 0 0, .slice none 0 0, .slice none 0 0] 25 :: box b_19 [.int .i64 b.States, v_7, v_9, v_11] 25 :: box b_17 [.int .i64 a.States, v_1, v_3, v_5] 25 :: fz fGEdge.rep v_11 b.Edges :: fz fInt.rep v_9 b.Ends :: fz fInt.rep v_7 b.Starts :: fz fGEdge.rep v_5 a.Edges :: fz fInt.rep v_3 a.Ends :: fz fInt.rep v_1 a.Starts :: L) := hO
          refine hd_two ?_ ?_
          · skip
            obtain ⟨hs_43, h⟩ := h
            refine hd_h (h_call Try.call50 (evs_cons rfl (evs_cons rfl evs_nil)) (rShift_spec (a0 := b.Ends) (a1 := a.States) hs_43 hO (Rd.of_fz (i := 6) rfl))) (by rintro vv H_45 ⟨Z_46, v_44, hz_47, hv, hO⟩; obtain rfl := hv.symm; replace hZ := fun b hb => hz_47 b (hZ b hb); exact ⟨_, (Own.sel (Ls := [own fInt 3 v_44 (b.Ends.map (· + a.States)), own fInt 3 v_39 (a.Starts ++ (b.Starts.map (· + a.States))), own fInt 3 v_34 (b.Starts.map (· + a.States)), box b_21 [.int .i64 (0 : Int), .slice none 0 0, .slice none 0 0, .slice none 0 0] 25, box b_19 [.int .i64 b.States, v_7, v_9, v_11] 25, box b_17 [.int .i64 a.States, v_1, v_3, v_5] 25, fz fGEdge.rep v_11 b.Edges, fz fInt.rep v_9 b.Ends, fz fInt.rep v_7 b.Starts, fz fGEdge.rep v_5 a.Edges, fz fInt.rep v_3 a.Ends, fz fInt.rep v_1 a.Starts]) (L := L) [3, 4, 5, 6, 7, 8, 9, 10, 11] rfl hO)⟩) rfl ?_
            rintro vv H_45 ⟨Z_46, v_44, hz_47, hv, hO⟩
            obtain rfl := hv.symm
            replace hZ := fun b hb => hz_47 b (hZ b hb)
            replace hO : Own H_45 Z_46 (own fInt 3 v_44 (b.Ends.map (· + a.States)) :: own fInt 3 v_39 (a.Starts ++ (b.Starts.map (· + a.States))) :: own fInt 3 v_34 (b.Starts.map (· + a.States)) :: box b_21 [.int .i64 (0 : Int), .slice none 0 0, .slice none 0 0, .slice none 0 0] 25 :: box b_19 [.int .i64 b.States, v_7, v_9, v_11] 25 :: box b_17 [.int .i64 a.States, v_1, v_3, v_5] 25 :: fz fGEdge.rep v_11 b.Edges :: fz fInt.rep v_9 b.Ends :: fz fInt.rep v_7 b.Starts :: fz fGEdge.rep v_5 a.Edges :: fz fInt.rep v_3 a.Ends :: fz fInt.rep v_1 a.Starts :: L) := hO
            refine hd_two ?_ ?_
            · skip
              obtain ⟨hs_48, h⟩ := h
              refine hd_h (h_call Try.call51 (evs_cons rfl (evs_cons rfl evs_nil)) (rBoth_spec (a0 := a.Ends) (a1 := (b.Ends.map (· + a.States))) hs_48 hO (Rd.of_fz (i := 10) rfl) (Rd.of_own (i := 0) rfl))) (by rintro vv H_50 ⟨Z_51, v_49, hz_52, hv, hO⟩; obtain rfl := hv.symm; replace hZ := fun b hb => hz_52 b (hZ b hb); exact ⟨_, (Own.sel (Ls := [own fInt 3 v_49 (a.Ends ++ (b.Ends.map (· + a.States))), own fInt 3 v_44 (b.Ends.map (· + a.States)), own fInt 3 v_39 (a.Starts ++ (b.Starts.map (· + a.States))), own fInt 3 v_34 (b.Starts.map (· + a.States)), box b_21 [.int .i64 (0 : Int), .slice none 0 0, .slice none 0 0, .slice none 0 0] 25, box b_19 [.int .i64 b.States, v_7, v_9, v_11] 25, box b_17 [.int .i64 a.States, v_1, v_3, v_5] 25, fz fGEdge.rep v_11 b.Edges, fz fInt.rep v_9 b.Ends, fz fInt.rep v_7 b.Starts, fz fGEdge.rep v_5 a.Edges, fz fInt.rep v_3 a.Ends, fz fInt.rep v_1 a.Starts]) (L := L) [4, 5, 6, 7, 8, 9, 10, 11, 12] rfl hO)⟩) rfl ?_
              rintro vv H_50 ⟨Z_51, v_49, hz_52, hv, hO⟩
              obtain rfl := hv.symm
              replace hZ := fun b hb => hz_52 b (hZ b hb)
              replace hO : Own H_50 Z_51 (own fInt 3 v_49 (a.Ends ++ (b.Ends.map (· + a.States))) :: own fInt 3 v_44 (b.Ends.map (· + a.States)) :: own fInt 3 v_39 (a.Starts ++ (b.Starts.map (· + a.States))) :: own fInt 3 v_34 (b.Starts.map (· + a.States)) :: box b_21 [.int .i64 (0 : Int), .slice none 0 0, .slice none 0 0, .slice none 0 0] 25 :: box b_19 [.int .i64 b.States, v_7, v_9, v_11] 25 :: box b_17 [.int .i64 a.States, v_1, v_3, v_5] 25 :: fz fGEdge.rep v_11 b.Edges :: fz fInt.rep v_9 b.Ends :: fz fInt.rep v_7 b.Starts :: fz fGEdge.rep v_5 a.Edges :: fz fInt.rep v_3 a.Ends :: fz fInt.rep v_1 a.Starts :: L) := hO
              have hsh_53 := Sl.sh (hO.osl 2 rfl)
              have hsh_54 := Sl.sh (hO.osl 0 rfl)
              refine hd_v rfl (fun _ _ => (v_buildF (cs := [.int .i64 (a.States + b.States), v_39, v_49, .slice none 0 0]) (xs := [.tmp 20, .tmp 28, .tmp 36]) (is := [0, 1, 2]) rfl (evs_cons rfl (evs_cons rfl (evs_cons rfl evs_nil))) (fun w => by obtain ⟨_, _, _, hw⟩ := hsh_53; (try subst hw); obtain ⟨_, _, _, hw⟩ := hsh_54; (try subst hw); show _ = _; kernel_rfl))) rfl ?_
              refine hd_h (o_alloc (cs := [.int .i64 (0 : Int), .slice none 0 0, .slice none 0 0, .slice none 0 0]) hO Try.zeroValue25 rfl) (by rintro _ H_55 ⟨b_56, rfl, hO⟩; exact ⟨_, (Own.sel (Ls := [box b_56 [.int .i64 (0 : Int), .slice none 0 0, .slice none 0 0, .slice none 0 0] 25, own fInt 3 v_49 (a.Ends ++ (b.Ends.map (· + a.States))), own fInt 3 v_44 (b.Ends.map (· + a.States)), own fInt 3 v_39 (a.Starts ++ (b.Starts.map (· + a.States))), own fInt 3 v_34 (b.Starts.map (· + a.States)), box b_21 [.int .i64 (0 : Int), .slice none 0 0, .slice none 0 0, .slice none 0 0] 25, box b_19 [.int .i64 b.States, v_7, v_9, v_11] 25, box b_17 [.int .i64 a.States, v_1, v_3, v_5] 25, fz fGEdge.rep v_11 b.Edges, fz fInt.rep v_9 b.Ends, fz fInt.rep v_7 b.Starts, fz fGEdge.rep v_5 a.Edges, fz fInt.rep v_3 a.Ends, fz fInt.rep v_1 a.Starts]) (L := L) [5, 6, 7, 8, 9, 10, 11, 12, 13] rfl hO)⟩) rfl ?_
              rintro _ H_55 ⟨b_56, rfl, hO⟩
              replace hO : Own H_55 Z_51 (box b_56 [.int .i64 (0 : Int), .slice none 0 0, .slice none 0 0, .slice none 0 0] 25 :: own fInt 3 v_49 (a.Ends ++ (b.Ends.map (· + a.States))) :: own fInt 3 v_44 (b.Ends.map (· + a.States)) :: own fInt 3 v_39 (a.Starts ++ (b.Starts.map (· + a.States))) :: own fInt 3 v_34 (b.Starts.map (· + a.States)) :: box b_21 [.int .i64 (0 : Int), .slice none 0 0, .slice none 0 0, .slice none 0 0] 25 :: box b_19 [.int .i64 b.States, v_7, v_9, v_11] 25 :: box b_17 [.int .i64 a.States, v_1, v_3, v_5] 25 :: fz fGEdge.rep v_11 b.Edges :: fz fInt.rep v_9 b.Ends :: fz fInt.rep v_7 b.Starts :: fz fGEdge.rep v_5 a.Edges :: fz fInt.rep v_3 a.Ends :: fz fInt.rep v_1 a.Starts :: L) := hO
              refine hd_nil ?_
              refine hd_s (o_storeA (us := [.int .i64 (a.States + b.States), v_39, v_49, .slice none 0 0]) hO 0 rfl Try.sizeOf25 rfl rfl rfl rfl (by simp only [List.forall_mem_cons]; exact ⟨rfl, (Sl.one (hO.osl 3 rfl)), (Sl.one (hO.osl 1 rfl)), rfl, by simp⟩)) (fun _ _ _ => trivial) ?_
              rintro _ H_57 hO
              replace hO : Own H_57 Z_51 (box b_56 [.int .i64 (a.States + b.States), v_39, v_49, .slice none 0 0] 25 :: own fInt 3 v_49 (a.Ends ++ (b.Ends.map (· + a.States))) :: own fInt 3 v_44 (b.Ends.map (· + a.States)) :: own fInt 3 v_39 (a.Starts ++ (b.Starts.map (· + a.States))) :: own fInt 3 v_34 (b.Starts.map (· + a.States)) :: box b_21 [.int .i64 (0 : Int), .slice none 0 0, .slice none 0 0, .slice none 0 0] 25 :: box b_19 [.int .i64 b.States, v_7, v_9, v_11] 25 :: box b_17 [.int .i64 a.States, v_1, v_3, v_5] 25 :: fz fGEdge.rep v_11 b.Edges :: fz fInt.rep v_9 b.Ends :: fz fInt.rep v_7 b.Starts :: fz fGEdge.rep v_5 a.Edges :: fz fInt.rep v_3 a.Ends :: fz fInt.rep v_1 a.Starts :: L) := hO
              refine hd_nil ?_
              exact ⟨rfl, v_34, v_39, v_44, v_49, b_56, _, (ai_cons (t := 2) rfl (ai_cons (t := 3) rfl (ai_cons (t := 4) rfl (ai_cons (t := 6) rfl ai_nil)))), hZ, hO⟩
            · skip
              refine hd_h (o_alloc (cs := [.int .i64 (0 : Int), .slice none 0 0, .slice none 0 0, .slice none 0 0]) hO Try.zeroValue25 rfl) (by rintro _ H_58 ⟨b_59, rfl, hO⟩; exact ⟨_, (Own.sel (Ls := [box b_59 [.int .i64 (0 : Int), .slice none 0 0, .slice none 0 0, .slice none 0 0] 25, own fInt 3 v_44 (b.Ends.map (· + a.States)), own fInt 3 v_39 (a.Starts ++ (b.Starts.map (· + a.States))), own fInt 3 v_34 (b.Starts.map (· + a.States)), box b_21 [.int .i64 (0 : Int), .slice none 0 0, .slice none 0 0, .slice none 0 0] 25, box b_19 [.int .i64 b.States, v_7, v_9, v_11] 25, box b_17 [.int .i64 a.States, v_1, v_3, v_5] 25, fz fGEdge.rep v_11 b.Edges, fz fInt.rep v_9 b.Ends, fz fInt.rep v_7 b.Starts, fz fGEdge.rep v_5 a.Edges, fz fInt.rep v_3 a.Ends, fz fInt.rep v_1 a.Starts]) (L := L) [4, 5, 6, 7, 8, 9, 10, 11, 12] rfl hO)⟩) rfl ?_
              rintro _ H_58 ⟨b_59, rfl, hO⟩
              replace hO : Own H_58 Z_46 (box b_59 [.int .i64 (0 : Int), .slice none 0 0, .slice none 0 0, .slice none 0 0] 25 :: own fInt 3 v_44 (b.Ends.map (· + a.States)) :: own fInt 3 v_39 (a.Starts ++ (b.Starts.map (· + a.States))) :: own fInt 3 v_34 (b.Starts.map (· + a.States)) :: box b_21 [.int .i64 (0 : Int), .slice none 0 0, .slice none 0 0, .slice none 0 0] 25 :: box b_19 [.int .i64 b.States, v_7, v_9, v_11] 25 :: box b_17 [.int .i64 a.States, v_1, v_3, v_5] 25 :: fz fGEdge.rep v_11 b.Edges :: fz fInt.rep v_9 b.Ends :: fz fInt.rep v_7 b.Starts :: fz fGEdge.rep v_5 a.Edges :: fz fInt.rep v_3 a.Ends :: fz fInt.rep v_1 a.Starts :: L) := hO
              obtain ⟨hs_60, h⟩ := h
              refine hd_h (h_call Try.call51 (evs_cons rfl (evs_cons rfl evs_nil)) (rBoth_spec (a0 := a.Ends) (a1 := (b.Ends.map (· + a.States))) hs_60 hO (Rd.of_fz (i := 11) rfl) (Rd.of_own (i := 1) rfl))) (by rintro vv H_62 ⟨Z_63, v_61, hz_64, hv, hO⟩; obtain rfl := hv.symm; replace hZ := fun b hb => hz_64 b (hZ b hb); exact ⟨_, (Own.sel (Ls := [own fInt 3 v_61 (a.Ends ++ (b.Ends.map (· + a.States))), box b_59 [.int .i64 (0 : Int), .slice none 0 0, .slice none 0 0, .slice none 0 0] 25, own fInt 3 v_44 (b.Ends.map (· + a.States)), own fInt 3 v_39 (a.Starts ++ (b.Starts.map (· + a.States))), own fInt 3 v_34 (b.Starts.map (· + a.States)), box b_21 [.int .i64 (0 : Int), .slice none 0 0, .slice none 0 0, .slice none 0 0] 25, box b_19 [.int .i64 b.States, v_7, v_9, v_11] 25, box b_17 [.int .i64 a.States, v_1, v_3, v_5] 25, fz fGEdge.rep v_11 b.Edges, fz fInt.rep v_9 b.Ends, fz fInt.rep v_7 b.Starts, fz fGEdge.rep v_5 a.Edges, fz fInt.rep v_3 a.Ends, fz fInt.rep v_1 a.Starts]) (L := L) [5, 6, 7, 8, 9, 10, 11, 12, 13] rfl hO)⟩) rfl ?_
              rintro vv H_62 ⟨Z_63, v_61, hz_64, hv, hO⟩
              obtain rfl := hv.symm
              replace hZ := fun b hb => hz_64 b (hZ b hb)
              replace hO : Own H_62 Z_63 (own fInt 3 v_61 (a.Ends ++ (b.Ends.map (· + a.States))) :: box b_59 [.int .i64 (0 : Int), .slice none 0 0, .slice none 0 0, .slice none 0 0] 25 :: own fInt 3 v_44 (b.Ends.map (· + a.States)) :: own fInt 3 v_39 (a.Starts ++ (b.Starts.map (· + a.States))) :: own fInt 3 v_34 (b.Starts.map (· + a.States)) :: box b_21 [.int .i64 (0 : Int), .slice none 0 0, .slice none 0 0, .slice none 0 0] 25 :: box b_19 [.int .i64 b.States, v_7, v_9, v_11] 25 :: box b_17 [.int .i64 a.States, v_1, v_3, v_5] 25 :: fz fGEdge.rep v_11 b.Edges :: fz fInt.rep v_9 b.Ends :: fz fInt.rep v_7 b.Starts :: fz fGEdge.rep v_5 a.Edges :: fz fInt.rep v_3 a.Ends :: fz fInt.rep v_1 a.Starts :: L) := hO
              have hsh_65 := Sl.sh (hO.osl 3 rfl)
              have hsh_66 := Sl.sh (hO.osl 0 rfl)
              refine hd_v rfl (fun _ _ => (v_buildF (cs := [.int .i64 (a.States + b.States), v_39, v_61, .slice none 0 0]) (xs := [.tmp 20, .tmp 28, .tmp 36]) (is := [0, 1, 2]) rfl (evs_cons rfl (evs_cons rfl (evs_cons rfl evs_nil))) (fun w => by obtain ⟨_, _, _, hw⟩ := hsh_65; (try subst hw); obtain ⟨_, _, _, hw⟩ := hsh_66; (try subst hw); show _ = _; kernel_rfl))) rfl ?_
              refine hd_nil ?_
              refine hd_s (o_storeA (us := [.int .i64 (a.States + b.States), v_39, v_61, .slice none 0 0]) hO 1 rfl Try.sizeOf25 rfl rfl rfl rfl (by simp only [List.forall_mem_cons]; exact ⟨rfl, (Sl.one (hO.osl 3 rfl)), (Sl.one (hO.osl 0 rfl)), rfl, by simp⟩)) (fun _ _ _ => trivial) ?_
              rintro _ H_67 hO
              replace hO : Own H_67 Z_63 (own fInt 3 v_61 (a.Ends ++ (b.Ends.map (· + a.States))) :: box b_59 [.int .i64 (a.States + b.States), v_39, v_61, .slice none 0 0] 25 :: own fInt 3 v_44 (b.Ends.map (· + a.States)) :: own fInt 3 v_39 (a.Starts ++ (b.Starts.map (· + a.States))) :: own fInt 3 v_34 (b.Starts.map (· + a.States)) :: box b_21 [.int .i64 (0 : Int), .slice none 0 0, .slice none 0 0, .slice none 0 0] 25 :: box b_19 [.int .i64 b.States, v_7, v_9, v_11] 25 :: box b_17 [.int .i64 a.States, v_1, v_3, v_5] 25 :: fz fGEdge.rep v_11 b.Edges :: fz fInt.rep v_9 b.Ends :: fz fInt.rep v_7 b.Starts :: fz fGEdge.rep v_5 a.Edges :: fz fInt.rep v_3 a.Ends :: fz fInt.rep v_1 a.Starts :: L) := hO
              refine hd_nil ?_
              exact ⟨rfl, v_34, v_39, v_44, v_61, b_59, _, (ai_cons (t := 2) rfl (ai_cons (t := 3) rfl (ai_cons (t := 4) rfl (ai_cons (t := 6) rfl ai_nil)))), hZ, (Own.sel (Ls := [own fInt 3 v_61 (a.Ends ++ (b.Ends.map (· + a.States))), box b_59 [.int .i64 (a.States + b.States), v_39, v_61, .slice none 0 0] 25, own fInt 3 v_44 (b.Ends.map (· + a.States)), own fInt 3 v_39 (a.Starts ++ (b.Starts.map (· + a.States))), own fInt 3 v_34 (b.Starts.map (· + a.States)), box b_21 [.int .i64 (0 : Int), .slice none 0 0, .slice none 0 0, .slice none 0 0] 25, box b_19 [.int .i64 b.States, v_7, v_9, v_11] 25, box b_17 [.int .i64 a.States, v_1, v_3, v_5] 25, fz fGEdge.rep v_11 b.Edges, fz fInt.rep v_9 b.Ends, fz fInt.rep v_7 b.Starts, fz fGEdge.rep v_5 a.Edges, fz fInt.rep v_3 a.Ends, fz fInt.rep v_1 a.Starts]) (L := L) [1, 0, 2, 3, 4, 5, 6, 7, 8, 9, 10, 11, 12, 13] rfl hO)⟩
          · skip
            refine hd_h (o_alloc (cs := [.int .i64 (0 : Int), .slice none 0 0, .slice none 0 0, .slice none 0 0]) hO Try.zeroValue25 rfl) (by rintro _ H_68 ⟨b_69, rfl, hO⟩; exact ⟨_, (Own.sel (Ls := [box b_69 [.int .i64 (0 : Int), .slice none 0 0, .slice none 0 0, .slice none 0 0] 25, own fInt 3 v_39 (a.Starts ++ (b.Starts.map (· + a.States))), own fInt 3 v_34 (b.Starts.map (· + a.States)), box b_21 [.int .i64 (0 : Int), .slice none 0 0, .slice none 0 0, .slice none 0 0] 25, box b_19 [.int .i64 b.States, v_7, v_9, v_11] 25, box b_17 [.int .i64 a.States, v_1, v_3, v_5] 25, fz fGEdge.rep v_11 b.Edges, fz fInt.rep v_9 b.Ends, fz fInt.rep v_7 b.Starts, fz fGEdge.rep v_5 a.Edges, fz fInt.rep v_3 a.Ends, fz fInt.rep v_1 a.Starts]) (L := L) [3, 4, 5, 6, 7, 8, 9, 10, 11] rfl hO)⟩) rfl ?_
            rintro _ H_68 ⟨b_69, rfl, hO⟩
            replace hO : Own H_68 Z_41 (box b_69 [.int .i64 (0 : Int), .slice none 0 0, .slice none 0 0, .slice none 0 0] 25 :: own fInt 3 v_39 (a.Starts ++ (b.Starts.map (· + a.States))) :: own fInt 3 v_34 (b.Starts.map (· + a.States)) :: box b_21 [.int .i64 (0 : Int), .slice none 0 0, .slice none 0 0, .slice none 0 0] 25 :: box b_19 [.int .i64 b.States, v_7, v_9, v_11] 25 :: box b_17 [.int .i64 a.States, v_1, v_3, v_5] 25 :: fz fGEdge.rep v_11 b.Edges :: fz fInt.rep v_9 b.Ends :: fz fInt.rep v_7 b.Starts :: fz fGEdge.rep v_5 a.Edges :: fz fInt.rep v_3 a.Ends :: fz fInt.rep v_1 a.Starts :: L) := hO
            obtain ⟨hs_70, h⟩ := h
            refine hd_h (h_call Try.call50 (evs_cons rfl (evs_cons rfl evs_nil)) (rShift_spec (a0 := b.Ends) (a1 := a.States) hs_70 hO (Rd.of_fz (i := 7) rfl))) (by rintro vv H_72 ⟨Z_73, v_71, hz_74, hv, hO⟩; obtain rfl := hv.symm; replace hZ := fun b hb => hz_74 b (hZ b hb); exact ⟨_, (Own.sel (Ls := [own fInt 3 v_71 (b.Ends.map (· + a.States)), box b_69 [.int .i64 (0 : Int), .slice none 0 0, .slice none 0 0, .slice none 0 0] 25, own fInt 3 v_39 (a.Starts ++ (b.Starts.map (· + a.States))), own fInt 3 v_34 (b.Starts.map (· + a.States)), box b_21 [.int .i64 (0 : Int), .slice none 0 0, .slice none 0 0, .slice none 0 0] 25, box b_19 [.int .i64 b.States, v_7, v_9, v_11] 25, box b_17 [.int .i64 a.States, v_1, v_3, v_5] 25, fz fGEdge.rep v_11 b.Edges, fz fInt.rep v_9 b.Ends, fz fInt.rep v_7 b.Starts, fz fGEdge.rep v_5 a.Edges, fz fInt.rep v_3 a.Ends, fz fInt.rep v_1 a.Starts]) (L := L) [4, 5, 6, 7, 8, 9, 10, 11, 12] rfl hO)⟩) rfl ?_
            rintro vv H_72 ⟨Z_73, v_71, hz_74, hv, hO⟩
            obtain rfl := hv.symm
            replace hZ := fun b hb => hz_74 b (hZ b hb)
            replace hO : Own H_72 Z_73 (own fInt 3 v_71 (b.Ends.map (· + a.States)) :: box b_69 [.int .i64 (0 : Int), .slice none 0 0, .slice none 0 0, .slice none 0 0] 25 :: own fInt 3 v_39 (a.Starts ++ (b.Starts.map (· + a.States))) :: own fInt 3 v_34 (b.Starts.map (· + a.States)) :: box b_21 [.int .i64 (0 : Int), .slice none 0 0, .slice none 0 0, .slice none 0 0] 25 :: box b_19 [.int .i64 b.States, v_7, v_9, v_11] 25 :: box b_17 [.int .i64 a.States, v_1, v_3, v_5] 25 :: fz fGEdge.rep v_11 b.Edges :: fz fInt.rep v_9 b.Ends :: fz fInt.rep v_7 b.Starts :: fz fGEdge.rep v_5 a.Edges :: fz fInt.rep v_3 a.Ends :: fz fInt.rep v_1 a.Starts :: L) := hO
            obtain ⟨hs_75, h⟩ := h
            refine hd_h (h_call Try.call51 (evs_cons rfl (evs_cons rfl evs_nil)) (rBoth_spec (a0 := a.Ends) (a1 := (b.Ends.map (· + a.States))) hs_75 hO (Rd.of_fz (i := 11) rfl) (Rd.of_own (i := 0) rfl))) (by rintro vv H_77 ⟨Z_78, v_76, hz_79, hv, hO⟩; obtain rfl := hv.symm; replace hZ := fun b hb => hz_79 b (hZ b hb); exact ⟨_, (Own.sel (Ls := [own fInt 3 v_76 (a.Ends ++ (b.Ends.map (· + a.States))), own fInt 3 v_71 (b.Ends.map (· + a.States)), box b_69 [.int .i64 (0 : Int), .slice none 0 0, .slice none 0 0, .slice none 0 0] 25, own fInt 3 v_39 (a.Starts ++ (b.Starts.map (· + a.States))), own fInt 3 v_34 (b.Starts.map (· + a.States)), box b_21 [.int .i64 (0 : Int), .slice none 0 0, .slice none 0 0, .slice none 0 0] 25, box b_19 [.int .i64 b.States, v_7, v_9, v_11] 25, box b_17 [.int .i64 a.States, v_1, v_3, v_5] 25, fz fGEdge.rep v_11 b.Edges, fz fInt.rep v_9 b.Ends, fz fInt.rep v_7 b.Starts, fz fGEdge.rep v_5 a.Edges, fz fInt.rep v_3 a.Ends, fz fInt.rep v_1 a.Starts]) (L := L) [5, 6, 7, 8, 9, 10, 11, 12, 13] rfl hO)⟩) rfl ?_
            rintro vv H_77 ⟨Z_78, v_76, hz_79, hv, hO⟩
            obtain rfl := hv.symm
            replace hZ := fun b hb => hz_79 b (hZ b hb)
            replace hO : Own H_77 Z_78 (own fInt 3 v_76 (a.Ends ++ (b.Ends.map (· + a.States))) :: own fInt 3 v_71 (b.Ends.map (· + a.States)) :: box b_69 [.int .i64 (0 : Int), .slice none 0 0, .slice none 0 0, .slice none 0 0] 25 :: own fInt 3 v_39 (a.Starts ++ (b.Starts.map (· + a.States))) :: own fInt 3 v_34 (b.Starts.map (· + a.States)) :: box b_21 [.int .i64 (0 : Int), .slice none 0 0, .slice none 0 0, .slice none 0 0] 25 :: box b_19 [.int .i64 b.States, v_7, v_9, v_11] 25 :: box b_17 [.int .i64 a.States, v_1, v_3, v_5] 25 :: fz fGEdge.rep v_11 b.Edges :: fz fInt.rep v_9 b.Ends :: fz fInt.rep v_7 b.Starts :: fz fGEdge.rep v_5 a.Edges :: fz fInt.rep v_3 a.Ends :: fz fInt.rep v_1 a.Starts :: L) := hO
            have hsh_80 := Sl.sh (hO.osl 3 rfl)
            have hsh_81 := Sl.sh (hO.osl 0 rfl)
            refine hd_v rfl (fun _ _ => (v_buildF (cs := [.int .i64 (a.States + b.States), v_39, v_76, .slice none 0 0]) (xs := [.tmp 20, .tmp 28, .tmp 36]) (is := [0, 1, 2]) rfl (evs_cons rfl (evs_cons rfl (evs_cons rfl evs_nil))) (fun w => by obtain ⟨_, _, _, hw⟩ := hsh_80; (try subst hw); obtain ⟨_, _, _, hw⟩ := hsh_81; (try subst hw); show _ = _; kernel_rfl))) rfl ?_
            refine hd_nil ?_
            refine hd_s (o_storeA (us := [.int .i64 (a.States + b.States), v_39, v_76, .slice none 0 0]) hO 2 rfl Try.sizeOf25 rfl rfl rfl rfl (by simp only [List.forall_mem_cons]; exact ⟨rfl, (Sl.one (hO.osl 3 rfl)), (Sl.one (hO.osl 0 rfl)), rfl, by simp⟩)) (fun _ _ _ => trivial) ?_
            rintro _ H_82 hO
            replace hO : Own H_82 Z_78 (own fInt 3 v_76 (a.Ends ++ (b.Ends.map (· + a.States))) :: own fInt 3 v_71 (b.Ends.map (· + a.States)) :: box b_69 [.int .i64 (a.States + b.States), v_39, v_76, .slice none 0 0] 25 :: own fInt 3 v_39 (a.Starts ++ (b.Starts.map (· + a.States))) :: own fInt 3 v_34 (b.Starts.map (· + a.States)) :: box b_21 [.int .i64 (0 : Int), .slice none 0 0, .slice none 0 0, .slice none 0 0] 25 :: box b_19 [.int .i64 b.States, v_7, v_9, v_11] 25 :: box b_17 [.int .i64 a.States, v_1, v_3, v_5] 25 :: fz fGEdge.rep v_11 b.Edges :: fz fInt.rep v_9 b.Ends :: fz fInt.rep v_7 b.Starts :: fz fGEdge.rep v_5 a.Edges :: fz fInt.rep v_3 a.Ends :: fz fInt.rep v_1 a.Starts :: L) := hO
            refine hd_nil ?_
            exact ⟨rfl, v_34, v_39, v_71, v_76, b_69, _, (ai_cons (t := 2) rfl (ai_cons (t := 3) rfl (ai_cons (t := 4) rfl (ai_cons (t := 6) rfl ai_nil)))), hZ, (Own.sel (Ls := [own fInt 3 v_76 (a.Ends ++ (b.Ends.map (· + a.States))), own fInt 3 v_71 (b.Ends.map (· + a.States)), box b_69 [.int .i64 (a.States + b.States), v_39, v_76, .slice none 0 0] 25, own fInt 3 v_39 (a.Starts ++ (b.Starts.map (· + a.States))), own fInt 3 v_34 (b.Starts.map (· + a.States)), box b_21 [.int .i64 (0 : Int), .slice none 0 0, .slice none 0 0, .slice none 0 0] 25, box b_19 [.int .i64 b.States, v_7, v_9, v_11] 25, box b_17 [.int .i64 a.States, v_1, v_3, v_5] 25, fz fGEdge.rep v_11 b.Edges, fz fInt.rep v_9 b.Ends, fz fInt.rep v_7 b.Starts, fz fGEdge.rep v_5 a.Edges, fz fInt.rep v_3 a.Ends, fz fInt.rep v_1 a.Starts]) (L := L) [2, 0, 1, 3, 4, 5, 6, 7, 8, 9, 10, 11, 12, 13] rfl hO)⟩
        · skip
          refine hd_h (o_alloc (cs := [.int .i64 (0 : Int), .slice none 0 0, .slice none 0 0, .slice none 0 0]) hO Try.zeroValue25 rfl) (by rintro _ H_83 ⟨b_84, rfl, hO⟩; exact ⟨_, (Own.sel (Ls := [box b_84 [.int .i64 (0 : Int), .slice none 0 0, .slice none 0 0, .slice none 0 0] 25, own fInt 3 v_34 (b.Starts.map (· + a.States)), box b_21 [.int .i64 (0 : Int), .slice none 0 0, .slice none 0 0, .slice none 0 0] 25, box b_19 [.int .i64 b.States, v_7, v_9, v_11] 25, box b_17 [.int .i64 a.States, v_1, v_3, v_5] 25, fz fGEdge.rep v_11 b.Edges, fz fInt.rep v_9 b.Ends, fz fInt.rep v_7 b.Starts, fz fGEdge.rep v_5 a.Edges, fz fInt.rep v_3 a.Ends, fz fInt.rep v_1 a.Starts]) (L := L) [2, 3, 4, 5, 6, 7, 8, 9, 10] rfl hO)⟩) rfl ?_
          rintro _ H_83 ⟨b_84, rfl, hO⟩
          replace hO : Own H_83 Z_36 (box b_84 [.int .i64 (0 : Int), .slice none 0 0, .slice none 0 0, .slice none 0 0] 25 :: own fInt 3 v_34 (b.Starts.map (· + a.States)) :: box b_21 [.int .i64 (0 : Int), .slice none 0 0, .slice none 0 0, .slice none 0 0] 25 :: box b_19 [.int .i64 b.States, v_7, v_9, v_11] 25 :: box b_17 [.int .i64 a.States, v_1, v_3, v_5] 25 :: fz fGEdge.rep v_11 b.Edges :: fz fInt.rep v_9 b.Ends :: fz fInt.rep v_7 b.Starts :: fz fGEdge.rep v_5 a.Edges :: fz fInt.rep v_3 a.Ends :: fz fInt.rep v_1 a.Starts :: L) := hO
          obtain ⟨hs_85, h⟩ := h
          refine hd_h (h_call Try.call51 (evs_cons rfl (evs_cons rfl evs_nil)) (rBoth_spec (a0 := a.Starts) (a1 := (b.Starts.map (· + a.States))) hs_85 hO (Rd.of_fz (i := 10) rfl) (Rd.of_own (i := 1) rfl))) (by rintro vv H_87 ⟨Z_88, v_86, hz_89, hv, hO⟩; obtain rfl := hv.symm; replace hZ := fun b hb => hz_89 b (hZ b hb); exact ⟨_, (Own.sel (Ls := [own fInt 3 v_86 (a.Starts ++ (b.Starts.map (· + a.States))), box b_84 [.int .i64 (0 : Int), .slice none 0 0, .slice none 0 0, .slice none 0 0] 25, own fInt 3 v_34 (b.Starts.map (· + a.States)), box b_21 [.int .i64 (0 : Int), .slice none 0 0, .slice none 0 0, .slice none 0 0] 25, box b_19 [.int .i64 b.States, v_7, v_9, v_11] 25, box b_17 [.int .i64 a.States, v_1, v_3, v_5] 25, fz fGEdge.rep v_11 b.Edges, fz fInt.rep v_9 b.Ends, fz fInt.rep v_7 b.Starts, fz fGEdge.rep v_5 a.Edges, fz fInt.rep v_3 a.Ends, fz fInt.rep v_1 a.Starts]) (L := L) [3, 4, 5, 6, 7, 8, 9, 10, 11] rfl hO)⟩) rfl ?_
          rintro vv H_87 ⟨Z_88, v_86, hz_89, hv, hO⟩
          obtain rfl := hv.symm
          replace hZ := fun b hb => hz_89 b (hZ b hb)
          replace hO : Own H_87 Z_88 (own fInt 3 v_86 (a.Starts ++ (b.Starts.map (· + a.States))) :: box b_84 [.int .i64 (0 : Int), .slice none 0 0, .slice none 0 0, .slice none 0 0] 25 :: own fInt 3 v_34 (b.Starts.map (· + a.States)) :: box b_21 [.int .i64 (0 : Int), .slice none 0 0, .slice none 0 0, .slice none 0 0] 25 :: box b_19 [.int .i64 b.States, v_7, v_9, v_11] 25 :: box b_17 [.int .i64 a.States, v_1, v_3, v_5] 25 :: fz fGEdge.rep v_11 b.Edges :: fz fInt.rep v_9 b.Ends :: fz fInt.rep v_7 b.Starts :: fz fGEdge.rep v_5 a.Edges :: fz fInt.rep v_3 a.Ends :: fz fInt.rep v_1 a.Starts :: L) := hO
          obtain ⟨hs_90, h⟩ := h
          refine hd_h (h_call Try.call50 (evs_cons rfl (evs_cons rfl evs_nil)) (rShift_spec (a0 := b.Ends) (a1 := a.States) hs_90 hO (Rd.of_fz (i := 7) rfl))) (by rintro vv H_92 ⟨Z_93, v_91, hz_94, hv, hO⟩; obtain rfl := hv.symm; replace hZ := fun b hb => hz_94 b (hZ b hb); exact ⟨_, (Own.sel (Ls := [own fInt 3 v_91 (b.Ends.map (· + a.States)), own fInt 3 v_86 (a.Starts ++ (b.Starts.map (· + a.States))), box b_84 [.int .i64 (0 : Int), .slice none 0 0, .slice none 0 0, .slice none 0 0] 25, own fInt 3 v_34 (b.Starts.map (· + a.States)), box b_21 [.int .i64 (0 : Int), .slice none 0 0, .slice none 0 0, .slice none 0 0] 25, box b_19 [.int .i64 b.States, v_7, v_9, v_11] 25, box b_17 [.int .i64 a.States, v_1, v_3, v_5] 25, fz fGEdge.rep v_11 b.Edges, fz fInt.rep v_9 b.Ends, fz fInt.rep v_7 b.Starts, fz fGEdge.rep v_5 a.Edges, fz fInt.rep v_3 a.Ends, fz fInt.rep v_1 a.Starts]) (L := L) [4, 5, 6, 7, 8, 9, 10, 11, 12] rfl hO)⟩) rfl ?_
          rintro vv H_92 ⟨Z_93, v_91, hz_94, hv, hO⟩
          obtain rfl := hv.symm
          replace hZ := fun b hb => hz_94 b (hZ b hb)
          replace hO : Own H_92 Z_93 (own fInt 3 v_91 (b.Ends.map (· + a.States)) :: own fInt 3 v_86 (a.Starts ++ (b.Starts.map (· + a.States))) :: box b_84 [.int .i64 (0 : Int), .slice none 0 0, .slice none 0 0, .slice none 0 0] 25 :: own fInt 3 v_34 (b.Starts.map (· + a.States)) :: box b_21 [.int .i64 (0 : Int), .slice none 0 0, .slice none 0 0, .slice none 0 0] 25 :: box b_19 [.int .i64 b.States, v_7, v_9, v_11] 25 :: box b_17 [.int .i64 a.States, v_1, v_3, v_5] 25 :: fz fGEdge.rep v_11 b.Edges :: fz fInt.rep v_9 b.Ends :: fz fInt.rep v_7 b.Starts :: fz fGEdge.rep v_5 a.Edges :: fz fInt.rep v_3 a.Ends :: fz fInt.rep v_1 a.Starts :: L) := hO
          obtain ⟨hs_95, h⟩ := h
          refine hd_h (h_call Try.call51 (evs_cons rfl (evs_cons rfl evs_nil)) (rBoth_spec (a0 := a.Ends) (a1 := (b.Ends.map (· + a.States))) hs_95 hO (Rd.of_fz (i := 11) rfl) (Rd.of_own (i := 0) rfl))) (by rintro vv H_97 ⟨Z_98, v_96, hz_99, hv, hO⟩; obtain rfl := hv.symm; replace hZ := fun b hb => hz_99 b (hZ b hb); exact ⟨_, (Own.sel (Ls := [own fInt 3 v_96 (a.Ends ++ (b.Ends.map (· + a.States))), own fInt 3 v_91 (b.Ends.map (· + a.States)), own fInt 3 v_86 (a.Starts ++ (b.Starts.map (· + a.States))), box b_84 [.int .i64 (0 : Int), .slice none 0 0, .slice none 0 0, .slice none 0 0] 25, own fInt 3 v_34 (b.Starts.map (· + a.States)), box b_21 [.int .i64 (0 : Int), .slice none 0 0, .slice none 0 0, .slice none 0 0] 25, box b_19 [.int .i64 b.States, v_7, v_9, v_11] 25, box b_17 [.int .i64 a.States, v_1, v_3, v_5] 25, fz fGEdge.rep v_11 b.Edges, fz fInt.rep v_9 b.Ends, fz fInt.rep v_7 b.Starts, fz fGEdge.rep v_5 a.Edges, fz fInt.rep v_3 a.Ends, fz fInt.rep v_1 a.Starts]) (L := L) [5, 6, 7, 8, 9, 10, 11, 12, 13] rfl hO)⟩) rfl ?_
          rintro vv H_97 ⟨Z_98, v_96, hz_99, hv, hO⟩
          obtain rfl := hv.symm
          replace hZ := fun b hb => hz_99 b (hZ b hb)
          replace hO : Own H_97 Z_98 (own fInt 3 v_96 (a.Ends ++ (b.Ends.map (· + a.States))) :: own fInt 3 v_91 (b.Ends.map (· + a.States)) :: own fInt 3 v_86 (a.Starts ++ (b.Starts.map (· + a.States))) :: box b_84 [.int .i64 (0 : Int), .slice none 0 0, .slice none 0 0, .slice none 0 0] 25 :: own fInt 3 v_34 (b.Starts.map (· + a.States)) :: box b_21 [.int .i64 (0 : Int), .slice none 0 0, .slice none 0 0, .slice none 0 0] 25 :: box b_19 [.int .i64 b.States, v_7, v_9, v_11] 25 :: box b_17 [.int .i64 a.States, v_1, v_3, v_5] 25 :: fz fGEdge.rep v_11 b.Edges :: fz fInt.rep v_9 b.Ends :: fz fInt.rep v_7 b.Starts :: fz fGEdge.rep v_5 a.Edges :: fz fInt.rep v_3 a.Ends :: fz fInt.rep v_1 a.Starts :: L) := hO
          have hsh_100 := Sl.sh (hO.osl 2 rfl)
          have hsh_101 := Sl.sh (hO.osl 0 rfl)
          refine hd_v rfl (fun _ _ => (v_buildF (cs := [.int .i64 (a.States + b.States), v_86, v_96, .slice none 0 0]) (xs := [.tmp 20, .tmp 28, .tmp 36]) (is := [0, 1, 2]) rfl (evs_cons rfl (evs_cons rfl (evs_cons rfl evs_nil))) (fun w => by obtain ⟨_, _, _, hw⟩ := hsh_100; (try subst hw); obtain ⟨_, _, _, hw⟩ := hsh_101; (try subst hw); show _ = _; kernel_rfl))) rfl ?_
          refine hd_nil ?_
          refine hd_s (o_storeA (us := [.int .i64 (a.States + b.States), v_86, v_96, .slice none 0 0]) hO 3 rfl Try.sizeOf25 rfl rfl rfl rfl (by simp only [List.forall_mem_cons]; exact ⟨rfl, (Sl.one (hO.osl 2 rfl)), (Sl.one (hO.osl 0 rfl)), rfl, by simp⟩)) (fun _ _ _ => trivial) ?_
          rintro _ H_102 hO
          replace hO : Own H_102 Z_98 (own fInt 3 v_96 (a.Ends ++ (b.Ends.map (· + a.States))) :: own fInt 3 v_91 (b.Ends.map (· + a.States)) :: own fInt 3 v_86 (a.Starts ++ (b.Starts.map (· + a.States))) :: box b_84 [.int .i64 (a.States + b.States), v_86, v_96, .slice none 0 0] 25 :: own fInt 3 v_34 (b.Starts.map (· + a.States)) :: box b_21 [.int .i64 (0 : Int), .slice none 0 0, .slice none 0 0, .slice none 0 0] 25 :: box b_19 [.int .i64 b.States, v_7, v_9, v_11] 25 :: box b_17 [.int .i64 a.States, v_1, v_3, v_5] 25 :: fz fGEdge.rep v_11 b.Edges :: fz fInt.rep v_9 b.Ends :: fz fInt.rep v_7 b.Starts :: fz fGEdge.rep v_5 a.Edges :: fz fInt.rep v_3 a.Ends :: fz fInt.rep v_1 a.Starts :: L) := hO
          refine hd_nil ?_
          exact ⟨rfl, v_34, v_86, v_91, v_96, b_84, _, (ai_cons (t := 2) rfl (ai_cons (t := 3) rfl (ai_cons (t := 4) rfl (ai_cons (t := 6) rfl ai_nil)))), hZ, (Own.sel (Ls := [own fInt 3 v_96 (a.Ends ++ (b.Ends.map (· + a.States))), own fInt 3 v_91 (b.Ends.map (· + a.States)), own fInt 3 v_86 (a.Starts ++ (b.Starts.map (· + a.States))), box b_84 [.int .i64 (a.States + b.States), v_86, v_96, .slice none 0 0] 25, own fInt 3 v_34 (b.Starts.map (· + a.States)), box b_21 [.int .i64 (0 : Int), .slice none 0 0, .slice none 0 0, .slice none 0 0] 25, box b_19 [.int .i64 b.States, v_7, v_9, v_11] 25, box b_17 [.int .i64 a.States, v_1, v_3, v_5] 25, fz fGEdge.rep v_11 b.Edges, fz fInt.rep v_9 b.Ends, fz fInt.rep v_7 b.Starts, fz fGEdge.rep v_5 a.Edges, fz fInt.rep v_3 a.Ends, fz fInt.rep v_1 a.Starts]) (L := L) [3, 0, 1, 2, 4, 5, 6, 7, 8, 9, 10, 11, 12, 13] rfl hO)⟩
      · skip
        refine hd_h (o_alloc (cs := [.int .i64 (0 : Int), .slice none 0 0, .slice none 0 0, .slice none 0 0]) hO Try.zeroValue25 rfl) (by rintro _ H_103 ⟨b_104, rfl, hO⟩; exact ⟨_, (Own.sel (Ls := [box b_104 [.int .i64 (0 : Int), .slice none 0 0, .slice none 0 0, .slice none 0 0] 25, box b_21 [.int .i64 (0 : Int), .slice none 0 0, .slice none 0 0, .slice none 0 0] 25, box b_19 [.int .i64 b.States, v_7, v_9, v_11] 25, box b_17 [.int .i64 a.States, v_1, v_3, v_5] 25, fz fGEdge.rep v_11 b.Edges, fz fInt.rep v_9 b.Ends, fz fInt.rep v_7 b.Starts, fz fGEdge.rep v_5 a.Edges, fz fInt.rep v_3 a.Ends, fz fInt.rep v_1 a.Starts]) (L := L) [1, 2, 3, 4, 5, 6, 7, 8, 9] rfl hO)⟩) rfl ?_
        rintro _ H_103 ⟨b_104, rfl, hO⟩
        replace hO : Own H_103 Z_28 (box b_104 [.int .i64 (0 : Int), .slice none 0 0, .slice none 0 0, .slice none 0 0] 25 :: box b_21 [.int .i64 (0 : Int), .slice none 0 0, .slice none 0 0, .slice none 0 0] 25 :: box b_19 [.int .i64 b.States, v_7, v_9, v_11] 25 :: box b_17 [.int .i64 a.States, v_1, v_3, v_5] 25 :: fz fGEdge.rep v_11 b.Edges :: fz fInt.rep v_9 b.Ends :: fz fInt.rep v_7 b.Starts :: fz fGEdge.rep v_5 a.Edges :: fz fInt.rep v_3 a.Ends :: fz fInt.rep v_1 a.Starts :: L) := hO
        obtain ⟨hs_105, h⟩ := h
        refine hd_h (h_call Try.call50 (evs_cons rfl (evs_cons rfl evs_nil)) (rShift_spec (a0 := b.Starts) (a1 := a.States) hs_105 hO (Rd.of_fz (i := 6) rfl))) (by rintro vv H_107 ⟨Z_108, v_106, hz_109, hv, hO⟩; obtain rfl := hv.symm; replace hZ := fun b hb => hz_109 b (hZ b hb); exact ⟨_, (Own.sel (Ls := [own fInt 3 v_106 (b.Starts.map (· + a.States)), box b_104 [.int .i64 (0 : Int), .slice none 0 0, .slice none 0 0, .slice none 0 0] 25, box b_21 [.int .i64 (0 : Int), .slice none 0 0, .slice none 0 0, .slice none 0 0] 25, box b_19 [.int .i64 b.States, v_7, v_9, v_11] 25, box b_17 [.int .i64 a.States, v_1, v_3, v_5] 25, fz fGEdge.rep v_11 b.Edges, fz fInt.rep v_9 b.Ends, fz fInt.rep v_7 b.Starts, fz fGEdge.rep v_5 a.Edges, fz fInt.rep v_3 a.Ends, fz fInt.rep v_1 a.Starts]) (L := L) [2, 3, 4, 5, 6, 7, 8, 9, 10] rfl hO)⟩) rfl ?_
        rintro vv H_107 ⟨Z_108, v_106, hz_109, hv, hO⟩
        obtain rfl := hv.symm
        replace hZ := fun b hb => hz_109 b (hZ b hb)
        replace hO : Own H_107 Z_108 (own fInt 3 v_106 (b.Starts.map (· + a.States)) :: box b_104 [.int .i64 (0 : Int), .slice none 0 0, .slice none 0 0, .slice none 0 0] 25 :: box b_21 [.int .i64 (0 : Int), .slice none 0 0, .slice none 0 0, .slice none 0 0] 25 :: box b_19 [.int .i64 b.States, v_7, v_9, v_11] 25 :: box b_17 [.int .i64 a.States, v_1, v_3, v_5] 25 :: fz fGEdge.rep v_11 b.Edges :: fz fInt.rep v_9 b.Ends :: fz fInt.rep v_7 b.Starts :: fz fGEdge.rep v_5 a.Edges :: fz fInt.rep v_3 a.Ends :: fz fInt.rep v_1 a.Starts :: L) := hO
        obtain ⟨hs_110, h⟩ := h
        refine hd_h (h_call Try.call51 (evs_cons rfl (evs_cons rfl evs_nil)) (rBoth_spec (a0 := a.Starts) (a1 := (b.Starts.map (· + a.States))) hs_110 hO (Rd.of_fz (i := 10) rfl) (Rd.of_own (i := 0) rfl))) (by rintro vv H_112 ⟨Z_113, v_111, hz_114, hv, hO⟩; obtain rfl := hv.symm; replace hZ := fun b hb => hz_114 b (hZ b hb); exact ⟨_, (Own.sel (Ls := [own fInt 3 v_111 (a.Starts ++ (b.Starts.map (· + a.States))), own fInt 3 v_106 (b.Starts.map (· + a.States)), box b_104 [.int .i64 (0 : Int), .slice none 0 0, .slice none 0 0, .slice none 0 0] 25, box b_21 [.int .i64 (0 : Int), .slice none 0 0, .slice none 0 0, .slice none 0 0] 25, box b_19 [.int .i64 b.States, v_7, v_9, v_11] 25, box b_17 [.int .i64 a.States, v_1, v_3, v_5] 25, fz fGEdge.rep v_11 b.Edges, fz fInt.rep v_9 b.Ends, fz fInt.rep v_7 b.Starts, fz fGEdge.rep v_5 a.Edges, fz fInt.rep v_3 a.Ends, fz fInt.rep v_1 a.Starts]) (L := L) [3, 4, 5, 6, 7, 8, 9, 10, 11] rfl hO)⟩) rfl ?_
        rintro vv H_112 ⟨Z_113, v_111, hz_114, hv, hO⟩
        obtain rfl := hv.symm
        replace hZ := fun b hb => hz_114 b (hZ b hb)
        replace hO : Own H_112 Z_113 (own fInt 3 v_111 (a.Starts ++ (b.Starts.map (· + a.States))) :: own fInt 3 v_106 (b.Starts.map (· + a.States)) :: box b_104 [.int .i64 (0 : Int), .slice none 0 0, .slice none 0 0, .slice none 0 0] 25 :: box b_21 [.int .i64 (0 : Int), .slice none 0 0, .slice none 0 0, .slice none 0 0] 25 :: box b_19 [.int .i64 b.States, v_7, v_9, v_11] 25 :: box b_17 [.int .i64 a.States, v_1, v_3, v_5] 25 :: fz fGEdge.rep v_11 b.Edges :: fz fInt.rep v_9 b.Ends :: fz fInt.rep v_7 b.Starts :: fz fGEdge.rep v_5 a.Edges :: fz fInt.rep v_3 a.Ends :: fz fInt.rep v_1 a.Starts :: L) := hO
        obtain ⟨hs_115, h⟩ := h
        refine hd_h (h_call Try.call50 (evs_cons rfl (evs_cons rfl evs_nil)) (rShift_spec (a0 := b.Ends) (a1 := a.States) hs_115 hO (Rd.of_fz (i := 7) rfl))) (by rintro vv H_117 ⟨Z_118, v_116, hz_119, hv, hO⟩; obtain rfl := hv.symm; replace hZ := fun b hb => hz_119 b (hZ b hb); exact ⟨_, (Own.sel (Ls := [own fInt 3 v_116 (b.Ends.map (· + a.States)), own fInt 3 v_111 (a.Starts ++ (b.Starts.map (· + a.States))), own fInt 3 v_106 (b.Starts.map (· + a.States)), box b_104 [.int .i64 (0 : Int), .slice none 0 0, .slice none 0 0, .slice none 0 0] 25, box b_21 [.int .i64 (0 : Int), .slice none 0 0, .slice none 0 0, .slice none 0 0] 25, box b_19 [.int .i64 b.States, v_7, v_9, v_11] 25, box b_17 [.int .i64 a.States, v_1, v_3, v_5] 25, fz fGEdge.rep v_11 b.Edges, fz fInt.rep v_9 b.Ends, fz fInt.rep v_7 b.Starts, fz fGEdge.rep v_5 a.Edges, fz fInt.rep v_3 a.Ends, fz fInt.rep v_1 a.Starts]) (L := L) [4, 5, 6, 7, 8, 9, 10, 11, 12] rfl hO)⟩) rfl ?_
        rintro vv H_117 ⟨Z_118, v_116, hz_119, hv, hO⟩
        obtain rfl := hv.symm
        replace hZ := fun b hb => hz_119 b (hZ b hb)
        replace hO : Own H_117 Z_118 (own fInt 3 v_116 (b.Ends.map (· + a.States)) :: own fInt 3 v_111 (a.Starts ++ (b.Starts.map (· + a.States))) :: own fInt 3 v_106 (b.Starts.map (· + a.States)) :: box b_104 [.int .i64 (0 : Int), .slice none 0 0, .slice none 0 0, .slice none 0 0] 25 :: box b_21 [.int .i64 (0 : Int), .slice none 0 0, .slice none 0 0, .slice none 0 0] 25 :: box b_19 [.int .i64 b.States, v_7, v_9, v_11] 25 :: box b_17 [.int .i64 a.States, v_1, v_3, v_5] 25 :: fz fGEdge.rep v_11 b.Edges :: fz fInt.rep v_9 b.Ends :: fz fInt.rep v_7 b.Starts :: fz fGEdge.rep v_5 a.Edges :: fz fInt.rep v_3 a.Ends :: fz fInt.rep v_1 a.Starts :: L) := hO
        obtain ⟨hs_120, h⟩ := h
        refine hd_h (h_call Try.call51 (evs_cons rfl (evs_cons rfl evs_nil)) (rBoth_spec (a0 := a.Ends) (a1 := (b.Ends.map (· + a.States))) hs_120 hO (Rd.of_fz (i := 11) rfl) (Rd.of_own (i := 0) rfl))) (by rintro vv H_122 ⟨Z_123, v_121, hz_124, hv, hO⟩; obtain rfl := hv.symm; replace hZ := fun b hb => hz_124 b (hZ b hb); exact ⟨_, (Own.sel (Ls := [own fInt 3 v_121 (a.Ends ++ (b.Ends.map (· + a.States))), own fInt 3 v_116 (b.Ends.map (· + a.States)), own fInt 3 v_111 (a.Starts ++ (b.Starts.map (· + a.States))), own fInt 3 v_106 (b.Starts.map (· + a.States)), box b_104 [.int .i64 (0 : Int), .slice none 0 0, .slice none 0 0, .slice none 0 0] 25, box b_21 [.int .i64 (0 : Int), .slice none 0 0, .slice none 0 0, .slice none 0 0] 25, box b_19 [.int .i64 b.States, v_7, v_9, v_11] 25, box b_17 [.int .i64 a.States, v_1, v_3, v_5] 25, fz fGEdge.rep v_11 b.Edges, fz fInt.rep v_9 b.Ends, fz fInt.rep v_7 b.Starts, fz fGEdge.rep v_5 a.Edges, fz fInt.rep v_3 a.Ends, fz fInt.rep v_1 a.Starts]) (L := L) [5, 6, 7, 8, 9, 10, 11, 12, 13] rfl hO)⟩) rfl ?_
        rintro vv H_122 ⟨Z_123, v_121, hz_124, hv, hO⟩
        obtain rfl := hv.symm
        replace hZ := fun b hb => hz_124 b (hZ b hb)
        replace hO : Own H_122 Z_123 (own fInt 3 v_121 (a.Ends ++ (b.Ends.map (· + a.States))) :: own fInt 3 v_116 (b.Ends.map (· + a.States)) :: own fInt 3 v_111 (a.Starts ++ (b.Starts.map (· + a.States))) :: own fInt 3 v_106 (b.Starts.map (· + a.States)) :: box b_104 [.int .i64 (0 : Int), .slice none 0 0, .slice none 0 0, .slice none 0 0] 25 :: box b_21 [.int .i64 (0 : Int), .slice none 0 0, .slice none 0 0, .slice none 0 0] 25 :: box b_19 [.int .i64 b.States, v_7, v_9, v_11] 25 :: box b_17 [.int .i64 a.States, v_1, v_3, v_5] 25 :: fz fGEdge.rep v_11 b.Edges :: fz fInt.rep v_9 b.Ends :: fz fInt.rep v_7 b.Starts :: fz fGEdge.rep v_5 a.Edges :: fz fInt.rep v_3 a.Ends :: fz fInt.rep v_1 a.Starts :: L) := hO
        have hsh_125 := Sl.sh (hO.osl 2 rfl)
        have hsh_126 := Sl.sh (hO.osl 0 rfl)
        refine hd_v rfl (fun _ _ => (v_buildF (cs := [.int .i64 (a.States + b.States), v_111, v_121, .slice none 0 0]) (xs := [.tmp 20, .tmp 28, .tmp 36]) (is := [0, 1, 2]) rfl (evs_cons rfl (evs_cons rfl (evs_cons rfl evs_nil))) (fun w => by obtain ⟨_, _, _, hw⟩ := hsh_125; (try subst hw); obtain ⟨_, _, _, hw⟩ := hsh_126; (try subst hw); show _ = _; kernel_rfl))) rfl ?_
        refine hd_nil ?_
        refine hd_s (o_storeA (us := [.int .i64 (a.States + b.States), v_111, v_121, .slice none 0 0]) hO 4 rfl Try.sizeOf25 rfl rfl rfl rfl (by simp only [List.forall_mem_cons]; exact ⟨rfl, (Sl.one (hO.osl 2 rfl)), (Sl.one (hO.osl 0 rfl)), rfl, by simp⟩)) (fun _ _ _ => trivial) ?_
        rintro _ H_127 hO
        replace hO : Own H_127 Z_123 (own fInt 3 v_121 (a.Ends ++ (b.Ends.map (· + a.States))) :: own fInt 3 v_116 (b.Ends.map (· + a.States)) :: own fInt 3 v_111 (a.Starts ++ (b.Starts.map (· + a.States))) :: own fInt 3 v_106 (b.Starts.map (· + a.States)) :: box b_104 [.int .i64 (a.States + b.States), v_111, v_121, .slice none 0 0] 25 :: box b_21 [.int .i64 (0 : Int), .slice none 0 0, .slice none 0 0, .slice none 0 0] 25 :: box b_19 [.int .i64 b.States, v_7, v_9, v_11] 25 :: box b_17 [.int .i64 a.States, v_1, v_3, v_5] 25 :: fz fGEdge.rep v_11 b.Edges :: fz fInt.rep v_9 b.Ends :: fz fInt.rep v_7 b.Starts :: fz fGEdge.rep v_5 a.Edges :: fz fInt.rep v_3 a.Ends :: fz fInt.rep v_1 a.Starts :: L) := hO
        refine hd_nil ?_
        exact ⟨rfl, v_106, v_111, v_116, v_121, b_104, _, (ai_cons (t := 2) rfl (ai_cons (t := 3) rfl (ai_cons (t := 4) rfl (ai_cons (t := 6) rfl ai_nil)))), hZ, (Own.sel (Ls := [own fInt 3 v_121 (a.Ends ++ (b.Ends.map (· + a.States))), own fInt 3 v_116 (b.Ends.map (· + a.States)), own fInt 3 v_111 (a.Starts ++ (b.Starts.map (· + a.States))), own fInt 3 v_106 (b.Starts.map (· + a.States)), box b_104 [.int .i64 (a.States + b.States), v_111, v_121, .slice none 0 0] 25, box b_21 [.int .i64 (0 : Int), .slice none 0 0, .slice none 0 0, .slice none 0 0] 25, box b_19 [.int .i64 b.States, v_7, v_9, v_11] 25, box b_17 [.int .i64 a.States, v_1, v_3, v_5] 25, fz fGEdge.rep v_11 b.Edges, fz fInt.rep v_9 b.Ends, fz fInt.rep v_7 b.Starts, fz fGEdge.rep v_5 a.Edges, fz fInt.rep v_3 a.Ends, fz fInt.rep v_1 a.Starts]) (L := L) [4, 0, 1, 2, 3, 5, 6, 7, 8, 9, 10, 11, 12, 13] rfl hO)⟩
    · rintro _ H_128 ⟨v_34, v_39, v_44, v_49, b_56, Z_129, hai, hZ, hO⟩
      obtain ⟨hs_32, h⟩ := h
      obtain ⟨hs_33, h⟩ := h
      obtain ⟨hs_38, h⟩ := h
      obtain ⟨hs_43, h⟩ := h
      obtain ⟨hs_48, h⟩ := h
      refine thenQ_n ?_
      refine hw_sub _ hai ?_
      refine hw_seq ?_
      refine hw_region ?_
      refine hl_v (v_fieldA Try.underlying25 rfl Try.sizeOf23 rfl) rfl ?_
      refine hl_v (v_load1 Try.isAgg23 rfl (Blk.cell (hO.box 0 rfl) rfl)) rfl ?_
      refine hl_v (v_fieldA Try.underlying25 rfl Try.sizeOf23 rfl) rfl ?_
      refine hl_v (v_load1 Try.isAgg23 rfl (Blk.cell (hO.box 7 rfl) rfl)) rfl ?_
      replace hO : Own H_128 Z_129 (own fGEdge 69 (.slice none 0 0) [] :: box b_56 [.int .i64 (a.States + b.States), v_39, v_49, .slice none 0 0] 25 :: own fInt 3 v_49 (a.Ends ++ (b.Ends.map (· + a.States))) :: own fInt 3 v_44 (b.Ends.map (· + a.States)) :: own fInt 3 v_39 (a.Starts ++ (b.Starts.map (· + a.States))) :: own fInt 3 v_34 (b.Starts.map (· + a.States)) :: box b_21 [.int .i64 (0 : Int), .slice none 0 0, .slice none 0 0, .slice none 0 0] 25 :: box b_19 [.int .i64 b.States, v_7, v_9, v_11] 25 :: box b_17 [.int .i64 a.States, v_1, v_3, v_5] 25 :: fz fGEdge.rep v_11 b.Edges :: fz fInt.rep v_9 b.Ends :: fz fInt.rep v_7 b.Starts :: fz fGEdge.rep v_5 a.Edges :: fz fInt.rep v_3 a.Ends :: fz fInt.rep v_1 a.Starts :: L) := hO.nil fGEdge 69
      obtain ⟨hs_132, h⟩ := h
      refine hl_h (o_append (l2 := a.Edges) hO 0 rfl rfl Try.underlying23 Try.type69 rfl rfl rfl rfl rfl rfl rfl (hO.fsl 12 rfl) hs_132 (le63 hs_132 rfl)) rfl ?_
      rintro v_131 H_130 hO
      replace hO : Own H_130 Z_129 (own fGEdge 69 v_131 ([] ++ a.Edges) :: box b_56 [.int .i64 (a.States + b.States), v_39, v_49, .slice none 0 0] 25 :: own fInt 3 v_49 (a.Ends ++ (b.Ends.map (· + a.States))) :: own fInt 3 v_44 (b.Ends.map (· + a.States)) :: own fInt 3 v_39 (a.Starts ++ (b.Starts.map (· + a.States))) :: own fInt 3 v_34 (b.Starts.map (· + a.States)) :: box b_21 [.int .i64 (0 : Int), .slice none 0 0, .slice none 0 0, .slice none 0 0] 25 :: box b_19 [.int .i64 b.States, v_7, v_9, v_11] 25 :: box b_17 [.int .i64 a.States, v_1, v_3, v_5] 25 :: fz fGEdge.rep v_11 b.Edges :: fz fInt.rep v_9 b.Ends :: fz fInt.rep v_7 b.Starts :: fz fGEdge.rep v_5 a.Edges :: fz fInt.rep v_3 a.Ends :: fz fInt.rep v_1 a.Starts :: L) := hO
      refine hl_v (v_fieldA Try.underlying25 rfl Try.sizeOf23 rfl) rfl ?_
      refine hl_s (o_store1 hO 1 rfl Try.sizeOf23 rfl rfl rfl (Sl.one (hO.osl 0 rfl))) ?_
      rintro _ H_133 hO
      replace hO : Own H_133 Z_129 (own fGEdge 69 v_131 ([] ++ a.Edges) :: box b_56 [.int .i64 (a.States + b.States), v_39, v_49, v_131] 25 :: own fInt 3 v_49 (a.Ends ++ (b.Ends.map (· + a.States))) :: own fInt 3 v_44 (b.Ends.map (· + a.States)) :: own fInt 3 v_39 (a.Starts ++ (b.Starts.map (· + a.States))) :: own fInt 3 v_34 (b.Starts.map (· + a.States)) :: box b_21 [.int .i64 (0 : Int), .slice none 0 0, .slice none 0 0, .slice none 0 0] 25 :: box b_19 [.int .i64 b.States, v_7, v_9, v_11] 25 :: box b_17 [.int .i64 a.States, v_1, v_3, v_5] 25 :: fz fGEdge.rep v_11 b.Edges :: fz fInt.rep v_9 b.Ends :: fz fInt.rep v_7 b.Starts :: fz fGEdge.rep v_5 a.Edges :: fz fInt.rep v_3 a.Ends :: fz fInt.rep v_1 a.Starts :: L) := hO
      refine hl_nil ?_
      refine thenQ_n ?_
      refine hw_sub _ (ai_cons (t := 2) rfl (ai_cons (t := 3) rfl (ai_cons (t := 4) rfl (ai_cons (t := 6) rfl ai_nil)))) ?_
      refine hw_seq ?_
      refine hw_held2 8 (fun H' => ∃ Z' : Nat → Prop, Own H' Z' (box b_56 [.int .i64 (a.States + b.States), v_39, v_49, v_131] 25 :: own fInt 3 v_49 (a.Ends ++ (b.Ends.map (· + a.States))) :: own fInt 3 v_44 (b.Ends.map (· + a.States)) :: own fInt 3 v_39 (a.Starts ++ (b.Starts.map (· + a.States))) :: own fInt 3 v_34 (b.Starts.map (· + a.States)) :: box b_21 [.int .i64 (0 : Int), .slice none 0 0, .slice none 0 0, .slice none 0 0] 25 :: box b_19 [.int .i64 b.States, v_7, v_9, v_11] 25 :: box b_17 [.int .i64 a.States, v_1, v_3, v_5] 25 :: fz fGEdge.rep v_11 b.Edges :: fz fInt.rep v_9 b.Ends :: fz fInt.rep v_7 b.Starts :: fz fGEdge.rep v_5 a.Edges :: fz fInt.rep v_3 a.Ends :: fz fInt.rep v_1 a.Starts :: L)) (.step 0 false (.step 1 false (.step 2 false (.step 3 false (.step 4 false (.step 5 false (.step 6 true (.step 7 true .done)))))))) (.step 8 true (.step 9 true .done)) Try.mixed (by kernel_rfl) ⟨_, (Own.sel (Ls := [own fGEdge 69 v_131 ([] ++ a.Edges), box b_56 [.int .i64 (a.States + b.States), v_39, v_49, v_131] 25, own fInt 3 v_49 (a.Ends ++ (b.Ends.map (· + a.States))), own fInt 3 v_44 (b.Ends.map (· + a.States)), own fInt 3 v_39 (a.Starts ++ (b.Starts.map (· + a.States))), own fInt 3 v_34 (b.Starts.map (· + a.States)), box b_21 [.int .i64 (0 : Int), .slice none 0 0, .slice none 0 0, .slice none 0 0] 25, box b_19 [.int .i64 b.States, v_7, v_9, v_11] 25, box b_17 [.int .i64 a.States, v_1, v_3, v_5] 25, fz fGEdge.rep v_11 b.Edges, fz fInt.rep v_9 b.Ends, fz fInt.rep v_7 b.Starts, fz fGEdge.rep v_5 a.Edges, fz fInt.rep v_3 a.Ends, fz fInt.rep v_1 a.Starts]) (L := L) [1, 2, 3, 4, 5, 6, 7, 8, 9, 10, 11, 12, 13, 14] rfl hO)⟩ ?_
      refine hd_v rfl (fun _ _ => (v_fieldA Try.underlying25 rfl Try.sizeOf23 rfl)) rfl ?_
      refine hd_v rfl (fun H' hS => by obtain ⟨Z', hO⟩ := hS; exact (v_load1 Try.isAgg23 rfl (Blk.cell (hO.box 0 rfl) rfl))) rfl ?_
      refine hd_v rfl (fun _ _ => (v_fieldA Try.underlying25 rfl Try.sizeOf23 rfl)) rfl ?_
      refine hd_v rfl (fun H' hS => by obtain ⟨Z', hO⟩ := hS; exact (v_load1 Try.isAgg23 rfl (Blk.cell (hO.box 6 rfl) rfl))) rfl ?_
      refine hd_v rfl (fun _ _ => (v_fieldA Try.underlying25 rfl Try.sizeOf3 rfl)) rfl ?_
      refine hd_v rfl (fun H' hS => by obtain ⟨Z', hO⟩ := hS; exact (v_load1 Try.isAgg3 rfl (Blk.cell (hO.box 7 rfl) rfl))) rfl ?_
      obtain ⟨hs_134, h⟩ := h
      refine hd_h (h_call Try.call53 (evs_cons rfl (evs_cons rfl evs_nil)) (rShifted_spec (a0 := b.Edges) (a1 := a.States) hs_134 hO (Rd.of_fz (i := 9) rfl))) (by rintro vv H_136 ⟨Z_137, v_135, hz_138, hv, hO⟩; obtain rfl := hv.symm; replace hZ := fun b hb => hz_138 b (hZ b hb); exact ⟨_, (Own.sel (Ls := [own fGEdge 69 v_135 (b.Edges.map (eBy a.States)), own fGEdge 69 v_131 ([] ++ a.Edges), box b_56 [.int .i64 (a.States + b.States), v_39, v_49, v_131] 25, own fInt 3 v_49 (a.Ends ++ (b.Ends.map (· + a.States))), own fInt 3 v_44 (b.Ends.map (· + a.States)), own fInt 3 v_39 (a.Starts ++ (b.Starts.map (· + a.States))), own fInt 3 v_34 (b.Starts.map (· + a.States)), box b_21 [.int .i64 (0 : Int), .slice none 0 0, .slice none 0 0, .slice none 0 0] 25, box b_19 [.int .i64 b.States, v_7, v_9, v_11] 25, box b_17 [.int .i64 a.States, v_1, v_3, v_5] 25, fz fGEdge.rep v_11 b.Edges, fz fInt.rep v_9 b.Ends, fz fInt.rep v_7 b.Starts, fz fGEdge.rep v_5 a.Edges, fz fInt.rep v_3 a.Ends, fz fInt.rep v_1 a.Starts]) (L := L) [2, 3, 4, 5, 6, 7, 8, 9, 10, 11, 12, 13, 14, 15] rfl hO)⟩) rfl ?_
      rintro vv H_136 ⟨Z_137, v_135, hz_138, hv, hO⟩
      obtain rfl := hv.symm
      replace hZ := fun b hb => hz_138 b (hZ b hb)
      replace hO : Own H_136 Z_137 (own fGEdge 69 v_135 (b.Edges.map (eBy a.States)) :: own fGEdge 69 v_131 ([] ++ a.Edges) :: box b_56 [.int .i64 (a.States + b.States), v_39, v_49, v_131] 25 :: own fInt 3 v_49 (a.Ends ++ (b.Ends.map (· + a.States))) :: own fInt 3 v_44 (b.Ends.map (· + a.States)) :: own fInt 3 v_39 (a.Starts ++ (b.Starts.map (· + a.States))) :: own fInt 3 v_34 (b.Starts.map (· + a.States)) :: box b_21 [.int .i64 (0 : Int), .slice none 0 0, .slice none 0 0, .slice none 0 0] 25 :: box b_19 [.int .i64 b.States, v_7, v_9, v_11] 25 :: box b_17 [.int .i64 a.States, v_1, v_3, v_5] 25 :: fz fGEdge.rep v_11 b.Edges :: fz fInt.rep v_9 b.Ends :: fz fInt.rep v_7 b.Starts :: fz fGEdge.rep v_5 a.Edges :: fz fInt.rep v_3 a.Ends :: fz fInt.rep v_1 a.Starts :: L) := hO
      obtain ⟨hs_141, h⟩ := h
      refine hd_h (o_append (l2 := (b.Edges.map (eBy a.States))) hO 1 rfl rfl Try.underlying23 Try.type69 rfl rfl rfl rfl rfl rfl rfl (hO.osl 0 rfl) hs_141 (le63 hs_141 rfl)) (by rintro v_140 H_139 hO; exact ⟨_, (Own.sel (Ls := [own fGEdge 69 v_135 (b.Edges.map (eBy a.States)), own fGEdge 69 v_140 (([] ++ a.Edges) ++ (b.Edges.map (eBy a.States))), box b_56 [.int .i64 (a.States + b.States), v_39, v_49, v_131] 25, own fInt 3 v_49 (a.Ends ++ (b.Ends.map (· + a.States))), own fInt 3 v_44 (b.Ends.map (· + a.States)), own fInt 3 v_39 (a.Starts ++ (b.Starts.map (· + a.States))), own fInt 3 v_34 (b.Starts.map (· + a.States)), box b_21 [.int .i64 (0 : Int), .slice none 0 0, .slice none 0 0, .slice none 0 0] 25, box b_19 [.int .i64 b.States, v_7, v_9, v_11] 25, box b_17 [.int .i64 a.States, v_1, v_3, v_5] 25, fz fGEdge.rep v_11 b.Edges, fz fInt.rep v_9 b.Ends, fz fInt.rep v_7 b.Starts, fz fGEdge.rep v_5 a.Edges, fz fInt.rep v_3 a.Ends, fz fInt.rep v_1 a.Starts]) (L := L) [2, 3, 4, 5, 6, 7, 8, 9, 10, 11, 12, 13, 14, 15] rfl hO)⟩) rfl ?_
      rintro v_140 H_139 hO
      replace hO : Own H_139 Z_137 (own fGEdge 69 v_135 (b.Edges.map (eBy a.States)) :: own fGEdge 69 v_140 (([] ++ a.Edges) ++ (b.Edges.map (eBy a.States))) :: box b_56 [.int .i64 (a.States + b.States), v_39, v_49, v_131] 25 :: own fInt 3 v_49 (a.Ends ++ (b.Ends.map (· + a.States))) :: own fInt 3 v_44 (b.Ends.map (· + a.States)) :: own fInt 3 v_39 (a.Starts ++ (b.Starts.map (· + a.States))) :: own fInt 3 v_34 (b.Starts.map (· + a.States)) :: box b_21 [.int .i64 (0 : Int), .slice none 0 0, .slice none 0 0, .slice none 0 0] 25 :: box b_19 [.int .i64 b.States, v_7, v_9, v_11] 25 :: box b_17 [.int .i64 a.States, v_1, v_3, v_5] 25 :: fz fGEdge.rep v_11 b.Edges :: fz fInt.rep v_9 b.Ends :: fz fInt.rep v_7 b.Starts :: fz fGEdge.rep v_5 a.Edges :: fz fInt.rep v_3 a.Ends :: fz fInt.rep v_1 a.Starts :: L) := hO
      refine hd_nil ?_
      refine hd_h (OpV.toH (v_fieldA Try.underlying25 rfl Try.sizeOf23 rfl)) (fun _ _ hR => trivial) rfl ?_
      rintro vv HH ⟨hvv, hHH⟩
      obtain rfl := hvv.symm
      obtain rfl := hHH.symm
      refine hd_s (o_store1 hO 2 rfl Try.sizeOf23 rfl rfl rfl (Sl.one (hO.osl 1 rfl))) (fun _ _ _ => trivial) ?_
      rintro _ H_142 hO
      replace hO : Own H_142 Z_137 (own fGEdge 69 v_135 (b.Edges.map (eBy a.States)) :: own fGEdge 69 v_140 (([] ++ a.Edges) ++ (b.Edges.map (eBy a.States))) :: box b_56 [.int .i64 (a.States + b.States), v_39, v_49, v_140] 25 :: own fInt 3 v_49 (a.Ends ++ (b.Ends.map (· + a.States))) :: own fInt 3 v_44 (b.Ends.map (· + a.States)) :: own fInt 3 v_39 (a.Starts ++ (b.Starts.map (· + a.States))) :: own fInt 3 v_34 (b.Starts.map (· + a.States)) :: box b_21 [.int .i64 (0 : Int), .slice none 0 0, .slice none 0 0, .slice none 0 0] 25 :: box b_19 [.int .i64 b.States, v_7, v_9, v_11] 25 :: box b_17 [.int .i64 a.States, v_1, v_3, v_5] 25 :: fz fGEdge.rep v_11 b.Edges :: fz fInt.rep v_9 b.Ends :: fz fInt.rep v_7 b.Starts :: fz fGEdge.rep v_5 a.Edges :: fz fInt.rep v_3 a.Ends :: fz fInt.rep v_1 a.Starts :: L) := hO
      refine hd_nil ?_
      refine thenQ_n ?_
      refine hw_sub _ (ai_cons (t := 4) rfl (ai_cons (t := 6) rfl ai_nil)) ?_
      refine hw_seq ?_
      refine hw_region ?_
      refine hl_v (v_loadA Try.isAgg25 Try.sizeOf25 rfl (Blk.at0 (hO.box 2 rfl)) rfl) rfl ?_
      refine hl_h (h_call Try.call54 (evs_cons rfl evs_nil) (rEnd_spec (a0 := (⟨(a.States + b.States), (a.Starts ++ (b.Starts.map (· + a.States))), (a.Ends ++ (b.Ends.map (· + a.States))), (([] ++ a.Edges) ++ (b.Edges.map (eBy a.States)))⟩ : GNfa)) (L := own fGEdge 69 v_135 (b.Edges.map (eBy a.States)) :: box b_56 [.int .i64 (a.States + b.States), v_39, v_49, v_140] 25 :: own fInt 3 v_44 (b.Ends.map (· + a.States)) :: own fInt 3 v_34 (b.Starts.map (· + a.States)) :: box b_21 [.int .i64 (0 : Int), .slice none 0 0, .slice none 0 0, .slice none 0 0] 25 :: box b_19 [.int .i64 b.States, v_7, v_9, v_11] 25 :: box b_17 [.int .i64 a.States, v_1, v_3, v_5] 25 :: fz fGEdge.rep v_11 b.Edges :: fz fInt.rep v_9 b.Ends :: fz fInt.rep v_7 b.Starts :: fz fGEdge.rep v_5 a.Edges :: fz fInt.rep v_3 a.Ends :: fz fInt.rep v_1 a.Starts :: L) (Own.sel (Ls := [own fGEdge 69 v_135 (b.Edges.map (eBy a.States)), own fGEdge 69 v_140 (([] ++ a.Edges) ++ (b.Edges.map (eBy a.States))), box b_56 [.int .i64 (a.States + b.States), v_39, v_49, v_140] 25, own fInt 3 v_49 (a.Ends ++ (b.Ends.map (· + a.States))), own fInt 3 v_44 (b.Ends.map (· + a.States)), own fInt 3 v_39 (a.Starts ++ (b.Starts.map (· + a.States))), own fInt 3 v_34 (b.Starts.map (· + a.States)), box b_21 [.int .i64 (0 : Int), .slice none 0 0, .slice none 0 0, .slice none 0 0] 25, box b_19 [.int .i64 b.States, v_7, v_9, v_11] 25, box b_17 [.int .i64 a.States, v_1, v_3, v_5] 25, fz fGEdge.rep v_11 b.Edges, fz fInt.rep v_9 b.Ends, fz fInt.rep v_7 b.Starts, fz fGEdge.rep v_5 a.Edges, fz fInt.rep v_3 a.Ends, fz fInt.rep v_1 a.Starts]) (L := L) [5, 3, 1, 0, 2, 4, 6, 7, 8, 9, 10, 11, 12, 13, 14, 15] rfl hO))) rfl ?_
      rintro vv H_146 ⟨Z_147, v_143, v_144, v_145, hz_148, hv, hO⟩
      obtain rfl := hv.symm
      replace hZ := fun b hb => hz_148 b (hZ b hb)
      replace hO : Own H_146 Z_147 (own fInt 3 v_143 (((nEnd (⟨(a.States + b.States), (a.Starts ++ (b.Starts.map (· + a.States))), (a.Ends ++ (b.Ends.map (· + a.States))), (([] ++ a.Edges) ++ (b.Edges.map (eBy a.States)))⟩ : GNfa)).1).Starts) :: own fInt 3 v_144 (((nEnd (⟨(a.States + b.States), (a.Starts ++ (b.Starts.map (· + a.States))), (a.Ends ++ (b.Ends.map (· + a.States))), (([] ++ a.Edges) ++ (b.Edges.map (eBy a.States)))⟩ : GNfa)).1).Ends) :: own fGEdge 69 v_145 (((nEnd (⟨(a.States + b.States), (a.Starts ++ (b.Starts.map (· + a.States))), (a.Ends ++ (b.Ends.map (· + a.States))), (([] ++ a.Edges) ++ (b.Edges.map (eBy a.States)))⟩ : GNfa)).1).Edges) :: own fGEdge 69 v_135 (b.Edges.map (eBy a.States)) :: box b_56 [.int .i64 (a.States + b.States), v_39, v_49, v_140] 25 :: own fInt 3 v_44 (b.Ends.map (· + a.States)) :: own fInt 3 v_34 (b.Starts.map (· + a.States)) :: box b_21 [.int .i64 (0 : Int), .slice none 0 0, .slice none 0 0, .slice none 0 0] 25 :: box b_19 [.int .i64 b.States, v_7, v_9, v_11] 25 :: box b_17 [.int .i64 a.States, v_1, v_3, v_5] 25 :: fz fGEdge.rep v_11 b.Edges :: fz fInt.rep v_9 b.Ends :: fz fInt.rep v_7 b.Starts :: fz fGEdge.rep v_5 a.Edges :: fz fInt.rep v_3 a.Ends :: fz fInt.rep v_1 a.Starts :: L) := hO
      refine hl_v (v_extract rfl rfl) rfl ?_
      refine hl_v (v_extract rfl rfl) rfl ?_
      refine hl_s (o_storeA (us := [.int .i64 (((nEnd (⟨(a.States + b.States), (a.Starts ++ (b.Starts.map (· + a.States))), (a.Ends ++ (b.Ends.map (· + a.States))), (([] ++ a.Edges) ++ (b.Edges.map (eBy a.States)))⟩ : GNfa)).1).States), v_143, v_144, v_145]) hO 7 rfl Try.sizeOf25 rfl rfl rfl rfl (by simp only [List.forall_mem_cons]; exact ⟨rfl, (Sl.one (hO.osl 0 rfl)), (Sl.one (hO.osl 1 rfl)), (Sl.one (hO.osl 2 rfl)), by simp⟩)) ?_
      rintro _ H_149 hO
      replace hO : Own H_149 Z_147 (own fInt 3 v_143 (((nEnd (⟨(a.States + b.States), (a.Starts ++ (b.Starts.map (· + a.States))), (a.Ends ++ (b.Ends.map (· + a.States))), (([] ++ a.Edges) ++ (b.Edges.map (eBy a.States)))⟩ : GNfa)).1).Starts) :: own fInt 3 v_144 (((nEnd (⟨(a.States + b.States), (a.Starts ++ (b.Starts.map (· + a.States))), (a.Ends ++ (b.Ends.map (· + a.States))), (([] ++ a.Edges) ++ (b.Edges.map (eBy a.States)))⟩ : GNfa)).1).Ends) :: own fGEdge 69 v_145 (((nEnd (⟨(a.States + b.States), (a.Starts ++ (b.Starts.map (· + a.States))), (a.Ends ++ (b.Ends.map (· + a.States))), (([] ++ a.Edges) ++ (b.Edges.map (eBy a.States)))⟩ : GNfa)).1).Edges) :: own fGEdge 69 v_135 (b.Edges.map (eBy a.States)) :: box b_56 [.int .i64 (a.States + b.States), v_39, v_49, v_140] 25 :: own fInt 3 v_44 (b.Ends.map (· + a.States)) :: own fInt 3 v_34 (b.Starts.map (· + a.States)) :: box b_21 [.int .i64 (((nEnd (⟨(a.States + b.States), (a.Starts ++ (b.Starts.map (· + a.States))), (a.Ends ++ (b.Ends.map (· + a.States))), (([] ++ a.Edges) ++ (b.Edges.map (eBy a.States)))⟩ : GNfa)).1).States), v_143, v_144, v_145] 25 :: box b_19 [.int .i64 b.States, v_7, v_9, v_11] 25 :: box b_17 [.int .i64 a.States, v_1, v_3, v_5] 25 :: fz fGEdge.rep v_11 b.Edges :: fz fInt.rep v_9 b.Ends :: fz fInt.rep v_7 b.Starts :: fz fGEdge.rep v_5 a.Edges :: fz fInt.rep v_3 a.Ends :: fz fInt.rep v_1 a.Starts :: L) := hO
      refine hl_v (v_assign rfl) rfl ?_
      refine hl_nil ?_
      refine thenQ_n ?_
      refine hw_sub _ (ai_cons (t := 4) rfl (ai_cons (t := 5) rfl ai_nil)) ?_
      refine hw_ret ?_
      refine ret_i _ (ra_c rfl (fun w hw => run_loadVar_at (cs := [.int .i64 (((nEnd (⟨(a.States + b.States), (a.Starts ++ (b.Starts.map (· + a.States))), (a.Ends ++ (b.Ends.map (· + a.States))), (([] ++ a.Edges) ++ (b.Edges.map (eBy a.States)))⟩ : GNfa)).1).States), v_143, v_144, v_145]) Try.isAgg25 Try.sizeOf25 (Blk.at0 (hO.box 7 rfl)) rfl w hw) (ra_t rfl ra_nil)) ?_
      exact ⟨_, ((nEnd (⟨(a.States + b.States), (a.Starts ++ (b.Starts.map (· + a.States))), (a.Ends ++ (b.Ends.map (· + a.States))), (([] ++ a.Edges) ++ (b.Edges.map (eBy a.States)))⟩ : GNfa)).1), (nEnd (⟨(a.States + b.States), (a.Starts ++ (b.Starts.map (· + a.States))), (a.Ends ++ (b.Ends.map (· + a.States))), (([] ++ a.Edges) ++ (b.Edges.map (eBy a.States)))⟩ : GNfa)).2, v_143, v_144, v_145, hZ, h, rfl, (Own.sel (Ls := [own fInt 3 v_143 (((nEnd (⟨(a.States + b.States), (a.Starts ++ (b.Starts.map (· + a.States))), (a.Ends ++ (b.Ends.map (· + a.States))), (([] ++ a.Edges) ++ (b.Edges.map (eBy a.States)))⟩ : GNfa)).1).Starts), own fInt 3 v_144 (((nEnd (⟨(a.States + b.States), (a.Starts ++ (b.Starts.map (· + a.States))), (a.Ends ++ (b.Ends.map (· + a.States))), (([] ++ a.Edges) ++ (b.Edges.map (eBy a.States)))⟩ : GNfa)).1).Ends), own fGEdge 69 v_145 (((nEnd (⟨(a.States + b.States), (a.Starts ++ (b.Starts.map (· + a.States))), (a.Ends ++ (b.Ends.map (· + a.States))), (([] ++ a.Edges) ++ (b.Edges.map (eBy a.States)))⟩ : GNfa)).1).Edges), own fGEdge 69 v_135 (b.Edges.map (eBy a.States)), box b_56 [.int .i64 (a.States + b.States), v_39, v_49, v_140] 25, own fInt 3 v_44 (b.Ends.map (· + a.States)), own fInt 3 v_34 (b.Starts.map (· + a.States)), box b_21 [.int .i64 (((nEnd (⟨(a.States + b.States), (a.Starts ++ (b.Starts.map (· + a.States))), (a.Ends ++ (b.Ends.map (· + a.States))), (([] ++ a.Edges) ++ (b.Edges.map (eBy a.States)))⟩ : GNfa)).1).States), v_143, v_144, v_145] 25, box b_19 [.int .i64 b.States, v_7, v_9, v_11] 25, box b_17 [.int .i64 a.States, v_1, v_3, v_5] 25, fz fGEdge.rep v_11 b.Edges, fz fInt.rep v_9 b.Ends, fz fInt.rep v_7 b.Starts, fz fGEdge.rep v_5 a.Edges, fz fInt.rep v_3 a.Ends, fz fInt.rep v_1 a.Starts]) (L := L) [0, 1, 2] rfl hO)⟩
theorem rAlt_spec {a0 : GNfa} {a1 : GNfa} {v_1 : Value} {v_3 : Value} {v_5 : Value} {v_7 : Value} {v_9 : Value} {v_11 : Value} {L : List As} (hp : (a0.Starts.length ≤ 17592186044416 ∧ a0.Ends.length ≤ 17592186044416) ∧ (a1.Starts.length ≤ 17592186044416 ∧ a1.Ends.length ≤ 17592186044416)) {H : Heap} {Z : Nat → Prop} (hO : Own H Z (L)) (hf_2 : Fz fInt.rep L v_1 a0.Starts) (hf_4 : Fz fInt.rep L v_3 a0.Ends) (hf_6 : Fz fGEdge.rep L v_5 a0.Edges) (hf_8 : Fz fInt.rep L v_7 a1.Starts) (hf_10 : Fz fInt.rep L v_9 a1.Ends) (hf_12 : Fz fGEdge.rep L v_11 a1.Edges) : HC Try.prog 20 [.agg [.int .i64 a0.States, v_1, v_3, v_5].toArray, .agg [.int .i64 a1.States, v_7, v_9, v_11].toArray] H (fun v H' => ∃ (Z' : Nat → Prop) (v_13 : Value) (v_14 : Value) (v_15 : Value), (∀ a1, Z a1 → Z' a1) ∧ v = .tuple #[.agg [.int .i64 ((nAlt a0 a1).1).States, v_13, v_14, v_15].toArray, .int .i64 ((nAlt a0 a1).2)] ∧ Own H' Z' (own fInt 3 v_13 ((nAlt a0 a1).1).Starts :: own fInt 3 v_14 ((nAlt a0 a1).1).Ends :: own fGEdge 69 v_15 ((nAlt a0 a1).1).Edges :: L)) := by
  refine (rAlt_ok (a := a0) (b := a1) (@rAlt_wp a0 a1 hp) hO hf_2 hf_4 hf_6 hf_8 hf_10 hf_12).mono ?_
  rintro v H' ⟨Z', r0, r1, v_13, v_14, v_15, hz, hq, hv, hO'⟩
  obtain ⟨rfl, rfl⟩ := hq
  exact ⟨Z', v_13, v_14, v_15, hz, hv, hO'⟩

end Go.Proofs.Ytbaciogbhjcdoaa
