/- Several texts in one. No condition. -/
import Derived.Test.YtaopgjfioabfpaaGreatMg18FunTells
import Derived.Test.YtaopgjfioabfpaaGreatProg
set_option linter.unusedVariables false
set_option linter.unusedSimpArgs false
set_option maxRecDepth 20000
namespace Go.Proofs.YtaopgjfioabfpaaGreat
section
open Go.Proofs
open Tryz
theorem eqv_39_15r (a b : GArc) (w : World) : (Op.equalIn 10000 39 (.agg (fGArc.enc a).toArray) (.agg (fGArc.enc b).toArray)).run Tryz.prog w = .ok (decide (a = b)) w := by
  have hF := (show ∀ fs, Tryz.prog.underlying 39 = some (.struct fs) → Tryz.prog.fieldsOf 39 = fs from fun fs h => by unfold Program.fieldsOf; rw [h]) _ underlying39
  have e : decide (a = b) = (decide (a.From = b.From) && (decide (a.To = b.To) && (decide (a.Set = b.Set) && (decide (a.Out = b.Out) && (decide (a.Copy = b.Copy) && true))))) := by
    obtain ⟨a0, a1, a2, a3, a4⟩ := a; obtain ⟨b0, b1, b2, b3, b4⟩ := b
    rw [Bool.eq_iff_iff]; simp [GArc.mk.injEq]
  rw [e, show (10000 : Nat) = 9999 + 1 from rfl, run_equalIn_struct w 9999 39 _ _ (by rw [hF]; exact underlying39) (by kernel_rfl), hF]
  exact (eqF_cons (by decide) (part1 isAgg3 rfl) (part1 isAgg3 rfl) (eqI underlying3) (eqF_cons (by decide) (part1 isAgg3 rfl) (part1 isAgg3 rfl) (eqI underlying3) (eqF_cons (by decide) (partA isAgg37 sizeOf37 rfl) (partA isAgg37 sizeOf37 rfl) (eqSet (d := 9997) underlying37 underlying35 sizeOf35) (eqF_cons (by decide) (part1 isAgg9 rfl) (part1 isAgg9 rfl) (eqS underlying9) (eqF_cons (by decide) (part1 isAgg4 rfl) (part1 isAgg4 rfl) (eqB underlying4) eqF_nil))))) w
theorem eqv_50_15r (a b : GTip) (w : World) : (Op.equalIn 10000 50 (.agg (fGTip.enc a).toArray) (.agg (fGTip.enc b).toArray)).run Tryz.prog w = .ok (decide (a = b)) w := by
  have hF := (show ∀ fs, Tryz.prog.underlying 50 = some (.struct fs) → Tryz.prog.fieldsOf 50 = fs from fun fs h => by unfold Program.fieldsOf; rw [h]) _ underlying50
  have e : decide (a = b) = (decide (a.State = b.State) && (decide (a.Out = b.Out) && true)) := by
    obtain ⟨a0, a1⟩ := a; obtain ⟨b0, b1⟩ := b
    rw [Bool.eq_iff_iff]; simp [GTip.mk.injEq]
  rw [e, show (10000 : Nat) = 9999 + 1 from rfl, run_equalIn_struct w 9999 50 _ _ (by rw [hF]; exact underlying50) (by kernel_rfl), hF]
  exact (eqF_cons (by decide) (part1 isAgg3 rfl) (part1 isAgg3 rfl) (eqI underlying3) (eqF_cons (by decide) (part1 isAgg9 rfl) (part1 isAgg9 rfl) (eqS underlying9) eqF_nil)) w
theorem rTips15_ok {l : List GTip} {n : Int} {v_1 : Value} {Q : Bool → Prop} {H : Heap} {Z : Nat → Prop} {L : List As} (h : wp_rTips15 l n Q) (hO : Own H Z (L)) (hr_2 : Rd fGTip.rep L v_1 l) : HC Tryz.prog 33 [v_1, .int .i64 n] H (fun v H' => ∃ (r0 : Bool) , Q r0 ∧ v = .bool r0 ∧ H' = H) := by
 unfold wp_rTips15 at h
 refine hc_of_hw (N := 39) (rs := [(.tmp 4)]) Tryz.func33 rfl rfl rfl rfl (hw_seq (hw_region (hl_v (v_assign rfl) rfl (hl_nil (thenQ_n (hw_seq (hw_seq (hw_region (hl_v (v_assign rfl) rfl (hl_nil (thenQ_n (hw_block ?_))))))))))))
 obtain ⟨I_3, h, hI_5⟩ := h
 refine hw_lp (fun n' g' H' => ∃ (i : Nat) (Z' : Nat → Prop), n' = l.length - i ∧ g' = [(0, v_1), (1, .int .i64 n), (5, .int .i64 (i : Int))] ∧ I_3 i ∧ i ≤ l.length ∧ Own H' Z' (L) ∧ H = H') _ _ (a_c 0 rfl (a_c 1 rfl (a_c 5 rfl a_n))) ⟨0, _, rfl, rfl, h, by omega, hO, rfl⟩ ?_
 rintro _ _ H_6 ⟨i, Z_7, rfl, rfl, h, hb_8, hO, rfl⟩
 replace h := hI_5 i h hb_8
 refine hw_seq (hw_seq (hw_region (hl_v (v_move rfl) rfl (hl_v (v_move rfl) rfl ?_))))
 have hln_9 := Sl.cap (Rd.sl hr_2 hO)
 refine hl_v (v_lenL rfl underlying22 rfl (Rd.sl hr_2 hO)) rfl (hl_v (v_lss rfl rfl) rfl (hl_nil (thenQ_n (hw_cond rfl (fun hc_10 => ?_) (fun hc_10 => ?_)))))
 ·replace h := ite_t h hc_10
  refine hw_skip (thenQ_n (hw_seq (hw_block (hw_seq (hw_region (hl_v (v_move rfl) rfl (hl_v (v_move rfl) rfl (hl_v (v_ixL underlying22 sizeOf50 rfl rfl (Rd.sl hr_2 hO) (by exact ⟨Int.natCast_nonneg _, of_decide_eq_true hc_10⟩)) rfl (hl_v (v_fieldA underlying50 rfl sizeOf3 rfl) rfl (hl_v (v_loadSub (j := 0) isAgg3 rfl (Rd.sl hr_2 hO) rfl (by exact ⟨Int.natCast_nonneg _, of_decide_eq_true hc_10⟩) rfl) rfl (hl_v (v_lss rfl rfl) rfl (hl_v (v_move rfl) rfl (hl_g rfl rfl (fun hg => (v_move rfl)) rfl (hl_g rfl rfl (fun hg => (v_move rfl)) rfl (hl_g rfl rfl (fun hg => (v_ixL underlying22 sizeOf50 (gv_ok rfl hg) (gv_ok rfl hg) (Rd.sl hr_2 hO) (show (0 : Int) ≤ (i : Int) ∧ (i : Int) < (l.length : Int) from ⟨Int.natCast_nonneg _, of_decide_eq_true hc_10⟩))) rfl (hl_g rfl rfl (fun hg => (v_fieldA underlying50 rfl sizeOf3 (gv_ok rfl hg))) rfl (hl_g rfl rfl (fun hg => (v_loadSub (j := 0) isAgg3 (gv_ok rfl hg) (Rd.sl hr_2 hO) rfl (show (0 : Int) ≤ (i : Int) ∧ (i : Int) < (l.length : Int) from ⟨Int.natCast_nonneg _, of_decide_eq_true hc_10⟩) rfl)) rfl (hl_g rfl rfl (fun hg => (v_move rfl)) rfl (hl_g rfl rfl (fun hg => (v_geq (gv_ok rfl hg) (gv_ok rfl hg))) rfl (hl_v (v_or rfl rfl) rfl (hl_v (v_move rfl) rfl (hl_g rfl rfl (fun hg => (v_move rfl)) rfl (hl_g rfl rfl (fun hg => (v_move rfl)) rfl (hl_g rfl rfl (fun hg => (v_ixL underlying22 sizeOf50 (gv_ok rfl hg) (gv_ok rfl hg) (Rd.sl hr_2 hO) (show (0 : Int) ≤ (i : Int) ∧ (i : Int) < (l.length : Int) from ⟨Int.natCast_nonneg _, of_decide_eq_true hc_10⟩))) rfl ?_))))))))))))))))))))))))
  refine hl_g rfl rfl (fun hg => (v_fieldA underlying50 rfl sizeOf9 (gv_ok rfl hg))) rfl (hl_g rfl rfl (fun hg => (v_loadSub (j := 1) isAgg9 (gv_ok rfl hg) (Rd.sl hr_2 hO) rfl (show (0 : Int) ≤ (i : Int) ∧ (i : Int) < (l.length : Int) from ⟨Int.natCast_nonneg _, of_decide_eq_true hc_10⟩) rfl)) rfl (hl_g rfl rfl (fun hg => (v_lenS rfl underlying9 (gv_ok rfl hg))) rfl (hl_g rfl rfl (fun hg => (v_gtr (gv_ok rfl hg) rfl)) rfl (hl_v (v_or rfl rfl) rfl (hl_nil (thenQ_n (hw_sub _ (a_c 0 rfl (a_c 1 rfl (a_c 5 rfl (a_c 35 rfl a_n)))) (hw_cond rfl (fun hc_11 => ?_) (fun hc_11 => ?_)))))))))
  ·replace h := ite_t h hc_11
   refine hw_seq (hw_region (hl_v (v_assign rfl) rfl (hl_nil (thenQ_n (hw_ret (blockQ_r (thenQ_r (thenQ_r (blockQ_r (thenQ_r (ret_i _ (ra_t rfl ra_nil) ?_)))))))))))
   exact ⟨false, h, rfl, rfl⟩
  ·replace h := ite_f h hc_11
   refine hw_skip (blockQ_n (thenQ_n (hw_region (hl_v (v_move rfl) rfl (hl_v (v_add rfl rfl (by have hq := of_decide_eq_true hc_10; have hm := hln_9; constructor <;> omega)) rfl (hl_v (v_assign rfl) rfl (hl_nil (thenQ_n ?_))))))))
   exact ⟨_, _, (a_c 0 rfl (a_c 1 rfl (a_c 5 rfl a_n))), ⟨i + 1, _, rfl, rfl, h, (by have hq := of_decide_eq_true hc_10; omega), hO, rfl⟩, (by have hq := of_decide_eq_true hc_10; omega)⟩
 ·replace h := ite_f h hc_10
  refine hw_exit (thenQ_e (thenQ_e (blockQ_hit (thenQ_n (hw_seq (hw_region (hl_v (v_move rfl) rfl (hl_v (v_lenL rfl underlying22 rfl (Rd.sl hr_2 hO)) rfl (hl_v (v_leq rfl rfl) rfl (hl_v (v_assign rfl) rfl (hl_nil (thenQ_n (hw_ret (ret_i _ (ra_t rfl ra_nil) ?_))))))))))))))
  exact ⟨decide ((l.length : Int) ≤ 1024), h, rfl, rfl⟩
theorem rTips15_spec {a0 : List GTip} {a1 : Int} {v_1 : Value} {L : List As} (hp : a0.length ≤ 17592186044416) {H : Heap} {Z : Nat → Prop} (hO : Own H Z (L)) (hr_2 : Rd fGTip.rep L v_1 a0) : HC Tryz.prog 33 [v_1, .int .i64 a1] H (fun v H' => v = .bool (rTipsOk a0 a1) ∧ H' = H) := by
  refine (rTips15_ok (l := a0) (n := a1) (@rTips15_wp a0 a1 hp) hO hr_2).mono ?_
  rintro v H' ⟨r0, hq, hv, hH⟩
  obtain rfl := hq
  exact ⟨hv, hH⟩
theorem rRight15_ok {t : GFst} {v_1 : Value} {v_3 : Value} {v_5 : Value} {Q : Bool → Prop} {H : Heap} {Z : Nat → Prop} {L : List As} (h : wp_rRight15 t Q) (hO : Own H Z (L)) (hf_2 : Fz fGTip.rep L v_1 t.Starts) (hf_4 : Fz fGTip.rep L v_3 t.Ends) (hf_6 : Fz fGArc.rep L v_5 t.Arcs) : HC Tryz.prog 19 [.agg [.int .i64 t.States, v_1, v_3, v_5].toArray] H (fun v H' => ∃ (Z' : Nat → Prop) (r0 : Bool) , (∀ b, Z b → Z' b) ∧ Q r0 ∧ v = .bool r0 ∧ Own H' Z' (L)) := by
 replace hO := hO.inZ
 replace hO := Fz.items [_] hf_2 hO
 replace hO := Fz.items [_, _] hf_4 hO
 replace hO := Fz.items [_, _, _] hf_6 hO
 unfold wp_rRight15 at h
 refine hc_of_hw (N := 81) (rs := [(.tmp 2)]) Tryz.func19 rfl rfl rfl rfl (hw_seq (hw_region (hl_h (o_box (cs := [.int .i64 t.States, v_1, v_3, v_5]) hO rfl rfl) rfl ?_)))
 rintro _ H_7 ⟨b_8, rfl, hO⟩
 refine hl_v (v_assign rfl) rfl (hl_nil (thenQ_n (hw_seq (hw_seq (hw_region (hl_v (v_fieldA underlying25 rfl sizeOf3 rfl) rfl (hl_v (v_load1 isAgg3 rfl (Blk.cell (hO.box 0 rfl) rfl)) rfl (hl_v (v_lss rfl rfl) rfl (hl_v (v_move rfl) rfl (hl_g rfl rfl (fun hg => (v_fieldA underlying25 rfl sizeOf3 rfl)) rfl (hl_g rfl rfl (fun hg => (v_load1 isAgg3 (gv_ok rfl hg) (Blk.cell (hO.box 0 rfl) rfl))) rfl (hl_g rfl rfl (fun hg => (v_gtr (gv_ok rfl hg) rfl)) rfl (hl_v (v_or rfl rfl) rfl (hl_v (v_move rfl) rfl (hl_g rfl rfl (fun hg => (v_fieldA underlying25 rfl sizeOf22 rfl)) rfl (hl_g rfl rfl (fun hg => (v_load1 isAgg22 (gv_ok rfl hg) (Blk.cell (hO.box 0 rfl) rfl))) rfl (hl_g rfl rfl (fun hg => (v_fieldA underlying25 rfl sizeOf3 rfl)) rfl (hl_g rfl rfl (fun hg => (v_load1 isAgg3 (gv_ok rfl hg) (Blk.cell (hO.box 0 rfl) rfl))) rfl ?_))))))))))))))))))
 obtain ⟨hs_9, h⟩ := h
 refine hl_g rfl rfl (fun hg => (v_call call33 (evs_cons (gv_ok rfl hg) (evs_cons (gv_ok rfl hg) evs_nil)) (rTips15_spec (a0 := t.Starts) (a1 := t.States) (hs_9 (gb_bool hg)) hO (Rd.of_fz (i := 3) rfl)))) rfl (hl_g rfl rfl (fun hg => (v_not (gv_ok rfl hg))) rfl (hl_v (v_or rfl rfl) rfl (hl_v (v_move rfl) rfl (hl_g rfl rfl (fun hg => (v_fieldA underlying25 rfl sizeOf22 rfl)) rfl (hl_g rfl rfl (fun hg => (v_load1 isAgg22 (gv_ok rfl hg) (Blk.cell (hO.box 0 rfl) rfl))) rfl (hl_g rfl rfl (fun hg => (v_fieldA underlying25 rfl sizeOf3 rfl)) rfl (hl_g rfl rfl (fun hg => (v_load1 isAgg3 (gv_ok rfl hg) (Blk.cell (hO.box 0 rfl) rfl))) rfl ?_)))))))
 obtain ⟨hs_10, h⟩ := h
 refine hl_g rfl rfl (fun hg => (v_call call33 (evs_cons (gv_ok rfl hg) (evs_cons (gv_ok rfl hg) evs_nil)) (rTips15_spec (a0 := t.Ends) (a1 := t.States) (hs_10 (gb_bool hg)) hO (Rd.of_fz (i := 2) rfl)))) rfl (hl_g rfl rfl (fun hg => (v_not (gv_ok rfl hg))) rfl (hl_v (v_or rfl rfl) rfl (hl_v (v_move rfl) rfl (hl_g rfl rfl (fun hg => (v_fieldA underlying25 rfl sizeOf23 rfl)) rfl (hl_g rfl rfl (fun hg => (v_load1 isAgg23 (gv_ok rfl hg) (Blk.cell (hO.box 0 rfl) rfl))) rfl ?_)))))
 have hln_11 := Sl.cap (hO.fsl 1 rfl)
 refine hl_g rfl rfl (fun hg => (v_lenL rfl underlying23 (gv_ok rfl hg) (hO.fsl 1 rfl))) rfl (hl_g rfl rfl (fun hg => (v_gtr (gv_ok rfl hg) rfl)) rfl (hl_v (v_or rfl rfl) rfl (hl_nil (thenQ_n (hw_sub _ (a_c 1 rfl (a_c 34 rfl a_n)) (hw_cond rfl (fun hc_12 => ?_) (fun hc_12 => ?_)))))))
 ·replace h := ite_t h hc_12
  refine hw_seq (hw_region (hl_v (v_assign rfl) rfl (hl_nil (thenQ_n (hw_ret (thenQ_r (ret_i _ (ra_t rfl ra_nil) ?_)))))))
  exact ⟨_, false, (hO.inz 4 rfl), h, rfl, (Own.sel (Ls := [_, _, _, _, _]) (L := L) [] rfl hO)⟩
 ·replace h := ite_f h hc_12
  refine hw_skip (thenQ_n (hw_seq (hw_seq (hw_region (hl_v (v_assign rfl) rfl (hl_nil (thenQ_n (hw_block ?_))))))))
  obtain ⟨I_13, h, hI_15⟩ := h
  refine hw_lp (fun n' g' H' => ∃ (i : Nat) (Z' : Nat → Prop), n' = t.Arcs.length - i ∧ g' = [(1, ptr b_8 0), (3, .int .i64 (i : Int))] ∧ I_13 i ∧ i ≤ t.Arcs.length ∧ Own H' Z' (box b_8 [.int .i64 t.States, v_1, v_3, v_5] 25 :: fz fGArc.rep v_5 t.Arcs :: fz fGTip.rep v_3 t.Ends :: fz fGTip.rep v_1 t.Starts :: inZ Z :: L)) _ _ (a_c 1 rfl (a_c 3 rfl a_n)) ⟨0, _, rfl, rfl, h, by omega, hO⟩ ?_
  rintro _ _ H_16 ⟨i, Z_17, rfl, rfl, h, hb_18, hO⟩
  replace h := hI_15 i h hb_18
  refine hw_seq (hw_seq (hw_region (hl_v (v_move rfl) rfl (hl_v (v_fieldA underlying25 rfl sizeOf23 rfl) rfl (hl_v (v_load1 isAgg23 rfl (Blk.cell (hO.box 0 rfl) rfl)) rfl (hl_v (v_lenL rfl underlying23 rfl (hO.fsl 1 rfl)) rfl (hl_v (v_lss rfl rfl) rfl (hl_nil (thenQ_n (hw_cond rfl (fun hc_19 => ?_) (fun hc_19 => ?_)))))))))))
  ·replace h := ite_t h hc_19
   refine hw_skip (thenQ_n (hw_seq (hw_block (hw_seq (hw_region (hl_v (v_fieldA underlying25 rfl sizeOf23 rfl) rfl (hl_v (v_load1 isAgg23 rfl (Blk.cell (hO.box 0 rfl) rfl)) rfl (hl_v (v_move rfl) rfl (hl_v (v_ixL underlying23 sizeOf39 rfl rfl (hO.fsl 1 rfl) (by exact ⟨Int.natCast_nonneg _, of_decide_eq_true hc_19⟩)) rfl (hl_v (v_loadFl isAgg39 sizeOf39 rfl (hO.fsl 1 rfl) rfl (by exact ⟨Int.natCast_nonneg _, of_decide_eq_true hc_19⟩)) rfl (hl_h (o_alloc (cs := (fGArc.enc (⟨(0 : Int), (0 : Int), BSet.zero, ([] : List UInt8), false⟩ : GArc))) hO zeroValue39 rfl) rfl ?_)))))))))))
   rintro _ H_20 ⟨b_21, rfl, hO⟩
   refine hl_s (o_storeA (us := (fGArc.enc (t.Arcs.getD i default))) hO 0 rfl sizeOf39 rfl rfl rfl rfl (by intro u hu; exact (fGArc).one _ u hu)) ?_
   rintro _ H_22 hO
   refine hl_nil (thenQ_n (hw_seq (hw_region (hl_v (v_fieldA underlying39 rfl sizeOf3 rfl) rfl (hl_v (v_load1 isAgg3 rfl (Blk.cell (hO.box 0 rfl) rfl)) rfl (hl_v (v_lss rfl rfl) rfl (hl_v (v_move rfl) rfl (hl_g rfl rfl (fun hg => (v_fieldA underlying39 rfl sizeOf3 rfl)) rfl (hl_g rfl rfl (fun hg => (v_load1 isAgg3 (gv_ok rfl hg) (Blk.cell (hO.box 0 rfl) rfl))) rfl (hl_g rfl rfl (fun hg => (v_fieldA underlying25 rfl sizeOf3 rfl)) rfl (hl_g rfl rfl (fun hg => (v_load1 isAgg3 (gv_ok rfl hg) (Blk.cell (hO.box 1 rfl) rfl))) rfl (hl_g rfl rfl (fun hg => (v_geq (gv_ok rfl hg) (gv_ok rfl hg))) rfl (hl_v (v_or rfl rfl) rfl (hl_v (v_move rfl) rfl (hl_g rfl rfl (fun hg => (v_fieldA underlying39 rfl sizeOf3 rfl)) rfl (hl_g rfl rfl (fun hg => (v_load1 isAgg3 (gv_ok rfl hg) (Blk.cell (hO.box 0 rfl) rfl))) rfl (hl_g rfl rfl (fun hg => (v_lss (gv_ok rfl hg) rfl)) rfl (hl_v (v_or rfl rfl) rfl (hl_v (v_move rfl) rfl (hl_g rfl rfl (fun hg => (v_fieldA underlying39 rfl sizeOf3 rfl)) rfl (hl_g rfl rfl (fun hg => (v_load1 isAgg3 (gv_ok rfl hg) (Blk.cell (hO.box 0 rfl) rfl))) rfl (hl_g rfl rfl (fun hg => (v_fieldA underlying25 rfl sizeOf3 rfl)) rfl (hl_g rfl rfl (fun hg => (v_load1 isAgg3 (gv_ok rfl hg) (Blk.cell (hO.box 1 rfl) rfl))) rfl (hl_g rfl rfl (fun hg => (v_geq (gv_ok rfl hg) (gv_ok rfl hg))) rfl (hl_v (v_or rfl rfl) rfl (hl_v (v_move rfl) rfl (hl_g rfl rfl (fun hg => (v_fieldA underlying39 rfl sizeOf37 rfl)) rfl (hl_g rfl rfl (fun hg => (v_loadA (cs := (sw ((t.Arcs.getD i default).Set))) isAgg37 sizeOf37 (gv_ok rfl hg) (Blk.sub (n := 4) (hO.box 0 rfl) rfl) rfl)) rfl ?_))))))))))))))))))))))))))))
   refine hl_g rfl rfl (fun hg => (v_buildS0 underlying37 zeroValue37 sizeOf35)) rfl (hl_g rfl rfl (fun hg => (v_eqlSet underlying37 underlying35 sizeOf35 (by kernel_rfl) (gv_ok rfl hg) (gv_ok rfl hg))) rfl (hl_v (v_or rfl rfl) rfl (hl_v (v_move rfl) rfl (hl_g rfl rfl (fun hg => (v_fieldA underlying39 rfl sizeOf9 rfl)) rfl (hl_g rfl rfl (fun hg => (v_load1 isAgg9 (gv_ok rfl hg) (Blk.cell (hO.box 0 rfl) rfl))) rfl (hl_g rfl rfl (fun hg => (v_lenS rfl underlying9 (gv_ok rfl hg))) rfl (hl_g rfl rfl (fun hg => (v_gtr (gv_ok rfl hg) rfl)) rfl (hl_v (v_or rfl rfl) rfl (hl_nil (thenQ_n (hw_sub _ (a_c 1 rfl (a_c 3 rfl (a_c 80 rfl a_n))) (hw_cond rfl (fun hc_23 => ?_) (fun hc_23 => ?_)))))))))))))
   ·replace h := ite_t h hc_23
    refine hw_seq (hw_region (hl_v (v_assign rfl) rfl (hl_nil (thenQ_n (hw_ret (blockQ_r (thenQ_r (thenQ_r (blockQ_r (thenQ_r (ret_i _ (ra_t rfl ra_nil) ?_)))))))))))
    exact ⟨_, false, (hO.inz 5 rfl), h, rfl, (Own.sel (Ls := [_, _, _, _, _, _]) (L := L) [] rfl hO)⟩
   ·replace h := ite_f h hc_23
    refine hw_skip (blockQ_n (thenQ_n (hw_region (hl_v (v_move rfl) rfl (hl_v (v_add rfl rfl (by have hq := of_decide_eq_true hc_19; have hm := hln_11; constructor <;> omega)) rfl (hl_v (v_assign rfl) rfl (hl_nil (thenQ_n ?_))))))))
    exact ⟨_, _, (a_c 1 rfl (a_c 3 rfl a_n)), ⟨i + 1, _, rfl, rfl, h, (by have hq := of_decide_eq_true hc_19; omega), (Own.sel (Ls := [_, _, _, _, _, _]) (L := L) [1, 2, 3, 4, 5] rfl hO)⟩, (by have hq := of_decide_eq_true hc_19; omega)⟩
  ·replace h := ite_f h hc_19
   refine hw_exit (thenQ_e (thenQ_e (blockQ_hit (thenQ_n (hw_seq (hw_region (hl_v (v_assign rfl) rfl (hl_nil (thenQ_n (hw_ret (ret_i _ (ra_t rfl ra_nil) ?_)))))))))))
   exact ⟨_, true, (hO.inz 4 rfl), h, rfl, (Own.sel (Ls := [_, _, _, _, _]) (L := L) [] rfl hO)⟩
theorem rRight15_spec {a0 : GFst} {v_1 : Value} {v_3 : Value} {v_5 : Value} {L : List As} (hp : a0.Starts.length ≤ 17592186044416 ∧ a0.Ends.length ≤ 17592186044416 ∧ a0.Arcs.length ≤ 17592186044416) {H : Heap} {Z : Nat → Prop} (hO : Own H Z (L)) (hf_2 : Fz fGTip.rep L v_1 a0.Starts) (hf_4 : Fz fGTip.rep L v_3 a0.Ends) (hf_6 : Fz fGArc.rep L v_5 a0.Arcs) : HC Tryz.prog 19 [.agg [.int .i64 a0.States, v_1, v_3, v_5].toArray] H (fun v H' => ∃ (Z' : Nat → Prop) , (∀ b, Z b → Z' b) ∧ v = .bool (fRight a0) ∧ Own H' Z' (L)) := by
  refine (rRight15_ok (t := a0) (@rRight15_wp a0 hp) hO hf_2 hf_4 hf_6).mono ?_
  rintro v H' ⟨Z', r0, hz, hq, hv, hO'⟩
  obtain rfl := hq
  exact ⟨Z', hz, hv, hO'⟩
theorem rTipLess_ok {a : GTip} {b : GTip}  {Q : Bool → Prop} {H : Heap} {Z : Nat → Prop} {L : List As} (h : wp_rTipLess a b Q) (hO : Own H Z (L))  : HC Tryz.prog 54 [.agg (fGTip.enc a).toArray, .agg (fGTip.enc b).toArray] H (fun v H' => ∃ (Z' : Nat → Prop) (r0 : Bool) , (∀ b, Z b → Z' b) ∧ Q r0 ∧ v = .bool r0 ∧ Own H' Z' (L)) := by
 replace hO := hO.inZ
 unfold wp_rTipLess at h
 refine hc_of_hw (N := 24) (rs := [(.tmp 4)]) Tryz.func54 rfl rfl rfl rfl (hw_seq (hw_region (hl_h (o_box (cs := (fGTip.enc a)) hO rfl rfl) rfl ?_)))
 rintro _ H_1 ⟨b_2, rfl, hO⟩
 refine hl_h (o_box (cs := (fGTip.enc b)) hO rfl rfl) rfl ?_
 rintro _ H_3 ⟨b_4, rfl, hO⟩
 refine hl_v (v_assign rfl) rfl (hl_nil (thenQ_n (hw_seq (hw_region (hl_v (v_fieldA underlying50 rfl sizeOf3 rfl) rfl (hl_v (v_load1 isAgg3 rfl (Blk.cell (hO.box 1 rfl) rfl)) rfl (hl_v (v_fieldA underlying50 rfl sizeOf3 rfl) rfl (hl_v (v_load1 isAgg3 rfl (Blk.cell (hO.box 0 rfl) rfl)) rfl (hl_v (v_lss rfl rfl) rfl (hl_v (v_move rfl) rfl (hl_g rfl rfl (fun hg => (v_fieldA underlying50 rfl sizeOf3 rfl)) rfl (hl_g rfl rfl (fun hg => (v_load1 isAgg3 (gv_ok rfl hg) (Blk.cell (hO.box 1 rfl) rfl))) rfl (hl_g rfl rfl (fun hg => (v_fieldA underlying50 rfl sizeOf3 rfl)) rfl (hl_g rfl rfl (fun hg => (v_load1 isAgg3 (gv_ok rfl hg) (Blk.cell (hO.box 0 rfl) rfl))) rfl (hl_g rfl rfl (fun hg => (v_eql (gv_ok rfl hg) (gv_ok rfl hg))) rfl (hl_g rfl rfl (fun hg => (v_move (gv_ok rfl hg))) rfl (hl_g rfl rfl (fun hg => (v_fieldA underlying50 rfl sizeOf9 rfl)) rfl (hl_g rfl rfl (fun hg => (v_load1 isAgg9 (gv_ok rfl hg) (Blk.cell (hO.box 1 rfl) rfl))) rfl (hl_g rfl rfl (fun hg => (v_fieldA underlying50 rfl sizeOf9 rfl)) rfl (hl_g rfl rfl (fun hg => (v_load1 isAgg9 (gv_ok rfl hg) (Blk.cell (hO.box 0 rfl) rfl))) rfl (hl_g rfl rfl (fun hg => (v_lssS (gv_ok rfl hg) (gv_ok rfl hg))) rfl (hl_g rfl rfl (fun hg => (v_and (gv_ok rfl hg) (gvgb_ok rfl hg))) rfl (hl_v (v_or rfl rfl) rfl (hl_v (v_assign rfl) rfl (hl_nil (thenQ_n (hw_sub _ (a_c 4 rfl a_n) (hw_ret (ret_i _ (ra_t rfl ra_nil) ?_)))))))))))))))))))))))))))))
 exact ⟨_, (decide (a.State < b.State) || (decide (a.State = b.State) && (Op.bytesLess a.Out b.Out))), (hO.inz 2 rfl), h, rfl, (Own.sel (Ls := [_, _, _]) (L := L) [] rfl hO)⟩
theorem rTipLess_spec {a0 : GTip} {a1 : GTip}  {L : List As} {H : Heap} {Z : Nat → Prop} (hO : Own H Z (L))  : HC Tryz.prog 54 [.agg (fGTip.enc a0).toArray, .agg (fGTip.enc a1).toArray] H (fun v H' => ∃ (Z' : Nat → Prop) , (∀ a1, Z a1 → Z' a1) ∧ v = .bool (decide (cmpTip a0 a1 < 0)) ∧ Own H' Z' (L)) := by
  refine (rTipLess_ok (a := a0) (b := a1) (@rTipLess_wp a0 a1) hO).mono ?_
  rintro v H' ⟨Z', r0, hz, hq, hv, hO'⟩
  obtain rfl := hq
  exact ⟨Z', hz, hv, hO'⟩
theorem rArcLess_ok {a : GArc} {b : GArc}  {Q : Bool → Prop} {H : Heap} {Z : Nat → Prop} {L : List As} (h : wp_rArcLess a b Q) (hO : Own H Z (L))  : HC Tryz.prog 55 [.agg (fGArc.enc a).toArray, .agg (fGArc.enc b).toArray] H (fun v H' => ∃ (Z' : Nat → Prop) (r0 : Bool) , (∀ b, Z b → Z' b) ∧ Q r0 ∧ v = .bool r0 ∧ Own H' Z' (L)) := by
 replace hO := hO.inZ
 unfold wp_rArcLess at h
 refine hc_of_hw (N := 65) (rs := [(.tmp 4)]) Tryz.func55 rfl rfl rfl rfl (hw_seq (hw_region (hl_h (o_box (cs := (fGArc.enc a)) hO rfl rfl) rfl ?_)))
 rintro _ H_1 ⟨b_2, rfl, hO⟩
 refine hl_h (o_box (cs := (fGArc.enc b)) hO rfl rfl) rfl ?_
 rintro _ H_3 ⟨b_4, rfl, hO⟩
 refine hl_v (v_assign rfl) rfl (hl_nil (thenQ_n (hw_seq (hw_seq (hw_region (hl_v (v_fieldA underlying39 rfl sizeOf3 rfl) rfl (hl_v (v_load1 isAgg3 rfl (Blk.cell (hO.box 1 rfl) rfl)) rfl (hl_v (v_fieldA underlying39 rfl sizeOf3 rfl) rfl (hl_v (v_load1 isAgg3 rfl (Blk.cell (hO.box 0 rfl) rfl)) rfl (hl_v (v_neq rfl rfl) rfl (hl_nil (thenQ_n (hw_cond rfl (fun hc_5 => ?_) (fun hc_5 => ?_))))))))))))))
 ·replace h := ite_t h hc_5
  refine hw_seq (hw_region (hl_v (v_fieldA underlying39 rfl sizeOf3 rfl) rfl (hl_v (v_load1 isAgg3 rfl (Blk.cell (hO.box 1 rfl) rfl)) rfl (hl_v (v_fieldA underlying39 rfl sizeOf3 rfl) rfl (hl_v (v_load1 isAgg3 rfl (Blk.cell (hO.box 0 rfl) rfl)) rfl (hl_v (v_lss rfl rfl) rfl (hl_v (v_assign rfl) rfl (hl_nil (thenQ_n (hw_sub _ (a_c 4 rfl a_n) (hw_ret (thenQ_r (ret_i _ (ra_t rfl ra_nil) ?_)))))))))))))
  exact ⟨_, decide (a.From < b.From), (hO.inz 2 rfl), h, rfl, (Own.sel (Ls := [_, _, _]) (L := L) [] rfl hO)⟩
 ·replace h := ite_f h hc_5
  refine hw_skip (thenQ_n (hw_seq (hw_seq (hw_region (hl_v (v_fieldA underlying39 rfl sizeOf3 rfl) rfl (hl_v (v_load1 isAgg3 rfl (Blk.cell (hO.box 1 rfl) rfl)) rfl (hl_v (v_fieldA underlying39 rfl sizeOf3 rfl) rfl (hl_v (v_load1 isAgg3 rfl (Blk.cell (hO.box 0 rfl) rfl)) rfl (hl_v (v_neq rfl rfl) rfl (hl_nil (thenQ_n (hw_sub _ (a_c 2 rfl (a_c 3 rfl (a_c 20 rfl a_n))) (hw_cond rfl (fun hc_6 => ?_) (fun hc_6 => ?_))))))))))))))
  ·replace h := ite_t h hc_6
   refine hw_seq (hw_region (hl_v (v_fieldA underlying39 rfl sizeOf3 rfl) rfl (hl_v (v_load1 isAgg3 rfl (Blk.cell (hO.box 1 rfl) rfl)) rfl (hl_v (v_fieldA underlying39 rfl sizeOf3 rfl) rfl (hl_v (v_load1 isAgg3 rfl (Blk.cell (hO.box 0 rfl) rfl)) rfl (hl_v (v_lss rfl rfl) rfl (hl_v (v_assign rfl) rfl (hl_nil (thenQ_n (hw_ret (thenQ_r (ret_i _ (ra_t rfl ra_nil) ?_))))))))))))
   exact ⟨_, decide (a.To < b.To), (hO.inz 2 rfl), h, rfl, (Own.sel (Ls := [_, _, _]) (L := L) [] rfl hO)⟩
  ·replace h := ite_f h hc_6
   refine hw_skip (thenQ_n (hw_seq (hw_seq (hw_region (hl_v (v_assign rfl) rfl (hl_nil (thenQ_n (hw_block ?_))))))))
   obtain ⟨I_7, h, hI_9⟩ := h
   refine hw_lp (fun n' g' H' => ∃ (i : Nat) (Z' : Nat → Prop), n' = (4 - (i : Int)).toNat ∧ g' = [(2, ptr b_2 0), (3, ptr b_4 0), (5, .int .i64 (i : Int))] ∧ I_7 i ∧ i ≤ 4 ∧ Own H' Z' (box b_4 (fGArc.enc b) 39 :: box b_2 (fGArc.enc a) 39 :: inZ Z :: L)) _ _ (a_c 2 rfl (a_c 3 rfl (a_c 5 rfl a_n))) ⟨0, _, rfl, rfl, h, by omega, hO⟩ ?_
   rintro _ _ H_10 ⟨i, Z_11, rfl, rfl, h, hb_12, hO⟩
   replace h := hI_9 i h hb_12
   refine hw_seq (hw_seq (hw_region (hl_v (v_move rfl) rfl (hl_v (v_lss rfl rfl) rfl (hl_nil (thenQ_n (hw_cond rfl (fun hc_13 => ?_) (fun hc_13 => ?_))))))))
   ·replace h := ite_t h hc_13
    refine hw_skip (thenQ_n (hw_seq (hw_block (hw_seq (hw_quiet Tryz.mixed (by kernel_rfl) (hq_v (v_move rfl) rfl (hq_v (v_fieldA underlying39 rfl sizeOf37 rfl) rfl ?_)))))))
    obtain ⟨hs_14, h⟩ := h
    refine hq_v (v_ixSo underlying37 sizeOf35 rfl rfl hs_14) rfl ?_
    obtain ⟨hs_15, h⟩ := h
    refine hq_v (v_loadWo (s := a.Set) isAgg35 rfl (hO.box 1 rfl) rfl hs_15) rfl (hq_v (v_move rfl) rfl (hq_v (v_fieldA underlying39 rfl sizeOf37 rfl) rfl (hq_v (v_ixSo underlying37 sizeOf35 rfl rfl hs_14) rfl (hq_v (v_loadWo (s := b.Set) isAgg35 rfl (hO.box 0 rfl) rfl hs_15) rfl (hq_v (v_neq64 rfl rfl) rfl (hq_nil (thenQ_n (hw_cond rfl (fun hc_16 => ?_) (fun hc_16 => ?_)))))))))
    ·replace h := ite_t h hc_16
     refine hw_seq (hw_quiet Tryz.mixed (by kernel_rfl) (hq_v (v_move rfl) rfl (hq_v (v_fieldA underlying39 rfl sizeOf37 rfl) rfl (hq_v (v_ixSo underlying37 sizeOf35 rfl rfl hs_14) rfl (hq_v (v_loadWo (s := a.Set) isAgg35 rfl (hO.box 1 rfl) rfl hs_15) rfl (hq_v (v_move rfl) rfl (hq_v (v_fieldA underlying39 rfl sizeOf37 rfl) rfl (hq_v (v_ixSo underlying37 sizeOf35 rfl rfl hs_14) rfl (hq_v (v_loadWo (s := b.Set) isAgg35 rfl (hO.box 0 rfl) rfl hs_15) rfl (hq_v (v_lss64 rfl rfl) rfl (hq_v (v_assign rfl) rfl (hq_nil (thenQ_n (hw_sub _ (a_c 4 rfl a_n) (hw_ret (blockQ_r (thenQ_r (thenQ_r (blockQ_r (thenQ_r (ret_i _ (ra_t rfl ra_nil) ?_)))))))))))))))))))))
     exact ⟨_, decide ((a.Set.wd i) < (b.Set.wd i)), (hO.inz 2 rfl), h, rfl, (Own.sel (Ls := [_, _, _]) (L := L) [] rfl hO)⟩
    ·replace h := ite_f h hc_16
     refine hw_skip (blockQ_n (thenQ_n (hw_region (hl_v (v_move rfl) rfl (hl_v (v_add rfl rfl (by have hq := of_decide_eq_true hc_13; constructor <;> omega)) rfl (hl_v (v_assign rfl) rfl (hl_nil (thenQ_n ?_))))))))
     exact ⟨_, _, (a_c 2 rfl (a_c 3 rfl (a_c 5 rfl a_n))), ⟨i + 1, _, rfl, rfl, h, (by have hq := of_decide_eq_true hc_13; omega), hO⟩, (by have hq := of_decide_eq_true hc_13; omega)⟩
   ·replace h := ite_f h hc_13
    refine hw_exit (thenQ_e (thenQ_e (blockQ_hit (thenQ_n (hw_seq (hw_seq (hw_region (hl_v (v_fieldA underlying39 rfl sizeOf9 rfl) rfl (hl_v (v_load1 isAgg9 rfl (Blk.cell (hO.box 1 rfl) rfl)) rfl (hl_v (v_fieldA underlying39 rfl sizeOf9 rfl) rfl (hl_v (v_load1 isAgg9 rfl (Blk.cell (hO.box 0 rfl) rfl)) rfl (hl_v (v_neqS rfl rfl) rfl (hl_nil (thenQ_n (hw_cond rfl (fun hc_17 => ?_) (fun hc_17 => ?_))))))))))))))))
    ·replace h := ite_t h hc_17
     refine hw_seq (hw_region (hl_v (v_fieldA underlying39 rfl sizeOf9 rfl) rfl (hl_v (v_load1 isAgg9 rfl (Blk.cell (hO.box 1 rfl) rfl)) rfl (hl_v (v_fieldA underlying39 rfl sizeOf9 rfl) rfl (hl_v (v_load1 isAgg9 rfl (Blk.cell (hO.box 0 rfl) rfl)) rfl (hl_v (v_lssS rfl rfl) rfl (hl_v (v_assign rfl) rfl (hl_nil (thenQ_n (hw_sub _ (a_c 4 rfl a_n) (hw_ret (thenQ_r (ret_i _ (ra_t rfl ra_nil) ?_)))))))))))))
     exact ⟨_, (Op.bytesLess a.Out b.Out), (hO.inz 2 rfl), h, rfl, (Own.sel (Ls := [_, _, _]) (L := L) [] rfl hO)⟩
    ·replace h := ite_f h hc_17
     refine hw_skip (thenQ_n (hw_seq (hw_region (hl_v (v_fieldA underlying39 rfl sizeOf4 rfl) rfl (hl_v (v_load1 isAgg4 rfl (Blk.cell (hO.box 1 rfl) rfl)) rfl (hl_v (v_not rfl) rfl (hl_v (v_move rfl) rfl (hl_g rfl rfl (fun hg => (v_fieldA underlying39 rfl sizeOf4 rfl)) rfl (hl_g rfl rfl (fun hg => (v_load1 isAgg4 (gv_ok rfl hg) (Blk.cell (hO.box 0 rfl) rfl))) rfl (hl_v (v_and rfl rfl) rfl (hl_v (v_assign rfl) rfl (hl_nil (thenQ_n (hw_sub _ (a_c 4 rfl a_n) (hw_ret (ret_i _ (ra_t rfl ra_nil) ?_))))))))))))))))
     exact ⟨_, ((!a.Copy) && b.Copy), (hO.inz 2 rfl), h, rfl, (Own.sel (Ls := [_, _, _]) (L := L) [] rfl hO)⟩
theorem rArcLess_spec {a0 : GArc} {a1 : GArc}  {L : List As} {H : Heap} {Z : Nat → Prop} (hO : Own H Z (L))  : HC Tryz.prog 55 [.agg (fGArc.enc a0).toArray, .agg (fGArc.enc a1).toArray] H (fun v H' => ∃ (Z' : Nat → Prop) , (∀ a1, Z a1 → Z' a1) ∧ v = .bool (decide (cmpArc a0 a1 < 0)) ∧ Own H' Z' (L)) := by
  refine (rArcLess_ok (a := a0) (b := a1) (@rArcLess_wp a0 a1) hO).mono ?_
  rintro v H' ⟨Z', r0, hz, hq, hv, hO'⟩
  obtain rfl := hq
  exact ⟨Z', hz, hv, hO'⟩
theorem rSortTips_ok {l : List GTip} {v_1 : Value} {Q : (List GTip) → Prop} {H : Heap} {Z : Nat → Prop} {L : List As} (h : wp_rSortTips l Q) (hO : Own H Z (L)) (hr_2 : Rd fGTip.rep L v_1 l) : HC Tryz.prog 34 [v_1] H (fun v H' => ∃ (Z' : Nat → Prop) (r0 : List GTip) (v_3 : Value), (∀ b, Z b → Z' b) ∧ Q r0 ∧ v = v_3 ∧ Own H' Z' (own fGTip 50 v_3 r0 :: L)) := by
 replace hO := hO.inZ
 unfold wp_rSortTips at h
 refine hc_of_hw (N := 64) (rs := [(.tmp 2)]) Tryz.func34 rfl rfl rfl rfl (hw_seq (hw_region (hl_v (v_assign rfl) rfl (hl_nil (thenQ_n (hw_seq (hw_region (hl_v (v_assign rfl) rfl (hl_nil (thenQ_n (hw_seq (hw_seq (hw_region (hl_v (v_assign rfl) rfl (hl_nil (thenQ_n (hw_block ?_)))))))))))))))))
 obtain ⟨I_5, h, hI_7⟩ := h
 replace hO := hO.nil fGTip 50
 refine hw_lp (fun n' g' H' => ∃ (out : List GTip) (i : Nat) (v_4 : Value) (Z' : Nat → Prop), n' = l.length - i ∧ g' = [(0, v_1), (3, v_4), (4, .int .i64 (i : Int))] ∧ I_5 out i ∧ i ≤ l.length ∧ Own H' Z' (own fGTip 50 v_4 out :: inZ Z :: L)) _ _ (a_c 0 rfl (a_c 3 rfl (a_c 4 rfl a_n))) ⟨[], 0, .slice none 0 0, _, rfl, rfl, h, by omega, hO⟩ ?_
 rintro _ _ H_8 ⟨out, i, v_4, Z_9, rfl, rfl, h, hb_10, hO⟩
 replace h := hI_7 out i h hb_10
 refine hw_seq (hw_seq (hw_region (hl_v (v_move rfl) rfl (hl_v (v_move rfl) rfl ?_))))
 have hln_11 := Sl.cap (Rd.sl hr_2 (Own.tails [_, _] hO))
 refine hl_v (v_lenL rfl underlying22 rfl (Rd.sl hr_2 (Own.tails [_, _] hO))) rfl (hl_v (v_lss rfl rfl) rfl (hl_nil (thenQ_n (hw_cond rfl (fun hc_12 => ?_) (fun hc_12 => ?_)))))
 ·replace h := ite_t h hc_12
  refine hw_skip (thenQ_n (hw_seq (hw_block (hw_seq (hw_region (hl_v (v_assign rfl) rfl (hl_nil (thenQ_n (hw_seq (hw_block ?_))))))))))
  obtain ⟨I_13, μ_14, h, hI_15⟩ := h
  refine hw_lp (fun n' g' H' => ∃ (xat : Int) (Z' : Nat → Prop), n' = μ_14 xat ∧ g' = [(0, v_1), (3, v_4), (4, .int .i64 (i : Int)), (5, .int .i64 xat)] ∧ I_13 xat ∧ Own H' Z' (own fGTip 50 v_4 out :: inZ Z :: L)) _ _ (a_c 0 rfl (a_c 3 rfl (a_c 4 rfl (a_c 5 rfl a_n)))) ⟨0, _, rfl, rfl, h, hO⟩ ?_
  rintro _ _ H_16 ⟨xat, Z_17, rfl, rfl, h, hO⟩
  replace h := hI_15 xat h
  refine hw_seq (hw_seq (hw_held (fun H' => ∃ Z' : Nat → Prop, Own H' Z' (own fGTip 50 v_4 out :: inZ Z :: L)) (.step 0 false (.step 1 false (.step 2 false (.step 3 false (.step 4 false (.step 5 false (.step 6 false (.step 7 false (.step 8 false (.step 9 false (.step 10 false (.step 11 false (.step 12 false (.step 13 true (.step 14 false .done))))))))))))))) Tryz.mixed (by kernel_rfl) ⟨_, hO⟩ (hd_v rfl (fun _ _ => (v_move rfl)) rfl (hd_v rfl (fun _ _ => (v_move rfl)) rfl ?_))))
  have hln_19 := Sl.cap (hO.osl 0 rfl)
  refine hd_v rfl (fun H' hS => by obtain ⟨Z', hO⟩ := hS; exact (v_lenL rfl underlying22 rfl (hO.osl 0 rfl))) rfl (hd_v rfl (fun _ _ => (v_lss rfl rfl)) rfl (hd_v rfl (fun _ _ => (v_move rfl)) rfl (hd_g rfl rfl rfl (fun hg _ _ => (v_move rfl)) rfl (hd_g rfl rfl rfl (fun hg _ _ => (v_move rfl)) rfl ?_))))
  obtain ⟨hs_20, h⟩ := h
  refine hd_g rfl rfl rfl (fun hg H' hS => by obtain ⟨Z', hO⟩ := hS; exact (v_ixL underlying22 sizeOf50 (gv_ok rfl hg) (gv_ok rfl hg) (hO.osl 0 rfl) (hs_20 (gb_bool hg)))) rfl ?_
  obtain ⟨hs_21, h⟩ := h
  refine hd_g rfl rfl rfl (fun hg H' hS => by obtain ⟨Z', hO⟩ := hS; exact (v_loadFl isAgg50 sizeOf50 (gv_ok rfl hg) (hO.osl 0 rfl) rfl (hs_21 (gb_bool hg)))) rfl (hd_g rfl rfl rfl (fun hg _ _ => (v_move rfl)) rfl (hd_g rfl rfl rfl (fun hg _ _ => (v_move rfl)) rfl (hd_g rfl rfl rfl (fun hg H' hS => by obtain ⟨Z', hO⟩ := hS; exact (v_ixL underlying22 sizeOf50 (gv_ok rfl hg) (gv_ok rfl hg) (Rd.sl hr_2 (Own.tails [_, _] hO)) (show (0 : Int) ≤ (i : Int) ∧ (i : Int) < (l.length : Int) from ⟨Int.natCast_nonneg _, of_decide_eq_true hc_12⟩))) rfl (hd_g rfl rfl rfl (fun hg H' hS => by obtain ⟨Z', hO⟩ := hS; exact (v_loadFl isAgg50 sizeOf50 (gv_ok rfl hg) (Rd.sl hr_2 (Own.tails [_, _] hO)) rfl (show (0 : Int) ≤ (i : Int) ∧ (i : Int) < (l.length : Int) from ⟨Int.natCast_nonneg _, of_decide_eq_true hc_12⟩))) rfl (hd_gc (v := .bool (decide (cmpTip (out.getD xat.toNat default) (l.getD i default) < 0))) (R := fun H' => ∃ Z' : Nat → Prop, Own H' Z' (own fGTip 50 v_4 out :: inZ Z :: L)) rfl rfl (fun hg => OpH.mono (h_call call54 (evs_cons (gv_ok rfl hg) (evs_cons (gv_ok rfl hg) evs_nil)) (rTipLess_spec (a0 := (out.getD xat.toNat default)) (a1 := (l.getD i default)) hO)) (g_c)) ⟨_, hO⟩ (fun H' hR => by obtain ⟨Z', hO⟩ := hR; exact ⟨Z', hO⟩) rfl ?_)))))
  rintro H_22 ⟨Z_23, hO⟩
  refine hd_v rfl (fun _ _ => (v_and rfl rfl)) rfl (hd_nil (thenQ_n (hw_cond rfl (fun hc_25 => ?_) (fun hc_25 => ?_))))
  ·replace h := ite_t h hc_25
   refine hw_skip (thenQ_n (hw_block (hw_region (hl_v (v_move rfl) rfl ?_))))
   obtain ⟨hs_26, h⟩ := h
   refine hl_v (v_add rfl rfl hs_26) rfl (hl_v (v_assign rfl) rfl (hl_nil (blockQ_n (thenQ_n ?_))))
   exact ⟨_, _, (a_c 0 rfl (a_c 3 rfl (a_c 4 rfl (a_c 5 rfl a_n)))), ⟨(xat + 1), _, rfl, rfl, h.1, hO⟩, h.2⟩
  ·replace h := ite_f h hc_25
   refine hw_exit (thenQ_e (thenQ_e (blockQ_hit (thenQ_n (hw_seq (hw_seq (hw_quiet Tryz.mixed (by kernel_rfl) (hq_v (v_move rfl) rfl (hq_v (v_move rfl) rfl (hq_v (v_lenL rfl underlying22 rfl (hO.osl 0 rfl)) rfl (hq_v (v_lss rfl rfl) rfl (hq_v (v_move rfl) rfl (hq_g rfl rfl (fun hg => (v_move rfl)) rfl (hq_g rfl rfl (fun hg => (v_move rfl)) rfl ?_))))))))))))))
   obtain ⟨hs_27, h⟩ := h
   refine hq_g rfl rfl (fun hg => (v_ixL underlying22 sizeOf50 (gv_ok rfl hg) (gv_ok rfl hg) (hO.osl 0 rfl) (hs_27 (gb_bool hg)))) rfl ?_
   obtain ⟨hs_28, h⟩ := h
   refine hq_g rfl rfl (fun hg => (v_loadFl isAgg50 sizeOf50 (gv_ok rfl hg) (hO.osl 0 rfl) rfl (hs_28 (gb_bool hg)))) rfl (hq_g rfl rfl (fun hg => (v_move rfl)) rfl (hq_g rfl rfl (fun hg => (v_move rfl)) rfl (hq_g rfl rfl (fun hg => (v_ixL underlying22 sizeOf50 (gv_ok rfl hg) (gv_ok rfl hg) (Rd.sl hr_2 (Own.tails [_, _] hO)) (show (0 : Int) ≤ (i : Int) ∧ (i : Int) < (l.length : Int) from ⟨Int.natCast_nonneg _, of_decide_eq_true hc_12⟩))) rfl (hq_g rfl rfl (fun hg => (v_loadFl isAgg50 sizeOf50 (gv_ok rfl hg) (Rd.sl hr_2 (Own.tails [_, _] hO)) rfl (show (0 : Int) ≤ (i : Int) ∧ (i : Int) < (l.length : Int) from ⟨Int.natCast_nonneg _, of_decide_eq_true hc_12⟩))) rfl (hq_g rfl rfl (fun hg => (v_eqlRec (by kernel_rfl) (gv_ok rfl hg) (gv_ok rfl hg) (eqv_50_15r _ _))) rfl (hq_v (v_and rfl rfl) rfl (hq_nil (thenQ_n (hw_sub _ (a_c 0 rfl (a_c 3 rfl (a_c 4 rfl (a_c 5 rfl (a_c 44 rfl a_n))))) (hw_cond rfl (fun hc_29 => ?_) (fun hc_29 => ?_)))))))))))
   ·replace h := ite_t h hc_29
    refine hw_exit (thenQ_e (blockQ_hit (thenQ_n (hw_region (hl_v (v_move rfl) rfl (hl_v (v_add rfl rfl (by have hq := of_decide_eq_true hc_12; have hm := hln_11; constructor <;> omega)) rfl (hl_v (v_assign rfl) rfl (hl_nil (thenQ_n ?_)))))))))
    exact ⟨_, _, (a_c 0 rfl (a_c 3 rfl (a_c 4 rfl a_n))), ⟨out, i + 1, v_4, _, rfl, rfl, h, (by have hq := of_decide_eq_true hc_12; omega), hO⟩, (by have hq := of_decide_eq_true hc_12; omega)⟩
   ·replace h := ite_f h hc_29
    refine hw_skip (thenQ_n (hw_seq (hw_region (hl_v (v_assign rfl) rfl (hl_nil (thenQ_n (hw_seq (hw_region (hl_v (v_move rfl) rfl (hl_v (v_move rfl) rfl (hl_v (v_move rfl) rfl ?_)))))))))))
    obtain ⟨hs_30, h⟩ := h
    refine hl_v (v_sliceLh underlying22 sizeOf50 rfl rfl (hO.osl 0 rfl) hs_30) rfl ?_
    replace hO := hO.nil fGTip 50
    obtain ⟨hs_33, h⟩ := h
    refine hl_h (o_append (l2 := (out.take xat.toNat)) hO 0 rfl rfl underlying22 type50 rfl rfl rfl rfl rfl rfl rfl (slvh_of (hO.osl 1 rfl) hs_30 rfl) hs_33 (le63 hs_33 rfl)) rfl ?_
    rintro v_32 H_31 hO
    refine hl_v (v_assign rfl) rfl (hl_nil (thenQ_n (hw_seq (hw_region (hl_v (v_move rfl) rfl (hl_v (v_move rfl) rfl (hl_v (v_move rfl) rfl (hl_v (v_ixL underlying22 sizeOf50 rfl rfl (Rd.sl hr_2 (Own.tails [_, _, _] hO)) (by exact ⟨Int.natCast_nonneg _, of_decide_eq_true hc_12⟩)) rfl (hl_v (v_loadFl isAgg50 sizeOf50 rfl (Rd.sl hr_2 (Own.tails [_, _, _] hO)) rfl (by exact ⟨Int.natCast_nonneg _, of_decide_eq_true hc_12⟩)) rfl (hl_h (o_lit (g := fGTip) (l := [(l.getD i default)]) (xs := [.tmp 54]) hO underlying22 sizeOf50 zeroValue50 rfl (evs_cons rfl evs_nil) rfl rfl rfl rfl rfl) rfl ?_))))))))))
    rintro v_35 H_34 hO
    obtain ⟨hs_38, h⟩ := h
    refine hl_h (o_append (l2 := [(l.getD i default)]) hO 1 rfl rfl underlying22 type50 rfl rfl rfl rfl rfl rfl rfl (hO.osl 0 rfl) hs_38 (le63 hs_38 rfl)) rfl ?_
    rintro v_37 H_36 hO
    refine hl_v (v_assign rfl) rfl (hl_nil (thenQ_n (hw_sub _ (a_c 0 rfl (a_c 3 rfl (a_c 4 rfl (a_c 5 rfl (a_c 6 rfl a_n))))) (hw_seq (hw_region (hl_v (v_move rfl) rfl (hl_v (v_move rfl) rfl (hl_v (v_move rfl) rfl (hl_v (v_sliceLl underlying22 sizeOf50 rfl rfl (hO.osl 2 rfl) hs_30) rfl ?_)))))))))
    obtain ⟨hs_41, h⟩ := h
    refine hl_h (o_append (l2 := (out.drop xat.toNat)) hO 1 rfl rfl underlying22 type50 rfl rfl rfl rfl rfl rfl rfl (slvl_of (hO.osl 2 rfl) hs_30 rfl) hs_41 (le63 hs_41 rfl)) rfl ?_
    rintro v_40 H_39 hO
    refine hl_v (v_assign rfl) rfl (hl_nil (thenQ_n (hw_region (hl_v (v_move rfl) rfl (hl_v (v_assign rfl) rfl (hl_nil (blockQ_n (thenQ_n (hw_region (hl_v (v_move rfl) rfl (hl_v (v_add rfl rfl (by have hq := of_decide_eq_true hc_12; have hm := hln_11; constructor <;> omega)) rfl (hl_v (v_assign rfl) rfl (hl_nil (thenQ_n ?_))))))))))))))
    exact ⟨_, _, (a_c 0 rfl (a_c 3 rfl (a_c 4 rfl a_n))), ⟨((([] ++ (out.take xat.toNat)) ++ [(l.getD i default)]) ++ (out.drop xat.toNat)), i + 1, v_40, _, rfl, rfl, h, (by have hq := of_decide_eq_true hc_12; omega), (Own.sel (Ls := [_, _, _, _]) (L := L) [1, 3] rfl hO)⟩, (by have hq := of_decide_eq_true hc_12; omega)⟩
 ·replace h := ite_f h hc_12
  refine hw_exit (thenQ_e (thenQ_e (blockQ_hit (thenQ_n (hw_seq (hw_region (hl_v (v_move rfl) rfl (hl_v (v_assign rfl) rfl (hl_nil (thenQ_n (hw_ret (ret_i _ (ra_t rfl ra_nil) ?_))))))))))))
  exact ⟨_, out, v_4, (hO.inz 1 rfl), h, rfl, (Own.sel (Ls := [_, _]) (L := L) [0] rfl hO)⟩
theorem rSortTips_spec {a0 : List GTip} {v_1 : Value} {L : List As} (hp : a0.length ≤ 1000000) {H : Heap} {Z : Nat → Prop} (hO : Own H Z (L)) (hr_2 : Rd fGTip.rep L v_1 a0) : HC Tryz.prog 34 [v_1] H (fun v H' => ∃ (Z' : Nat → Prop) (v_3 : Value), (∀ b, Z b → Z' b) ∧ v = v_3 ∧ Own H' Z' (own fGTip 50 v_3 ((ordL cmpTip a0)) :: L)) := by
  refine (rSortTips_ok (l := a0) (@rSortTips_wp a0 hp) hO hr_2).mono ?_
  rintro v H' ⟨Z', r0, v_3, hz, hq, hv, hO'⟩
  obtain rfl := hq
  exact ⟨Z', v_3, hz, hv, hO'⟩
theorem rSortArcs_ok {l : List GArc} {v_1 : Value} {Q : (List GArc) → Prop} {H : Heap} {Z : Nat → Prop} {L : List As} (h : wp_rSortArcs l Q) (hO : Own H Z (L)) (hr_2 : Rd fGArc.rep L v_1 l) : HC Tryz.prog 35 [v_1] H (fun v H' => ∃ (Z' : Nat → Prop) (r0 : List GArc) (v_3 : Value), (∀ b, Z b → Z' b) ∧ Q r0 ∧ v = v_3 ∧ Own H' Z' (own fGArc 39 v_3 r0 :: L)) := by
 replace hO := hO.inZ
 unfold wp_rSortArcs at h
 refine hc_of_hw (N := 64) (rs := [(.tmp 2)]) Tryz.func35 rfl rfl rfl rfl (hw_seq (hw_region (hl_v (v_assign rfl) rfl (hl_nil (thenQ_n (hw_seq (hw_region (hl_v (v_assign rfl) rfl (hl_nil (thenQ_n (hw_seq (hw_seq (hw_region (hl_v (v_assign rfl) rfl (hl_nil (thenQ_n (hw_block ?_)))))))))))))))))
 obtain ⟨I_5, h, hI_7⟩ := h
 replace hO := hO.nil fGArc 39
 refine hw_lp (fun n' g' H' => ∃ (out : List GArc) (i : Nat) (v_4 : Value) (Z' : Nat → Prop), n' = l.length - i ∧ g' = [(0, v_1), (3, v_4), (4, .int .i64 (i : Int))] ∧ I_5 out i ∧ i ≤ l.length ∧ Own H' Z' (own fGArc 39 v_4 out :: inZ Z :: L)) _ _ (a_c 0 rfl (a_c 3 rfl (a_c 4 rfl a_n))) ⟨[], 0, .slice none 0 0, _, rfl, rfl, h, by omega, hO⟩ ?_
 rintro _ _ H_8 ⟨out, i, v_4, Z_9, rfl, rfl, h, hb_10, hO⟩
 replace h := hI_7 out i h hb_10
 refine hw_seq (hw_seq (hw_region (hl_v (v_move rfl) rfl (hl_v (v_move rfl) rfl ?_))))
 have hln_11 := Sl.cap (Rd.sl hr_2 (Own.tails [_, _] hO))
 refine hl_v (v_lenL rfl underlying23 rfl (Rd.sl hr_2 (Own.tails [_, _] hO))) rfl (hl_v (v_lss rfl rfl) rfl (hl_nil (thenQ_n (hw_cond rfl (fun hc_12 => ?_) (fun hc_12 => ?_)))))
 ·replace h := ite_t h hc_12
  refine hw_skip (thenQ_n (hw_seq (hw_block (hw_seq (hw_region (hl_v (v_assign rfl) rfl (hl_nil (thenQ_n (hw_seq (hw_block ?_))))))))))
  obtain ⟨I_13, μ_14, h, hI_15⟩ := h
  refine hw_lp (fun n' g' H' => ∃ (xat : Int) (Z' : Nat → Prop), n' = μ_14 xat ∧ g' = [(0, v_1), (3, v_4), (4, .int .i64 (i : Int)), (5, .int .i64 xat)] ∧ I_13 xat ∧ Own H' Z' (own fGArc 39 v_4 out :: inZ Z :: L)) _ _ (a_c 0 rfl (a_c 3 rfl (a_c 4 rfl (a_c 5 rfl a_n)))) ⟨0, _, rfl, rfl, h, hO⟩ ?_
  rintro _ _ H_16 ⟨xat, Z_17, rfl, rfl, h, hO⟩
  replace h := hI_15 xat h
  refine hw_seq (hw_seq (hw_held (fun H' => ∃ Z' : Nat → Prop, Own H' Z' (own fGArc 39 v_4 out :: inZ Z :: L)) (.step 0 false (.step 1 false (.step 2 false (.step 3 false (.step 4 false (.step 5 false (.step 6 false (.step 7 false (.step 8 false (.step 9 false (.step 10 false (.step 11 false (.step 12 false (.step 13 true (.step 14 false .done))))))))))))))) Tryz.mixed (by kernel_rfl) ⟨_, hO⟩ (hd_v rfl (fun _ _ => (v_move rfl)) rfl (hd_v rfl (fun _ _ => (v_move rfl)) rfl ?_))))
  have hln_19 := Sl.cap (hO.osl 0 rfl)
  refine hd_v rfl (fun H' hS => by obtain ⟨Z', hO⟩ := hS; exact (v_lenL rfl underlying23 rfl (hO.osl 0 rfl))) rfl (hd_v rfl (fun _ _ => (v_lss rfl rfl)) rfl (hd_v rfl (fun _ _ => (v_move rfl)) rfl (hd_g rfl rfl rfl (fun hg _ _ => (v_move rfl)) rfl (hd_g rfl rfl rfl (fun hg _ _ => (v_move rfl)) rfl ?_))))
  obtain ⟨hs_20, h⟩ := h
  refine hd_g rfl rfl rfl (fun hg H' hS => by obtain ⟨Z', hO⟩ := hS; exact (v_ixL underlying23 sizeOf39 (gv_ok rfl hg) (gv_ok rfl hg) (hO.osl 0 rfl) (hs_20 (gb_bool hg)))) rfl ?_
  obtain ⟨hs_21, h⟩ := h
  refine hd_g rfl rfl rfl (fun hg H' hS => by obtain ⟨Z', hO⟩ := hS; exact (v_loadFl isAgg39 sizeOf39 (gv_ok rfl hg) (hO.osl 0 rfl) rfl (hs_21 (gb_bool hg)))) rfl (hd_g rfl rfl rfl (fun hg _ _ => (v_move rfl)) rfl (hd_g rfl rfl rfl (fun hg _ _ => (v_move rfl)) rfl (hd_g rfl rfl rfl (fun hg H' hS => by obtain ⟨Z', hO⟩ := hS; exact (v_ixL underlying23 sizeOf39 (gv_ok rfl hg) (gv_ok rfl hg) (Rd.sl hr_2 (Own.tails [_, _] hO)) (show (0 : Int) ≤ (i : Int) ∧ (i : Int) < (l.length : Int) from ⟨Int.natCast_nonneg _, of_decide_eq_true hc_12⟩))) rfl (hd_g rfl rfl rfl (fun hg H' hS => by obtain ⟨Z', hO⟩ := hS; exact (v_loadFl isAgg39 sizeOf39 (gv_ok rfl hg) (Rd.sl hr_2 (Own.tails [_, _] hO)) rfl (show (0 : Int) ≤ (i : Int) ∧ (i : Int) < (l.length : Int) from ⟨Int.natCast_nonneg _, of_decide_eq_true hc_12⟩))) rfl (hd_gc (v := .bool (decide (cmpArc (out.getD xat.toNat default) (l.getD i default) < 0))) (R := fun H' => ∃ Z' : Nat → Prop, Own H' Z' (own fGArc 39 v_4 out :: inZ Z :: L)) rfl rfl (fun hg => OpH.mono (h_call call55 (evs_cons (gv_ok rfl hg) (evs_cons (gv_ok rfl hg) evs_nil)) (rArcLess_spec (a0 := (out.getD xat.toNat default)) (a1 := (l.getD i default)) hO)) (g_c)) ⟨_, hO⟩ (fun H' hR => by obtain ⟨Z', hO⟩ := hR; exact ⟨Z', hO⟩) rfl ?_)))))
  rintro H_22 ⟨Z_23, hO⟩
  refine hd_v rfl (fun _ _ => (v_and rfl rfl)) rfl (hd_nil (thenQ_n (hw_cond rfl (fun hc_25 => ?_) (fun hc_25 => ?_))))
  ·replace h := ite_t h hc_25
   refine hw_skip (thenQ_n (hw_block (hw_region (hl_v (v_move rfl) rfl ?_))))
   obtain ⟨hs_26, h⟩ := h
   refine hl_v (v_add rfl rfl hs_26) rfl (hl_v (v_assign rfl) rfl (hl_nil (blockQ_n (thenQ_n ?_))))
   exact ⟨_, _, (a_c 0 rfl (a_c 3 rfl (a_c 4 rfl (a_c 5 rfl a_n)))), ⟨(xat + 1), _, rfl, rfl, h.1, hO⟩, h.2⟩
  ·replace h := ite_f h hc_25
   refine hw_exit (thenQ_e (thenQ_e (blockQ_hit (thenQ_n (hw_seq (hw_seq (hw_quiet Tryz.mixed (by kernel_rfl) (hq_v (v_move rfl) rfl (hq_v (v_move rfl) rfl (hq_v (v_lenL rfl underlying23 rfl (hO.osl 0 rfl)) rfl (hq_v (v_lss rfl rfl) rfl (hq_v (v_move rfl) rfl (hq_g rfl rfl (fun hg => (v_move rfl)) rfl (hq_g rfl rfl (fun hg => (v_move rfl)) rfl ?_))))))))))))))
   obtain ⟨hs_27, h⟩ := h
   refine hq_g rfl rfl (fun hg => (v_ixL underlying23 sizeOf39 (gv_ok rfl hg) (gv_ok rfl hg) (hO.osl 0 rfl) (hs_27 (gb_bool hg)))) rfl ?_
   obtain ⟨hs_28, h⟩ := h
   refine hq_g rfl rfl (fun hg => (v_loadFl isAgg39 sizeOf39 (gv_ok rfl hg) (hO.osl 0 rfl) rfl (hs_28 (gb_bool hg)))) rfl (hq_g rfl rfl (fun hg => (v_move rfl)) rfl (hq_g rfl rfl (fun hg => (v_move rfl)) rfl (hq_g rfl rfl (fun hg => (v_ixL underlying23 sizeOf39 (gv_ok rfl hg) (gv_ok rfl hg) (Rd.sl hr_2 (Own.tails [_, _] hO)) (show (0 : Int) ≤ (i : Int) ∧ (i : Int) < (l.length : Int) from ⟨Int.natCast_nonneg _, of_decide_eq_true hc_12⟩))) rfl (hq_g rfl rfl (fun hg => (v_loadFl isAgg39 sizeOf39 (gv_ok rfl hg) (Rd.sl hr_2 (Own.tails [_, _] hO)) rfl (show (0 : Int) ≤ (i : Int) ∧ (i : Int) < (l.length : Int) from ⟨Int.natCast_nonneg _, of_decide_eq_true hc_12⟩))) rfl (hq_g rfl rfl (fun hg => (v_eqlRec (by kernel_rfl) (gv_ok rfl hg) (gv_ok rfl hg) (eqv_39_15r _ _))) rfl (hq_v (v_and rfl rfl) rfl (hq_nil (thenQ_n (hw_sub _ (a_c 0 rfl (a_c 3 rfl (a_c 4 rfl (a_c 5 rfl (a_c 44 rfl a_n))))) (hw_cond rfl (fun hc_29 => ?_) (fun hc_29 => ?_)))))))))))
   ·replace h := ite_t h hc_29
    refine hw_exit (thenQ_e (blockQ_hit (thenQ_n (hw_region (hl_v (v_move rfl) rfl (hl_v (v_add rfl rfl (by have hq := of_decide_eq_true hc_12; have hm := hln_11; constructor <;> omega)) rfl (hl_v (v_assign rfl) rfl (hl_nil (thenQ_n ?_)))))))))
    exact ⟨_, _, (a_c 0 rfl (a_c 3 rfl (a_c 4 rfl a_n))), ⟨out, i + 1, v_4, _, rfl, rfl, h, (by have hq := of_decide_eq_true hc_12; omega), hO⟩, (by have hq := of_decide_eq_true hc_12; omega)⟩
   ·replace h := ite_f h hc_29
    refine hw_skip (thenQ_n (hw_seq (hw_region (hl_v (v_assign rfl) rfl (hl_nil (thenQ_n (hw_seq (hw_region (hl_v (v_move rfl) rfl (hl_v (v_move rfl) rfl (hl_v (v_move rfl) rfl ?_)))))))))))
    obtain ⟨hs_30, h⟩ := h
    refine hl_v (v_sliceLh underlying23 sizeOf39 rfl rfl (hO.osl 0 rfl) hs_30) rfl ?_
    replace hO := hO.nil fGArc 39
    obtain ⟨hs_33, h⟩ := h
    refine hl_h (o_append (l2 := (out.take xat.toNat)) hO 0 rfl rfl underlying23 type39 rfl rfl rfl rfl rfl rfl rfl (slvh_of (hO.osl 1 rfl) hs_30 rfl) hs_33 (le63 hs_33 rfl)) rfl ?_
    rintro v_32 H_31 hO
    refine hl_v (v_assign rfl) rfl (hl_nil (thenQ_n (hw_seq (hw_region (hl_v (v_move rfl) rfl (hl_v (v_move rfl) rfl (hl_v (v_move rfl) rfl (hl_v (v_ixL underlying23 sizeOf39 rfl rfl (Rd.sl hr_2 (Own.tails [_, _, _] hO)) (by exact ⟨Int.natCast_nonneg _, of_decide_eq_true hc_12⟩)) rfl (hl_v (v_loadFl isAgg39 sizeOf39 rfl (Rd.sl hr_2 (Own.tails [_, _, _] hO)) rfl (by exact ⟨Int.natCast_nonneg _, of_decide_eq_true hc_12⟩)) rfl (hl_h (o_lit (g := fGArc) (l := [(l.getD i default)]) (xs := [.tmp 54]) hO underlying23 sizeOf39 zeroValue39 rfl (evs_cons rfl evs_nil) rfl rfl rfl rfl rfl) rfl ?_))))))))))
    rintro v_35 H_34 hO
    obtain ⟨hs_38, h⟩ := h
    refine hl_h (o_append (l2 := [(l.getD i default)]) hO 1 rfl rfl underlying23 type39 rfl rfl rfl rfl rfl rfl rfl (hO.osl 0 rfl) hs_38 (le63 hs_38 rfl)) rfl ?_
    rintro v_37 H_36 hO
    refine hl_v (v_assign rfl) rfl (hl_nil (thenQ_n (hw_sub _ (a_c 0 rfl (a_c 3 rfl (a_c 4 rfl (a_c 5 rfl (a_c 6 rfl a_n))))) (hw_seq (hw_region (hl_v (v_move rfl) rfl (hl_v (v_move rfl) rfl (hl_v (v_move rfl) rfl (hl_v (v_sliceLl underlying23 sizeOf39 rfl rfl (hO.osl 2 rfl) hs_30) rfl ?_)))))))))
    obtain ⟨hs_41, h⟩ := h
    refine hl_h (o_append (l2 := (out.drop xat.toNat)) hO 1 rfl rfl underlying23 type39 rfl rfl rfl rfl rfl rfl rfl (slvl_of (hO.osl 2 rfl) hs_30 rfl) hs_41 (le63 hs_41 rfl)) rfl ?_
    rintro v_40 H_39 hO
    refine hl_v (v_assign rfl) rfl (hl_nil (thenQ_n (hw_region (hl_v (v_move rfl) rfl (hl_v (v_assign rfl) rfl (hl_nil (blockQ_n (thenQ_n (hw_region (hl_v (v_move rfl) rfl (hl_v (v_add rfl rfl (by have hq := of_decide_eq_true hc_12; have hm := hln_11; constructor <;> omega)) rfl (hl_v (v_assign rfl) rfl (hl_nil (thenQ_n ?_))))))))))))))
    exact ⟨_, _, (a_c 0 rfl (a_c 3 rfl (a_c 4 rfl a_n))), ⟨((([] ++ (out.take xat.toNat)) ++ [(l.getD i default)]) ++ (out.drop xat.toNat)), i + 1, v_40, _, rfl, rfl, h, (by have hq := of_decide_eq_true hc_12; omega), (Own.sel (Ls := [_, _, _, _]) (L := L) [1, 3] rfl hO)⟩, (by have hq := of_decide_eq_true hc_12; omega)⟩
 ·replace h := ite_f h hc_12
  refine hw_exit (thenQ_e (thenQ_e (blockQ_hit (thenQ_n (hw_seq (hw_region (hl_v (v_move rfl) rfl (hl_v (v_assign rfl) rfl (hl_nil (thenQ_n (hw_ret (ret_i _ (ra_t rfl ra_nil) ?_))))))))))))
  exact ⟨_, out, v_4, (hO.inz 1 rfl), h, rfl, (Own.sel (Ls := [_, _]) (L := L) [0] rfl hO)⟩
theorem rSortArcs_spec {a0 : List GArc} {v_1 : Value} {L : List As} (hp : a0.length ≤ 1000000) {H : Heap} {Z : Nat → Prop} (hO : Own H Z (L)) (hr_2 : Rd fGArc.rep L v_1 a0) : HC Tryz.prog 35 [v_1] H (fun v H' => ∃ (Z' : Nat → Prop) (v_3 : Value), (∀ b, Z b → Z' b) ∧ v = v_3 ∧ Own H' Z' (own fGArc 39 v_3 ((ordL cmpArc a0)) :: L)) := by
  refine (rSortArcs_ok (l := a0) (@rSortArcs_wp a0 hp) hO hr_2).mono ?_
  rintro v H' ⟨Z', r0, v_3, hz, hq, hv, hO'⟩
  obtain rfl := hq
  exact ⟨Z', v_3, hz, hv, hO'⟩
theorem rSort15_ok {t : GFst} {v_1 : Value} {v_3 : Value} {v_5 : Value} {Q : GFst → Int → Prop} {H : Heap} {Z : Nat → Prop} {L : List As} (h : wp_rSort15 t Q) (hO : Own H Z (L)) (hf_2 : Fz fGTip.rep L v_1 t.Starts) (hf_4 : Fz fGTip.rep L v_3 t.Ends) (hf_6 : Fz fGArc.rep L v_5 t.Arcs) : HC Tryz.prog 21 [.agg [.int .i64 t.States, v_1, v_3, v_5].toArray] H (fun v H' => ∃ (Z' : Nat → Prop) (r0 : GFst) (r1 : Int) (v_7 : Value) (v_9 : Value) (v_11 : Value), (∀ b, Z b → Z' b) ∧ Q r0 r1 ∧ v = .tuple #[.agg [.int .i64 r0.States, v_7, v_9, v_11].toArray, .int .i64 r1] ∧ Own H' Z' (fz fGTip.rep v_7 r0.Starts :: fz fGTip.rep v_9 r0.Ends :: fz fGArc.rep v_11 r0.Arcs :: L)) := by
 replace hO := hO.inZ
 replace hO := Fz.items [_] hf_2 hO
 replace hO := Fz.items [_, _] hf_4 hO
 replace hO := Fz.items [_, _, _] hf_6 hO
 unfold wp_rSort15 at h
 refine hc_of_hw (N := 20) (rs := [(.cell 2 25), (.tmp 3)]) Tryz.func21 rfl rfl rfl rfl (hw_seq (hw_region (hl_h (o_box (cs := [.int .i64 t.States, v_1, v_3, v_5]) hO rfl rfl) rfl ?_)))
 rintro _ H_13 ⟨b_14, rfl, hO⟩
 refine hl_h (o_alloc (cs := [.int .i64 (0 : Int), .slice none 0 0, .slice none 0 0, .slice none 0 0]) hO zeroValue25 rfl) rfl ?_
 rintro _ H_15 ⟨b_16, rfl, hO⟩
 refine hl_v (v_assign rfl) rfl (hl_nil (thenQ_n (hw_seq (hw_seq (hw_region (hl_v (v_loadA isAgg25 sizeOf25 rfl (Blk.at0 (hO.box 1 rfl)) rfl) rfl ?_))))))
 obtain ⟨hs_17, h⟩ := h
 refine hl_h (h_call call19 (evs_cons rfl evs_nil) (rRight15_spec (a0 := t) hs_17 hO (Fz.of (i := 4) rfl) (Fz.of (i := 3) rfl) (Fz.of (i := 2) rfl))) rfl ?_
 rintro _ H_18 ⟨Z_19, _, rfl, hO⟩
 refine hl_v (v_not rfl) rfl (hl_nil (thenQ_n (hw_cond rfl (fun hc_21 => ?_) (fun hc_21 => ?_))))
 ·replace h := ite_t h hc_21
  refine hw_seq (hw_region (hl_v (v_buildF (cs := [.int .i64 (0 : Int), .slice none 0 0, .slice none 0 0, .slice none 0 0]) (xs := []) (is := []) rfl evs_nil (fun w => by show _ = _; kernel_rfl)) rfl (hl_s (o_storeA (us := [.int .i64 (0 : Int), .slice none 0 0, .slice none 0 0, .slice none 0 0]) hO 0 rfl sizeOf25 rfl rfl rfl rfl (by simp only [List.forall_mem_cons]; exact ⟨rfl, rfl, rfl, rfl, by simp⟩)) ?_)))
  rintro _ H_22 hO
  refine hl_v (v_assign rfl) rfl (hl_nil (thenQ_n (hw_ret (thenQ_r ?_))))
  replace hO := Sl.item (Sl.nil (r := fGTip.rep)) hO
  replace hO := Sl.item (Sl.nil (r := fGTip.rep)) hO
  replace hO := Sl.item (Sl.nil (r := fGArc.rep)) hO
  refine ret_i _ (ra_c rfl (fun w hw => run_loadVar_at (cs := [.int .i64 (0 : Int), .slice none 0 0, .slice none 0 0, .slice none 0 0]) isAgg25 sizeOf25 (Blk.at0 (hO.box 3 rfl)) rfl w hw) (ra_t rfl ra_nil)) ?_
  exact ⟨_, (⟨(0 : Int), [], [], []⟩ : GFst), 1, .slice none 0 0, .slice none 0 0, .slice none 0 0, (hO.inz 8 rfl), h, rfl, (Own.sel (Ls := [_, _, _, _, _, _, _, _, _]) (L := L) [2, 1, 0] rfl hO)⟩
 ·replace h := ite_f h hc_21
  refine hw_skip (thenQ_n (hw_seq (hw_held2 12 (fun H' => ∃ Z' : Nat → Prop, Own H' Z' (box b_16 [.int .i64 (0 : Int), .slice none 0 0, .slice none 0 0, .slice none 0 0] 25 :: box b_14 [.int .i64 t.States, v_1, v_3, v_5] 25 :: fz fGArc.rep v_5 t.Arcs :: fz fGTip.rep v_3 t.Ends :: fz fGTip.rep v_1 t.Starts :: inZ Z :: L)) (.step 0 false (.step 1 false (.step 2 false (.step 3 false (.step 5 false (.step 6 false (.step 8 false (.step 9 false (.step 4 true (.step 7 true (.step 10 true (.step 11 false .done)))))))))))) (.step 12 true (.step 13 true .done)) Tryz.mixed (by kernel_rfl) ⟨_, hO⟩ (hd_v rfl (fun _ _ => (v_fieldA underlying25 rfl sizeOf3 rfl)) rfl (hd_v rfl (fun H' hS => by obtain ⟨Z', hO⟩ := hS; exact (v_load1 isAgg3 rfl (Blk.cell (hO.box 1 rfl) rfl))) rfl (hd_v rfl (fun _ _ => (v_fieldA underlying25 rfl sizeOf22 rfl)) rfl (hd_v rfl (fun H' hS => by obtain ⟨Z', hO⟩ := hS; exact (v_load1 isAgg22 rfl (Blk.cell (hO.box 1 rfl) rfl))) rfl (hd_v rfl (fun _ _ => (v_fieldA underlying25 rfl sizeOf22 rfl)) rfl (hd_v rfl (fun H' hS => by obtain ⟨Z', hO⟩ := hS; exact (v_load1 isAgg22 rfl (Blk.cell (hO.box 1 rfl) rfl))) rfl (hd_v rfl (fun _ _ => (v_fieldA underlying25 rfl sizeOf23 rfl)) rfl (hd_v rfl (fun H' hS => by obtain ⟨Z', hO⟩ := hS; exact (v_load1 isAgg23 rfl (Blk.cell (hO.box 1 rfl) rfl))) rfl ?_)))))))))))
  obtain ⟨hs_23, h⟩ := h
  refine hd_h (h_call call34 (evs_cons rfl evs_nil) (rSortTips_spec (a0 := t.Starts) hs_23 hO (Rd.of_fz (i := 4) rfl))) (by rintro v_24 H_25 ⟨Z_26, _, _, rfl, hO⟩; exact ⟨_, (Own.sel (Ls := [_, _, _, _, _, _, _]) (L := L) [1, 2, 3, 4, 5, 6] rfl hO)⟩) rfl ?_
  rintro v_24 H_25 ⟨Z_26, _, _, rfl, hO⟩
  obtain ⟨hs_28, h⟩ := h
  refine hd_h (h_call call34 (evs_cons rfl evs_nil) (rSortTips_spec (a0 := t.Ends) hs_28 hO (Rd.of_fz (i := 4) rfl))) (by rintro v_29 H_30 ⟨Z_31, _, _, rfl, hO⟩; exact ⟨_, (Own.sel (Ls := [_, _, _, _, _, _, _, _]) (L := L) [2, 3, 4, 5, 6, 7] rfl hO)⟩) rfl ?_
  rintro v_29 H_30 ⟨Z_31, _, _, rfl, hO⟩
  obtain ⟨hs_33, h⟩ := h
  refine hd_h (h_call call35 (evs_cons rfl evs_nil) (rSortArcs_spec (a0 := t.Arcs) hs_33 hO (Rd.of_fz (i := 4) rfl))) (by rintro v_34 H_35 ⟨Z_36, _, _, rfl, hO⟩; exact ⟨_, (Own.sel (Ls := [_, _, _, _, _, _, _, _, _]) (L := L) [3, 4, 5, 6, 7, 8] rfl hO)⟩) rfl ?_
  rintro v_34 H_35 ⟨Z_36, _, _, rfl, hO⟩
  have hsh_38 := Sl.sh (hO.osl 2 rfl)
  have hsh_39 := Sl.sh (hO.osl 1 rfl)
  have hsh_40 := Sl.sh (hO.osl 0 rfl)
  refine hd_v rfl (fun _ _ => (v_buildF (cs := [.int .i64 t.States, v_24, v_29, v_34]) (xs := [.tmp 9, .tmp 12, .tmp 15, .tmp 18]) (is := [0, 1, 2, 3]) rfl (evs_cons rfl (evs_cons rfl (evs_cons rfl (evs_cons rfl evs_nil)))) (fun w => by obtain ⟨_, _, _, hw⟩ := hsh_38; (try subst hw); obtain ⟨_, _, _, hw⟩ := hsh_39; (try subst hw); obtain ⟨_, _, _, hw⟩ := hsh_40; (try subst hw); show _ = _; kernel_rfl))) rfl (hd_nil (hd_s (o_storeA (us := [.int .i64 t.States, v_24, v_29, v_34]) hO 3 rfl sizeOf25 rfl rfl rfl rfl (by simp only [List.forall_mem_cons]; exact ⟨rfl, (Sl.one (hO.osl 2 rfl)), (Sl.one (hO.osl 1 rfl)), (Sl.one (hO.osl 0 rfl)), by simp⟩)) (fun _ _ _ => trivial) ?_))
  rintro _ H_41 hO
  refine hd_h (OpV.toH (v_assign rfl)) (fun _ _ hR => trivial) rfl ?_
  rintro vv HH ⟨hvv, hHH⟩
  obtain rfl := hvv.symm
  obtain rfl := hHH.symm
  refine hd_nil (thenQ_n (hw_ret ?_))
  obtain ⟨Z_42, _, hO⟩ := hO.freeze (i := 2) rfl
  obtain ⟨Z_43, _, hO⟩ := hO.freeze (i := 1) rfl
  obtain ⟨Z_44, _, hO⟩ := hO.freeze (i := 0) rfl
  replace hO : Own H_41 Z_44 (fz fGArc.rep v_34 (ordL cmpArc t.Arcs) :: fz fGTip.rep v_29 (ordL cmpTip t.Ends) :: fz fGTip.rep v_24 (ordL cmpTip t.Starts) :: box b_16 [.int .i64 t.States, v_24, v_29, v_34] 25 :: box b_14 [.int .i64 t.States, v_1, v_3, v_5] 25 :: fz fGArc.rep v_5 t.Arcs :: fz fGTip.rep v_3 t.Ends :: fz fGTip.rep v_1 t.Starts :: inZ Z :: L) := hO
  refine ret_i _ (ra_c rfl (fun w hw => run_loadVar_at (cs := [.int .i64 t.States, v_24, v_29, v_34]) isAgg25 sizeOf25 (Blk.at0 (hO.box 3 rfl)) rfl w hw) (ra_t rfl ra_nil)) ?_
  exact ⟨_, (⟨t.States, (ordL cmpTip t.Starts), (ordL cmpTip t.Ends), (ordL cmpArc t.Arcs)⟩ : GFst), 0, v_24, v_29, v_34, (hO.inz 8 rfl), h, rfl, (Own.sel (Ls := [_, _, _, _, _, _, _, _, _]) (L := L) [2, 1, 0] rfl hO)⟩
theorem rSort15_spec {a0 : GFst} {v_1 : Value} {v_3 : Value} {v_5 : Value} {L : List As} (hp : a0.Starts.length ≤ 1000000 ∧ a0.Ends.length ≤ 1000000 ∧ a0.Arcs.length ≤ 1000000) {H : Heap} {Z : Nat → Prop} (hO : Own H Z (L)) (hf_2 : Fz fGTip.rep L v_1 a0.Starts) (hf_4 : Fz fGTip.rep L v_3 a0.Ends) (hf_6 : Fz fGArc.rep L v_5 a0.Arcs) : HC Tryz.prog 21 [.agg [.int .i64 a0.States, v_1, v_3, v_5].toArray] H (fun v H' => ∃ (Z' : Nat → Prop) (v_7 : Value) (v_9 : Value) (v_11 : Value), (∀ b, Z b → Z' b) ∧ v = .tuple #[.agg [.int .i64 ((fSort a0).1).States, v_7, v_9, v_11].toArray, .int .i64 ((fSort a0).2)] ∧ Own H' Z' (fz fGTip.rep v_7 ((fSort a0).1).Starts :: fz fGTip.rep v_9 ((fSort a0).1).Ends :: fz fGArc.rep v_11 ((fSort a0).1).Arcs :: L)) := by
  refine (rSort15_ok (t := a0) (@rSort15_wp a0 hp) hO hf_2 hf_4 hf_6).mono ?_
  rintro v H' ⟨Z', r0, r1, v_7, v_9, v_11, hz, hq, hv, hO'⟩
  obtain ⟨rfl, rfl⟩ := hq
  exact ⟨Z', v_7, v_9, v_11, hz, hv, hO'⟩
end
section
open Go.Proofs
open Tryz
theorem rGrown_ok {t : GFst} {l : List GTip} {back : Bool} {v_1 : Value} {v_3 : Value} {v_5 : Value} {v_7 : Value} {Q : (List Bool) → Prop} {H : Heap} {Z : Nat → Prop} {L : List As} (h : wp_rGrown t l back Q) (hO : Own H Z (L)) (hf_2 : Fz fGTip.rep L v_1 t.Starts) (hf_4 : Fz fGTip.rep L v_3 t.Ends) (hf_6 : Fz fGArc.rep L v_5 t.Arcs) (hr_8 : Rd fGTip.rep L v_7 l) : HC Tryz.prog 20 [.agg [.int .i64 t.States, v_1, v_3, v_5].toArray, v_7, .bool back] H (fun v H' => ∃ (Z' : Nat → Prop) (r0 : List Bool) (v_9 : Value), (∀ b, Z b → Z' b) ∧ Q r0 ∧ v = v_9 ∧ Own H' Z' (own fBool 4 v_9 r0 :: L)) := by
 replace hO := hO.inZ
 replace hO := Fz.items [_] hf_2 hO
 replace hO := Fz.items [_, _] hf_4 hO
 replace hO := Fz.items [_, _, _] hf_6 hO
 unfold wp_rGrown at h
 refine hc_of_hw (N := 77) (rs := [(.tmp 6)]) Tryz.func20 rfl rfl rfl rfl (hw_seq (hw_region (hl_h (o_box (cs := [.int .i64 t.States, v_1, v_3, v_5]) hO rfl rfl) rfl ?_)))
 rintro _ H_10 ⟨b_11, rfl, hO⟩
 refine hl_v (v_assign rfl) rfl (hl_nil (thenQ_n (hw_seq (hw_region (hl_v (v_fieldA underlying25 rfl sizeOf3 rfl) rfl (hl_v (v_load1 isAgg3 rfl (Blk.cell (hO.box 0 rfl) rfl)) rfl ?_))))))
 obtain ⟨hs_14, h⟩ := h
 refine hl_h (o_makeSlice (g := fBool) (d := false) hO underlying48 type4 rfl rfl rfl rfl rfl rfl hs_14.1 hs_14.2.1 hs_14.2.2) rfl ?_
 rintro v_13 H_12 hO
 refine hl_v (v_assign rfl) rfl (hl_nil (thenQ_n (hw_seq (hw_seq (hw_region (hl_v (v_assign rfl) rfl (hl_nil (thenQ_n (hw_block ?_)))))))))
 obtain ⟨I_15, h, hI_17⟩ := h
 refine hw_lp (fun n' g' H' => ∃ (xin : List Bool) (i : Nat) (Z' : Nat → Prop), n' = l.length - i ∧ g' = [(1, v_7), (2, .bool back), (3, ptr b_11 0), (7, v_13), (8, .int .i64 (i : Int))] ∧ I_15 xin i ∧ i ≤ l.length ∧ Own H' Z' (own fBool 4 v_13 xin :: box b_11 [.int .i64 t.States, v_1, v_3, v_5] 25 :: fz fGArc.rep v_5 t.Arcs :: fz fGTip.rep v_3 t.Ends :: fz fGTip.rep v_1 t.Starts :: inZ Z :: L)) _ _ (a_c 1 rfl (a_c 2 rfl (a_c 3 rfl (a_c 7 rfl (a_c 8 rfl a_n))))) ⟨(List.replicate t.States.toNat false), 0, _, rfl, rfl, h, by omega, hO⟩ ?_
 rintro _ _ H_18 ⟨xin, i, Z_19, rfl, rfl, h, hb_20, hO⟩
 replace h := hI_17 xin i h hb_20
 refine hw_seq (hw_seq (hw_region (hl_v (v_move rfl) rfl (hl_v (v_move rfl) rfl ?_))))
 have hln_21 := Sl.cap (Rd.sl hr_8 (Own.tails [_, _, _, _, _, _] hO))
 refine hl_v (v_lenL rfl underlying22 rfl (Rd.sl hr_8 (Own.tails [_, _, _, _, _, _] hO))) rfl (hl_v (v_lss rfl rfl) rfl (hl_nil (thenQ_n (hw_cond rfl (fun hc_22 => ?_) (fun hc_22 => ?_)))))
 ·replace h := ite_t h hc_22
  refine hw_skip (thenQ_n (hw_seq (hw_block (hw_region (hl_v (v_move rfl) rfl (hl_v (v_move rfl) rfl (hl_v (v_move rfl) rfl (hl_v (v_ixL underlying22 sizeOf50 rfl rfl (Rd.sl hr_8 (Own.tails [_, _, _, _, _, _] hO)) (by exact ⟨Int.natCast_nonneg _, of_decide_eq_true hc_22⟩)) rfl (hl_v (v_fieldA underlying50 rfl sizeOf3 rfl) rfl (hl_v (v_loadSub (j := 0) isAgg3 rfl (Rd.sl hr_8 (Own.tails [_, _, _, _, _, _] hO)) rfl (by exact ⟨Int.natCast_nonneg _, of_decide_eq_true hc_22⟩) rfl) rfl ?_))))))))))
  obtain ⟨hs_23, h⟩ := h
  refine hl_v (v_ixL underlying48 sizeOf4 rfl rfl (hO.osl 0 rfl) hs_23) rfl (hl_s (o_set1 (x' := true) hO 0 rfl sizeOf4 rfl rfl rfl rfl hs_23 rfl rfl) ?_)
  rintro _ H_24 hO
  refine hl_nil (blockQ_n (thenQ_n (hw_region (hl_v (v_move rfl) rfl (hl_v (v_add rfl rfl (by have hq := of_decide_eq_true hc_22; have hm := hln_21; constructor <;> omega)) rfl (hl_v (v_assign rfl) rfl (hl_nil (thenQ_n ?_))))))))
  exact ⟨_, _, (a_c 1 rfl (a_c 2 rfl (a_c 3 rfl (a_c 7 rfl (a_c 8 rfl a_n))))), ⟨(xin.set ((l.getD i default).State).toNat true), i + 1, _, rfl, rfl, h, (by have hq := of_decide_eq_true hc_22; omega), hO⟩, (by have hq := of_decide_eq_true hc_22; omega)⟩
 ·replace h := ite_f h hc_22
  refine hw_exit (thenQ_e (thenQ_e (blockQ_hit (thenQ_n (hw_seq (hw_seq (hw_region (hl_v (v_assign rfl) rfl (hl_nil (thenQ_n (hw_block ?_)))))))))))
  obtain ⟨I_25, μ_26, h, hI_27⟩ := h
  refine hw_lp (fun n' g' H' => ∃ (xin2 : List Bool) (turned : Bool) (Z' : Nat → Prop), n' = μ_26 xin2 turned ∧ g' = [(2, .bool back), (3, ptr b_11 0), (7, v_13), (9, .bool turned)] ∧ I_25 xin2 turned ∧ Own H' Z' (own fBool 4 v_13 xin2 :: box b_11 [.int .i64 t.States, v_1, v_3, v_5] 25 :: fz fGArc.rep v_5 t.Arcs :: fz fGTip.rep v_3 t.Ends :: fz fGTip.rep v_1 t.Starts :: inZ Z :: L)) _ _ (a_c 2 rfl (a_c 3 rfl (a_c 7 rfl (a_c 9 rfl a_n)))) ⟨xin, true, _, rfl, rfl, h, hO⟩ ?_
  rintro _ _ H_28 ⟨xin2, turned, Z_29, rfl, rfl, h, hO⟩
  replace h := hI_27 xin2 turned h
  refine hw_seq (hw_seq (hw_region (hl_v (v_move rfl) rfl (hl_nil (thenQ_n (hw_cond rfl (fun hc_31 => ?_) (fun hc_31 => ?_)))))))
  ·replace h := ite_t h hc_31
   refine hw_skip (thenQ_n (hw_block (hw_seq (hw_region (hl_v (v_assign rfl) rfl (hl_nil (thenQ_n (hw_seq (hw_region (hl_v (v_assign rfl) rfl (hl_nil (thenQ_n (hw_block ?_)))))))))))))
   obtain ⟨I_32, h, hI_34⟩ := h
   refine hw_lp (fun n' g' H' => ∃ (xin3 : List Bool) (turned2 : Bool) (i2 : Nat) (Z' : Nat → Prop), n' = t.Arcs.length - i2 ∧ g' = [(2, .bool back), (3, ptr b_11 0), (7, v_13), (9, .bool turned2), (10, .int .i64 (i2 : Int))] ∧ I_32 xin3 turned2 i2 ∧ i2 ≤ t.Arcs.length ∧ Own H' Z' (own fBool 4 v_13 xin3 :: box b_11 [.int .i64 t.States, v_1, v_3, v_5] 25 :: fz fGArc.rep v_5 t.Arcs :: fz fGTip.rep v_3 t.Ends :: fz fGTip.rep v_1 t.Starts :: inZ Z :: L)) _ _ (a_c 2 rfl (a_c 3 rfl (a_c 7 rfl (a_c 9 rfl (a_c 10 rfl a_n))))) ⟨xin2, false, 0, _, rfl, rfl, h, by omega, hO⟩ ?_
   rintro _ _ H_35 ⟨xin3, turned2, i2, Z_36, rfl, rfl, h, hb_37, hO⟩
   replace h := hI_34 xin3 turned2 i2 h hb_37
   refine hw_seq (hw_seq (hw_region (hl_v (v_move rfl) rfl (hl_v (v_fieldA underlying25 rfl sizeOf23 rfl) rfl (hl_v (v_load1 isAgg23 rfl (Blk.cell (hO.box 1 rfl) rfl)) rfl ?_)))))
   have hln_38 := Sl.cap (hO.fsl 2 rfl)
   refine hl_v (v_lenL rfl underlying23 rfl (hO.fsl 2 rfl)) rfl (hl_v (v_lss rfl rfl) rfl (hl_nil (thenQ_n (hw_cond rfl (fun hc_39 => ?_) (fun hc_39 => ?_)))))
   ·replace h := ite_t h hc_39
    refine hw_skip (thenQ_n (hw_seq (hw_block (hw_seq (hw_region (hl_v (v_fieldA underlying25 rfl sizeOf23 rfl) rfl (hl_v (v_load1 isAgg23 rfl (Blk.cell (hO.box 1 rfl) rfl)) rfl (hl_v (v_move rfl) rfl (hl_v (v_ixL underlying23 sizeOf39 rfl rfl (hO.fsl 2 rfl) (by exact ⟨Int.natCast_nonneg _, of_decide_eq_true hc_39⟩)) rfl (hl_v (v_fieldA underlying39 rfl sizeOf3 rfl) rfl (hl_v (v_loadSub (j := 0) isAgg3 rfl (hO.fsl 2 rfl) rfl (by exact ⟨Int.natCast_nonneg _, of_decide_eq_true hc_39⟩) rfl) rfl (hl_v (v_assign rfl) rfl (hl_nil (thenQ_n (hw_sub _ (a_c 2 rfl (a_c 3 rfl (a_c 7 rfl (a_c 9 rfl (a_c 10 rfl (a_c 11 rfl a_n)))))) (hw_seq (hw_region (hl_v (v_fieldA underlying25 rfl sizeOf23 rfl) rfl (hl_v (v_load1 isAgg23 rfl (Blk.cell (hO.box 1 rfl) rfl)) rfl (hl_v (v_move rfl) rfl (hl_v (v_ixL underlying23 sizeOf39 rfl rfl (hO.fsl 2 rfl) (by exact ⟨Int.natCast_nonneg _, of_decide_eq_true hc_39⟩)) rfl (hl_v (v_fieldA underlying39 rfl sizeOf3 rfl) rfl (hl_v (v_loadSub (j := 1) isAgg3 rfl (hO.fsl 2 rfl) rfl (by exact ⟨Int.natCast_nonneg _, of_decide_eq_true hc_39⟩) rfl) rfl (hl_v (v_assign rfl) rfl (hl_nil (thenQ_n ?_))))))))))))))))))))))))))
    obtain ⟨K_40, h, hk_43⟩ := h
    refine hw_jn (fun g' H' => ∃ (a : Int) (b : Int) (Z' : Nat → Prop), g' = [(2, .bool back), (3, ptr b_11 0), (7, v_13), (9, .bool turned2), (10, .int .i64 (i2 : Int)), (11, .int .i64 a), (12, .int .i64 b)] ∧ K_40 a b ∧ Own H' Z' (own fBool 4 v_13 xin3 :: box b_11 [.int .i64 t.States, v_1, v_3, v_5] 25 :: fz fGArc.rep v_5 t.Arcs :: fz fGTip.rep v_3 t.Ends :: fz fGTip.rep v_1 t.Starts :: inZ Z :: L)) ?_ ?_
    ·refine hw_seq (hw_region (hl_v (v_move rfl) rfl (hl_nil (thenQ_n (hw_cond rfl (fun hc_44 => ?_) (fun hc_44 => ?_))))))
     ·replace h := ite_t h hc_44
      refine hw_seq (hw_region (hl_v (v_fieldA underlying25 rfl sizeOf23 rfl) rfl (hl_v (v_load1 isAgg23 rfl (Blk.cell (hO.box 1 rfl) rfl)) rfl (hl_v (v_move rfl) rfl (hl_v (v_ixL underlying23 sizeOf39 rfl rfl (hO.fsl 2 rfl) (by exact ⟨Int.natCast_nonneg _, of_decide_eq_true hc_39⟩)) rfl (hl_v (v_fieldA underlying39 rfl sizeOf3 rfl) rfl (hl_v (v_loadSub (j := 1) isAgg3 rfl (hO.fsl 2 rfl) rfl (by exact ⟨Int.natCast_nonneg _, of_decide_eq_true hc_39⟩) rfl) rfl (hl_v (v_assign rfl) rfl (hl_nil (thenQ_n (hw_sub _ (a_c 2 rfl (a_c 3 rfl (a_c 7 rfl (a_c 9 rfl (a_c 10 rfl (a_c 11 rfl a_n)))))) (hw_region (hl_v (v_fieldA underlying25 rfl sizeOf23 rfl) rfl (hl_v (v_load1 isAgg23 rfl (Blk.cell (hO.box 1 rfl) rfl)) rfl (hl_v (v_move rfl) rfl (hl_v (v_ixL underlying23 sizeOf39 rfl rfl (hO.fsl 2 rfl) (by exact ⟨Int.natCast_nonneg _, of_decide_eq_true hc_39⟩)) rfl (hl_v (v_fieldA underlying39 rfl sizeOf3 rfl) rfl (hl_v (v_loadSub (j := 0) isAgg3 rfl (hO.fsl 2 rfl) rfl (by exact ⟨Int.natCast_nonneg _, of_decide_eq_true hc_39⟩) rfl) rfl (hl_v (v_assign rfl) rfl (hl_nil (thenQ_n (⟨_, (a_c 2 rfl (a_c 3 rfl (a_c 7 rfl (a_c 9 rfl (a_c 10 rfl (a_c 11 rfl (a_c 12 rfl a_n))))))), ⟨(t.Arcs.getD i2 default).To, (t.Arcs.getD i2 default).From, _, rfl, h, hO⟩⟩))))))))))))))))))))))
     ·replace h := ite_f h hc_44
      refine hw_skip (thenQ_n (⟨_, (a_c 2 rfl (a_c 3 rfl (a_c 7 rfl (a_c 9 rfl (a_c 10 rfl (a_c 11 rfl (a_c 12 rfl a_n))))))), ⟨(t.Arcs.getD i2 default).From, (t.Arcs.getD i2 default).To, _, rfl, h, hO⟩⟩))
    ·rintro _ H_41 ⟨a, b, Z_42, rfl, h, hO⟩
     replace h := hk_43 a b h
     refine hw_seq (hw_region (hl_v (v_move rfl) rfl (hl_v (v_move rfl) rfl ?_)))
     obtain ⟨hs_45, h⟩ := h
     refine hl_v (v_ixL underlying48 sizeOf4 rfl rfl (hO.osl 0 rfl) hs_45) rfl (hl_v (v_loadSc isAgg4 rfl (hO.osl 0 rfl) rfl hs_45 rfl) rfl (hl_v (v_move rfl) rfl (hl_g rfl rfl (fun hg => (v_move rfl)) rfl (hl_g rfl rfl (fun hg => (v_move rfl)) rfl ?_))))
     obtain ⟨hs_46, h⟩ := h
     refine hl_g rfl rfl (fun hg => (v_ixL underlying48 sizeOf4 (gv_ok rfl hg) (gv_ok rfl hg) (hO.osl 0 rfl) (hs_46 (gb_bool hg)))) rfl ?_
     obtain ⟨hs_47, h⟩ := h
     refine hl_g rfl rfl (fun hg => (v_loadSc isAgg4 (gv_ok rfl hg) (hO.osl 0 rfl) rfl (hs_47 (gb_bool hg)) rfl)) rfl (hl_g rfl rfl (fun hg => (v_not (gv_ok rfl hg))) rfl (hl_v (v_and rfl rfl) rfl (hl_nil (thenQ_n (hw_sub _ (a_c 2 rfl (a_c 3 rfl (a_c 7 rfl (a_c 9 rfl (a_c 10 rfl (a_c 12 rfl (a_c 72 rfl a_n))))))) (hw_cond rfl (fun hc_48 => ?_) (fun hc_48 => ?_)))))))
     ·replace h := ite_t h hc_48
      refine hw_seq (hw_region (hl_v (v_move rfl) rfl (hl_v (v_move rfl) rfl ?_)))
      obtain ⟨hs_49, h⟩ := h
      refine hl_v (v_ixL underlying48 sizeOf4 rfl rfl (hO.osl 0 rfl) hs_49) rfl (hl_s (o_set1 (x' := true) hO 0 rfl sizeOf4 rfl rfl rfl rfl hs_49 rfl rfl) ?_)
      rintro _ H_50 hO
      refine hl_nil (thenQ_n (hw_region (hl_v (v_assign rfl) rfl (hl_nil (blockQ_n (thenQ_n (hw_region (hl_v (v_move rfl) rfl (hl_v (v_add rfl rfl (by have hq := of_decide_eq_true hc_39; have hm := hln_38; constructor <;> omega)) rfl (hl_v (v_assign rfl) rfl (hl_nil (thenQ_n ?_))))))))))))
      exact ⟨_, _, (a_c 2 rfl (a_c 3 rfl (a_c 7 rfl (a_c 9 rfl (a_c 10 rfl a_n))))), ⟨(xin3.set b.toNat true), true, i2 + 1, _, rfl, rfl, h, (by have hq := of_decide_eq_true hc_39; omega), hO⟩, (by have hq := of_decide_eq_true hc_39; omega)⟩
     ·replace h := ite_f h hc_48
      refine hw_skip (blockQ_n (thenQ_n (hw_region (hl_v (v_move rfl) rfl (hl_v (v_add rfl rfl (by have hq := of_decide_eq_true hc_39; have hm := hln_38; constructor <;> omega)) rfl (hl_v (v_assign rfl) rfl (hl_nil (thenQ_n ?_))))))))
      exact ⟨_, _, (a_c 2 rfl (a_c 3 rfl (a_c 7 rfl (a_c 9 rfl (a_c 10 rfl a_n))))), ⟨xin3, turned2, i2 + 1, _, rfl, rfl, h, (by have hq := of_decide_eq_true hc_39; omega), hO⟩, (by have hq := of_decide_eq_true hc_39; omega)⟩
   ·replace h := ite_f h hc_39
    refine hw_exit (thenQ_e (thenQ_e (blockQ_hit (blockQ_n (thenQ_n ?_)))))
    exact ⟨_, _, (a_c 2 rfl (a_c 3 rfl (a_c 7 rfl (a_c 9 rfl a_n)))), ⟨xin3, turned2, _, rfl, rfl, h.1, hO⟩, h.2⟩
  ·replace h := ite_f h hc_31
   refine hw_exit (thenQ_e (thenQ_e (blockQ_hit (thenQ_n (hw_seq (hw_region (hl_v (v_move rfl) rfl (hl_v (v_assign rfl) rfl (hl_nil (thenQ_n (hw_ret (ret_i _ (ra_t rfl ra_nil) ?_))))))))))))
   exact ⟨_, xin2, v_13, (hO.inz 5 rfl), h, rfl, (Own.sel (Ls := [_, _, _, _, _, _]) (L := L) [0] rfl hO)⟩
theorem rGrown_spec {a0 : GFst} {a1 : List GTip} {a2 : Bool} {v_1 : Value} {v_3 : Value} {v_5 : Value} {v_7 : Value} {L : List As} (hp : fRight a0 = true ∧ ∀ x ∈ a1, 0 ≤ x.State ∧ x.State < a0.States) {H : Heap} {Z : Nat → Prop} (hO : Own H Z (L)) (hf_2 : Fz fGTip.rep L v_1 a0.Starts) (hf_4 : Fz fGTip.rep L v_3 a0.Ends) (hf_6 : Fz fGArc.rep L v_5 a0.Arcs) (hr_8 : Rd fGTip.rep L v_7 a1) : HC Tryz.prog 20 [.agg [.int .i64 a0.States, v_1, v_3, v_5].toArray, v_7, .bool a2] H (fun v H' => ∃ (Z' : Nat → Prop) (v_9 : Value), (∀ b, Z b → Z' b) ∧ v = v_9 ∧ Own H' Z' (own fBool 4 v_9 ((reachL a0.States a1 (if a2 then backL a0.States a0.Arcs else onL a0.States a0.Arcs))) :: L)) := by
  refine (rGrown_ok (t := a0) (l := a1) (back := a2) (@rGrown_wp a0 a1 a2 hp) hO hf_2 hf_4 hf_6 hr_8).mono ?_
  rintro v H' ⟨Z', r0, v_9, hz, hq, hv, hO'⟩
  obtain rfl := hq
  exact ⟨Z', v_9, hz, hv, hO'⟩
abbrev zz23 (number : List Int) (t : GFst) (i3 : Nat) := (number.getD ((t.Arcs.getD i3 default).From).toNat default)
abbrev zz24 (number : List Int) (t : GFst) (i : Nat) := (⟨(number.getD ((t.Starts.getD i default).State).toNat default), (t.Starts.getD i default).Out⟩ : GTip)
abbrev zz25 (number : List Int) (t : GFst) (i2 : Nat) := (⟨(number.getD ((t.Ends.getD i2 default).State).toNat default), (t.Ends.getD i2 default).Out⟩ : GTip)
theorem rTrim18_ok {t : GFst} {v_1 : Value} {v_3 : Value} {v_5 : Value} {Q : GFst → Int → Prop} {H : Heap} {Z : Nat → Prop} {L : List As} (h : wp_rTrim18 t Q) (hO : Own H Z (L)) (hf_2 : Fz fGTip.rep L v_1 t.Starts) (hf_4 : Fz fGTip.rep L v_3 t.Ends) (hf_6 : Fz fGArc.rep L v_5 t.Arcs) : HC Tryz.prog 11 [.agg [.int .i64 t.States, v_1, v_3, v_5].toArray] H (fun v H' => ∃ (Z' : Nat → Prop) (r0 : GFst) (r1 : Int) (v_7 : Value) (v_9 : Value) (v_11 : Value), (∀ b, Z b → Z' b) ∧ Q r0 r1 ∧ v = .tuple #[.agg [.int .i64 r0.States, v_7, v_9, v_11].toArray, .int .i64 r1] ∧ Own H' Z' (fz fGTip.rep v_7 r0.Starts :: fz fGTip.rep v_9 r0.Ends :: fz fGArc.rep v_11 r0.Arcs :: L)) := by
 replace hO := hO.inZ
 replace hO := Fz.items [_] hf_2 hO
 replace hO := Fz.items [_, _] hf_4 hO
 replace hO := Fz.items [_, _, _] hf_6 hO
 unfold wp_rTrim18 at h
 refine hc_of_hw (N := 169) (rs := [(.cell 2 25), (.tmp 3)]) Tryz.func11 rfl rfl rfl rfl (hw_seq (hw_region (hl_h (o_box (cs := [.int .i64 t.States, v_1, v_3, v_5]) hO rfl rfl) rfl ?_)))
 rintro _ H_13 ⟨b_14, rfl, hO⟩
 refine hl_h (o_alloc (cs := [.int .i64 (0 : Int), .slice none 0 0, .slice none 0 0, .slice none 0 0]) hO zeroValue25 rfl) rfl ?_
 rintro _ H_15 ⟨b_16, rfl, hO⟩
 refine hl_v (v_assign rfl) rfl (hl_nil (thenQ_n (hw_seq (hw_seq (hw_region (hl_v (v_loadA isAgg25 sizeOf25 rfl (Blk.at0 (hO.box 1 rfl)) rfl) rfl ?_))))))
 obtain ⟨hs_17, h⟩ := h
 refine hl_h (h_call call19 (evs_cons rfl evs_nil) (rRight15_spec (a0 := t) hs_17 hO (Fz.of (i := 4) rfl) (Fz.of (i := 3) rfl) (Fz.of (i := 2) rfl))) rfl ?_
 rintro _ H_18 ⟨Z_19, _, rfl, hO⟩
 refine hl_v (v_not rfl) rfl (hl_nil (thenQ_n (hw_cond rfl (fun hc_21 => ?_) (fun hc_21 => ?_))))
 ·replace h := ite_t h hc_21
  refine hw_seq (hw_region (hl_v (v_buildF (cs := [.int .i64 (0 : Int), .slice none 0 0, .slice none 0 0, .slice none 0 0]) (xs := []) (is := []) rfl evs_nil (fun w => by show _ = _; kernel_rfl)) rfl (hl_s (o_storeA (us := [.int .i64 (0 : Int), .slice none 0 0, .slice none 0 0, .slice none 0 0]) hO 0 rfl sizeOf25 rfl rfl rfl rfl (by simp only [List.forall_mem_cons]; exact ⟨rfl, rfl, rfl, rfl, by simp⟩)) ?_)))
  rintro _ H_22 hO
  refine hl_v (v_assign rfl) rfl (hl_nil (thenQ_n (hw_ret (thenQ_r ?_))))
  replace hO := Sl.item (Sl.nil (r := fGTip.rep)) hO
  replace hO := Sl.item (Sl.nil (r := fGTip.rep)) hO
  replace hO := Sl.item (Sl.nil (r := fGArc.rep)) hO
  refine ret_i _ (ra_c rfl (fun w hw => run_loadVar_at (cs := [.int .i64 (0 : Int), .slice none 0 0, .slice none 0 0, .slice none 0 0]) isAgg25 sizeOf25 (Blk.at0 (hO.box 3 rfl)) rfl w hw) (ra_t rfl ra_nil)) ?_
  exact ⟨_, (⟨(0 : Int), [], [], []⟩ : GFst), 1, .slice none 0 0, .slice none 0 0, .slice none 0 0, (hO.inz 8 rfl), h, rfl, (Own.sel (Ls := [_, _, _, _, _, _, _, _, _]) (L := L) [2, 1, 0] rfl hO)⟩
 ·replace h := ite_f h hc_21
  refine hw_skip (thenQ_n (hw_seq (hw_region (hl_v (v_loadA isAgg25 sizeOf25 rfl (Blk.at0 (hO.box 1 rfl)) rfl) rfl (hl_v (v_fieldA underlying25 rfl sizeOf22 rfl) rfl (hl_v (v_load1 isAgg22 rfl (Blk.cell (hO.box 1 rfl) rfl)) rfl ?_))))))
  obtain ⟨hs_23, h⟩ := h
  refine hl_h (h_call call20 (evs_cons rfl (evs_cons rfl (evs_cons (show _ = some (.bool false) from rfl) evs_nil))) (rGrown_spec (a0 := t) (a1 := t.Starts) (a2 := false) hs_23 hO (Fz.of (i := 4) rfl) (Fz.of (i := 3) rfl) (Fz.of (i := 2) rfl) (Rd.of_fz (i := 4) rfl))) rfl ?_
  rintro v_24 H_25 ⟨Z_26, _, _, rfl, hO⟩
  refine hl_v (v_assign rfl) rfl (hl_nil (thenQ_n (hw_seq (hw_region (hl_v (v_loadA isAgg25 sizeOf25 rfl (Blk.at0 (hO.box 2 rfl)) rfl) rfl (hl_v (v_fieldA underlying25 rfl sizeOf22 rfl) rfl (hl_v (v_load1 isAgg22 rfl (Blk.cell (hO.box 2 rfl) rfl)) rfl ?_)))))))
  obtain ⟨hs_28, h⟩ := h
  refine hl_h (h_call call20 (evs_cons rfl (evs_cons rfl (evs_cons (show _ = some (.bool true) from rfl) evs_nil))) (rGrown_spec (a0 := t) (a1 := t.Ends) (a2 := true) hs_28 hO (Fz.of (i := 5) rfl) (Fz.of (i := 4) rfl) (Fz.of (i := 3) rfl) (Rd.of_fz (i := 4) rfl))) rfl ?_
  rintro v_29 H_30 ⟨Z_31, _, _, rfl, hO⟩
  refine hl_v (v_assign rfl) rfl (hl_nil (thenQ_n (hw_sub _ (a_c 1 rfl (a_c 2 rfl (a_c 4 rfl (a_c 5 rfl a_n)))) (hw_seq (hw_region (hl_v (v_fieldA underlying25 rfl sizeOf3 rfl) rfl (hl_v (v_load1 isAgg3 rfl (Blk.cell (hO.box 3 rfl) rfl)) rfl ?_)))))))
  obtain ⟨hs_35, h⟩ := h
  refine hl_h (o_makeSlice (g := fInt) (d := (0 : Int)) hO underlying67 type3 rfl rfl rfl rfl rfl rfl hs_35.1 hs_35.2.1 hs_35.2.2) rfl ?_
  rintro v_34 H_33 hO
  refine hl_v (v_assign rfl) rfl (hl_nil (thenQ_n (hw_seq (hw_region (hl_v (v_buildF (cs := [.int .i64 (0 : Int), .slice none 0 0, .slice none 0 0, .slice none 0 0]) (xs := []) (is := []) rfl evs_nil (fun w => by show _ = _; kernel_rfl)) rfl (hl_h (o_alloc (cs := [.int .i64 (0 : Int), .slice none 0 0, .slice none 0 0, .slice none 0 0]) hO zeroValue25 rfl) rfl ?_))))))
  rintro _ H_36 ⟨b_37, rfl, hO⟩
  refine hl_s (o_storeA (us := [.int .i64 (0 : Int), .slice none 0 0, .slice none 0 0, .slice none 0 0]) hO 0 rfl sizeOf25 rfl rfl rfl rfl (by simp only [List.forall_mem_cons]; exact ⟨rfl, rfl, rfl, rfl, by simp⟩)) ?_
  rintro _ H_38 hO
  refine hl_nil (thenQ_n (hw_seq (hw_seq (hw_region (hl_v (v_assign rfl) rfl (hl_nil (thenQ_n (hw_block ?_))))))))
  obtain ⟨I_42, h, hI_44⟩ := h
  replace hO := hO.nil fGTip 50
  replace hO := hO.nil fGTip 50
  replace hO := hO.nil fGArc 39
  refine hw_lp (fun n' g' H' => ∃ (number : List Int) (out : GFst) (s : Nat) (v_39 : Value) (v_40 : Value) (v_41 : Value) (Z' : Nat → Prop), n' = (t.States - (s : Int)).toNat ∧ g' = [(1, ptr b_14 0), (2, ptr b_16 0), (4, v_24), (5, v_29), (6, v_34), (7, ptr b_37 0), (8, .int .i64 (s : Int))] ∧ I_42 number out s ∧ Own H' Z' (own fGArc 39 v_41 out.Arcs :: own fGTip 50 v_40 out.Ends :: own fGTip 50 v_39 out.Starts :: box b_37 [.int .i64 out.States, v_39, v_40, v_41] 25 :: own fInt 3 v_34 number :: own fBool 4 v_29 (reachL t.States t.Ends (if true then backL t.States t.Arcs else onL t.States t.Arcs)) :: own fBool 4 v_24 (reachL t.States t.Starts (if false then backL t.States t.Arcs else onL t.States t.Arcs)) :: box b_16 [.int .i64 (0 : Int), .slice none 0 0, .slice none 0 0, .slice none 0 0] 25 :: box b_14 [.int .i64 t.States, v_1, v_3, v_5] 25 :: fz fGArc.rep v_5 t.Arcs :: fz fGTip.rep v_3 t.Ends :: fz fGTip.rep v_1 t.Starts :: inZ Z :: L)) _ _ (a_c 1 rfl (a_c 2 rfl (a_c 4 rfl (a_c 5 rfl (a_c 6 rfl (a_c 7 rfl (a_c 8 rfl a_n))))))) ⟨(List.replicate t.States.toNat (0 : Int)), (⟨(0 : Int), [], [], []⟩ : GFst), 0, .slice none 0 0, .slice none 0 0, .slice none 0 0, _, rfl, rfl, h, hO⟩ ?_
  rintro _ _ H_45 ⟨number, out, s, v_39, v_40, v_41, Z_46, rfl, rfl, h, hO⟩
  replace h := hI_44 number out s h
  refine hw_seq (hw_seq (hw_region (hl_v (v_move rfl) rfl (hl_v (v_fieldA underlying25 rfl sizeOf3 rfl) rfl (hl_v (v_load1 isAgg3 rfl (Blk.cell (hO.box 8 rfl) rfl)) rfl (hl_v (v_lss rfl rfl) rfl (hl_nil (thenQ_n (hw_cond rfl (fun hc_48 => ?_) (fun hc_48 => ?_))))))))))
  ·replace h := ite_t h hc_48
   refine hw_skip (thenQ_n (hw_seq (hw_block (hw_seq (hw_region (hl_v (v_move rfl) rfl (hl_v (v_move rfl) rfl ?_)))))))
   obtain ⟨hs_49, h⟩ := h
   refine hl_v (v_ixL underlying67 sizeOf3 rfl rfl (hO.osl 4 rfl) hs_49) rfl (hl_s (o_set1 (x' := (-1)) hO 4 rfl sizeOf3 rfl rfl rfl rfl hs_49 rfl rfl) ?_)
   rintro _ H_50 hO
   refine hl_nil (thenQ_n (hw_seq (hw_region (hl_v (v_move rfl) rfl (hl_v (v_move rfl) rfl ?_)))))
   obtain ⟨hs_51, h⟩ := h
   refine hl_v (v_ixL underlying48 sizeOf4 rfl rfl (hO.osl 6 rfl) hs_51) rfl (hl_v (v_loadSc isAgg4 rfl (hO.osl 6 rfl) rfl hs_51 rfl) rfl (hl_v (v_move rfl) rfl (hl_g rfl rfl (fun hg => (v_move rfl)) rfl (hl_g rfl rfl (fun hg => (v_move rfl)) rfl ?_))))
   obtain ⟨hs_52, h⟩ := h
   refine hl_g rfl rfl (fun hg => (v_ixL underlying48 sizeOf4 (gv_ok rfl hg) (gv_ok rfl hg) (hO.osl 5 rfl) (hs_52 (gb_bool hg)))) rfl ?_
   obtain ⟨hs_53, h⟩ := h
   refine hl_g rfl rfl (fun hg => (v_loadSc isAgg4 (gv_ok rfl hg) (hO.osl 5 rfl) rfl (hs_53 (gb_bool hg)) rfl)) rfl (hl_v (v_and rfl rfl) rfl (hl_nil (thenQ_n (hw_sub _ (a_c 1 rfl (a_c 2 rfl (a_c 4 rfl (a_c 5 rfl (a_c 6 rfl (a_c 7 rfl (a_c 8 rfl (a_c 49 rfl a_n)))))))) (hw_cond rfl (fun hc_54 => ?_) (fun hc_54 => ?_))))))
   ·replace h := ite_t h hc_54
    refine hw_seq (hw_region (hl_v (v_move rfl) rfl (hl_v (v_move rfl) rfl (hl_v (v_fieldA underlying25 rfl sizeOf3 rfl) rfl (hl_v (v_load1 isAgg3 rfl (Blk.cell (hO.box 3 rfl) rfl)) rfl ?_)))))
    obtain ⟨hs_55, h⟩ := h
    refine hl_v (v_ixL underlying67 sizeOf3 rfl rfl (hO.osl 4 rfl) hs_55) rfl (hl_s (o_set1 (x' := out.States) hO 4 rfl sizeOf3 rfl rfl rfl rfl hs_55 rfl rfl) ?_)
    rintro _ H_56 hO
    refine hl_nil (thenQ_n (hw_region (hl_v (v_fieldA underlying25 rfl sizeOf3 rfl) rfl (hl_v (v_load1 isAgg3 rfl (Blk.cell (hO.box 3 rfl) rfl)) rfl ?_))))
    obtain ⟨hs_57, h⟩ := h
    refine hl_v (v_add rfl rfl hs_57) rfl (hl_v (v_fieldA underlying25 rfl sizeOf3 rfl) rfl (hl_s (o_store1 hO 3 rfl sizeOf3 rfl rfl rfl rfl) ?_))
    rintro _ H_58 hO
    refine hl_nil (blockQ_n (thenQ_n (hw_region (hl_v (v_move rfl) rfl ?_))))
    obtain ⟨hs_59, h⟩ := h
    refine hl_v (v_add rfl rfl hs_59) rfl (hl_v (v_assign rfl) rfl (hl_nil (thenQ_n ?_)))
    exact ⟨_, _, (a_c 1 rfl (a_c 2 rfl (a_c 4 rfl (a_c 5 rfl (a_c 6 rfl (a_c 7 rfl (a_c 8 rfl a_n))))))), ⟨((number.set s (-1)).set s out.States), (⟨(out.States + 1), out.Starts, out.Ends, out.Arcs⟩ : GFst), s + 1, v_39, v_40, v_41, _, rfl, rfl, h, hO⟩, (by have hq := of_decide_eq_true hc_48; omega)⟩
   ·replace h := ite_f h hc_54
    refine hw_skip (blockQ_n (thenQ_n (hw_region (hl_v (v_move rfl) rfl ?_))))
    obtain ⟨hs_60, h⟩ := h
    refine hl_v (v_add rfl rfl hs_60) rfl (hl_v (v_assign rfl) rfl (hl_nil (thenQ_n ?_)))
    exact ⟨_, _, (a_c 1 rfl (a_c 2 rfl (a_c 4 rfl (a_c 5 rfl (a_c 6 rfl (a_c 7 rfl (a_c 8 rfl a_n))))))), ⟨(number.set s (-1)), out, s + 1, v_39, v_40, v_41, _, rfl, rfl, h, hO⟩, (by have hq := of_decide_eq_true hc_48; omega)⟩
  ·replace h := ite_f h hc_48
   refine hw_exit (thenQ_e (thenQ_e (blockQ_hit (thenQ_n (hw_seq (hw_seq (hw_region (hl_v (v_assign rfl) rfl (hl_nil (thenQ_n (hw_block ?_)))))))))))
   obtain ⟨I_64, h, hI_66⟩ := h
   refine hw_lp (fun n' g' H' => ∃ (out2 : GFst) (i : Nat) (v_61 : Value) (v_62 : Value) (v_63 : Value) (Z' : Nat → Prop), n' = t.Starts.length - i ∧ g' = [(1, ptr b_14 0), (2, ptr b_16 0), (6, v_34), (7, ptr b_37 0), (9, .int .i64 (i : Int))] ∧ I_64 out2 i ∧ i ≤ t.Starts.length ∧ Own H' Z' (own fGArc 39 v_63 out2.Arcs :: own fGTip 50 v_62 out2.Ends :: own fGTip 50 v_61 out2.Starts :: box b_37 [.int .i64 out2.States, v_61, v_62, v_63] 25 :: own fInt 3 v_34 number :: box b_16 [.int .i64 (0 : Int), .slice none 0 0, .slice none 0 0, .slice none 0 0] 25 :: box b_14 [.int .i64 t.States, v_1, v_3, v_5] 25 :: fz fGArc.rep v_5 t.Arcs :: fz fGTip.rep v_3 t.Ends :: fz fGTip.rep v_1 t.Starts :: inZ Z :: L)) _ _ (a_c 1 rfl (a_c 2 rfl (a_c 6 rfl (a_c 7 rfl (a_c 9 rfl a_n))))) ⟨out, 0, v_39, v_40, v_41, _, rfl, rfl, h, by omega, (Own.sel (Ls := [_, _, _, _, _, _, _, _, _, _, _, _, _]) (L := L) [0, 1, 2, 3, 4, 7, 8, 9, 10, 11, 12] rfl hO)⟩ ?_
   rintro _ _ H_67 ⟨out2, i, v_61, v_62, v_63, Z_68, rfl, rfl, h, hb_69, hO⟩
   replace h := hI_66 out2 i h hb_69
   refine hw_seq (hw_seq (hw_region (hl_v (v_move rfl) rfl (hl_v (v_fieldA underlying25 rfl sizeOf22 rfl) rfl (hl_v (v_load1 isAgg22 rfl (Blk.cell (hO.box 6 rfl) rfl)) rfl ?_)))))
   have hln_70 := Sl.cap (hO.fsl 9 rfl)
   refine hl_v (v_lenL rfl underlying22 rfl (hO.fsl 9 rfl)) rfl (hl_v (v_lss rfl rfl) rfl (hl_nil (thenQ_n (hw_cond rfl (fun hc_71 => ?_) (fun hc_71 => ?_)))))
   ·replace h := ite_t h hc_71
    refine hw_skip (thenQ_n (hw_seq (hw_block (hw_seq (hw_region (hl_v (v_fieldA underlying25 rfl sizeOf22 rfl) rfl (hl_v (v_load1 isAgg22 rfl (Blk.cell (hO.box 6 rfl) rfl)) rfl (hl_v (v_move rfl) rfl (hl_v (v_ixL underlying22 sizeOf50 rfl rfl (hO.fsl 9 rfl) (by exact ⟨Int.natCast_nonneg _, of_decide_eq_true hc_71⟩)) rfl (hl_v (v_loadFl isAgg50 sizeOf50 rfl (hO.fsl 9 rfl) rfl (by exact ⟨Int.natCast_nonneg _, of_decide_eq_true hc_71⟩)) rfl (hl_h (o_alloc (cs := (fGTip.enc (⟨(0 : Int), ([] : List UInt8)⟩ : GTip))) hO zeroValue50 rfl) rfl ?_)))))))))))
    rintro _ H_72 ⟨b_73, rfl, hO⟩
    refine hl_s (o_storeA (us := (fGTip.enc (t.Starts.getD i default))) hO 0 rfl sizeOf50 rfl rfl rfl rfl (by intro u hu; exact (fGTip).one _ u hu)) ?_
    rintro _ H_74 hO
    refine hl_nil (thenQ_n (hw_sub _ (a_c 1 rfl (a_c 2 rfl (a_c 6 rfl (a_c 7 rfl (a_c 9 rfl (a_c 10 rfl a_n)))))) (hw_seq (hw_region (hl_v (v_move rfl) rfl (hl_v (v_fieldA underlying50 rfl sizeOf3 rfl) rfl (hl_v (v_load1 isAgg3 rfl (Blk.cell (hO.box 0 rfl) rfl)) rfl ?_)))))))
    obtain ⟨hs_75, h⟩ := h
    refine hl_v (v_ixL underlying67 sizeOf3 rfl rfl (hO.osl 5 rfl) hs_75) rfl (hl_v (v_loadSc isAgg3 rfl (hO.osl 5 rfl) rfl hs_75 rfl) rfl (hl_v (v_geq rfl rfl) rfl (hl_nil (thenQ_n (hw_cond rfl (fun hc_76 => ?_) (fun hc_76 => ?_))))))
    ·replace h := ite_t h hc_76
     refine hw_held2 12 (fun H' => ∃ Z' : Nat → Prop, Own H' Z' (box b_73 (fGTip.enc (t.Starts.getD i default)) 50 :: own fGArc 39 v_63 out2.Arcs :: own fGTip 50 v_62 out2.Ends :: box b_37 [.int .i64 out2.States, v_61, v_62, v_63] 25 :: own fInt 3 v_34 number :: box b_16 [.int .i64 (0 : Int), .slice none 0 0, .slice none 0 0, .slice none 0 0] 25 :: box b_14 [.int .i64 t.States, v_1, v_3, v_5] 25 :: fz fGArc.rep v_5 t.Arcs :: fz fGTip.rep v_3 t.Ends :: fz fGTip.rep v_1 t.Starts :: inZ Z :: L)) (.step 0 false (.step 1 false (.step 2 false (.step 3 false (.step 4 false (.step 5 false (.step 6 false (.step 7 false (.step 8 false (.step 9 false (.step 10 true (.step 11 true .done)))))))))))) (.step 12 true (.step 13 true .done)) Tryz.mixed (by kernel_rfl) ⟨_, (Own.sel (Ls := [_, _, _, _, _, _, _, _, _, _, _, _]) (L := L) [0, 1, 2, 4, 5, 6, 7, 8, 9, 10, 11] rfl hO)⟩ (hd_v rfl (fun _ _ => (v_fieldA underlying25 rfl sizeOf22 rfl)) rfl (hd_v rfl (fun H' hS => by obtain ⟨Z', hO⟩ := hS; exact (v_load1 isAgg22 rfl (Blk.cell (hO.box 3 rfl) rfl))) rfl (hd_v rfl (fun _ _ => (v_move rfl)) rfl (hd_v rfl (fun _ _ => (v_fieldA underlying50 rfl sizeOf3 rfl)) rfl ?_))))
     refine hd_v rfl (fun H' hS => by obtain ⟨Z', hO⟩ := hS; exact (v_load1 isAgg3 rfl (Blk.cell (hO.box 0 rfl) rfl))) rfl (hd_v rfl (fun H' hS => by obtain ⟨Z', hO⟩ := hS; exact (v_ixL underlying67 sizeOf3 rfl rfl (hO.osl 4 rfl) hs_75)) rfl (hd_v rfl (fun H' hS => by obtain ⟨Z', hO⟩ := hS; exact (v_loadSc isAgg3 rfl (hO.osl 4 rfl) rfl hs_75 rfl)) rfl (hd_v rfl (fun _ _ => (v_fieldA underlying50 rfl sizeOf9 rfl)) rfl (hd_v rfl (fun H' hS => by obtain ⟨Z', hO⟩ := hS; exact (v_load1 isAgg9 rfl (Blk.cell (hO.box 0 rfl) rfl))) rfl (hd_v rfl (fun _ _ => (v_buildF (cs := (fGTip.enc (zz24 number t i))) (xs := [.tmp 83, .tmp 85]) (is := [0, 1]) rfl (evs_cons rfl (evs_cons rfl evs_nil)) (fun w => by show _ = _; kernel_rfl))) rfl (hd_h (o_lit (g := fGTip) (l := [(zz24 number t i)]) (xs := [.tmp 86]) hO underlying22 sizeOf50 zeroValue50 rfl (evs_cons rfl evs_nil) rfl rfl rfl rfl rfl) (by rintro v_78 H_77 hO; exact ⟨_, (Own.sel (Ls := [_, _, _, _, _, _, _, _, _, _, _, _, _]) (L := L) [1, 2, 3, 5, 6, 7, 8, 9, 10, 11, 12] rfl hO)⟩) rfl ?_))))))
     rintro v_78 H_77 hO
     obtain ⟨hs_81, h⟩ := h
     refine hd_h (o_append (l2 := [(zz24 number t i)]) hO 4 rfl rfl underlying22 type50 rfl rfl rfl rfl rfl rfl rfl (hO.osl 0 rfl) hs_81 (le63 hs_81 rfl)) (by rintro v_80 H_79 hO; exact ⟨_, (Own.sel (Ls := [_, _, _, _, _, _, _, _, _, _, _, _, _]) (L := L) [1, 2, 3, 5, 6, 7, 8, 9, 10, 11, 12] rfl hO)⟩) rfl ?_
     rintro v_80 H_79 hO
     refine hd_nil (hd_h (OpV.toH (v_fieldA underlying25 rfl sizeOf22 rfl)) (fun _ _ hR => trivial) rfl ?_)
     rintro vv HH ⟨hvv, hHH⟩
     obtain rfl := hvv.symm
     obtain rfl := hHH.symm
     refine hd_s (o_store1 hO 5 rfl sizeOf22 rfl rfl rfl (Sl.one (hO.osl 4 rfl))) (fun _ _ _ => trivial) ?_
     rintro _ H_82 hO
     refine hd_nil (blockQ_n (thenQ_n (hw_region (hl_v (v_move rfl) rfl (hl_v (v_add rfl rfl (by have hq := of_decide_eq_true hc_71; have hm := hln_70; constructor <;> omega)) rfl (hl_v (v_assign rfl) rfl (hl_nil (thenQ_n ?_))))))))
     exact ⟨_, _, (a_c 1 rfl (a_c 2 rfl (a_c 6 rfl (a_c 7 rfl (a_c 9 rfl a_n))))), ⟨(⟨out2.States, (out2.Starts ++ [(zz24 number t i)]), out2.Ends, out2.Arcs⟩ : GFst), i + 1, v_80, v_62, v_63, _, rfl, rfl, h, (by have hq := of_decide_eq_true hc_71; omega), (Own.sel (Ls := [_, _, _, _, _, _, _, _, _, _, _, _, _]) (L := L) [2, 3, 4, 5, 6, 7, 8, 9, 10, 11, 12] rfl hO)⟩, (by have hq := of_decide_eq_true hc_71; omega)⟩
    ·replace h := ite_f h hc_76
     refine hw_skip (blockQ_n (thenQ_n (hw_region (hl_v (v_move rfl) rfl (hl_v (v_add rfl rfl (by have hq := of_decide_eq_true hc_71; have hm := hln_70; constructor <;> omega)) rfl (hl_v (v_assign rfl) rfl (hl_nil (thenQ_n ?_))))))))
     exact ⟨_, _, (a_c 1 rfl (a_c 2 rfl (a_c 6 rfl (a_c 7 rfl (a_c 9 rfl a_n))))), ⟨out2, i + 1, v_61, v_62, v_63, _, rfl, rfl, h, (by have hq := of_decide_eq_true hc_71; omega), (Own.sel (Ls := [_, _, _, _, _, _, _, _, _, _, _, _]) (L := L) [1, 2, 3, 4, 5, 6, 7, 8, 9, 10, 11] rfl hO)⟩, (by have hq := of_decide_eq_true hc_71; omega)⟩
   ·replace h := ite_f h hc_71
    refine hw_exit (thenQ_e (thenQ_e (blockQ_hit (thenQ_n (hw_seq (hw_seq (hw_region (hl_v (v_assign rfl) rfl (hl_nil (thenQ_n (hw_block ?_)))))))))))
    obtain ⟨I_86, h, hI_88⟩ := h
    refine hw_lp (fun n' g' H' => ∃ (out3 : GFst) (i2 : Nat) (v_83 : Value) (v_84 : Value) (v_85 : Value) (Z' : Nat → Prop), n' = t.Ends.length - i2 ∧ g' = [(1, ptr b_14 0), (2, ptr b_16 0), (6, v_34), (7, ptr b_37 0), (11, .int .i64 (i2 : Int))] ∧ I_86 out3 i2 ∧ i2 ≤ t.Ends.length ∧ Own H' Z' (own fGArc 39 v_85 out3.Arcs :: own fGTip 50 v_84 out3.Ends :: own fGTip 50 v_83 out3.Starts :: box b_37 [.int .i64 out3.States, v_83, v_84, v_85] 25 :: own fInt 3 v_34 number :: box b_16 [.int .i64 (0 : Int), .slice none 0 0, .slice none 0 0, .slice none 0 0] 25 :: box b_14 [.int .i64 t.States, v_1, v_3, v_5] 25 :: fz fGArc.rep v_5 t.Arcs :: fz fGTip.rep v_3 t.Ends :: fz fGTip.rep v_1 t.Starts :: inZ Z :: L)) _ _ (a_c 1 rfl (a_c 2 rfl (a_c 6 rfl (a_c 7 rfl (a_c 11 rfl a_n))))) ⟨out2, 0, v_61, v_62, v_63, _, rfl, rfl, h, by omega, hO⟩ ?_
    rintro _ _ H_89 ⟨out3, i2, v_83, v_84, v_85, Z_90, rfl, rfl, h, hb_91, hO⟩
    replace h := hI_88 out3 i2 h hb_91
    refine hw_seq (hw_seq (hw_region (hl_v (v_move rfl) rfl (hl_v (v_fieldA underlying25 rfl sizeOf22 rfl) rfl (hl_v (v_load1 isAgg22 rfl (Blk.cell (hO.box 6 rfl) rfl)) rfl ?_)))))
    have hln_92 := Sl.cap (hO.fsl 8 rfl)
    refine hl_v (v_lenL rfl underlying22 rfl (hO.fsl 8 rfl)) rfl (hl_v (v_lss rfl rfl) rfl (hl_nil (thenQ_n (hw_cond rfl (fun hc_93 => ?_) (fun hc_93 => ?_)))))
    ·replace h := ite_t h hc_93
     refine hw_skip (thenQ_n (hw_seq (hw_block (hw_seq (hw_region (hl_v (v_fieldA underlying25 rfl sizeOf22 rfl) rfl (hl_v (v_load1 isAgg22 rfl (Blk.cell (hO.box 6 rfl) rfl)) rfl (hl_v (v_move rfl) rfl (hl_v (v_ixL underlying22 sizeOf50 rfl rfl (hO.fsl 8 rfl) (by exact ⟨Int.natCast_nonneg _, of_decide_eq_true hc_93⟩)) rfl (hl_v (v_loadFl isAgg50 sizeOf50 rfl (hO.fsl 8 rfl) rfl (by exact ⟨Int.natCast_nonneg _, of_decide_eq_true hc_93⟩)) rfl (hl_h (o_alloc (cs := (fGTip.enc (⟨(0 : Int), ([] : List UInt8)⟩ : GTip))) hO zeroValue50 rfl) rfl ?_)))))))))))
     rintro _ H_94 ⟨b_95, rfl, hO⟩
     refine hl_s (o_storeA (us := (fGTip.enc (t.Ends.getD i2 default))) hO 0 rfl sizeOf50 rfl rfl rfl rfl (by intro u hu; exact (fGTip).one _ u hu)) ?_
     rintro _ H_96 hO
     refine hl_nil (thenQ_n (hw_sub _ (a_c 1 rfl (a_c 2 rfl (a_c 6 rfl (a_c 7 rfl (a_c 11 rfl (a_c 12 rfl a_n)))))) (hw_seq (hw_region (hl_v (v_move rfl) rfl (hl_v (v_fieldA underlying50 rfl sizeOf3 rfl) rfl (hl_v (v_load1 isAgg3 rfl (Blk.cell (hO.box 0 rfl) rfl)) rfl ?_)))))))
     obtain ⟨hs_97, h⟩ := h
     refine hl_v (v_ixL underlying67 sizeOf3 rfl rfl (hO.osl 5 rfl) hs_97) rfl (hl_v (v_loadSc isAgg3 rfl (hO.osl 5 rfl) rfl hs_97 rfl) rfl (hl_v (v_geq rfl rfl) rfl (hl_nil (thenQ_n (hw_cond rfl (fun hc_98 => ?_) (fun hc_98 => ?_))))))
     ·replace h := ite_t h hc_98
      refine hw_held2 12 (fun H' => ∃ Z' : Nat → Prop, Own H' Z' (box b_95 (fGTip.enc (t.Ends.getD i2 default)) 50 :: own fGArc 39 v_85 out3.Arcs :: own fGTip 50 v_83 out3.Starts :: box b_37 [.int .i64 out3.States, v_83, v_84, v_85] 25 :: own fInt 3 v_34 number :: box b_16 [.int .i64 (0 : Int), .slice none 0 0, .slice none 0 0, .slice none 0 0] 25 :: box b_14 [.int .i64 t.States, v_1, v_3, v_5] 25 :: fz fGArc.rep v_5 t.Arcs :: fz fGTip.rep v_3 t.Ends :: fz fGTip.rep v_1 t.Starts :: inZ Z :: L)) (.step 0 false (.step 1 false (.step 2 false (.step 3 false (.step 4 false (.step 5 false (.step 6 false (.step 7 false (.step 8 false (.step 9 false (.step 10 true (.step 11 true .done)))))))))))) (.step 12 true (.step 13 true .done)) Tryz.mixed (by kernel_rfl) ⟨_, (Own.sel (Ls := [_, _, _, _, _, _, _, _, _, _, _, _]) (L := L) [0, 1, 3, 4, 5, 6, 7, 8, 9, 10, 11] rfl hO)⟩ (hd_v rfl (fun _ _ => (v_fieldA underlying25 rfl sizeOf22 rfl)) rfl (hd_v rfl (fun H' hS => by obtain ⟨Z', hO⟩ := hS; exact (v_load1 isAgg22 rfl (Blk.cell (hO.box 3 rfl) rfl))) rfl (hd_v rfl (fun _ _ => (v_move rfl)) rfl (hd_v rfl (fun _ _ => (v_fieldA underlying50 rfl sizeOf3 rfl)) rfl ?_))))
      refine hd_v rfl (fun H' hS => by obtain ⟨Z', hO⟩ := hS; exact (v_load1 isAgg3 rfl (Blk.cell (hO.box 0 rfl) rfl))) rfl (hd_v rfl (fun H' hS => by obtain ⟨Z', hO⟩ := hS; exact (v_ixL underlying67 sizeOf3 rfl rfl (hO.osl 4 rfl) hs_97)) rfl (hd_v rfl (fun H' hS => by obtain ⟨Z', hO⟩ := hS; exact (v_loadSc isAgg3 rfl (hO.osl 4 rfl) rfl hs_97 rfl)) rfl (hd_v rfl (fun _ _ => (v_fieldA underlying50 rfl sizeOf9 rfl)) rfl (hd_v rfl (fun H' hS => by obtain ⟨Z', hO⟩ := hS; exact (v_load1 isAgg9 rfl (Blk.cell (hO.box 0 rfl) rfl))) rfl (hd_v rfl (fun _ _ => (v_buildF (cs := (fGTip.enc (zz25 number t i2))) (xs := [.tmp 114, .tmp 116]) (is := [0, 1]) rfl (evs_cons rfl (evs_cons rfl evs_nil)) (fun w => by show _ = _; kernel_rfl))) rfl (hd_h (o_lit (g := fGTip) (l := [(zz25 number t i2)]) (xs := [.tmp 117]) hO underlying22 sizeOf50 zeroValue50 rfl (evs_cons rfl evs_nil) rfl rfl rfl rfl rfl) (by rintro v_100 H_99 hO; exact ⟨_, (Own.sel (Ls := [_, _, _, _, _, _, _, _, _, _, _, _, _]) (L := L) [1, 2, 4, 5, 6, 7, 8, 9, 10, 11, 12] rfl hO)⟩) rfl ?_))))))
      rintro v_100 H_99 hO
      obtain ⟨hs_103, h⟩ := h
      refine hd_h (o_append (l2 := [(zz25 number t i2)]) hO 3 rfl rfl underlying22 type50 rfl rfl rfl rfl rfl rfl rfl (hO.osl 0 rfl) hs_103 (le63 hs_103 rfl)) (by rintro v_102 H_101 hO; exact ⟨_, (Own.sel (Ls := [_, _, _, _, _, _, _, _, _, _, _, _, _]) (L := L) [1, 2, 4, 5, 6, 7, 8, 9, 10, 11, 12] rfl hO)⟩) rfl ?_
      rintro v_102 H_101 hO
      refine hd_nil (hd_h (OpV.toH (v_fieldA underlying25 rfl sizeOf22 rfl)) (fun _ _ hR => trivial) rfl ?_)
      rintro vv HH ⟨hvv, hHH⟩
      obtain rfl := hvv.symm
      obtain rfl := hHH.symm
      refine hd_s (o_store1 hO 5 rfl sizeOf22 rfl rfl rfl (Sl.one (hO.osl 3 rfl))) (fun _ _ _ => trivial) ?_
      rintro _ H_104 hO
      refine hd_nil (blockQ_n (thenQ_n (hw_region (hl_v (v_move rfl) rfl (hl_v (v_add rfl rfl (by have hq := of_decide_eq_true hc_93; have hm := hln_92; constructor <;> omega)) rfl (hl_v (v_assign rfl) rfl (hl_nil (thenQ_n ?_))))))))
      exact ⟨_, _, (a_c 1 rfl (a_c 2 rfl (a_c 6 rfl (a_c 7 rfl (a_c 11 rfl a_n))))), ⟨(⟨out3.States, out3.Starts, (out3.Ends ++ [(zz25 number t i2)]), out3.Arcs⟩ : GFst), i2 + 1, v_83, v_102, v_85, _, rfl, rfl, h, (by have hq := of_decide_eq_true hc_93; omega), (Own.sel (Ls := [_, _, _, _, _, _, _, _, _, _, _, _, _]) (L := L) [2, 3, 4, 5, 6, 7, 8, 9, 10, 11, 12] rfl hO)⟩, (by have hq := of_decide_eq_true hc_93; omega)⟩
     ·replace h := ite_f h hc_98
      refine hw_skip (blockQ_n (thenQ_n (hw_region (hl_v (v_move rfl) rfl (hl_v (v_add rfl rfl (by have hq := of_decide_eq_true hc_93; have hm := hln_92; constructor <;> omega)) rfl (hl_v (v_assign rfl) rfl (hl_nil (thenQ_n ?_))))))))
      exact ⟨_, _, (a_c 1 rfl (a_c 2 rfl (a_c 6 rfl (a_c 7 rfl (a_c 11 rfl a_n))))), ⟨out3, i2 + 1, v_83, v_84, v_85, _, rfl, rfl, h, (by have hq := of_decide_eq_true hc_93; omega), (Own.sel (Ls := [_, _, _, _, _, _, _, _, _, _, _, _]) (L := L) [1, 2, 3, 4, 5, 6, 7, 8, 9, 10, 11] rfl hO)⟩, (by have hq := of_decide_eq_true hc_93; omega)⟩
    ·replace h := ite_f h hc_93
     refine hw_exit (thenQ_e (thenQ_e (blockQ_hit (thenQ_n (hw_seq (hw_seq (hw_region (hl_v (v_assign rfl) rfl (hl_nil (thenQ_n (hw_block ?_)))))))))))
     obtain ⟨I_108, h, hI_110⟩ := h
     refine hw_lp (fun n' g' H' => ∃ (out4 : GFst) (i3 : Nat) (v_105 : Value) (v_106 : Value) (v_107 : Value) (Z' : Nat → Prop), n' = t.Arcs.length - i3 ∧ g' = [(1, ptr b_14 0), (2, ptr b_16 0), (6, v_34), (7, ptr b_37 0), (13, .int .i64 (i3 : Int))] ∧ I_108 out4 i3 ∧ i3 ≤ t.Arcs.length ∧ Own H' Z' (own fGArc 39 v_107 out4.Arcs :: own fGTip 50 v_106 out4.Ends :: own fGTip 50 v_105 out4.Starts :: box b_37 [.int .i64 out4.States, v_105, v_106, v_107] 25 :: own fInt 3 v_34 number :: box b_16 [.int .i64 (0 : Int), .slice none 0 0, .slice none 0 0, .slice none 0 0] 25 :: box b_14 [.int .i64 t.States, v_1, v_3, v_5] 25 :: fz fGArc.rep v_5 t.Arcs :: fz fGTip.rep v_3 t.Ends :: fz fGTip.rep v_1 t.Starts :: inZ Z :: L)) _ _ (a_c 1 rfl (a_c 2 rfl (a_c 6 rfl (a_c 7 rfl (a_c 13 rfl a_n))))) ⟨out3, 0, v_83, v_84, v_85, _, rfl, rfl, h, by omega, hO⟩ ?_
     rintro _ _ H_111 ⟨out4, i3, v_105, v_106, v_107, Z_112, rfl, rfl, h, hb_113, hO⟩
     replace h := hI_110 out4 i3 h hb_113
     refine hw_seq (hw_seq (hw_region (hl_v (v_move rfl) rfl (hl_v (v_fieldA underlying25 rfl sizeOf23 rfl) rfl (hl_v (v_load1 isAgg23 rfl (Blk.cell (hO.box 6 rfl) rfl)) rfl ?_)))))
     have hln_114 := Sl.cap (hO.fsl 7 rfl)
     refine hl_v (v_lenL rfl underlying23 rfl (hO.fsl 7 rfl)) rfl (hl_v (v_lss rfl rfl) rfl (hl_nil (thenQ_n (hw_cond rfl (fun hc_115 => ?_) (fun hc_115 => ?_)))))
     ·replace h := ite_t h hc_115
      refine hw_skip (thenQ_n (hw_seq (hw_block (hw_seq (hw_region (hl_v (v_fieldA underlying25 rfl sizeOf23 rfl) rfl (hl_v (v_load1 isAgg23 rfl (Blk.cell (hO.box 6 rfl) rfl)) rfl (hl_v (v_move rfl) rfl (hl_v (v_ixL underlying23 sizeOf39 rfl rfl (hO.fsl 7 rfl) (by exact ⟨Int.natCast_nonneg _, of_decide_eq_true hc_115⟩)) rfl (hl_v (v_loadFl isAgg39 sizeOf39 rfl (hO.fsl 7 rfl) rfl (by exact ⟨Int.natCast_nonneg _, of_decide_eq_true hc_115⟩)) rfl (hl_h (o_alloc (cs := (fGArc.enc (⟨(0 : Int), (0 : Int), BSet.zero, ([] : List UInt8), false⟩ : GArc))) hO zeroValue39 rfl) rfl ?_)))))))))))
      rintro _ H_116 ⟨b_117, rfl, hO⟩
      refine hl_s (o_storeA (us := (fGArc.enc (t.Arcs.getD i3 default))) hO 0 rfl sizeOf39 rfl rfl rfl rfl (by intro u hu; exact (fGArc).one _ u hu)) ?_
      rintro _ H_118 hO
      refine hl_nil (thenQ_n (hw_sub _ (a_c 1 rfl (a_c 2 rfl (a_c 6 rfl (a_c 7 rfl (a_c 13 rfl (a_c 14 rfl a_n)))))) (hw_seq (hw_region (hl_v (v_move rfl) rfl (hl_v (v_fieldA underlying39 rfl sizeOf3 rfl) rfl (hl_v (v_load1 isAgg3 rfl (Blk.cell (hO.box 0 rfl) rfl)) rfl ?_)))))))
      obtain ⟨hs_119, h⟩ := h
      refine hl_v (v_ixL underlying67 sizeOf3 rfl rfl (hO.osl 5 rfl) hs_119) rfl (hl_v (v_loadSc isAgg3 rfl (hO.osl 5 rfl) rfl hs_119 rfl) rfl (hl_v (v_geq rfl rfl) rfl (hl_v (v_move rfl) rfl (hl_g rfl rfl (fun hg => (v_move rfl)) rfl (hl_g rfl rfl (fun hg => (v_fieldA underlying39 rfl sizeOf3 rfl)) rfl (hl_g rfl rfl (fun hg => (v_load1 isAgg3 (gv_ok rfl hg) (Blk.cell (hO.box 0 rfl) rfl))) rfl ?_))))))
      obtain ⟨hs_120, h⟩ := h
      refine hl_g rfl rfl (fun hg => (v_ixL underlying67 sizeOf3 (gv_ok rfl hg) (gv_ok rfl hg) (hO.osl 5 rfl) (hs_120 (gb_bool hg)))) rfl ?_
      obtain ⟨hs_121, h⟩ := h
      refine hl_g rfl rfl (fun hg => (v_loadSc isAgg3 (gv_ok rfl hg) (hO.osl 5 rfl) rfl (hs_121 (gb_bool hg)) rfl)) rfl (hl_g rfl rfl (fun hg => (v_geq (gv_ok rfl hg) rfl)) rfl (hl_v (v_and rfl rfl) rfl (hl_nil (thenQ_n (hw_sub _ (a_c 1 rfl (a_c 2 rfl (a_c 6 rfl (a_c 7 rfl (a_c 13 rfl (a_c 14 rfl (a_c 146 rfl a_n))))))) (hw_cond rfl (fun hc_122 => ?_) (fun hc_122 => ?_)))))))
      ·replace h := ite_t h hc_122
       refine hw_seq (hw_region (hl_v (v_move rfl) rfl (hl_v (v_fieldA underlying39 rfl sizeOf3 rfl) rfl (hl_v (v_load1 isAgg3 rfl (Blk.cell (hO.box 0 rfl) rfl)) rfl (hl_v (v_ixL underlying67 sizeOf3 rfl rfl (hO.osl 5 rfl) hs_119) rfl (hl_v (v_loadSc isAgg3 rfl (hO.osl 5 rfl) rfl hs_119 rfl) rfl (hl_v (v_fieldA underlying39 rfl sizeOf3 rfl) rfl (hl_s (o_store1 hO 0 rfl sizeOf3 rfl rfl rfl rfl) ?_))))))))
       rintro _ H_123 hO
       refine hl_nil (thenQ_n (hw_seq (hw_region (hl_v (v_move rfl) rfl (hl_v (v_fieldA underlying39 rfl sizeOf3 rfl) rfl (hl_v (v_load1 isAgg3 rfl (Blk.cell (hO.box 0 rfl) rfl)) rfl ?_))))))
       obtain ⟨hs_124, h⟩ := h
       refine hl_v (v_ixL underlying67 sizeOf3 rfl rfl (hO.osl 5 rfl) hs_124) rfl (hl_v (v_loadSc isAgg3 rfl (hO.osl 5 rfl) rfl hs_124 rfl) rfl (hl_v (v_fieldA underlying39 rfl sizeOf3 rfl) rfl (hl_s (o_store1 hO 0 rfl sizeOf3 rfl rfl rfl rfl) ?_)))
       rintro _ H_125 hO
       refine hl_nil (thenQ_n (hw_sub _ (a_c 1 rfl (a_c 2 rfl (a_c 6 rfl (a_c 7 rfl (a_c 13 rfl (a_c 14 rfl a_n)))))) (hw_region (hl_v (v_fieldA underlying25 rfl sizeOf23 rfl) rfl (hl_v (v_load1 isAgg23 rfl (Blk.cell (hO.box 4 rfl) rfl)) rfl (hl_v (v_loadA isAgg39 sizeOf39 rfl (Blk.at0 (hO.box 0 rfl)) rfl) rfl (hl_h (o_lit (g := fGArc) (l := [{ { (t.Arcs.getD i3 default) with From := (zz23 number t i3) } with To := (number.getD (({ (t.Arcs.getD i3 default) with From := (zz23 number t i3) }).To).toNat default) }]) (xs := [.tmp 161]) hO underlying23 sizeOf39 zeroValue39 rfl (evs_cons rfl evs_nil) rfl rfl rfl rfl rfl) rfl ?_)))))))
       rintro v_127 H_126 hO
       obtain ⟨hs_130, h⟩ := h
       refine hl_h (o_append (l2 := [{ { (t.Arcs.getD i3 default) with From := (zz23 number t i3) } with To := (number.getD (({ (t.Arcs.getD i3 default) with From := (zz23 number t i3) }).To).toNat default) }]) hO 2 rfl rfl underlying23 type39 rfl rfl rfl rfl rfl rfl rfl (hO.osl 0 rfl) hs_130 (le63 hs_130 rfl)) rfl ?_
       rintro v_129 H_128 hO
       replace hO : Own H_128 Z_112 (own fGArc 39 v_127 [{ { (t.Arcs.getD i3 default) with From := (zz23 number t i3) } with To := (number.getD (({ (t.Arcs.getD i3 default) with From := (zz23 number t i3) }).To).toNat default) }] :: box b_117 (fGArc.enc ({ { (t.Arcs.getD i3 default) with From := (zz23 number t i3) } with To := (number.getD (({ (t.Arcs.getD i3 default) with From := (zz23 number t i3) }).To).toNat default) })) 39 :: own fGArc 39 v_129 (out4.Arcs ++ [{ { (t.Arcs.getD i3 default) with From := (zz23 number t i3) } with To := (number.getD (({ (t.Arcs.getD i3 default) with From := (zz23 number t i3) }).To).toNat default) }]) :: own fGTip 50 v_106 out4.Ends :: own fGTip 50 v_105 out4.Starts :: box b_37 [.int .i64 out4.States, v_105, v_106, v_107] 25 :: own fInt 3 v_34 number :: box b_16 [.int .i64 (0 : Int), .slice none 0 0, .slice none 0 0, .slice none 0 0] 25 :: box b_14 [.int .i64 t.States, v_1, v_3, v_5] 25 :: fz fGArc.rep v_5 t.Arcs :: fz fGTip.rep v_3 t.Ends :: fz fGTip.rep v_1 t.Starts :: inZ Z :: L) := hO
       refine hl_v (v_fieldA underlying25 rfl sizeOf23 rfl) rfl (hl_s (o_store1 hO 5 rfl sizeOf23 rfl rfl rfl (Sl.one (hO.osl 2 rfl))) ?_)
       rintro _ H_131 hO
       refine hl_nil (blockQ_n (thenQ_n (hw_region (hl_v (v_move rfl) rfl (hl_v (v_add rfl rfl (by have hq := of_decide_eq_true hc_115; have hm := hln_114; constructor <;> omega)) rfl (hl_v (v_assign rfl) rfl (hl_nil (thenQ_n ?_))))))))
       exact ⟨_, _, (a_c 1 rfl (a_c 2 rfl (a_c 6 rfl (a_c 7 rfl (a_c 13 rfl a_n))))), ⟨(⟨out4.States, out4.Starts, out4.Ends, (out4.Arcs ++ [{ { (t.Arcs.getD i3 default) with From := (zz23 number t i3) } with To := (number.getD (({ (t.Arcs.getD i3 default) with From := (zz23 number t i3) }).To).toNat default) }])⟩ : GFst), i3 + 1, v_105, v_106, v_129, _, rfl, rfl, h, (by have hq := of_decide_eq_true hc_115; omega), (Own.sel (Ls := [_, _, _, _, _, _, _, _, _, _, _, _, _]) (L := L) [2, 3, 4, 5, 6, 7, 8, 9, 10, 11, 12] rfl hO)⟩, (by have hq := of_decide_eq_true hc_115; omega)⟩
      ·replace h := ite_f h hc_122
       refine hw_skip (blockQ_n (thenQ_n (hw_region (hl_v (v_move rfl) rfl (hl_v (v_add rfl rfl (by have hq := of_decide_eq_true hc_115; have hm := hln_114; constructor <;> omega)) rfl (hl_v (v_assign rfl) rfl (hl_nil (thenQ_n ?_))))))))
       exact ⟨_, _, (a_c 1 rfl (a_c 2 rfl (a_c 6 rfl (a_c 7 rfl (a_c 13 rfl a_n))))), ⟨out4, i3 + 1, v_105, v_106, v_107, _, rfl, rfl, h, (by have hq := of_decide_eq_true hc_115; omega), (Own.sel (Ls := [_, _, _, _, _, _, _, _, _, _, _, _]) (L := L) [1, 2, 3, 4, 5, 6, 7, 8, 9, 10, 11] rfl hO)⟩, (by have hq := of_decide_eq_true hc_115; omega)⟩
     ·replace h := ite_f h hc_115
      refine hw_exit (thenQ_e (thenQ_e (blockQ_hit (thenQ_n (hw_seq (hw_region (hl_v (v_loadA isAgg25 sizeOf25 rfl (Blk.at0 (hO.box 3 rfl)) rfl) rfl ?_)))))))
      obtain ⟨Z_132, _, hO⟩ := hO.freeze (i := 2) rfl
      obtain ⟨Z_133, _, hO⟩ := hO.freeze (i := 1) rfl
      obtain ⟨Z_134, _, hO⟩ := hO.freeze (i := 0) rfl
      obtain ⟨hs_135, h⟩ := h
      refine hl_h (h_call call21 (evs_cons rfl evs_nil) (rSort15_spec (a0 := out4) hs_135 hO (Fz.of (i := 2) rfl) (Fz.of (i := 1) rfl) (Fz.of (i := 0) rfl))) rfl ?_
      rintro _ H_142 ⟨Z_143, v_136, v_138, v_140, _, rfl, hO⟩
      refine hl_v (v_extract rfl rfl) rfl (hl_v (v_extract rfl rfl) rfl (hl_s (o_storeA (us := [.int .i64 (((fSort out4).1).States), v_136, v_138, v_140]) hO 8 rfl sizeOf25 rfl rfl rfl rfl (by simp only [List.forall_mem_cons]; exact ⟨rfl, (Sl.one (hO.fsl 0 rfl)), (Sl.one (hO.fsl 1 rfl)), (Sl.one (hO.fsl 2 rfl)), by simp⟩)) ?_))
      rintro _ H_145 hO
      replace hO : Own H_145 Z_143 (fz fGTip.rep v_136 (((fSort out4).1).Starts) :: fz fGTip.rep v_138 (((fSort out4).1).Ends) :: fz fGArc.rep v_140 (((fSort out4).1).Arcs) :: fz fGArc.rep v_107 out4.Arcs :: fz fGTip.rep v_106 out4.Ends :: fz fGTip.rep v_105 out4.Starts :: box b_37 [.int .i64 out4.States, v_105, v_106, v_107] 25 :: own fInt 3 v_34 number :: box b_16 [.int .i64 (((fSort out4).1).States), v_136, v_138, v_140] 25 :: box b_14 [.int .i64 t.States, v_1, v_3, v_5] 25 :: fz fGArc.rep v_5 t.Arcs :: fz fGTip.rep v_3 t.Ends :: fz fGTip.rep v_1 t.Starts :: inZ Z :: L) := hO
      refine hl_v (v_assign rfl) rfl (hl_nil (thenQ_n (hw_sub _ (a_c 2 rfl (a_c 3 rfl a_n)) (hw_ret (ret_i _ (ra_c rfl (fun w hw => run_loadVar_at (cs := [.int .i64 (((fSort out4).1).States), v_136, v_138, v_140]) isAgg25 sizeOf25 (Blk.at0 (hO.box 8 rfl)) rfl w hw) (ra_t rfl ra_nil)) ?_)))))
      exact ⟨_, ((fSort out4).1), (fSort out4).2, v_136, v_138, v_140, (hO.inz 13 rfl), h, rfl, (Own.sel (Ls := [_, _, _, _, _, _, _, _, _, _, _, _, _, _]) (L := L) [0, 1, 2] rfl hO)⟩
theorem rTrim18_spec {a0 : GFst} {v_1 : Value} {v_3 : Value} {v_5 : Value} {L : List As} (hp : a0.Starts.length ≤ 17592186044416 ∧ a0.Ends.length ≤ 17592186044416 ∧ a0.Arcs.length ≤ 17592186044416) {H : Heap} {Z : Nat → Prop} (hO : Own H Z (L)) (hf_2 : Fz fGTip.rep L v_1 a0.Starts) (hf_4 : Fz fGTip.rep L v_3 a0.Ends) (hf_6 : Fz fGArc.rep L v_5 a0.Arcs) : HC Tryz.prog 11 [.agg [.int .i64 a0.States, v_1, v_3, v_5].toArray] H (fun v H' => ∃ (Z' : Nat → Prop) (v_7 : Value) (v_9 : Value) (v_11 : Value), (∀ b, Z b → Z' b) ∧ v = .tuple #[.agg [.int .i64 ((pTrim a0).1).States, v_7, v_9, v_11].toArray, .int .i64 ((pTrim a0).2)] ∧ Own H' Z' (fz fGTip.rep v_7 ((pTrim a0).1).Starts :: fz fGTip.rep v_9 ((pTrim a0).1).Ends :: fz fGArc.rep v_11 ((pTrim a0).1).Arcs :: L)) := by
  refine (rTrim18_ok (t := a0) (@rTrim18_wp a0 hp) hO hf_2 hf_4 hf_6).mono ?_
  rintro v H' ⟨Z', r0, r1, v_7, v_9, v_11, hz, hq, hv, hO'⟩
  obtain ⟨rfl, rfl⟩ := hq
  exact ⟨Z', v_7, v_9, v_11, hz, hv, hO'⟩
end
section
open Go.Proofs
open Tryz
theorem eqv_47_19r (a b : Gwhittleref19_Lag) (w : World) : (Op.equalIn 10000 47 (.agg (fGwhittleref19_Lag.enc a).toArray) (.agg (fGwhittleref19_Lag.enc b).toArray)).run Tryz.prog w = .ok (decide (a = b)) w := by
  have hF := (show ∀ fs, Tryz.prog.underlying 47 = some (.struct fs) → Tryz.prog.fieldsOf 47 = fs from fun fs h => by unfold Program.fieldsOf; rw [h]) _ underlying47
  have e : decide (a = b) = (decide (a.P = b.P) && (decide (a.Q = b.Q) && (decide (a.A = b.A) && (decide (a.B = b.B) && true)))) := by
    obtain ⟨a0, a1, a2, a3⟩ := a; obtain ⟨b0, b1, b2, b3⟩ := b
    rw [Bool.eq_iff_iff]; simp [Gwhittleref19_Lag.mk.injEq]
  rw [e, show (10000 : Nat) = 9999 + 1 from rfl, run_equalIn_struct w 9999 47 _ _ (by rw [hF]; exact underlying47) (by kernel_rfl), hF]
  exact (eqF_cons (by decide) (part1 isAgg3 rfl) (part1 isAgg3 rfl) (eqI underlying3) (eqF_cons (by decide) (part1 isAgg3 rfl) (part1 isAgg3 rfl) (eqI underlying3) (eqF_cons (by decide) (part1 isAgg9 rfl) (part1 isAgg9 rfl) (eqS underlying9) (eqF_cons (by decide) (part1 isAgg9 rfl) (part1 isAgg9 rfl) (eqS underlying9) eqF_nil)))) w
theorem rBy_spec {a0 a1 : BSet} {a2 : Int} {L : List As} {H : Heap} {Z : Nat → Prop} (hO : Own H Z L) : HC Tryz.prog 22 [sv a0, sv a1, .int .i64 a2] H (fun v H' => ∃ (Z' : Nat → Prop), (∀ b, Z b → Z' b) ∧ v = sv (BSet.ofFn (fun m => byP a2 (a0.has m) (a1.has m)) 256) ∧ Own H' Z' L) :=
  By_spec.mono fun v H' ⟨h1, h2⟩ => ⟨Z, fun _ h => h, h1, hO.ext h2⟩
theorem rLagP_ok {p : Int} {q : Int} {a : List UInt8} {b : List UInt8}  {Q : Gwhittleref19_Lag → Prop} {H : Heap} {Z : Nat → Prop} {L : List As} (h : wp_rLagP p q a b Q) (hO : Own H Z (L))  : HC Tryz.prog 23 [.int .i64 p, .int .i64 q, str a, str b] H (fun v H' => ∃ (Z' : Nat → Prop) (r0 : Gwhittleref19_Lag) , (∀ b, Z b → Z' b) ∧ Q r0 ∧ v = .agg (fGwhittleref19_Lag.enc r0).toArray ∧ Own H' Z' (L)) := by
 replace hO := hO.inZ
 unfold wp_rLagP at h
 refine hc_of_hw (N := 22) (rs := [(.cell 8 47)]) Tryz.func23 rfl rfl rfl rfl (hw_seq (hw_region (hl_h (o_alloc (cs := (fGwhittleref19_Lag.enc (⟨(0 : Int), (0 : Int), ([] : List UInt8), ([] : List UInt8)⟩ : Gwhittleref19_Lag))) hO zeroValue47 rfl) rfl ?_)))
 rintro _ H_1 ⟨b_2, rfl, hO⟩
 refine hl_nil (thenQ_n (hw_seq (hw_region (hl_v (v_move rfl) rfl (hl_v (v_move rfl) rfl ?_)))))
 obtain ⟨hs_3, h⟩ := h
 refine hl_h (h_call call37 (evs_cons rfl (evs_cons rfl evs_nil)) (rLag03_spec (a0 := a) (a1 := b) hs_3 hO)) rfl ?_
 rintro _ H_4 ⟨Z_5, _, rfl, hO⟩
 refine hl_v (v_move rfl) rfl (hl_v (v_extract rfl rfl) rfl (hl_v (v_extract rfl rfl) rfl (hl_v (v_assign rfl) rfl (hl_v (v_assign rfl) rfl (hl_nil (thenQ_n (hw_seq (hw_region (hl_v (v_move rfl) rfl (hl_v (v_move rfl) rfl (hl_v (v_move rfl) rfl (hl_v (v_move rfl) rfl (hl_v (v_buildF (cs := (fGwhittleref19_Lag.enc (⟨p, q, (a.drop (lcp a b)), (b.drop (lcp a b))⟩ : Gwhittleref19_Lag))) (xs := [.tmp 17, .tmp 18, .tmp 19, .tmp 20]) (is := [0, 1, 2, 3]) rfl (evs_cons rfl (evs_cons rfl (evs_cons rfl (evs_cons rfl evs_nil)))) (fun w => by show _ = _; kernel_rfl)) rfl (hl_s (o_storeA (us := (fGwhittleref19_Lag.enc (⟨p, q, (a.drop (lcp a b)), (b.drop (lcp a b))⟩ : Gwhittleref19_Lag))) hO 0 rfl sizeOf47 rfl rfl rfl rfl (by intro u hu; exact (fGwhittleref19_Lag).one _ u hu)) ?_))))))))))))))
 rintro _ H_7 hO
 refine hl_nil (thenQ_n (hw_sub _ (a_c 8 rfl a_n) (hw_ret (ret_i _ (ra_c rfl (fun w hw => run_loadVar_at (cs := (fGwhittleref19_Lag.enc (⟨p, q, (a.drop (lcp a b)), (b.drop (lcp a b))⟩ : Gwhittleref19_Lag))) isAgg47 sizeOf47 (Blk.at0 (hO.box 0 rfl)) rfl w hw) ra_nil) ?_))))
 exact ⟨_, (⟨p, q, (a.drop (lcp a b)), (b.drop (lcp a b))⟩ : Gwhittleref19_Lag), (hO.inz 1 rfl), h, rfl, (Own.sel (Ls := [_, _]) (L := L) [] rfl hO)⟩
theorem rLagP_spec {a0 : Int} {a1 : Int} {a2 : List UInt8} {a3 : List UInt8}  {L : List As} (hp : a2.length ≤ 1000000000000 ∧ a3.length ≤ 1000000000000) {H : Heap} {Z : Nat → Prop} (hO : Own H Z (L))  : HC Tryz.prog 23 [.int .i64 a0, .int .i64 a1, str a2, str a3] H (fun v H' => ∃ (Z' : Nat → Prop) , (∀ a3, Z a3 → Z' a3) ∧ v = .agg (fGwhittleref19_Lag.enc ((rLg a0 a1 a2 a3))).toArray ∧ Own H' Z' (L)) := by
  refine (rLagP_ok (p := a0) (q := a1) (a := a2) (b := a3) (@rLagP_wp a0 a1 a2 a3 hp) hO).mono ?_
  rintro v H' ⟨Z', r0, hz, hq, hv, hO'⟩
  obtain rfl := hq
  exact ⟨Z', hz, hv, hO'⟩
abbrev zz26 (t : GFst) (i : Nat) (k : Nat) := (rLg ((t.Starts.getD i default).State) ((t.Starts.getD k default).State) ((t.Starts.getD i default).Out) ((t.Starts.getD k default).Out))
theorem rFirstsP_ok {t : GFst} {v_1 : Value} {v_3 : Value} {v_5 : Value} {Q : (List Gwhittleref19_Lag) → Prop} {H : Heap} {Z : Nat → Prop} {L : List As} (h : wp_rFirstsP t Q) (hO : Own H Z (L)) (hf_2 : Fz fGTip.rep L v_1 t.Starts) (hf_4 : Fz fGTip.rep L v_3 t.Ends) (hf_6 : Fz fGArc.rep L v_5 t.Arcs) : HC Tryz.prog 13 [.agg [.int .i64 t.States, v_1, v_3, v_5].toArray] H (fun v H' => ∃ (Z' : Nat → Prop) (r0 : List Gwhittleref19_Lag) (v_7 : Value), (∀ b, Z b → Z' b) ∧ Q r0 ∧ v = v_7 ∧ Own H' Z' (own fGwhittleref19_Lag 47 v_7 r0 :: L)) := by
 replace hO := hO.inZ
 replace hO := Fz.items [_] hf_2 hO
 replace hO := Fz.items [_, _] hf_4 hO
 replace hO := Fz.items [_, _, _] hf_6 hO
 unfold wp_rFirstsP at h
 refine hc_of_hw (N := 49) (rs := [(.tmp 2)]) Tryz.func13 rfl rfl rfl rfl (hw_seq (hw_region (hl_h (o_box (cs := [.int .i64 t.States, v_1, v_3, v_5]) hO rfl rfl) rfl ?_)))
 rintro _ H_8 ⟨b_9, rfl, hO⟩
 refine hl_v (v_assign rfl) rfl (hl_nil (thenQ_n (hw_seq (hw_region (hl_v (v_assign rfl) rfl (hl_nil (thenQ_n (hw_seq (hw_seq (hw_region (hl_v (v_assign rfl) rfl (hl_nil (thenQ_n (hw_block ?_))))))))))))))
 obtain ⟨I_11, h, hI_13⟩ := h
 replace hO := hO.nil fGwhittleref19_Lag 47
 refine hw_lp (fun n' g' H' => ∃ (out : List Gwhittleref19_Lag) (i : Nat) (v_10 : Value) (Z' : Nat → Prop), n' = t.Starts.length - i ∧ g' = [(1, ptr b_9 0), (3, v_10), (4, .int .i64 (i : Int))] ∧ I_11 out i ∧ i ≤ t.Starts.length ∧ Own H' Z' (own fGwhittleref19_Lag 47 v_10 out :: box b_9 [.int .i64 t.States, v_1, v_3, v_5] 25 :: fz fGArc.rep v_5 t.Arcs :: fz fGTip.rep v_3 t.Ends :: fz fGTip.rep v_1 t.Starts :: inZ Z :: L)) _ _ (a_c 1 rfl (a_c 3 rfl (a_c 4 rfl a_n))) ⟨[], 0, .slice none 0 0, _, rfl, rfl, h, by omega, hO⟩ ?_
 rintro _ _ H_14 ⟨out, i, v_10, Z_15, rfl, rfl, h, hb_16, hO⟩
 replace h := hI_13 out i h hb_16
 refine hw_seq (hw_seq (hw_region (hl_v (v_move rfl) rfl (hl_v (v_fieldA underlying25 rfl sizeOf22 rfl) rfl (hl_v (v_load1 isAgg22 rfl (Blk.cell (hO.box 1 rfl) rfl)) rfl ?_)))))
 have hln_17 := Sl.cap (hO.fsl 4 rfl)
 refine hl_v (v_lenL rfl underlying22 rfl (hO.fsl 4 rfl)) rfl (hl_v (v_lss rfl rfl) rfl (hl_nil (thenQ_n (hw_cond rfl (fun hc_18 => ?_) (fun hc_18 => ?_)))))
 ·replace h := ite_t h hc_18
  refine hw_skip (thenQ_n (hw_seq (hw_block (hw_seq (hw_region (hl_v (v_assign rfl) rfl (hl_nil (thenQ_n (hw_block ?_)))))))))
  obtain ⟨I_20, h, hI_22⟩ := h
  refine hw_lp (fun n' g' H' => ∃ (out2 : List Gwhittleref19_Lag) (k : Nat) (v_19 : Value) (Z' : Nat → Prop), n' = t.Starts.length - k ∧ g' = [(1, ptr b_9 0), (3, v_19), (4, .int .i64 (i : Int)), (5, .int .i64 (k : Int))] ∧ I_20 out2 k ∧ k ≤ t.Starts.length ∧ Own H' Z' (own fGwhittleref19_Lag 47 v_19 out2 :: box b_9 [.int .i64 t.States, v_1, v_3, v_5] 25 :: fz fGArc.rep v_5 t.Arcs :: fz fGTip.rep v_3 t.Ends :: fz fGTip.rep v_1 t.Starts :: inZ Z :: L)) _ _ (a_c 1 rfl (a_c 3 rfl (a_c 4 rfl (a_c 5 rfl a_n)))) ⟨out, 0, v_10, _, rfl, rfl, h, by omega, hO⟩ ?_
  rintro _ _ H_23 ⟨out2, k, v_19, Z_24, rfl, rfl, h, hb_25, hO⟩
  replace h := hI_22 out2 k h hb_25
  refine hw_seq (hw_seq (hw_region (hl_v (v_move rfl) rfl (hl_v (v_fieldA underlying25 rfl sizeOf22 rfl) rfl (hl_v (v_load1 isAgg22 rfl (Blk.cell (hO.box 1 rfl) rfl)) rfl (hl_v (v_lenL rfl underlying22 rfl (hO.fsl 4 rfl)) rfl (hl_v (v_lss rfl rfl) rfl (hl_nil (thenQ_n (hw_cond rfl (fun hc_26 => ?_) (fun hc_26 => ?_)))))))))))
  ·replace h := ite_t h hc_26
   refine hw_skip (thenQ_n (hw_seq (hw_block (hw_held2 28 (fun H' => ∃ Z' : Nat → Prop, Own H' Z' (box b_9 [.int .i64 t.States, v_1, v_3, v_5] 25 :: fz fGArc.rep v_5 t.Arcs :: fz fGTip.rep v_3 t.Ends :: fz fGTip.rep v_1 t.Starts :: inZ Z :: L)) (.step 0 false (.step 1 false (.step 2 false (.step 3 false (.step 4 false (.step 5 false (.step 6 false (.step 7 false (.step 8 false (.step 9 false (.step 10 false (.step 11 false (.step 12 false (.step 13 false (.step 14 false (.step 15 false (.step 16 false (.step 17 false (.step 18 false (.step 19 false (.step 20 false (.step 21 false (.step 22 false (.step 23 false (.step 24 false (.step 25 true (.step 26 true (.step 27 true .done)))))))))))))))))))))))))))) (.step 28 true .done) Tryz.mixed (by kernel_rfl) ⟨_, (Own.sel (Ls := [_, _, _, _, _, _]) (L := L) [1, 2, 3, 4, 5] rfl hO)⟩ (hd_v rfl (fun _ _ => (v_move rfl)) rfl (hd_v rfl (fun _ _ => (v_fieldA underlying25 rfl sizeOf22 rfl)) rfl (hd_v rfl (fun H' hS => by obtain ⟨Z', hO⟩ := hS; exact (v_load1 isAgg22 rfl (Blk.cell (hO.box 0 rfl) rfl))) rfl (hd_v rfl (fun _ _ => (v_move rfl)) rfl (hd_v rfl (fun H' hS => by obtain ⟨Z', hO⟩ := hS; exact (v_ixL underlying22 sizeOf50 rfl rfl (hO.fsl 3 rfl) (by exact ⟨Int.natCast_nonneg _, of_decide_eq_true hc_18⟩))) rfl (hd_v rfl (fun _ _ => (v_fieldA underlying50 rfl sizeOf3 rfl)) rfl (hd_v rfl (fun H' hS => by obtain ⟨Z', hO⟩ := hS; exact (v_loadSub (j := 0) isAgg3 rfl (hO.fsl 3 rfl) rfl (by exact ⟨Int.natCast_nonneg _, of_decide_eq_true hc_18⟩) rfl)) rfl ?_)))))))))))
   refine hd_v rfl (fun _ _ => (v_fieldA underlying25 rfl sizeOf22 rfl)) rfl (hd_v rfl (fun H' hS => by obtain ⟨Z', hO⟩ := hS; exact (v_load1 isAgg22 rfl (Blk.cell (hO.box 0 rfl) rfl))) rfl (hd_v rfl (fun _ _ => (v_move rfl)) rfl (hd_v rfl (fun H' hS => by obtain ⟨Z', hO⟩ := hS; exact (v_ixL underlying22 sizeOf50 rfl rfl (hO.fsl 3 rfl) (by exact ⟨Int.natCast_nonneg _, of_decide_eq_true hc_26⟩))) rfl (hd_v rfl (fun _ _ => (v_fieldA underlying50 rfl sizeOf3 rfl)) rfl (hd_v rfl (fun H' hS => by obtain ⟨Z', hO⟩ := hS; exact (v_loadSub (j := 0) isAgg3 rfl (hO.fsl 3 rfl) rfl (by exact ⟨Int.natCast_nonneg _, of_decide_eq_true hc_26⟩) rfl)) rfl (hd_v rfl (fun _ _ => (v_fieldA underlying25 rfl sizeOf22 rfl)) rfl (hd_v rfl (fun H' hS => by obtain ⟨Z', hO⟩ := hS; exact (v_load1 isAgg22 rfl (Blk.cell (hO.box 0 rfl) rfl))) rfl (hd_v rfl (fun _ _ => (v_move rfl)) rfl (hd_v rfl (fun H' hS => by obtain ⟨Z', hO⟩ := hS; exact (v_ixL underlying22 sizeOf50 rfl rfl (hO.fsl 3 rfl) (by exact ⟨Int.natCast_nonneg _, of_decide_eq_true hc_18⟩))) rfl (hd_v rfl (fun _ _ => (v_fieldA underlying50 rfl sizeOf9 rfl)) rfl (hd_v rfl (fun H' hS => by obtain ⟨Z', hO⟩ := hS; exact (v_loadSub (j := 1) isAgg9 rfl (hO.fsl 3 rfl) rfl (by exact ⟨Int.natCast_nonneg _, of_decide_eq_true hc_18⟩) rfl)) rfl (hd_v rfl (fun _ _ => (v_fieldA underlying25 rfl sizeOf22 rfl)) rfl (hd_v rfl (fun H' hS => by obtain ⟨Z', hO⟩ := hS; exact (v_load1 isAgg22 rfl (Blk.cell (hO.box 0 rfl) rfl))) rfl ?_)))))))))))))
   refine hd_v rfl (fun _ _ => (v_move rfl)) rfl (hd_v rfl (fun H' hS => by obtain ⟨Z', hO⟩ := hS; exact (v_ixL underlying22 sizeOf50 rfl rfl (hO.fsl 3 rfl) (by exact ⟨Int.natCast_nonneg _, of_decide_eq_true hc_26⟩))) rfl (hd_v rfl (fun _ _ => (v_fieldA underlying50 rfl sizeOf9 rfl)) rfl (hd_v rfl (fun H' hS => by obtain ⟨Z', hO⟩ := hS; exact (v_loadSub (j := 1) isAgg9 rfl (hO.fsl 3 rfl) rfl (by exact ⟨Int.natCast_nonneg _, of_decide_eq_true hc_26⟩) rfl)) rfl ?_)))
   obtain ⟨hs_27, h⟩ := h
   refine hd_h (h_call call23 (evs_cons rfl (evs_cons rfl (evs_cons rfl (evs_cons rfl evs_nil)))) (rLagP_spec (a0 := (t.Starts.getD i default).State) (a1 := (t.Starts.getD k default).State) (a2 := (t.Starts.getD i default).Out) (a3 := (t.Starts.getD k default).Out) hs_27 hO)) (by rintro _ H_28 ⟨Z_29, _, rfl, hO⟩; exact ⟨_, (Own.sel (Ls := [_, _, _, _, _, _]) (L := L) [1, 2, 3, 4, 5] rfl hO)⟩) rfl ?_
   rintro _ H_28 ⟨Z_29, _, rfl, hO⟩
   refine hd_h (o_lit (g := fGwhittleref19_Lag) (l := [(zz26 t i k)]) (xs := [.tmp 45]) hO underlying44 sizeOf47 zeroValue47 rfl (evs_cons rfl evs_nil) rfl rfl rfl rfl rfl) (by rintro v_32 H_31 hO; exact ⟨_, (Own.sel (Ls := [_, _, _, _, _, _, _]) (L := L) [2, 3, 4, 5, 6] rfl hO)⟩) rfl ?_
   rintro v_32 H_31 hO
   obtain ⟨hs_35, h⟩ := h
   refine hd_h (o_append (l2 := [(zz26 t i k)]) hO 1 rfl rfl underlying44 type47 rfl rfl rfl rfl rfl rfl rfl (hO.osl 0 rfl) hs_35 (le63 hs_35 rfl)) (by rintro v_34 H_33 hO; exact ⟨_, (Own.sel (Ls := [_, _, _, _, _, _, _]) (L := L) [2, 3, 4, 5, 6] rfl hO)⟩) rfl ?_
   rintro v_34 H_33 hO
   refine hd_nil (hd_h (OpV.toH (v_assign rfl)) (fun _ _ hR => trivial) rfl ?_)
   rintro vv HH ⟨hvv, hHH⟩
   obtain rfl := hvv.symm
   obtain rfl := hHH.symm
   refine hd_nil (blockQ_n (thenQ_n (hw_region (hl_v (v_move rfl) rfl (hl_v (v_add rfl rfl (by have hq := of_decide_eq_true hc_26; have hm := hln_17; constructor <;> omega)) rfl (hl_v (v_assign rfl) rfl (hl_nil (thenQ_n ?_))))))))
   exact ⟨_, _, (a_c 1 rfl (a_c 3 rfl (a_c 4 rfl (a_c 5 rfl a_n)))), ⟨(out2 ++ [(zz26 t i k)]), k + 1, v_34, _, rfl, rfl, h, (by have hq := of_decide_eq_true hc_26; omega), (Own.sel (Ls := [_, _, _, _, _, _, _]) (L := L) [1, 2, 3, 4, 5, 6] rfl hO)⟩, (by have hq := of_decide_eq_true hc_26; omega)⟩
  ·replace h := ite_f h hc_26
   refine hw_exit (thenQ_e (thenQ_e (blockQ_hit (blockQ_n (thenQ_n (hw_region (hl_v (v_move rfl) rfl (hl_v (v_add rfl rfl (by have hq := of_decide_eq_true hc_18; have hm := hln_17; constructor <;> omega)) rfl (hl_v (v_assign rfl) rfl (hl_nil (thenQ_n ?_)))))))))))
   exact ⟨_, _, (a_c 1 rfl (a_c 3 rfl (a_c 4 rfl a_n))), ⟨out2, i + 1, v_19, _, rfl, rfl, h, (by have hq := of_decide_eq_true hc_18; omega), hO⟩, (by have hq := of_decide_eq_true hc_18; omega)⟩
 ·replace h := ite_f h hc_18
  refine hw_exit (thenQ_e (thenQ_e (blockQ_hit (thenQ_n (hw_seq (hw_region (hl_v (v_move rfl) rfl (hl_v (v_assign rfl) rfl (hl_nil (thenQ_n (hw_ret (ret_i _ (ra_t rfl ra_nil) ?_))))))))))))
  exact ⟨_, out, v_10, (hO.inz 5 rfl), h, rfl, (Own.sel (Ls := [_, _, _, _, _, _]) (L := L) [0] rfl hO)⟩
theorem rFirstsP_spec {a0 : GFst} {v_1 : Value} {v_3 : Value} {v_5 : Value} {L : List As} (hp : RefOk a0) {H : Heap} {Z : Nat → Prop} (hO : Own H Z (L)) (hf_2 : Fz fGTip.rep L v_1 a0.Starts) (hf_4 : Fz fGTip.rep L v_3 a0.Ends) (hf_6 : Fz fGArc.rep L v_5 a0.Arcs) : HC Tryz.prog 13 [.agg [.int .i64 a0.States, v_1, v_3, v_5].toArray] H (fun v H' => ∃ (Z' : Nat → Prop) (v_7 : Value), (∀ b, Z b → Z' b) ∧ v = v_7 ∧ Own H' Z' (own fGwhittleref19_Lag 47 v_7 ((rFirsts a0)) :: L)) := by
  refine (rFirstsP_ok (t := a0) (@rFirstsP_wp a0 hp) hO hf_2 hf_4 hf_6).mono ?_
  rintro v H' ⟨Z', r0, v_7, hz, hq, hv, hO'⟩
  obtain rfl := hq
  exact ⟨Z', v_7, hz, hv, hO'⟩
theorem rNextP_ok {t : GFst} {l : Gwhittleref19_Lag} {v_1 : Value} {v_3 : Value} {v_5 : Value} {Q : (List Gwhittleref19_Lag) → Prop} {H : Heap} {Z : Nat → Prop} {L : List As} (h : wp_rNextP t l Q) (hO : Own H Z (L)) (hf_2 : Fz fGTip.rep L v_1 t.Starts) (hf_4 : Fz fGTip.rep L v_3 t.Ends) (hf_6 : Fz fGArc.rep L v_5 t.Arcs) : HC Tryz.prog 14 [.agg [.int .i64 t.States, v_1, v_3, v_5].toArray, .agg (fGwhittleref19_Lag.enc l).toArray] H (fun v H' => ∃ (Z' : Nat → Prop) (r0 : List Gwhittleref19_Lag) (v_7 : Value), (∀ b, Z b → Z' b) ∧ Q r0 ∧ v = v_7 ∧ Own H' Z' (own fGwhittleref19_Lag 47 v_7 r0 :: L)) := by
 replace hO := hO.inZ
 replace hO := Fz.items [_] hf_2 hO
 replace hO := Fz.items [_, _] hf_4 hO
 replace hO := Fz.items [_, _, _] hf_6 hO
 unfold wp_rNextP at h
 refine hc_of_hw (N := 103) (rs := [(.tmp 4)]) Tryz.func14 rfl rfl rfl rfl (hw_seq (hw_region (hl_h (o_box (cs := [.int .i64 t.States, v_1, v_3, v_5]) hO rfl rfl) rfl ?_)))
 rintro _ H_8 ⟨b_9, rfl, hO⟩
 refine hl_h (o_box (cs := (fGwhittleref19_Lag.enc l)) hO rfl rfl) rfl ?_
 rintro _ H_10 ⟨b_11, rfl, hO⟩
 refine hl_v (v_assign rfl) rfl (hl_nil (thenQ_n (hw_seq (hw_region (hl_v (v_assign rfl) rfl (hl_nil (thenQ_n (hw_seq (hw_seq (hw_region (hl_v (v_assign rfl) rfl (hl_nil (thenQ_n (hw_block ?_))))))))))))))
 obtain ⟨I_13, h, hI_15⟩ := h
 replace hO := hO.nil fGwhittleref19_Lag 47
 refine hw_lp (fun n' g' H' => ∃ (out : List Gwhittleref19_Lag) (i : Nat) (v_12 : Value) (Z' : Nat → Prop), n' = t.Arcs.length - i ∧ g' = [(2, ptr b_9 0), (3, ptr b_11 0), (5, v_12), (6, .int .i64 (i : Int))] ∧ I_13 out i ∧ i ≤ t.Arcs.length ∧ Own H' Z' (own fGwhittleref19_Lag 47 v_12 out :: box b_11 (fGwhittleref19_Lag.enc l) 47 :: box b_9 [.int .i64 t.States, v_1, v_3, v_5] 25 :: fz fGArc.rep v_5 t.Arcs :: fz fGTip.rep v_3 t.Ends :: fz fGTip.rep v_1 t.Starts :: inZ Z :: L)) _ _ (a_c 2 rfl (a_c 3 rfl (a_c 5 rfl (a_c 6 rfl a_n)))) ⟨[], 0, .slice none 0 0, _, rfl, rfl, h, by omega, hO⟩ ?_
 rintro _ _ H_16 ⟨out, i, v_12, Z_17, rfl, rfl, h, hb_18, hO⟩
 replace h := hI_15 out i h hb_18
 refine hw_seq (hw_seq (hw_region (hl_v (v_move rfl) rfl (hl_v (v_fieldA underlying25 rfl sizeOf23 rfl) rfl (hl_v (v_load1 isAgg23 rfl (Blk.cell (hO.box 2 rfl) rfl)) rfl ?_)))))
 have hln_19 := Sl.cap (hO.fsl 3 rfl)
 refine hl_v (v_lenL rfl underlying23 rfl (hO.fsl 3 rfl)) rfl (hl_v (v_lss rfl rfl) rfl (hl_nil (thenQ_n (hw_cond rfl (fun hc_20 => ?_) (fun hc_20 => ?_)))))
 ·replace h := ite_t h hc_20
  refine hw_skip (thenQ_n (hw_seq (hw_block (hw_seq (hw_region (hl_v (v_assign rfl) rfl (hl_nil (thenQ_n (hw_block ?_)))))))))
  obtain ⟨I_22, h, hI_24⟩ := h
  refine hw_lp (fun n' g' H' => ∃ (out2 : List Gwhittleref19_Lag) (k : Nat) (v_21 : Value) (Z' : Nat → Prop), n' = t.Arcs.length - k ∧ g' = [(2, ptr b_9 0), (3, ptr b_11 0), (5, v_21), (6, .int .i64 (i : Int)), (7, .int .i64 (k : Int))] ∧ I_22 out2 k ∧ k ≤ t.Arcs.length ∧ Own H' Z' (own fGwhittleref19_Lag 47 v_21 out2 :: box b_11 (fGwhittleref19_Lag.enc l) 47 :: box b_9 [.int .i64 t.States, v_1, v_3, v_5] 25 :: fz fGArc.rep v_5 t.Arcs :: fz fGTip.rep v_3 t.Ends :: fz fGTip.rep v_1 t.Starts :: inZ Z :: L)) _ _ (a_c 2 rfl (a_c 3 rfl (a_c 5 rfl (a_c 6 rfl (a_c 7 rfl a_n))))) ⟨out, 0, v_12, _, rfl, rfl, h, by omega, hO⟩ ?_
  rintro _ _ H_25 ⟨out2, k, v_21, Z_26, rfl, rfl, h, hb_27, hO⟩
  replace h := hI_24 out2 k h hb_27
  refine hw_seq (hw_seq (hw_region (hl_v (v_move rfl) rfl (hl_v (v_fieldA underlying25 rfl sizeOf23 rfl) rfl (hl_v (v_load1 isAgg23 rfl (Blk.cell (hO.box 2 rfl) rfl)) rfl (hl_v (v_lenL rfl underlying23 rfl (hO.fsl 3 rfl)) rfl (hl_v (v_lss rfl rfl) rfl (hl_nil (thenQ_n (hw_cond rfl (fun hc_28 => ?_) (fun hc_28 => ?_)))))))))))
  ·replace h := ite_t h hc_28
   refine hw_skip (thenQ_n (hw_seq (hw_block (hw_seq (hw_region (hl_v (v_fieldA underlying25 rfl sizeOf23 rfl) rfl (hl_v (v_load1 isAgg23 rfl (Blk.cell (hO.box 2 rfl) rfl)) rfl (hl_v (v_move rfl) rfl (hl_v (v_ixL underlying23 sizeOf39 rfl rfl (hO.fsl 3 rfl) (by exact ⟨Int.natCast_nonneg _, of_decide_eq_true hc_20⟩)) rfl (hl_v (v_loadFl isAgg39 sizeOf39 rfl (hO.fsl 3 rfl) rfl (by exact ⟨Int.natCast_nonneg _, of_decide_eq_true hc_20⟩)) rfl (hl_h (o_alloc (cs := (fGArc.enc (⟨(0 : Int), (0 : Int), BSet.zero, ([] : List UInt8), false⟩ : GArc))) hO zeroValue39 rfl) rfl ?_)))))))))))
   rintro _ H_29 ⟨b_30, rfl, hO⟩
   refine hl_s (o_storeA (us := (fGArc.enc (t.Arcs.getD i default))) hO 0 rfl sizeOf39 rfl rfl rfl rfl (by intro u hu; exact (fGArc).one _ u hu)) ?_
   rintro _ H_31 hO
   refine hl_nil (thenQ_n (hw_sub _ (a_c 2 rfl (a_c 3 rfl (a_c 5 rfl (a_c 6 rfl (a_c 7 rfl (a_c 8 rfl a_n)))))) (hw_seq (hw_region (hl_v (v_fieldA underlying25 rfl sizeOf23 rfl) rfl (hl_v (v_load1 isAgg23 rfl (Blk.cell (hO.box 3 rfl) rfl)) rfl (hl_v (v_move rfl) rfl (hl_v (v_ixL underlying23 sizeOf39 rfl rfl (hO.fsl 4 rfl) (by exact ⟨Int.natCast_nonneg _, of_decide_eq_true hc_28⟩)) rfl (hl_v (v_loadFl isAgg39 sizeOf39 rfl (hO.fsl 4 rfl) rfl (by exact ⟨Int.natCast_nonneg _, of_decide_eq_true hc_28⟩)) rfl (hl_h (o_alloc (cs := (fGArc.enc (⟨(0 : Int), (0 : Int), BSet.zero, ([] : List UInt8), false⟩ : GArc))) hO zeroValue39 rfl) rfl ?_))))))))))
   rintro _ H_32 ⟨b_33, rfl, hO⟩
   refine hl_s (o_storeA (us := (fGArc.enc (t.Arcs.getD k default))) hO 0 rfl sizeOf39 rfl rfl rfl rfl (by intro u hu; exact (fGArc).one _ u hu)) ?_
   rintro _ H_34 hO
   refine hl_nil (thenQ_n (hw_seq (hw_seq (hw_region (hl_v (v_fieldA underlying39 rfl sizeOf3 rfl) rfl (hl_v (v_load1 isAgg3 rfl (Blk.cell (hO.box 1 rfl) rfl)) rfl (hl_v (v_fieldA underlying47 rfl sizeOf3 rfl) rfl (hl_v (v_load1 isAgg3 rfl (Blk.cell (hO.box 3 rfl) rfl)) rfl (hl_v (v_neq rfl rfl) rfl (hl_v (v_move rfl) rfl (hl_g rfl rfl (fun hg => (v_fieldA underlying39 rfl sizeOf3 rfl)) rfl (hl_g rfl rfl (fun hg => (v_load1 isAgg3 (gv_ok rfl hg) (Blk.cell (hO.box 0 rfl) rfl))) rfl (hl_g rfl rfl (fun hg => (v_fieldA underlying47 rfl sizeOf3 rfl)) rfl (hl_g rfl rfl (fun hg => (v_load1 isAgg3 (gv_ok rfl hg) (Blk.cell (hO.box 3 rfl) rfl))) rfl (hl_g rfl rfl (fun hg => (v_neq (gv_ok rfl hg) (gv_ok rfl hg))) rfl (hl_v (v_or rfl rfl) rfl (hl_nil (thenQ_n (hw_sub _ (a_c 2 rfl (a_c 3 rfl (a_c 5 rfl (a_c 6 rfl (a_c 7 rfl (a_c 8 rfl (a_c 9 rfl (a_c 49 rfl a_n)))))))) (hw_cond rfl (fun hc_35 => ?_) (fun hc_35 => ?_)))))))))))))))))))))
   ·replace h := ite_t h hc_35
    refine hw_exit (thenQ_e (blockQ_hit (thenQ_n (hw_region (hl_v (v_move rfl) rfl (hl_v (v_add rfl rfl (by have hq := of_decide_eq_true hc_28; have hm := hln_19; constructor <;> omega)) rfl (hl_v (v_assign rfl) rfl (hl_nil (thenQ_n ?_)))))))))
    exact ⟨_, _, (a_c 2 rfl (a_c 3 rfl (a_c 5 rfl (a_c 6 rfl (a_c 7 rfl a_n))))), ⟨out2, k + 1, v_21, _, rfl, rfl, h, (by have hq := of_decide_eq_true hc_28; omega), (Own.sel (Ls := [_, _, _, _, _, _, _, _, _]) (L := L) [2, 3, 4, 5, 6, 7, 8] rfl hO)⟩, (by have hq := of_decide_eq_true hc_28; omega)⟩
   ·replace h := ite_f h hc_35
    refine hw_skip (thenQ_n (hw_seq (hw_region (hl_v (v_fieldA underlying39 rfl sizeOf37 rfl) rfl (hl_v (v_loadA (cs := (sw ((t.Arcs.getD i default).Set))) isAgg37 sizeOf37 rfl (Blk.sub (n := 4) (hO.box 1 rfl) rfl) rfl) rfl (hl_v (v_fieldA underlying39 rfl sizeOf37 rfl) rfl (hl_v (v_loadA (cs := (sw ((t.Arcs.getD k default).Set))) isAgg37 sizeOf37 rfl (Blk.sub (n := 4) (hO.box 0 rfl) rfl) rfl) rfl (hl_h (h_call call22 (evs_cons rfl (evs_cons rfl (evs_cons (show _ = some (.int .i64 0) from rfl) evs_nil))) (rBy_spec (a0 := (t.Arcs.getD i default).Set) (a1 := (t.Arcs.getD k default).Set) (a2 := 0) hO)) rfl ?_))))))))
    rintro _ H_36 ⟨Z_37, _, rfl, hO⟩
    refine hl_h (h_call call9 (evs_cons rfl evs_nil) (rBytes_spec (a0 := (BSet.ofFn (fun m => byP 0 (((t.Arcs.getD i default).Set).has m) (((t.Arcs.getD k default).Set).has m)) 256)) hO)) rfl ?_
    rintro v_39 H_40 ⟨Z_41, _, _, rfl, hO⟩
    refine hl_v (v_assign rfl) rfl (hl_nil (thenQ_n (hw_sub _ (a_c 2 rfl (a_c 3 rfl (a_c 5 rfl (a_c 6 rfl (a_c 7 rfl (a_c 8 rfl (a_c 9 rfl (a_c 10 rfl a_n)))))))) (hw_seq (hw_region (hl_v (v_assign rfl) rfl (hl_nil (thenQ_n (hw_block ?_)))))))))
    obtain ⟨I_44, h, hI_46⟩ := h
    refine hw_lp (fun n' g' H' => ∃ (out3 : List Gwhittleref19_Lag) (j : Nat) (v_43 : Value) (Z' : Nat → Prop), n' = ((BSet.ofFn (fun m => byP 0 (((t.Arcs.getD i default).Set).has m) (((t.Arcs.getD k default).Set).has m)) 256).bytes).length - j ∧ g' = [(2, ptr b_9 0), (3, ptr b_11 0), (5, v_43), (6, .int .i64 (i : Int)), (7, .int .i64 (k : Int)), (8, ptr b_30 0), (9, ptr b_33 0), (10, v_39), (11, .int .i64 (j : Int))] ∧ I_44 out3 j ∧ j ≤ ((BSet.ofFn (fun m => byP 0 (((t.Arcs.getD i default).Set).has m) (((t.Arcs.getD k default).Set).has m)) 256).bytes).length ∧ Own H' Z' (own fByte 5 v_39 ((BSet.ofFn (fun m => byP 0 (((t.Arcs.getD i default).Set).has m) (((t.Arcs.getD k default).Set).has m)) 256).bytes) :: box b_33 (fGArc.enc (t.Arcs.getD k default)) 39 :: box b_30 (fGArc.enc (t.Arcs.getD i default)) 39 :: own fGwhittleref19_Lag 47 v_43 out3 :: box b_11 (fGwhittleref19_Lag.enc l) 47 :: box b_9 [.int .i64 t.States, v_1, v_3, v_5] 25 :: fz fGArc.rep v_5 t.Arcs :: fz fGTip.rep v_3 t.Ends :: fz fGTip.rep v_1 t.Starts :: inZ Z :: L)) _ _ (a_c 2 rfl (a_c 3 rfl (a_c 5 rfl (a_c 6 rfl (a_c 7 rfl (a_c 8 rfl (a_c 9 rfl (a_c 10 rfl (a_c 11 rfl a_n))))))))) ⟨out2, 0, v_21, _, rfl, rfl, h, by omega, hO⟩ ?_
    rintro _ _ H_47 ⟨out3, j, v_43, Z_48, rfl, rfl, h, hb_49, hO⟩
    replace h := hI_46 out3 j h hb_49
    refine hw_seq (hw_seq (hw_region (hl_v (v_move rfl) rfl (hl_v (v_move rfl) rfl ?_))))
    have hln_50 := Sl.cap (hO.osl 0 rfl)
    refine hl_v (v_lenL rfl underlying33 rfl (hO.osl 0 rfl)) rfl (hl_v (v_lss rfl rfl) rfl (hl_nil (thenQ_n (hw_cond rfl (fun hc_51 => ?_) (fun hc_51 => ?_)))))
    ·replace h := ite_t h hc_51
     refine hw_skip (thenQ_n (hw_seq (hw_block (hw_seq (hw_region (hl_v (v_fieldA underlying47 rfl sizeOf9 rfl) rfl (hl_v (v_load1 isAgg9 rfl (Blk.cell (hO.box 4 rfl) rfl)) rfl (hl_v (v_fieldA underlying39 rfl sizeOf9 rfl) rfl (hl_v (v_load1 isAgg9 rfl (Blk.cell (hO.box 2 rfl) rfl)) rfl ?_)))))))))
     obtain ⟨hs_52, h⟩ := h
     refine hl_v (v_addS rfl rfl hs_52) rfl (hl_v (v_assign rfl) rfl (hl_nil (thenQ_n (hw_sub _ (a_c 2 rfl (a_c 3 rfl (a_c 5 rfl (a_c 6 rfl (a_c 7 rfl (a_c 8 rfl (a_c 9 rfl (a_c 10 rfl (a_c 11 rfl (a_c 12 rfl a_n)))))))))) (hw_seq (hw_region (hl_v (v_fieldA underlying47 rfl sizeOf9 rfl) rfl (hl_v (v_load1 isAgg9 rfl (Blk.cell (hO.box 4 rfl) rfl)) rfl (hl_v (v_fieldA underlying39 rfl sizeOf9 rfl) rfl (hl_v (v_load1 isAgg9 rfl (Blk.cell (hO.box 1 rfl) rfl)) rfl ?_))))))))))
     obtain ⟨hs_53, h⟩ := h
     refine hl_v (v_addS rfl rfl hs_53) rfl (hl_v (v_assign rfl) rfl (hl_nil (thenQ_n (hw_sub _ (a_c 2 rfl (a_c 3 rfl (a_c 5 rfl (a_c 6 rfl (a_c 7 rfl (a_c 8 rfl (a_c 9 rfl (a_c 10 rfl (a_c 11 rfl (a_c 12 rfl (a_c 13 rfl a_n))))))))))) ?_))))
     obtain ⟨K_54, h, hk_57⟩ := h
     refine hw_jn (fun g' H' => ∃ (a : List UInt8) (Z' : Nat → Prop), g' = [(2, ptr b_9 0), (3, ptr b_11 0), (5, v_43), (6, .int .i64 (i : Int)), (7, .int .i64 (k : Int)), (8, ptr b_30 0), (9, ptr b_33 0), (10, v_39), (11, .int .i64 (j : Int)), (12, str a), (13, str (l.B ++ (t.Arcs.getD k default).Out))] ∧ K_54 a ∧ Own H' Z' (own fByte 5 v_39 ((BSet.ofFn (fun m => byP 0 (((t.Arcs.getD i default).Set).has m) (((t.Arcs.getD k default).Set).has m)) 256).bytes) :: box b_33 (fGArc.enc (t.Arcs.getD k default)) 39 :: box b_30 (fGArc.enc (t.Arcs.getD i default)) 39 :: own fGwhittleref19_Lag 47 v_43 out3 :: box b_11 (fGwhittleref19_Lag.enc l) 47 :: box b_9 [.int .i64 t.States, v_1, v_3, v_5] 25 :: fz fGArc.rep v_5 t.Arcs :: fz fGTip.rep v_3 t.Ends :: fz fGTip.rep v_1 t.Starts :: inZ Z :: L)) ?_ ?_
     ·refine hw_seq (hw_region (hl_v (v_fieldA underlying39 rfl sizeOf4 rfl) rfl (hl_v (v_load1 isAgg4 rfl (Blk.cell (hO.box 2 rfl) rfl)) rfl (hl_nil (thenQ_n (hw_cond rfl (fun hc_58 => ?_) (fun hc_58 => ?_)))))))
      ·replace h := ite_t h hc_58
       refine hw_region (hl_v (v_move rfl) rfl (hl_v (v_move rfl) rfl (hl_v (v_move rfl) rfl (hl_v (v_move rfl) rfl (hl_v (v_add rfl rfl (by have hq := of_decide_eq_true hc_51; have hm := hln_50; constructor <;> omega)) rfl ?_)))))
       obtain ⟨hs_59, h⟩ := h
       refine hl_v (v_sliceL underlying33 sizeOf5 rfl rfl rfl (hO.osl 0 rfl) hs_59) rfl (hl_v (v_bytesStr underlying33 underlying5 underlying9 rfl (slv_of (hO.osl 0 rfl) hs_59 rfl)) rfl ?_)
       obtain ⟨hs_60, h⟩ := h
       refine hl_v (v_addS rfl rfl hs_60) rfl (hl_v (v_assign rfl) rfl (hl_nil (thenQ_n (⟨_, (a_c 2 rfl (a_c 3 rfl (a_c 5 rfl (a_c 6 rfl (a_c 7 rfl (a_c 8 rfl (a_c 9 rfl (a_c 10 rfl (a_c 11 rfl (a_c 12 rfl (a_c 13 rfl a_n))))))))))), ⟨((l.A ++ (t.Arcs.getD i default).Out) ++ ((((BSet.ofFn (fun m => byP 0 (((t.Arcs.getD i default).Set).has m) (((t.Arcs.getD k default).Set).has m)) 256).bytes).take ((j : Int) + 1).toNat).drop j)), _, rfl, h, hO⟩⟩))))
      ·replace h := ite_f h hc_58
       refine hw_skip (thenQ_n (⟨_, (a_c 2 rfl (a_c 3 rfl (a_c 5 rfl (a_c 6 rfl (a_c 7 rfl (a_c 8 rfl (a_c 9 rfl (a_c 10 rfl (a_c 11 rfl (a_c 12 rfl (a_c 13 rfl a_n))))))))))), ⟨(l.A ++ (t.Arcs.getD i default).Out), _, rfl, h, hO⟩⟩))
     ·rintro _ H_55 ⟨a, Z_56, rfl, h, hO⟩
      replace h := hk_57 a h
      obtain ⟨K_61, h, hk_64⟩ := h
      refine hw_jn (fun g' H' => ∃ (b : List UInt8) (Z' : Nat → Prop), g' = [(2, ptr b_9 0), (3, ptr b_11 0), (5, v_43), (6, .int .i64 (i : Int)), (7, .int .i64 (k : Int)), (8, ptr b_30 0), (9, ptr b_33 0), (10, v_39), (11, .int .i64 (j : Int)), (12, str a), (13, str b)] ∧ K_61 b ∧ Own H' Z' (own fByte 5 v_39 ((BSet.ofFn (fun m => byP 0 (((t.Arcs.getD i default).Set).has m) (((t.Arcs.getD k default).Set).has m)) 256).bytes) :: box b_33 (fGArc.enc (t.Arcs.getD k default)) 39 :: box b_30 (fGArc.enc (t.Arcs.getD i default)) 39 :: own fGwhittleref19_Lag 47 v_43 out3 :: box b_11 (fGwhittleref19_Lag.enc l) 47 :: box b_9 [.int .i64 t.States, v_1, v_3, v_5] 25 :: fz fGArc.rep v_5 t.Arcs :: fz fGTip.rep v_3 t.Ends :: fz fGTip.rep v_1 t.Starts :: inZ Z :: L)) ?_ ?_
      ·refine hw_seq (hw_region (hl_v (v_fieldA underlying39 rfl sizeOf4 rfl) rfl (hl_v (v_load1 isAgg4 rfl (Blk.cell (hO.box 1 rfl) rfl)) rfl (hl_nil (thenQ_n (hw_cond rfl (fun hc_65 => ?_) (fun hc_65 => ?_)))))))
       ·replace h := ite_t h hc_65
        refine hw_region (hl_v (v_move rfl) rfl (hl_v (v_move rfl) rfl (hl_v (v_move rfl) rfl (hl_v (v_move rfl) rfl (hl_v (v_add rfl rfl (by have hq := of_decide_eq_true hc_51; have hm := hln_50; constructor <;> omega)) rfl ?_)))))
        obtain ⟨hs_66, h⟩ := h
        refine hl_v (v_sliceL underlying33 sizeOf5 rfl rfl rfl (hO.osl 0 rfl) hs_66) rfl (hl_v (v_bytesStr underlying33 underlying5 underlying9 rfl (slv_of (hO.osl 0 rfl) hs_66 rfl)) rfl ?_)
        obtain ⟨hs_67, h⟩ := h
        refine hl_v (v_addS rfl rfl hs_67) rfl (hl_v (v_assign rfl) rfl (hl_nil (thenQ_n (⟨_, (a_c 2 rfl (a_c 3 rfl (a_c 5 rfl (a_c 6 rfl (a_c 7 rfl (a_c 8 rfl (a_c 9 rfl (a_c 10 rfl (a_c 11 rfl (a_c 12 rfl (a_c 13 rfl a_n))))))))))), ⟨((l.B ++ (t.Arcs.getD k default).Out) ++ ((((BSet.ofFn (fun m => byP 0 (((t.Arcs.getD i default).Set).has m) (((t.Arcs.getD k default).Set).has m)) 256).bytes).take ((j : Int) + 1).toNat).drop j)), _, rfl, h, hO⟩⟩))))
       ·replace h := ite_f h hc_65
        refine hw_skip (thenQ_n (⟨_, (a_c 2 rfl (a_c 3 rfl (a_c 5 rfl (a_c 6 rfl (a_c 7 rfl (a_c 8 rfl (a_c 9 rfl (a_c 10 rfl (a_c 11 rfl (a_c 12 rfl (a_c 13 rfl a_n))))))))))), ⟨(l.B ++ (t.Arcs.getD k default).Out), _, rfl, h, hO⟩⟩))
      ·rintro _ H_62 ⟨b, Z_63, rfl, h, hO⟩
       replace h := hk_64 b h
       refine hw_region (hl_v (v_move rfl) rfl (hl_v (v_fieldA underlying39 rfl sizeOf3 rfl) rfl (hl_v (v_load1 isAgg3 rfl (Blk.cell (hO.box 2 rfl) rfl)) rfl (hl_v (v_fieldA underlying39 rfl sizeOf3 rfl) rfl (hl_v (v_load1 isAgg3 rfl (Blk.cell (hO.box 1 rfl) rfl)) rfl (hl_v (v_move rfl) rfl (hl_v (v_move rfl) rfl ?_)))))))
       obtain ⟨hs_68, h⟩ := h
       refine hl_h (h_call call23 (evs_cons rfl (evs_cons rfl (evs_cons rfl (evs_cons rfl evs_nil)))) (rLagP_spec (a0 := (t.Arcs.getD i default).To) (a1 := (t.Arcs.getD k default).To) (a2 := a) (a3 := b) hs_68 hO)) rfl ?_
       rintro _ H_69 ⟨Z_70, _, rfl, hO⟩
       refine hl_h (o_lit (g := fGwhittleref19_Lag) (l := [(rLg ((t.Arcs.getD i default).To) ((t.Arcs.getD k default).To) a b)]) (xs := [.tmp 99]) hO underlying44 sizeOf47 zeroValue47 rfl (evs_cons rfl evs_nil) rfl rfl rfl rfl rfl) rfl ?_
       rintro v_73 H_72 hO
       obtain ⟨hs_76, h⟩ := h
       refine hl_h (o_append (l2 := [(rLg ((t.Arcs.getD i default).To) ((t.Arcs.getD k default).To) a b)]) hO 4 rfl rfl underlying44 type47 rfl rfl rfl rfl rfl rfl rfl (hO.osl 0 rfl) hs_76 (le63 hs_76 rfl)) rfl ?_
       rintro v_75 H_74 hO
       refine hl_v (v_assign rfl) rfl (hl_nil (blockQ_n (thenQ_n (hw_region (hl_v (v_move rfl) rfl (hl_v (v_add rfl rfl (by have hq := of_decide_eq_true hc_51; have hm := hln_50; constructor <;> omega)) rfl (hl_v (v_assign rfl) rfl (hl_nil (thenQ_n ?_)))))))))
       exact ⟨_, _, (a_c 2 rfl (a_c 3 rfl (a_c 5 rfl (a_c 6 rfl (a_c 7 rfl (a_c 8 rfl (a_c 9 rfl (a_c 10 rfl (a_c 11 rfl a_n))))))))), ⟨(out3 ++ [(rLg ((t.Arcs.getD i default).To) ((t.Arcs.getD k default).To) a b)]), j + 1, v_75, _, rfl, rfl, h, (by have hq := of_decide_eq_true hc_51; omega), (Own.sel (Ls := [_, _, _, _, _, _, _, _, _, _, _]) (L := L) [1, 2, 3, 4, 5, 6, 7, 8, 9, 10] rfl hO)⟩, (by have hq := of_decide_eq_true hc_51; omega)⟩
    ·replace h := ite_f h hc_51
     refine hw_exit (thenQ_e (thenQ_e (blockQ_hit (blockQ_n (thenQ_n (hw_region (hl_v (v_move rfl) rfl (hl_v (v_add rfl rfl (by have hq := of_decide_eq_true hc_28; have hm := hln_19; constructor <;> omega)) rfl (hl_v (v_assign rfl) rfl (hl_nil (thenQ_n ?_)))))))))))
     exact ⟨_, _, (a_c 2 rfl (a_c 3 rfl (a_c 5 rfl (a_c 6 rfl (a_c 7 rfl a_n))))), ⟨out3, k + 1, v_43, _, rfl, rfl, h, (by have hq := of_decide_eq_true hc_28; omega), (Own.sel (Ls := [_, _, _, _, _, _, _, _, _, _]) (L := L) [3, 4, 5, 6, 7, 8, 9] rfl hO)⟩, (by have hq := of_decide_eq_true hc_28; omega)⟩
  ·replace h := ite_f h hc_28
   refine hw_exit (thenQ_e (thenQ_e (blockQ_hit (blockQ_n (thenQ_n (hw_region (hl_v (v_move rfl) rfl (hl_v (v_add rfl rfl (by have hq := of_decide_eq_true hc_20; have hm := hln_19; constructor <;> omega)) rfl (hl_v (v_assign rfl) rfl (hl_nil (thenQ_n ?_)))))))))))
   exact ⟨_, _, (a_c 2 rfl (a_c 3 rfl (a_c 5 rfl (a_c 6 rfl a_n)))), ⟨out2, i + 1, v_21, _, rfl, rfl, h, (by have hq := of_decide_eq_true hc_20; omega), hO⟩, (by have hq := of_decide_eq_true hc_20; omega)⟩
 ·replace h := ite_f h hc_20
  refine hw_exit (thenQ_e (thenQ_e (blockQ_hit (thenQ_n (hw_seq (hw_region (hl_v (v_move rfl) rfl (hl_v (v_assign rfl) rfl (hl_nil (thenQ_n (hw_ret (ret_i _ (ra_t rfl ra_nil) ?_))))))))))))
  exact ⟨_, out, v_12, (hO.inz 6 rfl), h, rfl, (Own.sel (Ls := [_, _, _, _, _, _, _]) (L := L) [0] rfl hO)⟩
theorem rNextP_spec {a0 : GFst} {a1 : Gwhittleref19_Lag} {v_1 : Value} {v_3 : Value} {v_5 : Value} {L : List As} (hp : RefOk a0 ∧ a1.A.length ≤ 1000000000 ∧ a1.B.length ≤ 1000000000) {H : Heap} {Z : Nat → Prop} (hO : Own H Z (L)) (hf_2 : Fz fGTip.rep L v_1 a0.Starts) (hf_4 : Fz fGTip.rep L v_3 a0.Ends) (hf_6 : Fz fGArc.rep L v_5 a0.Arcs) : HC Tryz.prog 14 [.agg [.int .i64 a0.States, v_1, v_3, v_5].toArray, .agg (fGwhittleref19_Lag.enc a1).toArray] H (fun v H' => ∃ (Z' : Nat → Prop) (v_7 : Value), (∀ b, Z b → Z' b) ∧ v = v_7 ∧ Own H' Z' (own fGwhittleref19_Lag 47 v_7 ((rNext a0 a1)) :: L)) := by
  refine (rNextP_ok (t := a0) (l := a1) (@rNextP_wp a0 a1 hp) hO hf_2 hf_4 hf_6).mono ?_
  rintro v H' ⟨Z', r0, v_7, hz, hq, hv, hO'⟩
  obtain rfl := hq
  exact ⟨Z', v_7, hz, hv, hO'⟩
theorem rJointP_ok {t : GFst} {v_1 : Value} {v_3 : Value} {v_5 : Value} {Q : (List (List Bool)) → Prop} {H : Heap} {Z : Nat → Prop} {L : List As} (h : wp_rJointP t Q) (hO : Own H Z (L)) (hf_2 : Fz fGTip.rep L v_1 t.Starts) (hf_4 : Fz fGTip.rep L v_3 t.Ends) (hf_6 : Fz fGArc.rep L v_5 t.Arcs) : HC Tryz.prog 12 [.agg [.int .i64 t.States, v_1, v_3, v_5].toArray] H (fun v H' => ∃ (Z' : Nat → Prop) (r0 : List (List Bool)) (v_7 : Value), (∀ b, Z b → Z' b) ∧ Q r0 ∧ v = v_7 ∧ Own H' Z' (fz (Rep.sl fBool.rep) v_7 r0 :: L)) := by
 replace hO := hO.inZ
 replace hO := Fz.items [_] hf_2 hO
 replace hO := Fz.items [_, _] hf_4 hO
 replace hO := Fz.items [_, _, _] hf_6 hO
 unfold wp_rJointP at h
 refine hc_of_hw (N := 118) (rs := [(.tmp 2)]) Tryz.func12 rfl rfl rfl rfl (hw_seq (hw_region (hl_h (o_box (cs := [.int .i64 t.States, v_1, v_3, v_5]) hO rfl rfl) rfl ?_)))
 rintro _ H_9 ⟨b_10, rfl, hO⟩
 refine hl_v (v_assign rfl) rfl (hl_nil (thenQ_n (hw_seq (hw_region (hl_v (v_assign rfl) rfl (hl_nil (thenQ_n (hw_seq (hw_seq (hw_region (hl_v (v_assign rfl) rfl (hl_nil (thenQ_n (hw_block ?_))))))))))))))
 obtain ⟨I_12, h, hI_14⟩ := h
 replace hO := hO.nilN fBool 48 4
 refine hw_lp (fun n' g' H' => ∃ (xin : List (List Bool)) (i : Nat) (v_11 : Value) (Z' : Nat → Prop), n' = (t.States - (i : Int)).toNat ∧ g' = [(1, ptr b_10 0), (3, v_11), (4, .int .i64 (i : Int))] ∧ I_12 xin i ∧ Own H' Z' (ownN fBool 48 4 v_11 xin :: box b_10 [.int .i64 t.States, v_1, v_3, v_5] 25 :: fz fGArc.rep v_5 t.Arcs :: fz fGTip.rep v_3 t.Ends :: fz fGTip.rep v_1 t.Starts :: inZ Z :: L)) _ _ (a_c 1 rfl (a_c 3 rfl (a_c 4 rfl a_n))) ⟨[], 0, .slice none 0 0, _, rfl, rfl, h, hO⟩ ?_
 rintro _ _ H_15 ⟨xin, i, v_11, Z_16, rfl, rfl, h, hO⟩
 replace h := hI_14 xin i h
 refine hw_seq (hw_seq (hw_region (hl_v (v_move rfl) rfl (hl_v (v_fieldA underlying25 rfl sizeOf3 rfl) rfl (hl_v (v_load1 isAgg3 rfl (Blk.cell (hO.box 1 rfl) rfl)) rfl (hl_v (v_lss rfl rfl) rfl (hl_nil (thenQ_n (hw_cond rfl (fun hc_18 => ?_) (fun hc_18 => ?_))))))))))
 ·replace h := ite_t h hc_18
  refine hw_skip (thenQ_n (hw_seq (hw_block (hw_region (hl_v (v_move rfl) rfl (hl_v (v_fieldA underlying25 rfl sizeOf3 rfl) rfl (hl_v (v_load1 isAgg3 rfl (Blk.cell (hO.box 1 rfl) rfl)) rfl ?_)))))))
  obtain ⟨hs_21, h⟩ := h
  refine hl_h (o_makeSlice (g := fBool) (d := false) hO underlying48 type4 rfl rfl rfl rfl rfl rfl hs_21.1 hs_21.2.1 hs_21.2.2) rfl ?_
  rintro v_20 H_19 hO
  refine hl_h (o_litN (g := fBool) (e' := 4) hO (i := 0) rfl (Sl.one (hO.osl 0 rfl)) underlying42 sizeOf48 zeroValue48 rfl) rfl ?_
  rintro v_23 H_22 hO
  replace hO : Own H_22 Z_16 (ownN fBool 48 4 v_23 [(List.replicate t.States.toNat false)] :: ownN fBool 48 4 v_11 xin :: box b_10 [.int .i64 t.States, v_1, v_3, v_5] 25 :: fz fGArc.rep v_5 t.Arcs :: fz fGTip.rep v_3 t.Ends :: fz fGTip.rep v_1 t.Starts :: inZ Z :: L) := Own.drop2 hO
  obtain ⟨hs_26, h⟩ := h
  replace hO := Own.sel (Ls := [ownN fBool 48 4 v_23 [(List.replicate t.States.toNat false)], ownN fBool 48 4 v_11 xin, box b_10 [.int .i64 t.States, v_1, v_3, v_5] 25, fz fGArc.rep v_5 t.Arcs, fz fGTip.rep v_3 t.Ends, fz fGTip.rep v_1 t.Starts, inZ Z]) (L := L) [1, 0, 2, 3, 4, 5, 6] rfl hO
  replace hO : Own H_22 Z_16 (ownN fBool 48 4 v_11 xin :: ownN fBool 48 4 v_23 [(List.replicate t.States.toNat false)] :: box b_10 [.int .i64 t.States, v_1, v_3, v_5] 25 :: fz fGArc.rep v_5 t.Arcs :: fz fGTip.rep v_3 t.Ends :: fz fGTip.rep v_1 t.Starts :: inZ Z :: L) := hO
  refine hl_h (o_appendN hO rfl underlying42 type48 rfl rfl rfl rfl rfl hs_26 (le63 hs_26 rfl)) rfl ?_
  rintro v_25 H_24 hO
  refine hl_v (v_assign rfl) rfl (hl_nil (blockQ_n (thenQ_n (hw_region (hl_v (v_move rfl) rfl ?_)))))
  obtain ⟨hs_27, h⟩ := h
  refine hl_v (v_add rfl rfl hs_27) rfl (hl_v (v_assign rfl) rfl (hl_nil (thenQ_n ?_)))
  exact ⟨_, _, (a_c 1 rfl (a_c 3 rfl (a_c 4 rfl a_n))), ⟨(xin ++ [(List.replicate t.States.toNat false)]), i + 1, v_25, _, rfl, rfl, h, hO⟩, (by have hq := of_decide_eq_true hc_18; omega)⟩
 ·replace h := ite_f h hc_18
  refine hw_exit (thenQ_e (thenQ_e (blockQ_hit (thenQ_n (hw_seq (hw_seq (hw_region (hl_v (v_assign rfl) rfl (hl_nil (thenQ_n (hw_block ?_)))))))))))
  obtain ⟨I_29, h, hI_31⟩ := h
  refine hw_lp (fun n' g' H' => ∃ (xin2 : List (List Bool)) (i2 : Nat) (v_28 : Value) (Z' : Nat → Prop), n' = t.Ends.length - i2 ∧ g' = [(1, ptr b_10 0), (3, v_28), (5, .int .i64 (i2 : Int))] ∧ I_29 xin2 i2 ∧ i2 ≤ t.Ends.length ∧ Own H' Z' (ownN fBool 48 4 v_28 xin2 :: box b_10 [.int .i64 t.States, v_1, v_3, v_5] 25 :: fz fGArc.rep v_5 t.Arcs :: fz fGTip.rep v_3 t.Ends :: fz fGTip.rep v_1 t.Starts :: inZ Z :: L)) _ _ (a_c 1 rfl (a_c 3 rfl (a_c 5 rfl a_n))) ⟨xin, 0, v_11, _, rfl, rfl, h, by omega, hO⟩ ?_
  rintro _ _ H_32 ⟨xin2, i2, v_28, Z_33, rfl, rfl, h, hb_34, hO⟩
  replace h := hI_31 xin2 i2 h hb_34
  refine hw_seq (hw_seq (hw_region (hl_v (v_move rfl) rfl (hl_v (v_fieldA underlying25 rfl sizeOf22 rfl) rfl (hl_v (v_load1 isAgg22 rfl (Blk.cell (hO.box 1 rfl) rfl)) rfl ?_)))))
  have hln_35 := Sl.cap (hO.fsl 3 rfl)
  refine hl_v (v_lenL rfl underlying22 rfl (hO.fsl 3 rfl)) rfl (hl_v (v_lss rfl rfl) rfl (hl_nil (thenQ_n (hw_cond rfl (fun hc_36 => ?_) (fun hc_36 => ?_)))))
  ·replace h := ite_t h hc_36
   refine hw_skip (thenQ_n (hw_seq (hw_block (hw_seq (hw_region (hl_v (v_assign rfl) rfl (hl_nil (thenQ_n (hw_block ?_)))))))))
   obtain ⟨I_38, h, hI_40⟩ := h
   refine hw_lp (fun n' g' H' => ∃ (xin3 : List (List Bool)) (k : Nat) (v_37 : Value) (Z' : Nat → Prop), n' = t.Ends.length - k ∧ g' = [(1, ptr b_10 0), (3, v_37), (5, .int .i64 (i2 : Int)), (6, .int .i64 (k : Int))] ∧ I_38 xin3 k ∧ k ≤ t.Ends.length ∧ Own H' Z' (ownN fBool 48 4 v_37 xin3 :: box b_10 [.int .i64 t.States, v_1, v_3, v_5] 25 :: fz fGArc.rep v_5 t.Arcs :: fz fGTip.rep v_3 t.Ends :: fz fGTip.rep v_1 t.Starts :: inZ Z :: L)) _ _ (a_c 1 rfl (a_c 3 rfl (a_c 5 rfl (a_c 6 rfl a_n)))) ⟨xin2, 0, v_28, _, rfl, rfl, h, by omega, hO⟩ ?_
   rintro _ _ H_41 ⟨xin3, k, v_37, Z_42, rfl, rfl, h, hb_43, hO⟩
   replace h := hI_40 xin3 k h hb_43
   refine hw_seq (hw_seq (hw_region (hl_v (v_move rfl) rfl (hl_v (v_fieldA underlying25 rfl sizeOf22 rfl) rfl (hl_v (v_load1 isAgg22 rfl (Blk.cell (hO.box 1 rfl) rfl)) rfl (hl_v (v_lenL rfl underlying22 rfl (hO.fsl 3 rfl)) rfl (hl_v (v_lss rfl rfl) rfl (hl_nil (thenQ_n (hw_cond rfl (fun hc_44 => ?_) (fun hc_44 => ?_)))))))))))
   ·replace h := ite_t h hc_44
    refine hw_skip (thenQ_n (hw_seq (hw_block (hw_seq ?_))))
    obtain ⟨vs_45, hO⟩ := hO.openN (i := 0) rfl
    replace hO : Own H_41 Z_42 (openN fBool 48 4 v_37 vs_45 xin3 :: box b_10 [.int .i64 t.States, v_1, v_3, v_5] 25 :: fz fGArc.rep v_5 t.Arcs :: fz fGTip.rep v_3 t.Ends :: fz fGTip.rep v_1 t.Starts :: inZ Z :: L) := hO
    refine hw_region (hl_v (v_move rfl) rfl (hl_v (v_fieldA underlying25 rfl sizeOf22 rfl) rfl (hl_v (v_load1 isAgg22 rfl (Blk.cell (hO.box 1 rfl) rfl)) rfl (hl_v (v_move rfl) rfl (hl_v (v_ixL underlying22 sizeOf50 rfl rfl (hO.fsl 3 rfl) (by exact ⟨Int.natCast_nonneg _, of_decide_eq_true hc_36⟩)) rfl (hl_v (v_fieldA underlying50 rfl sizeOf3 rfl) rfl (hl_v (v_loadSub (j := 0) isAgg3 rfl (hO.fsl 3 rfl) rfl (by exact ⟨Int.natCast_nonneg _, of_decide_eq_true hc_36⟩) rfl) rfl ?_)))))))
    obtain ⟨hs_46, h⟩ := h
    refine hl_v (v_ixL underlying42 sizeOf48 rfl rfl (hO.vsl 0 rfl) hs_46) rfl (hl_v (v_nrowLoad hO (i := 0) rfl isAgg48 rfl hs_46) rfl (hl_v (v_assign rfl) rfl (hl_nil (thenQ_n (hw_sub _ (a_c 1 rfl (a_c 3 rfl (a_c 5 rfl (a_c 6 rfl (a_c 7 rfl a_n))))) (hw_region (hl_v (v_move rfl) rfl (hl_v (v_fieldA underlying25 rfl sizeOf22 rfl) rfl (hl_v (v_load1 isAgg22 rfl (Blk.cell (hO.box 1 rfl) rfl)) rfl (hl_v (v_move rfl) rfl (hl_v (v_ixL underlying22 sizeOf50 rfl rfl (hO.fsl 3 rfl) (by exact ⟨Int.natCast_nonneg _, of_decide_eq_true hc_44⟩)) rfl (hl_v (v_fieldA underlying50 rfl sizeOf3 rfl) rfl (hl_v (v_loadSub (j := 0) isAgg3 rfl (hO.fsl 3 rfl) rfl (by exact ⟨Int.natCast_nonneg _, of_decide_eq_true hc_44⟩) rfl) rfl ?_)))))))))))))
    obtain ⟨hs_47, h⟩ := h
    refine hl_v (v_ixL underlying48 sizeOf4 rfl rfl (hO.nrow 0 rfl hs_46) hs_47) rfl (hl_s (o_nrowSet (x' := true) hO (i := 0) rfl sizeOf4 rfl hs_46 rfl rfl hs_47 rfl rfl) ?_)
    rintro _ H_48 hO
    refine hl_nil (blockQ_n (thenQ_n (hw_region (hl_v (v_move rfl) rfl (hl_v (v_add rfl rfl (by have hq := of_decide_eq_true hc_44; have hm := hln_35; constructor <;> omega)) rfl (hl_v (v_assign rfl) rfl (hl_nil (thenQ_n ?_))))))))
    replace hO := hO.closeN (i := 0) rfl
    replace hO : Own H_48 Z_42 (ownN fBool 48 4 v_37 (xin3.set ((t.Ends.getD i2 default).State).toNat ((xin3.getD ((t.Ends.getD i2 default).State).toNat default).set ((t.Ends.getD k default).State).toNat true)) :: box b_10 [.int .i64 t.States, v_1, v_3, v_5] 25 :: fz fGArc.rep v_5 t.Arcs :: fz fGTip.rep v_3 t.Ends :: fz fGTip.rep v_1 t.Starts :: inZ Z :: L) := hO
    exact ⟨_, _, (a_c 1 rfl (a_c 3 rfl (a_c 5 rfl (a_c 6 rfl a_n)))), ⟨(xin3.set ((t.Ends.getD i2 default).State).toNat ((xin3.getD ((t.Ends.getD i2 default).State).toNat default).set ((t.Ends.getD k default).State).toNat true)), k + 1, v_37, _, rfl, rfl, h, (by have hq := of_decide_eq_true hc_44; omega), hO⟩, (by have hq := of_decide_eq_true hc_44; omega)⟩
   ·replace h := ite_f h hc_44
    refine hw_exit (thenQ_e (thenQ_e (blockQ_hit (blockQ_n (thenQ_n (hw_region (hl_v (v_move rfl) rfl (hl_v (v_add rfl rfl (by have hq := of_decide_eq_true hc_36; have hm := hln_35; constructor <;> omega)) rfl (hl_v (v_assign rfl) rfl (hl_nil (thenQ_n ?_)))))))))))
    exact ⟨_, _, (a_c 1 rfl (a_c 3 rfl (a_c 5 rfl a_n))), ⟨xin3, i2 + 1, v_37, _, rfl, rfl, h, (by have hq := of_decide_eq_true hc_36; omega), hO⟩, (by have hq := of_decide_eq_true hc_36; omega)⟩
  ·replace h := ite_f h hc_36
   refine hw_exit (thenQ_e (thenQ_e (blockQ_hit (thenQ_n (hw_seq (hw_seq (hw_region (hl_v (v_assign rfl) rfl (hl_nil (thenQ_n (hw_block ?_)))))))))))
   obtain ⟨I_49, μ_50, h, hI_51⟩ := h
   refine hw_lp (fun n' g' H' => ∃ (xin4 : List (List Bool)) (turned : Bool) (Z' : Nat → Prop), n' = μ_50 xin4 turned ∧ g' = [(1, ptr b_10 0), (3, v_28), (8, .bool turned)] ∧ I_49 xin4 turned ∧ Own H' Z' (ownN fBool 48 4 v_28 xin4 :: box b_10 [.int .i64 t.States, v_1, v_3, v_5] 25 :: fz fGArc.rep v_5 t.Arcs :: fz fGTip.rep v_3 t.Ends :: fz fGTip.rep v_1 t.Starts :: inZ Z :: L)) _ _ (a_c 1 rfl (a_c 3 rfl (a_c 8 rfl a_n))) ⟨xin2, true, _, rfl, rfl, h, hO⟩ ?_
   rintro _ _ H_52 ⟨xin4, turned, Z_53, rfl, rfl, h, hO⟩
   replace h := hI_51 xin4 turned h
   refine hw_seq (hw_seq (hw_region (hl_v (v_move rfl) rfl (hl_nil (thenQ_n (hw_cond rfl (fun hc_55 => ?_) (fun hc_55 => ?_)))))))
   ·replace h := ite_t h hc_55
    refine hw_skip (thenQ_n (hw_block (hw_seq (hw_region (hl_v (v_assign rfl) rfl (hl_nil (thenQ_n (hw_seq (hw_region (hl_v (v_assign rfl) rfl (hl_nil (thenQ_n (hw_block ?_)))))))))))))
    obtain ⟨I_56, h, hI_58⟩ := h
    refine hw_lp (fun n' g' H' => ∃ (xin5 : List (List Bool)) (turned2 : Bool) (i3 : Nat) (Z' : Nat → Prop), n' = t.Arcs.length - i3 ∧ g' = [(1, ptr b_10 0), (3, v_28), (8, .bool turned2), (9, .int .i64 (i3 : Int))] ∧ I_56 xin5 turned2 i3 ∧ i3 ≤ t.Arcs.length ∧ Own H' Z' (ownN fBool 48 4 v_28 xin5 :: box b_10 [.int .i64 t.States, v_1, v_3, v_5] 25 :: fz fGArc.rep v_5 t.Arcs :: fz fGTip.rep v_3 t.Ends :: fz fGTip.rep v_1 t.Starts :: inZ Z :: L)) _ _ (a_c 1 rfl (a_c 3 rfl (a_c 8 rfl (a_c 9 rfl a_n)))) ⟨xin4, false, 0, _, rfl, rfl, h, by omega, hO⟩ ?_
    rintro _ _ H_59 ⟨xin5, turned2, i3, Z_60, rfl, rfl, h, hb_61, hO⟩
    replace h := hI_58 xin5 turned2 i3 h hb_61
    refine hw_seq (hw_seq (hw_region (hl_v (v_move rfl) rfl (hl_v (v_fieldA underlying25 rfl sizeOf23 rfl) rfl (hl_v (v_load1 isAgg23 rfl (Blk.cell (hO.box 1 rfl) rfl)) rfl ?_)))))
    have hln_62 := Sl.cap (hO.fsl 2 rfl)
    refine hl_v (v_lenL rfl underlying23 rfl (hO.fsl 2 rfl)) rfl (hl_v (v_lss rfl rfl) rfl (hl_nil (thenQ_n (hw_cond rfl (fun hc_63 => ?_) (fun hc_63 => ?_)))))
    ·replace h := ite_t h hc_63
     refine hw_skip (thenQ_n (hw_seq (hw_block (hw_seq (hw_region (hl_v (v_assign rfl) rfl (hl_nil (thenQ_n (hw_block ?_)))))))))
     obtain ⟨I_64, h, hI_66⟩ := h
     refine hw_lp (fun n' g' H' => ∃ (xin6 : List (List Bool)) (turned3 : Bool) (k2 : Nat) (Z' : Nat → Prop), n' = t.Arcs.length - k2 ∧ g' = [(1, ptr b_10 0), (3, v_28), (8, .bool turned3), (9, .int .i64 (i3 : Int)), (10, .int .i64 (k2 : Int))] ∧ I_64 xin6 turned3 k2 ∧ k2 ≤ t.Arcs.length ∧ Own H' Z' (ownN fBool 48 4 v_28 xin6 :: box b_10 [.int .i64 t.States, v_1, v_3, v_5] 25 :: fz fGArc.rep v_5 t.Arcs :: fz fGTip.rep v_3 t.Ends :: fz fGTip.rep v_1 t.Starts :: inZ Z :: L)) _ _ (a_c 1 rfl (a_c 3 rfl (a_c 8 rfl (a_c 9 rfl (a_c 10 rfl a_n))))) ⟨xin5, turned2, 0, _, rfl, rfl, h, by omega, hO⟩ ?_
     rintro _ _ H_67 ⟨xin6, turned3, k2, Z_68, rfl, rfl, h, hb_69, hO⟩
     replace h := hI_66 xin6 turned3 k2 h hb_69
     refine hw_seq (hw_seq (hw_region (hl_v (v_move rfl) rfl (hl_v (v_fieldA underlying25 rfl sizeOf23 rfl) rfl (hl_v (v_load1 isAgg23 rfl (Blk.cell (hO.box 1 rfl) rfl)) rfl (hl_v (v_lenL rfl underlying23 rfl (hO.fsl 2 rfl)) rfl (hl_v (v_lss rfl rfl) rfl (hl_nil (thenQ_n (hw_cond rfl (fun hc_70 => ?_) (fun hc_70 => ?_)))))))))))
     ·replace h := ite_t h hc_70
      refine hw_skip (thenQ_n (hw_seq (hw_block (hw_seq (hw_region (hl_v (v_fieldA underlying25 rfl sizeOf23 rfl) rfl (hl_v (v_load1 isAgg23 rfl (Blk.cell (hO.box 1 rfl) rfl)) rfl (hl_v (v_move rfl) rfl (hl_v (v_ixL underlying23 sizeOf39 rfl rfl (hO.fsl 2 rfl) (by exact ⟨Int.natCast_nonneg _, of_decide_eq_true hc_63⟩)) rfl (hl_v (v_loadFl isAgg39 sizeOf39 rfl (hO.fsl 2 rfl) rfl (by exact ⟨Int.natCast_nonneg _, of_decide_eq_true hc_63⟩)) rfl (hl_h (o_alloc (cs := (fGArc.enc (⟨(0 : Int), (0 : Int), BSet.zero, ([] : List UInt8), false⟩ : GArc))) hO zeroValue39 rfl) rfl ?_)))))))))))
      rintro _ H_71 ⟨b_72, rfl, hO⟩
      refine hl_s (o_storeA (us := (fGArc.enc (t.Arcs.getD i3 default))) hO 0 rfl sizeOf39 rfl rfl rfl rfl (by intro u hu; exact (fGArc).one _ u hu)) ?_
      rintro _ H_73 hO
      refine hl_nil (thenQ_n (hw_sub _ (a_c 1 rfl (a_c 3 rfl (a_c 8 rfl (a_c 9 rfl (a_c 10 rfl (a_c 11 rfl a_n)))))) (hw_seq (hw_region (hl_v (v_fieldA underlying25 rfl sizeOf23 rfl) rfl (hl_v (v_load1 isAgg23 rfl (Blk.cell (hO.box 2 rfl) rfl)) rfl (hl_v (v_move rfl) rfl (hl_v (v_ixL underlying23 sizeOf39 rfl rfl (hO.fsl 3 rfl) (by exact ⟨Int.natCast_nonneg _, of_decide_eq_true hc_70⟩)) rfl (hl_v (v_loadFl isAgg39 sizeOf39 rfl (hO.fsl 3 rfl) rfl (by exact ⟨Int.natCast_nonneg _, of_decide_eq_true hc_70⟩)) rfl (hl_h (o_alloc (cs := (fGArc.enc (⟨(0 : Int), (0 : Int), BSet.zero, ([] : List UInt8), false⟩ : GArc))) hO zeroValue39 rfl) rfl ?_))))))))))
      rintro _ H_74 ⟨b_75, rfl, hO⟩
      refine hl_s (o_storeA (us := (fGArc.enc (t.Arcs.getD k2 default))) hO 0 rfl sizeOf39 rfl rfl rfl rfl (by intro u hu; exact (fGArc).one _ u hu)) ?_
      rintro _ H_76 hO
      refine hl_nil (thenQ_n (hw_seq ?_))
      obtain ⟨vs_77, hO⟩ := hO.openN (i := 2) rfl
      replace hO : Own H_76 Z_68 (box b_75 (fGArc.enc (t.Arcs.getD k2 default)) 39 :: box b_72 (fGArc.enc (t.Arcs.getD i3 default)) 39 :: openN fBool 48 4 v_28 vs_77 xin6 :: box b_10 [.int .i64 t.States, v_1, v_3, v_5] 25 :: fz fGArc.rep v_5 t.Arcs :: fz fGTip.rep v_3 t.Ends :: fz fGTip.rep v_1 t.Starts :: inZ Z :: L) := hO
      refine hw_region (hl_v (v_move rfl) rfl (hl_v (v_fieldA underlying39 rfl sizeOf3 rfl) rfl (hl_v (v_load1 isAgg3 rfl (Blk.cell (hO.box 1 rfl) rfl)) rfl ?_)))
      obtain ⟨hs_78, h⟩ := h
      refine hl_v (v_ixL underlying42 sizeOf48 rfl rfl (hO.vsl 2 rfl) hs_78) rfl (hl_v (v_nrowLoad hO (i := 2) rfl isAgg48 rfl hs_78) rfl (hl_v (v_assign rfl) rfl (hl_nil (thenQ_n (hw_sub _ (a_c 1 rfl (a_c 3 rfl (a_c 8 rfl (a_c 9 rfl (a_c 10 rfl (a_c 11 rfl (a_c 12 rfl (a_c 13 rfl a_n)))))))) (hw_seq (hw_held (fun H' => ∃ Z' : Nat → Prop, Own H' Z' (box b_75 (fGArc.enc (t.Arcs.getD k2 default)) 39 :: box b_72 (fGArc.enc (t.Arcs.getD i3 default)) 39 :: openN fBool 48 4 v_28 vs_77 xin6 :: box b_10 [.int .i64 t.States, v_1, v_3, v_5] 25 :: fz fGArc.rep v_5 t.Arcs :: fz fGTip.rep v_3 t.Ends :: fz fGTip.rep v_1 t.Starts :: inZ Z :: L)) (.step 0 false (.step 1 false (.step 2 false (.step 3 false (.step 4 false (.step 5 false (.step 6 false (.step 7 false (.step 8 false (.step 9 false (.step 10 false (.step 11 false (.step 12 false (.step 13 false (.step 14 false (.step 15 false (.step 16 false (.step 17 false (.step 18 false (.step 19 false (.step 20 false (.step 21 false (.step 23 false (.step 22 true (.step 24 false (.step 25 false .done)))))))))))))))))))))))))) Tryz.mixed (by kernel_rfl) ⟨_, hO⟩ (hd_v rfl (fun _ _ => (v_move rfl)) rfl (hd_v rfl (fun _ _ => (v_fieldA underlying39 rfl sizeOf3 rfl)) rfl (hd_v rfl (fun H' hS => by obtain ⟨Z', hO⟩ := hS; exact (v_load1 isAgg3 rfl (Blk.cell (hO.box 1 rfl) rfl))) rfl ?_))))))))))
      obtain ⟨hs_79, h⟩ := h
      refine hd_v rfl (fun H' hS => by obtain ⟨Z', hO⟩ := hS; exact (v_ixL underlying42 sizeOf48 rfl rfl (hO.vsl 2 rfl) hs_79)) rfl (hd_v rfl (fun H' hS => by obtain ⟨Z', hO⟩ := hS; exact (v_nrowLoad hO (i := 2) rfl isAgg48 rfl hs_79)) rfl (hd_v rfl (fun _ _ => (v_fieldA underlying39 rfl sizeOf3 rfl)) rfl (hd_v rfl (fun H' hS => by obtain ⟨Z', hO⟩ := hS; exact (v_load1 isAgg3 rfl (Blk.cell (hO.box 0 rfl) rfl))) rfl ?_)))
      obtain ⟨hs_80, h⟩ := h
      refine hd_v rfl (fun H' hS => by obtain ⟨Z', hO⟩ := hS; exact (v_ixL underlying48 sizeOf4 rfl rfl (hO.nrow 2 rfl hs_79) hs_80)) rfl (hd_v rfl (fun H' hS => by obtain ⟨Z', hO⟩ := hS; exact (v_loadSc isAgg4 rfl (hO.nrow 2 rfl hs_79) rfl hs_80 rfl)) rfl (hd_v rfl (fun _ _ => (v_move rfl)) rfl (hd_g rfl rfl rfl (fun hg _ _ => (v_move rfl)) rfl (hd_g rfl rfl rfl (fun hg _ _ => (v_fieldA underlying39 rfl sizeOf3 rfl)) rfl (hd_g rfl rfl rfl (fun hg H' hS => by obtain ⟨Z', hO⟩ := hS; exact (v_load1 isAgg3 (gv_ok rfl hg) (Blk.cell (hO.box 0 rfl) rfl))) rfl ?_)))))
      obtain ⟨hs_81, h⟩ := h
      obtain ⟨hs_82, h⟩ := h
      refine hd_g rfl rfl rfl (fun hg H' hS => by obtain ⟨Z', hO⟩ := hS; exact (v_ixL underlying48 sizeOf4 (gv_ok rfl hg) (gv_ok rfl hg) (hO.nrow 2 rfl (hs_82 (gb_bool hg))) (hs_81 (gb_bool hg)))) rfl ?_
      obtain ⟨hs_83, h⟩ := h
      obtain ⟨hs_84, h⟩ := h
      refine hd_g rfl rfl rfl (fun hg H' hS => by obtain ⟨Z', hO⟩ := hS; exact (v_loadSc isAgg4 (gv_ok rfl hg) (hO.nrow 2 rfl (hs_84 (gb_bool hg))) rfl (hs_83 (gb_bool hg)) rfl)) rfl (hd_g rfl rfl rfl (fun hg _ _ => (v_not (gv_ok rfl hg))) rfl (hd_v rfl (fun _ _ => (v_and rfl rfl)) rfl (hd_v rfl (fun _ _ => (v_move rfl)) rfl (hd_g rfl rfl rfl (fun hg _ _ => (v_fieldA underlying39 rfl sizeOf37 rfl)) rfl (hd_g rfl rfl rfl (fun hg H' hS => by obtain ⟨Z', hO⟩ := hS; exact (v_loadA (cs := (sw ((t.Arcs.getD i3 default).Set))) isAgg37 sizeOf37 (gv_ok rfl hg) (Blk.sub (n := 4) (hO.box 1 rfl) rfl) rfl)) rfl (hd_g rfl rfl rfl (fun hg _ _ => (v_fieldA underlying39 rfl sizeOf37 rfl)) rfl (hd_g rfl rfl rfl (fun hg H' hS => by obtain ⟨Z', hO⟩ := hS; exact (v_loadA (cs := (sw ((t.Arcs.getD k2 default).Set))) isAgg37 sizeOf37 (gv_ok rfl hg) (Blk.sub (n := 4) (hO.box 0 rfl) rfl) rfl)) rfl (hd_g rfl rfl rfl (fun hg _ _ => (v_buildS0 underlying37 zeroValue37 sizeOf35)) rfl (hd_gc (v := sv (BSet.ofFn (fun m => byP 0 (((t.Arcs.getD i3 default).Set).has m) (((t.Arcs.getD k2 default).Set).has m)) 256)) (R := fun H' => ∃ Z' : Nat → Prop, Own H' Z' (box b_75 (fGArc.enc (t.Arcs.getD k2 default)) 39 :: box b_72 (fGArc.enc (t.Arcs.getD i3 default)) 39 :: openN fBool 48 4 v_28 vs_77 xin6 :: box b_10 [.int .i64 t.States, v_1, v_3, v_5] 25 :: fz fGArc.rep v_5 t.Arcs :: fz fGTip.rep v_3 t.Ends :: fz fGTip.rep v_1 t.Starts :: inZ Z :: L)) rfl rfl (fun hg => OpH.mono (h_call call22 (evs_cons (gv_ok rfl hg) (evs_cons (gv_ok rfl hg) (evs_cons (show _ = some (.int .i64 0) from rfl) evs_nil))) (rBy_spec (a0 := (t.Arcs.getD i3 default).Set) (a1 := (t.Arcs.getD k2 default).Set) (a2 := 0) hO)) (g_c)) ⟨_, hO⟩ (fun H' hR => by obtain ⟨Z', hO⟩ := hR; exact ⟨Z', hO⟩) rfl ?_)))))))))
      rintro H_85 ⟨Z_86, hO⟩
      refine hd_g rfl rfl rfl (fun hg _ _ => (v_neqSet underlying37 underlying35 sizeOf35 (by kernel_rfl) (gv_ok rfl hg) (gv_ok rfl hg))) rfl (hd_v rfl (fun _ _ => (v_and rfl rfl)) rfl (hd_nil (thenQ_n (hw_cond rfl (fun hc_88 => ?_) (fun hc_88 => ?_)))))
      ·replace h := ite_t h hc_88
       refine hw_seq (hw_region (hl_v (v_move rfl) rfl (hl_v (v_fieldA underlying39 rfl sizeOf3 rfl) rfl (hl_v (v_load1 isAgg3 rfl (Blk.cell (hO.box 0 rfl) rfl)) rfl ?_))))
       obtain ⟨hs_89, h⟩ := h
       refine hl_v (v_ixL underlying48 sizeOf4 rfl rfl (hO.nrow 2 rfl hs_78) hs_89) rfl (hl_s (o_nrowSet (x' := true) hO (i := 2) rfl sizeOf4 rfl hs_78 rfl rfl hs_89 rfl rfl) ?_)
       rintro _ H_90 hO
       refine hl_nil (thenQ_n (hw_region (hl_v (v_assign rfl) rfl (hl_nil (blockQ_n (thenQ_n (hw_region (hl_v (v_move rfl) rfl (hl_v (v_add rfl rfl (by have hq := of_decide_eq_true hc_70; have hm := hln_62; constructor <;> omega)) rfl (hl_v (v_assign rfl) rfl (hl_nil (thenQ_n ?_))))))))))))
       replace hO := hO.closeN (i := 2) rfl
       replace hO : Own H_90 Z_86 (box b_75 (fGArc.enc (t.Arcs.getD k2 default)) 39 :: box b_72 (fGArc.enc (t.Arcs.getD i3 default)) 39 :: ownN fBool 48 4 v_28 (xin6.set ((t.Arcs.getD i3 default).From).toNat ((xin6.getD ((t.Arcs.getD i3 default).From).toNat default).set ((t.Arcs.getD k2 default).From).toNat true)) :: box b_10 [.int .i64 t.States, v_1, v_3, v_5] 25 :: fz fGArc.rep v_5 t.Arcs :: fz fGTip.rep v_3 t.Ends :: fz fGTip.rep v_1 t.Starts :: inZ Z :: L) := hO
       exact ⟨_, _, (a_c 1 rfl (a_c 3 rfl (a_c 8 rfl (a_c 9 rfl (a_c 10 rfl a_n))))), ⟨(xin6.set ((t.Arcs.getD i3 default).From).toNat ((xin6.getD ((t.Arcs.getD i3 default).From).toNat default).set ((t.Arcs.getD k2 default).From).toNat true)), true, k2 + 1, _, rfl, rfl, h, (by have hq := of_decide_eq_true hc_70; omega), (Own.sel (Ls := [_, _, _, _, _, _, _, _]) (L := L) [2, 3, 4, 5, 6, 7] rfl hO)⟩, (by have hq := of_decide_eq_true hc_70; omega)⟩
      ·replace h := ite_f h hc_88
       refine hw_skip (blockQ_n (thenQ_n (hw_region (hl_v (v_move rfl) rfl (hl_v (v_add rfl rfl (by have hq := of_decide_eq_true hc_70; have hm := hln_62; constructor <;> omega)) rfl (hl_v (v_assign rfl) rfl (hl_nil (thenQ_n ?_))))))))
       replace hO := hO.closeN (i := 2) rfl
       replace hO : Own H_85 Z_86 (box b_75 (fGArc.enc (t.Arcs.getD k2 default)) 39 :: box b_72 (fGArc.enc (t.Arcs.getD i3 default)) 39 :: ownN fBool 48 4 v_28 xin6 :: box b_10 [.int .i64 t.States, v_1, v_3, v_5] 25 :: fz fGArc.rep v_5 t.Arcs :: fz fGTip.rep v_3 t.Ends :: fz fGTip.rep v_1 t.Starts :: inZ Z :: L) := hO
       exact ⟨_, _, (a_c 1 rfl (a_c 3 rfl (a_c 8 rfl (a_c 9 rfl (a_c 10 rfl a_n))))), ⟨xin6, turned3, k2 + 1, _, rfl, rfl, h, (by have hq := of_decide_eq_true hc_70; omega), (Own.sel (Ls := [_, _, _, _, _, _, _, _]) (L := L) [2, 3, 4, 5, 6, 7] rfl hO)⟩, (by have hq := of_decide_eq_true hc_70; omega)⟩
     ·replace h := ite_f h hc_70
      refine hw_exit (thenQ_e (thenQ_e (blockQ_hit (blockQ_n (thenQ_n (hw_region (hl_v (v_move rfl) rfl (hl_v (v_add rfl rfl (by have hq := of_decide_eq_true hc_63; have hm := hln_62; constructor <;> omega)) rfl (hl_v (v_assign rfl) rfl (hl_nil (thenQ_n ?_)))))))))))
      exact ⟨_, _, (a_c 1 rfl (a_c 3 rfl (a_c 8 rfl (a_c 9 rfl a_n)))), ⟨xin6, turned3, i3 + 1, _, rfl, rfl, h, (by have hq := of_decide_eq_true hc_63; omega), hO⟩, (by have hq := of_decide_eq_true hc_63; omega)⟩
    ·replace h := ite_f h hc_63
     refine hw_exit (thenQ_e (thenQ_e (blockQ_hit (blockQ_n (thenQ_n ?_)))))
     exact ⟨_, _, (a_c 1 rfl (a_c 3 rfl (a_c 8 rfl a_n))), ⟨xin5, turned2, _, rfl, rfl, h.1, hO⟩, h.2⟩
   ·replace h := ite_f h hc_55
    refine hw_exit (thenQ_e (thenQ_e (blockQ_hit (thenQ_n (hw_seq (hw_region (hl_v (v_move rfl) rfl (hl_v (v_assign rfl) rfl (hl_nil (thenQ_n (hw_ret ?_)))))))))))
    obtain ⟨Z_91, _, hO⟩ := hO.freezeN (i := 0) rfl
    refine ret_i _ (ra_t rfl ra_nil) ?_
    exact ⟨_, xin4, v_28, (hO.inz 5 rfl), h, rfl, (Own.sel (Ls := [_, _, _, _, _, _]) (L := L) [0] rfl hO)⟩
theorem rJointP_spec {a0 : GFst} {v_1 : Value} {v_3 : Value} {v_5 : Value} {L : List As} (hp : RefOk a0) {H : Heap} {Z : Nat → Prop} (hO : Own H Z (L)) (hf_2 : Fz fGTip.rep L v_1 a0.Starts) (hf_4 : Fz fGTip.rep L v_3 a0.Ends) (hf_6 : Fz fGArc.rep L v_5 a0.Arcs) : HC Tryz.prog 12 [.agg [.int .i64 a0.States, v_1, v_3, v_5].toArray] H (fun v H' => ∃ (Z' : Nat → Prop) (v_7 : Value), (∀ b, Z b → Z' b) ∧ v = v_7 ∧ Own H' Z' (fz (Rep.sl fBool.rep) v_7 ((jointL a0)) :: L)) := by
  refine (rJointP_ok (t := a0) (@rJointP_wp a0 hp) hO hf_2 hf_4 hf_6).mono ?_
  rintro v H' ⟨Z', r0, v_7, hz, hq, hv, hO'⟩
  obtain rfl := hq
  exact ⟨Z', v_7, hz, hv, hO'⟩
theorem rOne19_ok {t : GFst} {v_1 : Value} {v_3 : Value} {v_5 : Value} {Q : Bool → Int → Prop} {H : Heap} {Z : Nat → Prop} {L : List As} (h : wp_rOne19 t Q) (hO : Own H Z (L)) (hf_2 : Fz fGTip.rep L v_1 t.Starts) (hf_4 : Fz fGTip.rep L v_3 t.Ends) (hf_6 : Fz fGArc.rep L v_5 t.Arcs) : HC Tryz.prog 6 [.agg [.int .i64 t.States, v_1, v_3, v_5].toArray] H (fun v H' => ∃ (Z' : Nat → Prop) (r0 : Bool) (r1 : Int) , (∀ b, Z b → Z' b) ∧ Q r0 r1 ∧ v = .tuple #[.bool r0, .int .i64 r1] ∧ Own H' Z' (L)) := by
 replace hO := hO.inZ
 replace hO := Fz.items [_] hf_2 hO
 replace hO := Fz.items [_, _] hf_4 hO
 replace hO := Fz.items [_, _, _] hf_6 hO
 unfold wp_rOne19 at h
 refine hc_of_hw (N := 152) (rs := [(.tmp 2), (.tmp 3)]) Tryz.func6 rfl rfl rfl rfl (hw_seq (hw_region (hl_h (o_box (cs := [.int .i64 t.States, v_1, v_3, v_5]) hO rfl rfl) rfl ?_)))
 rintro _ H_7 ⟨b_8, rfl, hO⟩
 refine hl_v (v_assign rfl) rfl (hl_v (v_assign rfl) rfl (hl_nil (thenQ_n (hw_seq (hw_region (hl_v (v_loadA isAgg25 sizeOf25 rfl (Blk.at0 (hO.box 0 rfl)) rfl) rfl ?_))))))
 obtain ⟨hs_9, h⟩ := h
 refine hl_h (h_call call11 (evs_cons rfl evs_nil) (rTrim18_spec (a0 := t) hs_9 hO (Fz.of (i := 3) rfl) (Fz.of (i := 2) rfl) (Fz.of (i := 1) rfl))) rfl ?_
 rintro _ H_16 ⟨Z_17, v_10, v_12, v_14, _, rfl, hO⟩
 refine hl_v (v_move rfl) rfl (hl_v (v_extract rfl rfl) rfl (hl_v (v_extract rfl rfl) rfl (hl_s (o_storeA (us := [.int .i64 (((pTrim t).1).States), v_10, v_12, v_14]) hO 3 rfl sizeOf25 rfl rfl rfl rfl (by simp only [List.forall_mem_cons]; exact ⟨rfl, (Sl.one (hO.fsl 0 rfl)), (Sl.one (hO.fsl 1 rfl)), (Sl.one (hO.fsl 2 rfl)), by simp⟩)) ?_)))
 rintro _ H_19 hO
 refine hl_v (v_assign rfl) rfl (hl_nil (thenQ_n (hw_seq (hw_seq (hw_region (hl_v (v_move rfl) rfl (hl_v (v_neq rfl rfl) rfl (hl_nil (thenQ_n (hw_cond rfl (fun hc_20 => ?_) (fun hc_20 => ?_)))))))))))
 ·replace h := ite_t h hc_20
  refine hw_seq (hw_region (hl_v (v_move rfl) rfl (hl_v (v_assign rfl) rfl (hl_v (v_assign rfl) rfl (hl_nil (thenQ_n (hw_sub _ (a_c 2 rfl (a_c 3 rfl a_n)) (hw_ret (thenQ_r (ret_i _ (ra_t rfl (ra_t rfl ra_nil)) ?_))))))))))
  exact ⟨_, false, (pTrim t).2, (hO.inz 7 rfl), h, rfl, (Own.sel (Ls := [_, _, _, _, _, _, _, _]) (L := L) [] rfl hO)⟩
 ·replace h := ite_f h hc_20
  refine hw_skip (thenQ_n (hw_seq (hw_seq (hw_region (hl_v (v_fieldA underlying25 rfl sizeOf3 rfl) rfl (hl_v (v_load1 isAgg3 rfl (Blk.cell (hO.box 3 rfl) rfl)) rfl (hl_v (v_gtr rfl rfl) rfl (hl_nil (thenQ_n (hw_sub _ (a_c 1 rfl (a_c 24 rfl a_n)) (hw_cond rfl (fun hc_21 => ?_) (fun hc_21 => ?_))))))))))))
  ·replace h := ite_t h hc_21
   refine hw_seq (hw_region (hl_v (v_assign rfl) rfl (hl_v (v_assign rfl) rfl (hl_nil (thenQ_n (hw_ret (thenQ_r (ret_i _ (ra_t rfl (ra_t rfl ra_nil)) ?_))))))))
   exact ⟨_, false, 2, (hO.inz 7 rfl), h, rfl, (Own.sel (Ls := [_, _, _, _, _, _, _, _]) (L := L) [] rfl hO)⟩
  ·replace h := ite_f h hc_21
   refine hw_skip (thenQ_n (hw_seq (hw_region (hl_v (v_loadA isAgg25 sizeOf25 rfl (Blk.at0 (hO.box 3 rfl)) rfl) rfl ?_))))
   obtain ⟨hs_22, h⟩ := h
   refine hl_h (h_call call12 (evs_cons rfl evs_nil) (rJointP_spec (a0 := ((pTrim t).1)) hs_22 hO (Fz.of (i := 0) rfl) (Fz.of (i := 1) rfl) (Fz.of (i := 2) rfl))) rfl ?_
   rintro v_23 H_25 ⟨Z_26, _, _, rfl, hO⟩
   refine hl_v (v_assign rfl) rfl (hl_nil (thenQ_n (hw_seq (hw_region (hl_v (v_loadA isAgg25 sizeOf25 rfl (Blk.at0 (hO.box 4 rfl)) rfl) rfl (hl_h (h_call call13 (evs_cons rfl evs_nil) (rFirstsP_spec (a0 := ((pTrim t).1)) hs_22 hO (Fz.of (i := 1) rfl) (Fz.of (i := 2) rfl) (Fz.of (i := 3) rfl))) rfl ?_))))))
   rintro v_28 H_29 ⟨Z_30, _, _, rfl, hO⟩
   refine hl_v (v_assign rfl) rfl (hl_nil (thenQ_n (hw_seq (hw_region (hl_v (v_assign rfl) rfl (hl_nil (thenQ_n (hw_seq (hw_seq (hw_region (hl_v (v_assign rfl) rfl (hl_nil (thenQ_n (hw_block ?_))))))))))))))
   obtain ⟨I_34, μ_35, h, hI_36⟩ := h
   replace hO := hO.nil fGwhittleref19_Lag 47
   refine hw_lp (fun n' g' H' => ∃ (wait : List Gwhittleref19_Lag) (seen : List Gwhittleref19_Lag) (i : Int) (v_32 : Value) (v_33 : Value) (Z' : Nat → Prop), n' = μ_35 wait seen i ∧ g' = [(1, ptr b_8 0), (5, v_23), (6, v_32), (7, v_33), (8, .int .i64 i)] ∧ I_34 wait seen i ∧ Own H' Z' (own fGwhittleref19_Lag 47 v_33 seen :: own fGwhittleref19_Lag 47 v_32 wait :: fz (Rep.sl fBool.rep) v_23 (jointL ((pTrim t).1)) :: fz fGTip.rep v_10 (((pTrim t).1).Starts) :: fz fGTip.rep v_12 (((pTrim t).1).Ends) :: fz fGArc.rep v_14 (((pTrim t).1).Arcs) :: box b_8 [.int .i64 (((pTrim t).1).States), v_10, v_12, v_14] 25 :: inZ Z :: L)) _ _ (a_c 1 rfl (a_c 5 rfl (a_c 6 rfl (a_c 7 rfl (a_c 8 rfl a_n))))) ⟨(rFirsts ((pTrim t).1)), [], 0, v_28, .slice none 0 0, _, rfl, rfl, h, (Own.sel (Ls := [_, _, _, _, _, _, _, _, _, _, _]) (L := L) [0, 1, 2, 3, 4, 5, 6, 10] rfl hO)⟩ ?_
   rintro _ _ H_37 ⟨wait, seen, i, v_32, v_33, Z_38, rfl, rfl, h, hO⟩
   replace h := hI_36 wait seen i h
   refine hw_seq (hw_seq (hw_region (hl_v (v_move rfl) rfl (hl_v (v_move rfl) rfl ?_))))
   have hln_40 := Sl.cap (hO.osl 1 rfl)
   refine hl_v (v_lenL rfl underlying44 rfl (hO.osl 1 rfl)) rfl (hl_v (v_lss rfl rfl) rfl (hl_nil (thenQ_n (hw_cond rfl (fun hc_41 => ?_) (fun hc_41 => ?_)))))
   ·replace h := ite_t h hc_41
    refine hw_skip (thenQ_n (hw_seq (hw_block (hw_seq (hw_region (hl_v (v_move rfl) rfl (hl_v (v_move rfl) rfl ?_)))))))
    obtain ⟨hs_42, h⟩ := h
    refine hl_v (v_ixL underlying44 sizeOf47 rfl rfl (hO.osl 1 rfl) hs_42) rfl (hl_v (v_loadFl isAgg47 sizeOf47 rfl (hO.osl 1 rfl) rfl hs_42) rfl (hl_h (o_alloc (cs := (fGwhittleref19_Lag.enc (⟨(0 : Int), (0 : Int), ([] : List UInt8), ([] : List UInt8)⟩ : Gwhittleref19_Lag))) hO zeroValue47 rfl) rfl ?_))
    rintro _ H_43 ⟨b_44, rfl, hO⟩
    refine hl_s (o_storeA (us := (fGwhittleref19_Lag.enc (wait.getD i.toNat default))) hO 0 rfl sizeOf47 rfl rfl rfl rfl (by intro u hu; exact (fGwhittleref19_Lag).one _ u hu)) ?_
    rintro _ H_45 hO
    refine hl_nil (thenQ_n (hw_seq (hw_seq (hw_quiet Tryz.mixed (by kernel_rfl) (hq_v (v_move rfl) rfl (hq_v (v_fieldA underlying47 rfl sizeOf3 rfl) rfl (hq_v (v_load1 isAgg3 rfl (Blk.cell (hO.box 0 rfl) rfl)) rfl ?_)))))))
    obtain ⟨hs_46, h⟩ := h
    refine hq_v (v_ixL underlying42 sizeOf48 rfl rfl (hO.fsl 3 rfl) hs_46) rfl ?_
    obtain ⟨v_47, ha_49, he_48⟩ := sl_row (hO.fsl 3 rfl) hs_46
    replace hO := Sl.item he_48 hO
    refine hq_v (v_load1 isAgg48 rfl ha_49) rfl (hq_v (v_fieldA underlying47 rfl sizeOf3 rfl) rfl (hq_v (v_load1 isAgg3 rfl (Blk.cell (hO.box 1 rfl) rfl)) rfl ?_))
    obtain ⟨hs_50, h⟩ := h
    refine hq_v (v_ixL underlying48 sizeOf4 rfl rfl (hO.fsl 0 rfl) hs_50) rfl (hq_v (v_loadSc isAgg4 rfl (hO.fsl 0 rfl) rfl hs_50 rfl) rfl (hq_v (v_not rfl) rfl (hq_nil (thenQ_n (hw_sub _ (a_c 1 rfl (a_c 5 rfl (a_c 6 rfl (a_c 7 rfl (a_c 8 rfl (a_c 9 rfl (a_c 48 rfl a_n))))))) (hw_cond rfl (fun hc_51 => ?_) (fun hc_51 => ?_)))))))
    ·replace h := ite_t h hc_51
     refine hw_exit (thenQ_e (blockQ_hit (thenQ_n (hw_region (hl_v (v_move rfl) rfl ?_)))))
     obtain ⟨hs_52, h⟩ := h
     refine hl_v (v_add rfl rfl hs_52) rfl (hl_v (v_assign rfl) rfl (hl_nil (thenQ_n ?_)))
     exact ⟨_, _, (a_c 1 rfl (a_c 5 rfl (a_c 6 rfl (a_c 7 rfl (a_c 8 rfl a_n))))), ⟨wait, seen, (i + 1), v_32, v_33, _, rfl, rfl, h.1, (Own.sel (Ls := [_, _, _, _, _, _, _, _, _, _]) (L := L) [2, 3, 4, 5, 6, 7, 8, 9] rfl hO)⟩, h.2⟩
    ·replace h := ite_f h hc_51
     refine hw_skip (thenQ_n (hw_seq (hw_seq (hw_region (hl_v (v_fieldA underlying47 rfl sizeOf9 rfl) rfl (hl_v (v_load1 isAgg9 rfl (Blk.cell (hO.box 1 rfl) rfl)) rfl (hl_v (v_neqS rfl rfl) rfl (hl_v (v_move rfl) rfl (hl_g rfl rfl (fun hg => (v_fieldA underlying47 rfl sizeOf9 rfl)) rfl (hl_g rfl rfl (fun hg => (v_load1 isAgg9 (gv_ok rfl hg) (Blk.cell (hO.box 1 rfl) rfl))) rfl (hl_g rfl rfl (fun hg => (v_neqS (gv_ok rfl hg) rfl)) rfl (hl_v (v_and rfl rfl) rfl (hl_nil (thenQ_n (hw_sub _ (a_c 1 rfl (a_c 5 rfl (a_c 6 rfl (a_c 7 rfl (a_c 8 rfl (a_c 9 rfl (a_c 56 rfl a_n))))))) (hw_cond rfl (fun hc_53 => ?_) (fun hc_53 => ?_)))))))))))))))))
     ·replace h := ite_t h hc_53
      refine hw_seq (hw_region (hl_v (v_assign rfl) rfl (hl_v (v_assign rfl) rfl (hl_nil (thenQ_n (hw_ret (thenQ_r (blockQ_r (thenQ_r (thenQ_r (blockQ_r (thenQ_r (ret_i _ (ra_t rfl (ra_t rfl ra_nil)) ?_)))))))))))))
      exact ⟨_, false, 0, (hO.inz 9 rfl), h, rfl, (Own.sel (Ls := [_, _, _, _, _, _, _, _, _, _]) (L := L) [] rfl hO)⟩
     ·replace h := ite_f h hc_53
      refine hw_skip (thenQ_n (hw_seq (hw_region (hl_v (v_assign rfl) rfl (hl_nil (thenQ_n (hw_seq (hw_seq (hw_region (hl_v (v_assign rfl) rfl (hl_nil (thenQ_n (hw_block ?_)))))))))))))
      obtain ⟨I_54, h, hI_56⟩ := h
      refine hw_lp (fun n' g' H' => ∃ (there : Bool) (k : Nat) (Z' : Nat → Prop), n' = seen.length - k ∧ g' = [(1, ptr b_8 0), (5, v_23), (6, v_32), (7, v_33), (8, .int .i64 i), (9, ptr b_44 0), (10, .bool there), (11, .int .i64 (k : Int))] ∧ I_54 there k ∧ k ≤ seen.length ∧ Own H' Z' (box b_44 (fGwhittleref19_Lag.enc (wait.getD i.toNat default)) 47 :: own fGwhittleref19_Lag 47 v_33 seen :: own fGwhittleref19_Lag 47 v_32 wait :: fz (Rep.sl fBool.rep) v_23 (jointL ((pTrim t).1)) :: fz fGTip.rep v_10 (((pTrim t).1).Starts) :: fz fGTip.rep v_12 (((pTrim t).1).Ends) :: fz fGArc.rep v_14 (((pTrim t).1).Arcs) :: box b_8 [.int .i64 (((pTrim t).1).States), v_10, v_12, v_14] 25 :: inZ Z :: L)) _ _ (a_c 1 rfl (a_c 5 rfl (a_c 6 rfl (a_c 7 rfl (a_c 8 rfl (a_c 9 rfl (a_c 10 rfl (a_c 11 rfl a_n)))))))) ⟨false, 0, _, rfl, rfl, h, by omega, (Own.sel (Ls := [_, _, _, _, _, _, _, _, _, _]) (L := L) [1, 2, 3, 4, 5, 6, 7, 8, 9] rfl hO)⟩ ?_
      rintro _ _ H_57 ⟨there, k, Z_58, rfl, rfl, h, hb_59, hO⟩
      replace h := hI_56 there k h hb_59
      refine hw_seq (hw_seq (hw_region (hl_v (v_move rfl) rfl (hl_v (v_move rfl) rfl ?_))))
      have hln_60 := Sl.cap (hO.osl 1 rfl)
      refine hl_v (v_lenL rfl underlying44 rfl (hO.osl 1 rfl)) rfl (hl_v (v_lss rfl rfl) rfl (hl_nil (thenQ_n (hw_cond rfl (fun hc_61 => ?_) (fun hc_61 => ?_)))))
      ·replace h := ite_t h hc_61
       refine hw_skip (thenQ_n (hw_seq (hw_block (hw_seq (hw_quiet Tryz.mixed (by kernel_rfl) (hq_v (v_move rfl) rfl (hq_v (v_move rfl) rfl (hq_v (v_ixL underlying44 sizeOf47 rfl rfl (hO.osl 1 rfl) (by exact ⟨Int.natCast_nonneg _, of_decide_eq_true hc_61⟩)) rfl (hq_v (v_fieldA underlying47 rfl sizeOf3 rfl) rfl (hq_v (v_loadSub (j := 0) isAgg3 rfl (hO.osl 1 rfl) rfl (by exact ⟨Int.natCast_nonneg _, of_decide_eq_true hc_61⟩) rfl) rfl (hq_v (v_fieldA underlying47 rfl sizeOf3 rfl) rfl (hq_v (v_load1 isAgg3 rfl (Blk.cell (hO.box 0 rfl) rfl)) rfl (hq_v (v_eql rfl rfl) rfl (hq_v (v_move rfl) rfl (hq_g rfl rfl (fun hg => (v_move rfl)) rfl (hq_g rfl rfl (fun hg => (v_move rfl)) rfl (hq_g rfl rfl (fun hg => (v_ixL underlying44 sizeOf47 (gv_ok rfl hg) (gv_ok rfl hg) (hO.osl 1 rfl) (show (0 : Int) ≤ (k : Int) ∧ (k : Int) < (seen.length : Int) from ⟨Int.natCast_nonneg _, of_decide_eq_true hc_61⟩))) rfl (hq_g rfl rfl (fun hg => (v_fieldA underlying47 rfl sizeOf3 (gv_ok rfl hg))) rfl (hq_g rfl rfl (fun hg => (v_loadSub (j := 1) isAgg3 (gv_ok rfl hg) (hO.osl 1 rfl) rfl (show (0 : Int) ≤ (k : Int) ∧ (k : Int) < (seen.length : Int) from ⟨Int.natCast_nonneg _, of_decide_eq_true hc_61⟩) rfl)) rfl (hq_g rfl rfl (fun hg => (v_fieldA underlying47 rfl sizeOf3 rfl)) rfl (hq_g rfl rfl (fun hg => (v_load1 isAgg3 (gv_ok rfl hg) (Blk.cell (hO.box 0 rfl) rfl))) rfl (hq_g rfl rfl (fun hg => (v_eql (gv_ok rfl hg) (gv_ok rfl hg))) rfl (hq_v (v_and rfl rfl) rfl (hq_nil (thenQ_n (hw_sub _ (a_c 1 rfl (a_c 5 rfl (a_c 6 rfl (a_c 7 rfl (a_c 8 rfl (a_c 9 rfl (a_c 10 rfl (a_c 11 rfl (a_c 80 rfl a_n))))))))) ?_))))))))))))))))))))))))))
       refine hw_cond rfl (fun hc_62 => ?_) (fun hc_62 => ?_)
       ·replace h := ite_t h hc_62
        refine hw_seq (hw_region (hl_v (v_assign rfl) rfl (hl_nil (thenQ_n (hw_seq (hw_quiet Tryz.mixed (by kernel_rfl) (hq_v (v_move rfl) rfl (hq_v (v_move rfl) rfl (hq_v (v_ixL underlying44 sizeOf47 rfl rfl (hO.osl 1 rfl) (by exact ⟨Int.natCast_nonneg _, of_decide_eq_true hc_61⟩)) rfl (hq_v (v_loadFl isAgg47 sizeOf47 rfl (hO.osl 1 rfl) rfl (by exact ⟨Int.natCast_nonneg _, of_decide_eq_true hc_61⟩)) rfl (hq_v (v_loadA isAgg47 sizeOf47 rfl (Blk.at0 (hO.box 0 rfl)) rfl) rfl (hq_v (v_neqRec (by kernel_rfl) rfl rfl (eqv_47_19r _ _)) rfl (hq_nil (thenQ_n (hw_sub _ (a_c 1 rfl (a_c 5 rfl (a_c 6 rfl (a_c 7 rfl (a_c 8 rfl (a_c 9 rfl (a_c 10 rfl (a_c 11 rfl (a_c 86 rfl a_n))))))))) (hw_cond rfl (fun hc_63 => ?_) (fun hc_63 => ?_)))))))))))))))))
        ·replace h := ite_t h hc_63
         refine hw_seq (hw_region (hl_v (v_assign rfl) rfl (hl_v (v_assign rfl) rfl (hl_nil (thenQ_n (hw_ret (blockQ_r (thenQ_r (thenQ_r (blockQ_r (thenQ_r (blockQ_r (thenQ_r (thenQ_r (blockQ_r (thenQ_r (ret_i _ (ra_t rfl (ra_t rfl ra_nil)) ?_)))))))))))))))))
         exact ⟨_, false, 0, (hO.inz 8 rfl), h, rfl, (Own.sel (Ls := [_, _, _, _, _, _, _, _, _]) (L := L) [] rfl hO)⟩
        ·replace h := ite_f h hc_63
         refine hw_skip (blockQ_n (thenQ_n (hw_region (hl_v (v_move rfl) rfl (hl_v (v_add rfl rfl (by have hq := of_decide_eq_true hc_61; have hm := hln_60; constructor <;> omega)) rfl (hl_v (v_assign rfl) rfl (hl_nil (thenQ_n ?_))))))))
         exact ⟨_, _, (a_c 1 rfl (a_c 5 rfl (a_c 6 rfl (a_c 7 rfl (a_c 8 rfl (a_c 9 rfl (a_c 10 rfl (a_c 11 rfl a_n)))))))), ⟨true, k + 1, _, rfl, rfl, h, (by have hq := of_decide_eq_true hc_61; omega), hO⟩, (by have hq := of_decide_eq_true hc_61; omega)⟩
       ·replace h := ite_f h hc_62
        refine hw_skip (blockQ_n (thenQ_n (hw_region (hl_v (v_move rfl) rfl (hl_v (v_add rfl rfl (by have hq := of_decide_eq_true hc_61; have hm := hln_60; constructor <;> omega)) rfl (hl_v (v_assign rfl) rfl (hl_nil (thenQ_n ?_))))))))
        exact ⟨_, _, (a_c 1 rfl (a_c 5 rfl (a_c 6 rfl (a_c 7 rfl (a_c 8 rfl (a_c 9 rfl (a_c 10 rfl (a_c 11 rfl a_n)))))))), ⟨there, k + 1, _, rfl, rfl, h, (by have hq := of_decide_eq_true hc_61; omega), hO⟩, (by have hq := of_decide_eq_true hc_61; omega)⟩
      ·replace h := ite_f h hc_61
       refine hw_exit (thenQ_e (thenQ_e (blockQ_hit (thenQ_n (hw_seq (hw_seq (hw_region (hl_v (v_move rfl) rfl (hl_nil (thenQ_n (hw_cond rfl (fun hc_64 => ?_) (fun hc_64 => ?_))))))))))))
       ·replace h := ite_t h hc_64
        refine hw_exit (thenQ_e (blockQ_hit (thenQ_n (hw_region (hl_v (v_move rfl) rfl ?_)))))
        obtain ⟨hs_65, h⟩ := h
        refine hl_v (v_add rfl rfl hs_65) rfl (hl_v (v_assign rfl) rfl (hl_nil (thenQ_n ?_)))
        exact ⟨_, _, (a_c 1 rfl (a_c 5 rfl (a_c 6 rfl (a_c 7 rfl (a_c 8 rfl a_n))))), ⟨wait, seen, (i + 1), v_32, v_33, _, rfl, rfl, h.1, (Own.sel (Ls := [_, _, _, _, _, _, _, _, _]) (L := L) [1, 2, 3, 4, 5, 6, 7, 8] rfl hO)⟩, h.2⟩
       ·replace h := ite_f h hc_64
        refine hw_skip (thenQ_n (hw_seq (hw_region (hl_v (v_move rfl) rfl (hl_v (v_loadA isAgg47 sizeOf47 rfl (Blk.at0 (hO.box 0 rfl)) rfl) rfl (hl_h (o_lit (g := fGwhittleref19_Lag) (l := [(wait.getD i.toNat default)]) (xs := [.tmp 89]) hO underlying44 sizeOf47 zeroValue47 rfl (evs_cons rfl evs_nil) rfl rfl rfl rfl rfl) rfl ?_))))))
        rintro v_67 H_66 hO
        obtain ⟨hs_70, h⟩ := h
        refine hl_h (o_append (l2 := [(wait.getD i.toNat default)]) hO 2 rfl rfl underlying44 type47 rfl rfl rfl rfl rfl rfl rfl (hO.osl 0 rfl) hs_70 (le63 hs_70 rfl)) rfl ?_
        rintro v_69 H_68 hO
        refine hl_v (v_assign rfl) rfl (hl_nil (thenQ_n (hw_sub _ (a_c 1 rfl (a_c 5 rfl (a_c 6 rfl (a_c 7 rfl (a_c 8 rfl (a_c 9 rfl a_n)))))) (hw_seq (hw_seq (hw_region (hl_v (v_assign rfl) rfl (hl_nil (thenQ_n (hw_block ?_))))))))))
        obtain ⟨I_71, h, hI_73⟩ := h
        refine hw_lp (fun n' g' H' => ∃ (k2 : Nat) (Z' : Nat → Prop), n' = (((pTrim t).1).Ends).length - k2 ∧ g' = [(1, ptr b_8 0), (5, v_23), (6, v_32), (7, v_69), (8, .int .i64 i), (9, ptr b_44 0), (12, .int .i64 (k2 : Int))] ∧ I_71 k2 ∧ k2 ≤ (((pTrim t).1).Ends).length ∧ Own H' Z' (box b_44 (fGwhittleref19_Lag.enc (wait.getD i.toNat default)) 47 :: own fGwhittleref19_Lag 47 v_69 (seen ++ [(wait.getD i.toNat default)]) :: own fGwhittleref19_Lag 47 v_32 wait :: fz (Rep.sl fBool.rep) v_23 (jointL ((pTrim t).1)) :: fz fGTip.rep v_10 (((pTrim t).1).Starts) :: fz fGTip.rep v_12 (((pTrim t).1).Ends) :: fz fGArc.rep v_14 (((pTrim t).1).Arcs) :: box b_8 [.int .i64 (((pTrim t).1).States), v_10, v_12, v_14] 25 :: inZ Z :: L)) _ _ (a_c 1 rfl (a_c 5 rfl (a_c 6 rfl (a_c 7 rfl (a_c 8 rfl (a_c 9 rfl (a_c 12 rfl a_n))))))) ⟨0, _, rfl, rfl, h, by omega, (Own.sel (Ls := [_, _, _, _, _, _, _, _, _, _]) (L := L) [1, 2, 3, 4, 5, 6, 7, 8, 9] rfl hO)⟩ ?_
        rintro _ _ H_74 ⟨k2, Z_75, rfl, rfl, h, hb_76, hO⟩
        replace h := hI_73 k2 h hb_76
        refine hw_seq (hw_seq (hw_region (hl_v (v_move rfl) rfl (hl_v (v_fieldA underlying25 rfl sizeOf22 rfl) rfl (hl_v (v_load1 isAgg22 rfl (Blk.cell (hO.box 7 rfl) rfl)) rfl ?_)))))
        have hln_77 := Sl.cap (hO.fsl 5 rfl)
        refine hl_v (v_lenL rfl underlying22 rfl (hO.fsl 5 rfl)) rfl (hl_v (v_lss rfl rfl) rfl (hl_nil (thenQ_n (hw_cond rfl (fun hc_78 => ?_) (fun hc_78 => ?_)))))
        ·replace h := ite_t h hc_78
         refine hw_skip (thenQ_n (hw_seq (hw_block (hw_seq (hw_region (hl_v (v_assign rfl) rfl (hl_nil (thenQ_n (hw_block ?_)))))))))
         obtain ⟨I_79, h, hI_81⟩ := h
         refine hw_lp (fun n' g' H' => ∃ (j : Nat) (Z' : Nat → Prop), n' = (((pTrim t).1).Ends).length - j ∧ g' = [(1, ptr b_8 0), (5, v_23), (6, v_32), (7, v_69), (8, .int .i64 i), (9, ptr b_44 0), (12, .int .i64 (k2 : Int)), (13, .int .i64 (j : Int))] ∧ I_79 j ∧ j ≤ (((pTrim t).1).Ends).length ∧ Own H' Z' (box b_44 (fGwhittleref19_Lag.enc (wait.getD i.toNat default)) 47 :: own fGwhittleref19_Lag 47 v_69 (seen ++ [(wait.getD i.toNat default)]) :: own fGwhittleref19_Lag 47 v_32 wait :: fz (Rep.sl fBool.rep) v_23 (jointL ((pTrim t).1)) :: fz fGTip.rep v_10 (((pTrim t).1).Starts) :: fz fGTip.rep v_12 (((pTrim t).1).Ends) :: fz fGArc.rep v_14 (((pTrim t).1).Arcs) :: box b_8 [.int .i64 (((pTrim t).1).States), v_10, v_12, v_14] 25 :: inZ Z :: L)) _ _ (a_c 1 rfl (a_c 5 rfl (a_c 6 rfl (a_c 7 rfl (a_c 8 rfl (a_c 9 rfl (a_c 12 rfl (a_c 13 rfl a_n)))))))) ⟨0, _, rfl, rfl, h, by omega, hO⟩ ?_
         rintro _ _ H_82 ⟨j, Z_83, rfl, rfl, h, hb_84, hO⟩
         replace h := hI_81 j h hb_84
         refine hw_seq (hw_seq (hw_region (hl_v (v_move rfl) rfl (hl_v (v_fieldA underlying25 rfl sizeOf22 rfl) rfl (hl_v (v_load1 isAgg22 rfl (Blk.cell (hO.box 7 rfl) rfl)) rfl (hl_v (v_lenL rfl underlying22 rfl (hO.fsl 5 rfl)) rfl (hl_v (v_lss rfl rfl) rfl (hl_nil (thenQ_n (hw_cond rfl (fun hc_85 => ?_) (fun hc_85 => ?_)))))))))))
         ·replace h := ite_t h hc_85
          refine hw_skip (thenQ_n (hw_seq (hw_block (hw_seq (hw_quiet Tryz.mixed (by kernel_rfl) (hq_v (v_fieldA underlying25 rfl sizeOf22 rfl) rfl (hq_v (v_load1 isAgg22 rfl (Blk.cell (hO.box 7 rfl) rfl)) rfl (hq_v (v_move rfl) rfl (hq_v (v_ixL underlying22 sizeOf50 rfl rfl (hO.fsl 5 rfl) (by exact ⟨Int.natCast_nonneg _, of_decide_eq_true hc_78⟩)) rfl (hq_v (v_fieldA underlying50 rfl sizeOf3 rfl) rfl (hq_v (v_loadSub (j := 0) isAgg3 rfl (hO.fsl 5 rfl) rfl (by exact ⟨Int.natCast_nonneg _, of_decide_eq_true hc_78⟩) rfl) rfl (hq_v (v_fieldA underlying47 rfl sizeOf3 rfl) rfl (hq_v (v_load1 isAgg3 rfl (Blk.cell (hO.box 0 rfl) rfl)) rfl (hq_v (v_eql rfl rfl) rfl (hq_v (v_move rfl) rfl (hq_g rfl rfl (fun hg => (v_fieldA underlying25 rfl sizeOf22 rfl)) rfl (hq_g rfl rfl (fun hg => (v_load1 isAgg22 (gv_ok rfl hg) (Blk.cell (hO.box 7 rfl) rfl))) rfl (hq_g rfl rfl (fun hg => (v_move rfl)) rfl (hq_g rfl rfl (fun hg => (v_ixL underlying22 sizeOf50 (gv_ok rfl hg) (gv_ok rfl hg) (hO.fsl 5 rfl) (show (0 : Int) ≤ (j : Int) ∧ (j : Int) < ((((pTrim t).1).Ends).length : Int) from ⟨Int.natCast_nonneg _, of_decide_eq_true hc_85⟩))) rfl (hq_g rfl rfl (fun hg => (v_fieldA underlying50 rfl sizeOf3 (gv_ok rfl hg))) rfl (hq_g rfl rfl (fun hg => (v_loadSub (j := 0) isAgg3 (gv_ok rfl hg) (hO.fsl 5 rfl) rfl (show (0 : Int) ≤ (j : Int) ∧ (j : Int) < ((((pTrim t).1).Ends).length : Int) from ⟨Int.natCast_nonneg _, of_decide_eq_true hc_85⟩) rfl)) rfl (hq_g rfl rfl (fun hg => (v_fieldA underlying47 rfl sizeOf3 rfl)) rfl ?_))))))))))))))))))))))
          refine hq_g rfl rfl (fun hg => (v_load1 isAgg3 (gv_ok rfl hg) (Blk.cell (hO.box 0 rfl) rfl))) rfl (hq_g rfl rfl (fun hg => (v_eql (gv_ok rfl hg) (gv_ok rfl hg))) rfl (hq_v (v_and rfl rfl) rfl (hq_v (v_move rfl) rfl (hq_g rfl rfl (fun hg => (v_fieldA underlying47 rfl sizeOf9 rfl)) rfl (hq_g rfl rfl (fun hg => (v_load1 isAgg9 (gv_ok rfl hg) (Blk.cell (hO.box 0 rfl) rfl))) rfl (hq_g rfl rfl (fun hg => (v_fieldA underlying25 rfl sizeOf22 rfl)) rfl (hq_g rfl rfl (fun hg => (v_load1 isAgg22 (gv_ok rfl hg) (Blk.cell (hO.box 7 rfl) rfl))) rfl (hq_g rfl rfl (fun hg => (v_move rfl)) rfl (hq_g rfl rfl (fun hg => (v_ixL underlying22 sizeOf50 (gv_ok rfl hg) (gv_ok rfl hg) (hO.fsl 5 rfl) (show (0 : Int) ≤ (k2 : Int) ∧ (k2 : Int) < ((((pTrim t).1).Ends).length : Int) from ⟨Int.natCast_nonneg _, of_decide_eq_true hc_78⟩))) rfl (hq_g rfl rfl (fun hg => (v_fieldA underlying50 rfl sizeOf9 (gv_ok rfl hg))) rfl (hq_g rfl rfl (fun hg => (v_loadSub (j := 1) isAgg9 (gv_ok rfl hg) (hO.fsl 5 rfl) rfl (show (0 : Int) ≤ (k2 : Int) ∧ (k2 : Int) < ((((pTrim t).1).Ends).length : Int) from ⟨Int.natCast_nonneg _, of_decide_eq_true hc_78⟩) rfl)) rfl ?_)))))))))))
          obtain ⟨hs_86, h⟩ := h
          refine hq_g rfl rfl (fun hg => (v_addS (gv_ok rfl hg) (gv_ok rfl hg) (hs_86 (gb_bool hg)))) rfl (hq_g rfl rfl (fun hg => (v_fieldA underlying47 rfl sizeOf9 rfl)) rfl (hq_g rfl rfl (fun hg => (v_load1 isAgg9 (gv_ok rfl hg) (Blk.cell (hO.box 0 rfl) rfl))) rfl (hq_g rfl rfl (fun hg => (v_fieldA underlying25 rfl sizeOf22 rfl)) rfl (hq_g rfl rfl (fun hg => (v_load1 isAgg22 (gv_ok rfl hg) (Blk.cell (hO.box 7 rfl) rfl))) rfl (hq_g rfl rfl (fun hg => (v_move rfl)) rfl (hq_g rfl rfl (fun hg => (v_ixL underlying22 sizeOf50 (gv_ok rfl hg) (gv_ok rfl hg) (hO.fsl 5 rfl) (show (0 : Int) ≤ (j : Int) ∧ (j : Int) < ((((pTrim t).1).Ends).length : Int) from ⟨Int.natCast_nonneg _, of_decide_eq_true hc_85⟩))) rfl (hq_g rfl rfl (fun hg => (v_fieldA underlying50 rfl sizeOf9 (gv_ok rfl hg))) rfl (hq_g rfl rfl (fun hg => (v_loadSub (j := 1) isAgg9 (gv_ok rfl hg) (hO.fsl 5 rfl) rfl (show (0 : Int) ≤ (j : Int) ∧ (j : Int) < ((((pTrim t).1).Ends).length : Int) from ⟨Int.natCast_nonneg _, of_decide_eq_true hc_85⟩) rfl)) rfl ?_))))))))
          obtain ⟨hs_87, h⟩ := h
          refine hq_g rfl rfl (fun hg => (v_addS (gv_ok rfl hg) (gv_ok rfl hg) (hs_87 (gb_bool hg)))) rfl (hq_g rfl rfl (fun hg => (v_neqS (gv_ok rfl hg) (gv_ok rfl hg))) rfl (hq_v (v_and rfl rfl) rfl (hq_nil (thenQ_n (hw_sub _ (a_c 1 rfl (a_c 5 rfl (a_c 6 rfl (a_c 7 rfl (a_c 8 rfl (a_c 9 rfl (a_c 12 rfl (a_c 13 rfl (a_c 146 rfl a_n))))))))) (hw_cond rfl (fun hc_88 => ?_) (fun hc_88 => ?_)))))))
          ·replace h := ite_t h hc_88
           refine hw_seq (hw_region (hl_v (v_assign rfl) rfl (hl_v (v_assign rfl) rfl (hl_nil (thenQ_n (hw_ret (blockQ_r (thenQ_r (thenQ_r (blockQ_r (blockQ_r (thenQ_r (thenQ_r (blockQ_r (thenQ_r (blockQ_r (thenQ_r (thenQ_r (blockQ_r (thenQ_r (ret_i _ (ra_t rfl (ra_t rfl ra_nil)) ?_)))))))))))))))))))))
           exact ⟨_, false, 0, (hO.inz 8 rfl), h, rfl, (Own.sel (Ls := [_, _, _, _, _, _, _, _, _]) (L := L) [] rfl hO)⟩
          ·replace h := ite_f h hc_88
           refine hw_skip (blockQ_n (thenQ_n (hw_region (hl_v (v_move rfl) rfl (hl_v (v_add rfl rfl (by have hq := of_decide_eq_true hc_85; have hm := hln_77; constructor <;> omega)) rfl (hl_v (v_assign rfl) rfl (hl_nil (thenQ_n ?_))))))))
           exact ⟨_, _, (a_c 1 rfl (a_c 5 rfl (a_c 6 rfl (a_c 7 rfl (a_c 8 rfl (a_c 9 rfl (a_c 12 rfl (a_c 13 rfl a_n)))))))), ⟨j + 1, _, rfl, rfl, h, (by have hq := of_decide_eq_true hc_85; omega), hO⟩, (by have hq := of_decide_eq_true hc_85; omega)⟩
         ·replace h := ite_f h hc_85
          refine hw_exit (thenQ_e (thenQ_e (blockQ_hit (blockQ_n (thenQ_n (hw_region (hl_v (v_move rfl) rfl (hl_v (v_add rfl rfl (by have hq := of_decide_eq_true hc_78; have hm := hln_77; constructor <;> omega)) rfl (hl_v (v_assign rfl) rfl (hl_nil (thenQ_n ?_)))))))))))
          exact ⟨_, _, (a_c 1 rfl (a_c 5 rfl (a_c 6 rfl (a_c 7 rfl (a_c 8 rfl (a_c 9 rfl (a_c 12 rfl a_n))))))), ⟨k2 + 1, _, rfl, rfl, h, (by have hq := of_decide_eq_true hc_78; omega), hO⟩, (by have hq := of_decide_eq_true hc_78; omega)⟩
        ·replace h := ite_f h hc_78
         refine hw_exit (thenQ_e (thenQ_e (blockQ_hit (thenQ_n (hw_region (hl_v (v_move rfl) rfl (hl_v (v_loadA isAgg25 sizeOf25 rfl (Blk.at0 (hO.box 7 rfl)) rfl) rfl (hl_v (v_loadA isAgg47 sizeOf47 rfl (Blk.at0 (hO.box 0 rfl)) rfl) rfl ?_))))))))
         obtain ⟨hs_89, h⟩ := h
         refine hl_h (h_call call14 (evs_cons rfl (evs_cons rfl evs_nil)) (rNextP_spec (a0 := ((pTrim t).1)) (a1 := (wait.getD i.toNat default)) hs_89 hO (Fz.of (i := 4) rfl) (Fz.of (i := 5) rfl) (Fz.of (i := 6) rfl))) rfl ?_
         rintro v_90 H_91 ⟨Z_92, _, _, rfl, hO⟩
         obtain ⟨hs_96, h⟩ := h
         refine hl_h (o_append (l2 := (rNext ((pTrim t).1) (wait.getD i.toNat default))) hO 3 rfl rfl underlying44 type47 rfl rfl rfl rfl rfl rfl rfl (hO.osl 0 rfl) hs_96 (le63 hs_96 rfl)) rfl ?_
         rintro v_95 H_94 hO
         refine hl_v (v_assign rfl) rfl (hl_nil (blockQ_n (thenQ_n (hw_region (hl_v (v_move rfl) rfl ?_)))))
         obtain ⟨hs_97, h⟩ := h
         refine hl_v (v_add rfl rfl hs_97) rfl (hl_v (v_assign rfl) rfl (hl_nil (thenQ_n ?_)))
         exact ⟨_, _, (a_c 1 rfl (a_c 5 rfl (a_c 6 rfl (a_c 7 rfl (a_c 8 rfl a_n))))), ⟨(wait ++ (rNext ((pTrim t).1) (wait.getD i.toNat default))), (seen ++ [(wait.getD i.toNat default)]), (i + 1), v_95, v_69, _, rfl, rfl, h.1, (Own.sel (Ls := [_, _, _, _, _, _, _, _, _, _]) (L := L) [2, 3, 4, 5, 6, 7, 8, 9] rfl hO)⟩, h.2⟩
   ·replace h := ite_f h hc_41
    refine hw_exit (thenQ_e (thenQ_e (blockQ_hit (thenQ_n (hw_seq (hw_region (hl_v (v_assign rfl) rfl (hl_v (v_assign rfl) rfl (hl_nil (thenQ_n (hw_ret (ret_i _ (ra_t rfl (ra_t rfl ra_nil)) ?_))))))))))))
    exact ⟨_, true, 0, (hO.inz 7 rfl), h, rfl, (Own.sel (Ls := [_, _, _, _, _, _, _, _]) (L := L) [] rfl hO)⟩
theorem rOne19_spec {a0 : GFst} {v_1 : Value} {v_3 : Value} {v_5 : Value} {L : List As} (hp : a0.Arcs.length ≤ 1024 ∧ a0.Starts.length ≤ 17592186044416 ∧ a0.Ends.length ≤ 17592186044416) {H : Heap} {Z : Nat → Prop} (hO : Own H Z (L)) (hf_2 : Fz fGTip.rep L v_1 a0.Starts) (hf_4 : Fz fGTip.rep L v_3 a0.Ends) (hf_6 : Fz fGArc.rep L v_5 a0.Arcs) : HC Tryz.prog 6 [.agg [.int .i64 a0.States, v_1, v_3, v_5].toArray] H (fun v H' => ∃ (Z' : Nat → Prop) , (∀ b, Z b → Z' b) ∧ v = .tuple #[.bool ((nOne a0).1), .int .i64 ((nOne a0).2)] ∧ Own H' Z' (L)) := by
  refine (rOne19_ok (t := a0) (@rOne19_wp a0 hp) hO hf_2 hf_4 hf_6).mono ?_
  rintro v H' ⟨Z', r0, r1, hz, hq, hv, hO'⟩
  obtain ⟨rfl, rfl⟩ := hq
  exact ⟨Z', hz, hv, hO'⟩
end
section
open Go.Proofs
open Tryz
theorem lFunTells_ok {t : GFst} {v_1 : Value} {v_3 : Value} {v_5 : Value} {Q : Bool → Prop} {H : Heap} {Z : Nat → Prop} {L : List As} (h : wp_lFunTells t Q) (hO : Own H Z (L)) (hf_2 : Fz fGTip.rep L v_1 t.Starts) (hf_4 : Fz fGTip.rep L v_3 t.Ends) (hf_6 : Fz fGArc.rep L v_5 t.Arcs) : HC Tryz.prog 3 [.agg [.int .i64 t.States, v_1, v_3, v_5].toArray] H (fun v H' => ∃ (Z' : Nat → Prop) (r0 : Bool) , (∀ b, Z b → Z' b) ∧ Q r0 ∧ v = .bool r0 ∧ Own H' Z' (L)) := by
 replace hO := hO.inZ
 replace hO := Fz.items [_] hf_2 hO
 replace hO := Fz.items [_, _] hf_4 hO
 replace hO := Fz.items [_, _, _] hf_6 hO
 unfold wp_lFunTells at h
 refine hc_of_hw (N := 55) (rs := [(.tmp 2)]) Tryz.func3 rfl rfl rfl rfl (hw_seq (hw_region (hl_h (o_box (cs := [.int .i64 t.States, v_1, v_3, v_5]) hO rfl rfl) rfl ?_)))
 rintro _ H_7 ⟨b_8, rfl, hO⟩
 refine hl_v (v_assign rfl) rfl (hl_nil (thenQ_n (hw_seq (hw_seq (hw_region (hl_v (v_loadA isAgg25 sizeOf25 rfl (Blk.at0 (hO.box 0 rfl)) rfl) rfl ?_))))))
 obtain ⟨hs_9, h⟩ := h
 refine hl_h (h_call call4 (evs_cons rfl evs_nil) (rFew19_spec (a0 := t) hs_9 hO (Fz.of (i := 3) rfl) (Fz.of (i := 2) rfl) (Fz.of (i := 1) rfl))) rfl ?_
 rintro _ H_10 ⟨Z_11, _, rfl, hO⟩
 refine hl_v (v_not rfl) rfl (hl_nil (thenQ_n (hw_cond rfl (fun hc_13 => ?_) (fun hc_13 => ?_))))
 ·replace h := ite_t h hc_13
  refine hw_seq (hw_region (hl_v (v_assign rfl) rfl (hl_nil (thenQ_n (hw_ret (thenQ_r (ret_i _ (ra_t rfl ra_nil) ?_)))))))
  exact ⟨_, true, (hO.inz 4 rfl), h, rfl, (Own.sel (Ls := [_, _, _, _, _]) (L := L) [] rfl hO)⟩
 ·replace h := ite_f h hc_13
  refine hw_skip (thenQ_n (hw_seq (hw_region (hl_v (v_loadA isAgg25 sizeOf25 rfl (Blk.at0 (hO.box 0 rfl)) rfl) rfl ?_))))
  obtain ⟨hs_14, h⟩ := h
  refine hl_h (h_call call5 (evs_cons rfl evs_nil) (funOne_spec (a0 := t) hs_14 hO (Fz.of (i := 3) rfl) (Fz.of (i := 2) rfl) (Fz.of (i := 1) rfl))) rfl ?_
  rintro _ H_15 ⟨Z_16, _, rfl, hO⟩
  refine hl_v (v_move rfl) rfl (hl_v (v_extract rfl rfl) rfl (hl_v (v_extract rfl rfl) rfl (hl_v (v_assign rfl) rfl (hl_v (v_assign rfl) rfl (hl_nil (thenQ_n (hw_seq (hw_region (hl_v (v_loadA isAgg25 sizeOf25 rfl (Blk.at0 (hO.box 0 rfl)) rfl) rfl ?_)))))))))
  obtain ⟨hs_18, h⟩ := h
  refine hl_h (h_call call6 (evs_cons rfl evs_nil) (rOne19_spec (a0 := t) hs_18 hO (Fz.of (i := 3) rfl) (Fz.of (i := 2) rfl) (Fz.of (i := 1) rfl))) rfl ?_
  rintro _ H_19 ⟨Z_20, _, rfl, hO⟩
  refine hl_v (v_move rfl) rfl (hl_v (v_extract rfl rfl) rfl (hl_v (v_extract rfl rfl) rfl (hl_v (v_assign rfl) rfl (hl_v (v_assign rfl) rfl (hl_nil (thenQ_n (hw_sub _ (a_c 1 rfl (a_c 3 rfl (a_c 4 rfl (a_c 5 rfl (a_c 6 rfl a_n))))) (hw_seq (hw_region (hl_v (v_loadA isAgg25 sizeOf25 rfl (Blk.at0 (hO.box 0 rfl)) rfl) rfl (hl_h (h_call call7 (evs_cons rfl evs_nil) (funTwo_spec (a0 := t) hs_14 hO (Fz.of (i := 3) rfl) (Fz.of (i := 2) rfl) (Fz.of (i := 1) rfl))) rfl ?_)))))))))))
  rintro _ H_22 ⟨Z_23, _, rfl, hO⟩
  refine hl_v (v_move rfl) rfl (hl_v (v_extract rfl rfl) rfl (hl_v (v_extract rfl rfl) rfl (hl_v (v_extract rfl rfl) rfl (hl_v (v_assign rfl) rfl (hl_v (v_assign rfl) rfl (hl_v (v_assign rfl) rfl (hl_nil (thenQ_n (hw_seq (hw_region (hl_h (h_call call8 evs_nil (lAwake19_spec  hO)) rfl ?_)))))))))))
  rintro _ H_25 ⟨Z_26, _, rfl, hO⟩
  refine hl_v (v_move rfl) rfl (hl_g rfl rfl (fun hg => (v_move rfl)) rfl (hl_g rfl rfl (fun hg => (v_move rfl)) rfl (hl_g rfl rfl (fun hg => (v_eqlb underlying4 rfl rfl)) rfl (hl_v (v_and rfl rfl) rfl (hl_v (v_move rfl) rfl (hl_g rfl rfl (fun hg => (v_move rfl)) rfl (hl_g rfl rfl (fun hg => (v_move rfl)) rfl (hl_g rfl rfl (fun hg => (v_eql (gv_ok rfl hg) (gv_ok rfl hg))) rfl (hl_v (v_and rfl rfl) rfl (hl_v (v_move rfl) rfl (hl_g rfl rfl (fun hg => (v_move rfl)) rfl (hl_g rfl rfl (fun hg => (v_move rfl)) rfl (hl_g rfl rfl (fun hg => (v_eql (gv_ok rfl hg) (gv_ok rfl hg))) rfl (hl_v (v_and rfl rfl) rfl (hl_v (v_move rfl) rfl (hl_g rfl rfl (fun hg => (v_move rfl)) rfl (hl_g rfl rfl (fun hg => (v_neq (gv_ok rfl hg) rfl)) rfl (hl_g rfl rfl (fun hg => (v_move (gv_ok rfl hg))) rfl (hl_g rfl rfl (fun hg => (v_move rfl)) rfl (hl_g rfl rfl (fun hg => (v_move rfl)) rfl (hl_g rfl rfl (fun hg => (v_not (gv_ok rfl hg))) rfl (hl_g rfl rfl (fun hg => (v_eqlb underlying4 (gv_ok rfl hg) (gv_ok rfl hg))) rfl (hl_g rfl rfl (fun hg => (v_or (gv_ok rfl hg) (gvgb_ok rfl hg))) rfl (hl_v (v_and rfl rfl) rfl (hl_v (v_assign rfl) rfl (hl_nil (thenQ_n (hw_sub _ (a_c 2 rfl a_n) (hw_ret (ret_i _ (ra_t rfl ra_nil) ?_))))))))))))))))))))))))))))))
  exact ⟨_, (((((nOne t).1 == (nOne t).1) && decide ((nOne t).2 = (nOne t).2)) && decide ((nTwo t).2.2 = (nOne t).2)) && ((!decide ((nOne t).2 = 0)) || ((nTwo t).2.1 == (!(nOne t).1)))), (hO.inz 4 rfl), h, rfl, (Own.sel (Ls := [_, _, _, _, _]) (L := L) [] rfl hO)⟩
theorem lFunTells_spec {a0 : GFst} {v_1 : Value} {v_3 : Value} {v_5 : Value} {L : List As} (hp : fSane a0) {H : Heap} {Z : Nat → Prop} (hO : Own H Z (L)) (hf_2 : Fz fGTip.rep L v_1 a0.Starts) (hf_4 : Fz fGTip.rep L v_3 a0.Ends) (hf_6 : Fz fGArc.rep L v_5 a0.Arcs) : HC Tryz.prog 3 [.agg [.int .i64 a0.States, v_1, v_3, v_5].toArray] H (fun v H' => ∃ (Z' : Nat → Prop) , (∀ b, Z b → Z' b) ∧ v = .bool (true) ∧ Own H' Z' (L)) := by
  refine (lFunTells_ok (t := a0) (@lFunTells_wp a0 hp) hO hf_2 hf_4 hf_6).mono ?_
  rintro v H' ⟨Z', r0, hz, hq, hv, hO'⟩
  obtain rfl := hq
  exact ⟨Z', hz, hv, hO'⟩
end
end Go.Proofs.YtaopgjfioabfpaaGreat
