/- Several texts in one. No condition. -/
import Derived.Test.YtaopgjfioabfpaaGreatMg17FunTells
import Derived.Test.YtaopgjfioabfpaaGreatProg
set_option linter.unusedVariables false
set_option linter.unusedSimpArgs false
set_option maxRecDepth 20000
namespace Go.Proofs.YtaopgjfioabfpaaGreat
section
open Go.Proofs
open Tryz
abbrev zz19 (f : Gfun_finder) (k : Nat) := ((((nTails (⟨f.t, f.from', f.ends, [], f.rows, []⟩ : Gfun_finder)).t).Starts).getD k default)
abbrev zz20 (f4 : Gfun_finder) (i : Int) (k3 : Nat) := ((f4.from'.getD ((((f4.rows.getD i.toNat default).it).at').1).toNat default).getD k3 default)
theorem funFind_ok {f : Gfun_finder} {v_2 : Value} {v_4 : Value} {v_6 : Value} {v_8 : Value} {v_10 : Value} {v_12 : Value} {b_1 : Nat} {Q : (List UInt8) → Bool → Prop} {H : Heap} {Z : Nat → Prop} {L : List As} (h : wp_funFind f Q) (hO : Own H Z (box b_1 [.int .i64 f.t.States, v_2, v_4, v_6, v_8, v_10, .map none, v_12, .map none] 60 :: own fGfun_box_whittle_fun_place 86 v_12 f.rows :: L)) (hf_3 : Fz fGTip.rep L v_2 f.t.Starts) (hf_5 : Fz fGTip.rep L v_4 f.t.Ends) (hf_7 : Fz fGArc.rep L v_6 f.t.Arcs) (hf_9 : Fz (Rep.sl fGArc.rep) L v_8 f.from') (hf_11 : Fz (Rep.sl fStr.rep) L v_10 f.ends) : HC Tryz.prog 16 [ptr b_1 0] H (fun v H' => ∃ (Z' : Nat → Prop) (r0 : List UInt8) (r1 : Bool) , (∀ b, Z b → Z' b) ∧ Q r0 r1 ∧ v = .tuple #[str r0, .bool r1] ∧ Own H' Z' (L)) := by
 replace hO := hO.inZ
 replace hO := Fz.items [_, _, _] hf_3 hO
 replace hO := Fz.items [_, _, _, _] hf_5 hO
 replace hO := Fz.items [_, _, _, _, _] hf_7 hO
 replace hO := Fz.items [_, _, _, _, _, _] hf_9 hO
 replace hO := Fz.items [_, _, _, _, _, _, _] hf_11 hO
 unfold wp_funFind at h
 refine hc_of_hw (N := 135) (rs := [(.tmp 2), (.tmp 3)]) Tryz.func16 rfl rfl rfl rfl (hw_seq (hw_region (hl_v (v_assign rfl) rfl (hl_v (v_assign rfl) rfl (hl_nil (thenQ_n (hw_seq (hw_region (hl_v (v_move rfl) rfl ?_)))))))))
 obtain ⟨hs_13, h⟩ := h
 refine hl_h (h_call call28 (evs_cons rfl evs_nil) (funTails_spec (a0 := (⟨f.t, f.from', f.ends, [], f.rows, []⟩ : Gfun_finder)) (L := fz (Rep.sl fStr.rep) v_10 f.ends :: fz (Rep.sl fGArc.rep) v_8 f.from' :: fz fGArc.rep v_6 f.t.Arcs :: fz fGTip.rep v_4 f.t.Ends :: fz fGTip.rep v_2 f.t.Starts :: inZ Z :: L) hs_13 (Own.sel (Ls := [_, _, _, _, _, _, _, _]) (L := L) [6, 7, 0, 1, 2, 3, 4, 5] rfl hO) (Fz.of (i := 4) rfl) (Fz.of (i := 3) rfl) (Fz.of (i := 2) rfl) (Fz.of (i := 1) rfl) (Fz.of (i := 0) rfl))) rfl ?_
 rintro _ H_14 ⟨Z_15, v_17, v_19, v_21, v_23, v_25, v_28, b_27, _, rfl, hO⟩
 refine hl_nil (thenQ_n (hw_seq (hw_region (hl_v (v_move rfl) rfl (hl_h (o_makeMap (ke := (aggOf (fTwo fInt))) (ve := (Value.int .i64)) hO) rfl ?_)))))
 rintro _ H_29 ⟨b_30, rfl, hO⟩
 refine hl_v (v_nilCheck rfl) rfl (hl_v (v_fieldA underlying60 rfl sizeOf58 rfl) rfl (hl_s (o_store1 hO 1 rfl sizeOf58 rfl rfl rfl rfl) ?_))
 rintro _ H_31 hO
 refine hl_nil (thenQ_n (hw_seq (hw_seq (hw_region (hl_v (v_move rfl) rfl (hl_v (v_nilCheck rfl) rfl (hl_v (v_fieldA underlying60 rfl sizeOf25 rfl) rfl (hl_v (v_fieldA underlying25 rfl sizeOf22 rfl) rfl (hl_v (v_load1 isAgg22 rfl (Blk.cell (hO.box 1 rfl) rfl)) rfl ?_)))))))))
 have hln_32 := Sl.cap (hO.fsl 4 rfl)
 refine hl_v (v_lenL rfl underlying22 rfl (hO.fsl 4 rfl)) rfl (hl_v (v_move rfl) rfl (hl_nil (thenQ_n (hw_sub _ (a_c 0 rfl (a_c 28 rfl (a_c 29 rfl (a_c 30 rfl a_n)))) (hw_block ?_)))))
 obtain ⟨I_41, h, hI_43⟩ := h
 refine hw_lp (fun n' g' H' => ∃ (f2 : Gfun_finder) (k : Nat) (v_33 : Value) (v_34 : Value) (v_35 : Value) (v_36 : Value) (v_37 : Value) (b_38 : Nat) (v_39 : Value) (b_40 : Nat) (Z' : Nat → Prop), n' = (((nTails (⟨f.t, f.from', f.ends, [], f.rows, []⟩ : Gfun_finder)).t).Starts).length - k ∧ g' = [(0, ptr b_1 0), (28, v_17), (29, .int .i64 ((((nTails (⟨f.t, f.from', f.ends, [], f.rows, []⟩ : Gfun_finder)).t).Starts).length : Int)), (30, .int .i64 (k : Int))] ∧ I_41 f2 k ∧ k ≤ (((nTails (⟨f.t, f.from', f.ends, [], f.rows, []⟩ : Gfun_finder)).t).Starts).length ∧ Own H' Z' (fz (Rep.sl fStr.rep) v_37 f2.ends :: fz (Rep.sl fGArc.rep) v_36 f2.from' :: fz fGArc.rep v_35 f2.t.Arcs :: fz fGTip.rep v_34 f2.t.Ends :: fz fGTip.rep v_33 f2.t.Starts :: tbl (aggOf (fTwo fInt)) (Value.int .i64) b_40 f2.seen :: box b_1 [.int .i64 f2.t.States, v_33, v_34, v_35, v_36, v_37, .map (some b_38), v_39, .map (some b_40)] 60 :: tbl (aggOf (fTwo fInt)) (aggOf fGfun_tail) b_38 f2.on' :: own fGfun_box_whittle_fun_place 86 v_39 f2.rows :: fz fGTip.rep v_17 (((nTails (⟨f.t, f.from', f.ends, [], f.rows, []⟩ : Gfun_finder)).t).Starts) :: inZ Z :: L)) _ _ (a_c 0 rfl (a_c 28 rfl (a_c 29 rfl (a_c 30 rfl a_n)))) ⟨(⟨((nTails (⟨f.t, f.from', f.ends, [], f.rows, []⟩ : Gfun_finder)).t), (nTails (⟨f.t, f.from', f.ends, [], f.rows, []⟩ : Gfun_finder)).from', (nTails (⟨f.t, f.from', f.ends, [], f.rows, []⟩ : Gfun_finder)).ends, (nTails (⟨f.t, f.from', f.ends, [], f.rows, []⟩ : Gfun_finder)).on', (nTails (⟨f.t, f.from', f.ends, [], f.rows, []⟩ : Gfun_finder)).rows, []⟩ : Gfun_finder), 0, v_17, v_19, v_21, v_23, v_25, b_27, v_28, b_30, _, rfl, rfl, h, by omega, (Own.sel (Ls := [_, _, _, _, _, _, _, _, _, _, _, _, _, _, _, _]) (L := L) [9, 8, 7, 6, 5, 1, 2, 3, 4, 0, 15] rfl ((Fz.of (i := 4) rfl).item hO))⟩ ?_
 rintro _ _ H_44 ⟨f2, k, v_33, v_34, v_35, v_36, v_37, b_38, v_39, b_40, Z_45, rfl, rfl, h, hb_46, hO⟩
 replace h := hI_43 f2 k h hb_46
 refine hw_seq (hw_region (hl_v (v_lss rfl rfl) rfl (hl_nil (thenQ_n (hw_seq (hw_cond rfl (fun hc_47 => ?_) (fun hc_47 => ?_)))))))
 ·replace h := ite_t h hc_47
  refine hw_skip (thenQ_n (hw_seq (hw_block (hw_seq (hw_region (hl_v (v_ixL underlying22 sizeOf50 rfl rfl (hO.fsl 9 rfl) (by exact ⟨Int.natCast_nonneg _, of_decide_eq_true hc_47⟩)) rfl (hl_v (v_loadFl isAgg50 sizeOf50 rfl (hO.fsl 9 rfl) rfl (by exact ⟨Int.natCast_nonneg _, of_decide_eq_true hc_47⟩)) rfl (hl_h (o_alloc (cs := (fGTip.enc (⟨(0 : Int), ([] : List UInt8)⟩ : GTip))) hO zeroValue50 rfl) rfl ?_))))))))
  rintro _ H_48 ⟨b_49, rfl, hO⟩
  refine hl_s (o_storeA (us := (fGTip.enc (zz19 f k))) hO 0 rfl sizeOf50 rfl rfl rfl rfl (by intro u hu; exact (fGTip).one _ u hu)) ?_
  rintro _ H_50 hO
  refine hl_nil (thenQ_n (hw_seq (hw_region (hl_v (v_move rfl) rfl (hl_v (v_nilCheck rfl) rfl (hl_v (v_fieldA underlying60 rfl sizeOf25 rfl) rfl (hl_v (v_fieldA underlying25 rfl sizeOf22 rfl) rfl (hl_v (v_load1 isAgg22 rfl (Blk.cell (hO.box 7 rfl) rfl)) rfl ?_))))))))
  have hln_51 := Sl.cap (hO.fsl 5 rfl)
  refine hl_v (v_lenL rfl underlying22 rfl (hO.fsl 5 rfl)) rfl (hl_v (v_move rfl) rfl (hl_nil (thenQ_n (hw_sub _ (a_c 0 rfl (a_c 5 rfl (a_c 28 rfl (a_c 29 rfl (a_c 30 rfl (a_c 38 rfl (a_c 39 rfl (a_c 40 rfl a_n)))))))) (hw_block ?_)))))
  obtain ⟨I_60, h, hI_62⟩ := h
  refine hw_lp (fun n' g' H' => ∃ (f3 : Gfun_finder) (k2 : Nat) (v_52 : Value) (v_53 : Value) (v_54 : Value) (v_55 : Value) (v_56 : Value) (b_57 : Nat) (v_58 : Value) (b_59 : Nat) (Z' : Nat → Prop), n' = f2.t.Starts.length - k2 ∧ g' = [(0, ptr b_1 0), (5, ptr b_49 0), (28, v_17), (29, .int .i64 ((((nTails (⟨f.t, f.from', f.ends, [], f.rows, []⟩ : Gfun_finder)).t).Starts).length : Int)), (30, .int .i64 (k : Int)), (38, v_33), (39, .int .i64 (f2.t.Starts.length : Int)), (40, .int .i64 (k2 : Int))] ∧ I_60 f3 k2 ∧ k2 ≤ f2.t.Starts.length ∧ Own H' Z' (fz (Rep.sl fStr.rep) v_56 f3.ends :: fz (Rep.sl fGArc.rep) v_55 f3.from' :: fz fGArc.rep v_54 f3.t.Arcs :: fz fGTip.rep v_53 f3.t.Ends :: fz fGTip.rep v_52 f3.t.Starts :: box b_49 (fGTip.enc (zz19 f k)) 50 :: fz fGTip.rep v_33 f2.t.Starts :: tbl (aggOf (fTwo fInt)) (Value.int .i64) b_59 f3.seen :: box b_1 [.int .i64 f3.t.States, v_52, v_53, v_54, v_55, v_56, .map (some b_57), v_58, .map (some b_59)] 60 :: tbl (aggOf (fTwo fInt)) (aggOf fGfun_tail) b_57 f3.on' :: own fGfun_box_whittle_fun_place 86 v_58 f3.rows :: fz fGTip.rep v_17 (((nTails (⟨f.t, f.from', f.ends, [], f.rows, []⟩ : Gfun_finder)).t).Starts) :: inZ Z :: L)) _ _ (a_c 0 rfl (a_c 5 rfl (a_c 28 rfl (a_c 29 rfl (a_c 30 rfl (a_c 38 rfl (a_c 39 rfl (a_c 40 rfl a_n)))))))) ⟨f2, 0, v_33, v_34, v_35, v_36, v_37, b_38, v_39, b_40, _, rfl, rfl, h, by omega, (Own.sel (Ls := [_, _, _, _, _, _, _, _, _, _, _, _, _]) (L := L) [2, 3, 4, 5, 6, 1, 0, 7, 8, 9, 10, 11, 12] rfl ((Fz.of (i := 5) rfl).item hO))⟩ ?_
  rintro _ _ H_63 ⟨f3, k2, v_52, v_53, v_54, v_55, v_56, b_57, v_58, b_59, Z_64, rfl, rfl, h, hb_65, hO⟩
  replace h := hI_62 f3 k2 h hb_65
  refine hw_seq (hw_region (hl_v (v_lss rfl rfl) rfl (hl_nil (thenQ_n (hw_seq (hw_cond rfl (fun hc_66 => ?_) (fun hc_66 => ?_)))))))
  ·replace h := ite_t h hc_66
   refine hw_skip (thenQ_n (hw_seq (hw_block (hw_seq (hw_region (hl_v (v_ixL underlying22 sizeOf50 rfl rfl (hO.fsl 6 rfl) (by exact ⟨Int.natCast_nonneg _, of_decide_eq_true hc_66⟩)) rfl (hl_v (v_loadFl isAgg50 sizeOf50 rfl (hO.fsl 6 rfl) rfl (by exact ⟨Int.natCast_nonneg _, of_decide_eq_true hc_66⟩)) rfl (hl_h (o_alloc (cs := (fGTip.enc (⟨(0 : Int), ([] : List UInt8)⟩ : GTip))) hO zeroValue50 rfl) rfl ?_))))))))
   rintro _ H_67 ⟨b_68, rfl, hO⟩
   refine hl_s (o_storeA (us := (fGTip.enc (f2.t.Starts.getD k2 default))) hO 0 rfl sizeOf50 rfl rfl rfl rfl (by intro u hu; exact (fGTip).one _ u hu)) ?_
   rintro _ H_69 hO
   refine hl_nil (thenQ_n (hw_region (hl_v (v_move rfl) rfl (hl_v (v_fieldA underlying50 rfl sizeOf3 rfl) rfl (hl_v (v_load1 isAgg3 rfl (Blk.cell (hO.box 6 rfl) rfl)) rfl (hl_v (v_fieldA underlying50 rfl sizeOf3 rfl) rfl (hl_v (v_load1 isAgg3 rfl (Blk.cell (hO.box 0 rfl) rfl)) rfl (hl_v (v_buildTwo underlying79 zeroValue79 rfl sizeOf3 rfl rfl) rfl (hl_v (v_fieldA underlying50 rfl sizeOf9 rfl) rfl (hl_v (v_load1 isAgg9 rfl (Blk.cell (hO.box 6 rfl) rfl)) rfl (hl_v (v_fieldA underlying50 rfl sizeOf9 rfl) rfl (hl_v (v_load1 isAgg9 rfl (Blk.cell (hO.box 0 rfl) rfl)) rfl ?_))))))))))))
   obtain ⟨hs_70, h⟩ := h
   refine hl_h (h_call call29 (evs_cons rfl (evs_cons rfl (evs_cons rfl (evs_cons rfl (evs_cons (show _ = some (.int .i64 (-1)) from rfl) (evs_cons (show _ = some (.int .u8 0) from rfl) evs_nil)))))) (funPush_spec (a0 := f3) (a1 := ((zz19 f k).State, (f2.t.Starts.getD k2 default).State)) (a2 := (zz19 f k).Out) (a3 := (f2.t.Starts.getD k2 default).Out) (a4 := (-1)) (a5 := 0) (L := box b_68 (fGTip.enc (f2.t.Starts.getD k2 default)) 50 :: fz (Rep.sl fStr.rep) v_56 f3.ends :: fz (Rep.sl fGArc.rep) v_55 f3.from' :: fz fGArc.rep v_54 f3.t.Arcs :: fz fGTip.rep v_53 f3.t.Ends :: fz fGTip.rep v_52 f3.t.Starts :: box b_49 (fGTip.enc (zz19 f k)) 50 :: fz fGTip.rep v_33 f2.t.Starts :: fz fGTip.rep v_17 (((nTails (⟨f.t, f.from', f.ends, [], f.rows, []⟩ : Gfun_finder)).t).Starts) :: inZ Z :: L) hs_70 (Own.sel (Ls := [_, _, _, _, _, _, _, _, _, _, _, _, _, _]) (L := L) [9, 10, 11, 8, 0, 1, 2, 3, 4, 5, 6, 7, 12, 13] rfl hO) (Fz.of (i := 5) rfl) (Fz.of (i := 4) rfl) (Fz.of (i := 3) rfl) (Fz.of (i := 2) rfl) (Fz.of (i := 1) rfl))) rfl ?_
   rintro _ H_71 ⟨Z_72, v_74, v_76, v_78, v_80, v_82, v_85, b_84, b_86, _, rfl, hO⟩
   refine hl_nil (blockQ_n (thenQ_n (hw_region (hl_v (v_add rfl rfl (by have hq := of_decide_eq_true hc_66; have hm := hln_51; constructor <;> omega)) rfl (hl_v (v_move rfl) rfl (hl_nil (thenQ_n ?_)))))))
   exact ⟨_, _, (a_c 0 rfl (a_c 5 rfl (a_c 28 rfl (a_c 29 rfl (a_c 30 rfl (a_c 38 rfl (a_c 39 rfl (a_c 40 rfl a_n)))))))), ⟨(nPush ((zz19 f k).State, (f2.t.Starts.getD k2 default).State) ((zz19 f k).Out) ((f2.t.Starts.getD k2 default).Out) (-1) 0 f3), k2 + 1, v_74, v_76, v_78, v_80, v_82, b_84, v_85, b_86, _, rfl, rfl, h, (by have hq := of_decide_eq_true hc_66; omega), (Own.sel (Ls := [_, _, _, _, _, _, _, _, _, _, _, _, _, _, _, _, _, _, _]) (L := L) [8, 7, 6, 5, 4, 15, 16, 3, 0, 1, 2, 17, 18] rfl hO)⟩, (by have hq := of_decide_eq_true hc_66; omega)⟩
  ·replace h := ite_f h hc_66
   refine hw_exit (thenQ_e (thenQ_e (blockQ_hit (blockQ_n (thenQ_n (hw_region (hl_v (v_add rfl rfl (by have hq := of_decide_eq_true hc_47; have hm := hln_32; constructor <;> omega)) rfl (hl_v (v_move rfl) rfl (hl_nil (thenQ_n ?_))))))))))
   exact ⟨_, _, (a_c 0 rfl (a_c 28 rfl (a_c 29 rfl (a_c 30 rfl a_n)))), ⟨f3, k + 1, v_52, v_53, v_54, v_55, v_56, b_57, v_58, b_59, _, rfl, rfl, h, (by have hq := of_decide_eq_true hc_47; omega), (Own.sel (Ls := [_, _, _, _, _, _, _, _, _, _, _, _, _]) (L := L) [0, 1, 2, 3, 4, 7, 8, 9, 10, 11, 12] rfl hO)⟩, (by have hq := of_decide_eq_true hc_47; omega)⟩
 ·replace h := ite_f h hc_47
  refine hw_exit (thenQ_e (thenQ_e (blockQ_hit (thenQ_n (hw_seq (hw_seq (hw_region (hl_v (v_assign rfl) rfl (hl_nil (thenQ_n (hw_block ?_)))))))))))
  obtain ⟨I_95, μ_96, h, hI_97⟩ := h
  refine hw_lp (fun n' g' H' => ∃ (f4 : Gfun_finder) (i : Int) (v_87 : Value) (v_88 : Value) (v_89 : Value) (v_90 : Value) (v_91 : Value) (b_92 : Nat) (v_93 : Value) (b_94 : Nat) (Z' : Nat → Prop), n' = μ_96 f4 i ∧ g' = [(0, ptr b_1 0), (8, .int .i64 i)] ∧ I_95 f4 i ∧ Own H' Z' (fz (Rep.sl fStr.rep) v_91 f4.ends :: fz (Rep.sl fGArc.rep) v_90 f4.from' :: fz fGArc.rep v_89 f4.t.Arcs :: fz fGTip.rep v_88 f4.t.Ends :: fz fGTip.rep v_87 f4.t.Starts :: tbl (aggOf (fTwo fInt)) (Value.int .i64) b_94 f4.seen :: box b_1 [.int .i64 f4.t.States, v_87, v_88, v_89, v_90, v_91, .map (some b_92), v_93, .map (some b_94)] 60 :: tbl (aggOf (fTwo fInt)) (aggOf fGfun_tail) b_92 f4.on' :: own fGfun_box_whittle_fun_place 86 v_93 f4.rows :: inZ Z :: L)) _ _ (a_c 0 rfl (a_c 8 rfl a_n)) ⟨f2, 0, v_33, v_34, v_35, v_36, v_37, b_38, v_39, b_40, _, rfl, rfl, h, (Own.sel (Ls := [_, _, _, _, _, _, _, _, _, _, _]) (L := L) [0, 1, 2, 3, 4, 5, 6, 7, 8, 10] rfl hO)⟩ ?_
  rintro _ _ H_98 ⟨f4, i, v_87, v_88, v_89, v_90, v_91, b_92, v_93, b_94, Z_99, rfl, rfl, h, hO⟩
  replace h := hI_97 f4 i h
  refine hw_seq (hw_seq (hw_region (hl_v (v_move rfl) rfl (hl_v (v_move rfl) rfl (hl_v (v_nilCheck rfl) rfl (hl_v (v_fieldA underlying60 rfl sizeOf57 rfl) rfl (hl_v (v_load1 isAgg57 rfl (Blk.cell (hO.box 6 rfl) rfl)) rfl ?_)))))))
  have hln_101 := Sl.cap (hO.osl 8 rfl)
  refine hl_v (v_lenL rfl underlying57 rfl (hO.osl 8 rfl)) rfl (hl_v (v_lss rfl rfl) rfl (hl_nil (thenQ_n (hw_cond rfl (fun hc_102 => ?_) (fun hc_102 => ?_)))))
  ·replace h := ite_t h hc_102
   refine hw_skip (thenQ_n (hw_seq (hw_block (hw_seq (hw_seq (hw_region (hl_v (v_move rfl) rfl (hl_v (v_move rfl) rfl ?_))))))))
   obtain ⟨hs_103, h⟩ := h
   refine hl_h (h_call call30 (evs_cons rfl (evs_cons rfl evs_nil)) (funWrong_spec (a0 := f4) (a1 := i) hs_103 hO (Fz.of (i := 4) rfl) (Fz.of (i := 3) rfl) (Fz.of (i := 2) rfl) (Fz.of (i := 1) rfl) (Fz.of (i := 0) rfl) (Tb.of (i := 7) rfl) (Rd.of_own (i := 8) rfl) (Tb.of (i := 5) rfl) (Bx.of (i := 6) rfl))) rfl ?_
   rintro _ H_104 ⟨Z_105, _, rfl, hO⟩
   refine hl_v (v_move rfl) rfl (hl_v (v_extract rfl rfl) rfl (hl_v (v_extract rfl rfl) rfl (hl_v (v_assign rfl) rfl (hl_v (v_assign rfl) rfl (hl_nil (thenQ_n (hw_sub _ (a_c 0 rfl (a_c 8 rfl (a_c 9 rfl (a_c 10 rfl a_n)))) (hw_seq (hw_region (hl_v (v_move rfl) rfl (hl_nil (thenQ_n (hw_cond rfl (fun hc_107 => ?_) (fun hc_107 => ?_))))))))))))))
   ·replace h := ite_t h hc_107
    refine hw_seq (hw_region (hl_v (v_move rfl) rfl (hl_v (v_assign rfl) rfl (hl_v (v_assign rfl) rfl (hl_nil (thenQ_n (hw_ret (thenQ_r (blockQ_r (thenQ_r (thenQ_r (blockQ_r (thenQ_r (ret_i _ (ra_t rfl (ra_t rfl ra_nil)) ?_))))))))))))))
    exact ⟨_, (nWrong f4 i).1, true, (hO.inz 9 rfl), h, rfl, (Own.sel (Ls := [_, _, _, _, _, _, _, _, _, _]) (L := L) [] rfl hO)⟩
   ·replace h := ite_f h hc_107
    refine hw_skip (thenQ_n (hw_seq (hw_region (hl_v (v_move rfl) rfl (hl_v (v_nilCheck rfl) rfl (hl_v (v_fieldA underlying60 rfl sizeOf57 rfl) rfl (hl_v (v_load1 isAgg57 rfl (Blk.cell (hO.box 6 rfl) rfl)) rfl (hl_v (v_move rfl) rfl ?_))))))))
    obtain ⟨hs_108, h⟩ := h
    refine hl_v (v_ixL underlying57 sizeOf86 rfl rfl (hO.osl 8 rfl) hs_108) rfl (hl_v (v_fieldA underlying86 rfl sizeOf84 rfl) rfl (hl_v (v_loadSubA (o := 0) isAgg84 sizeOf84 rfl (hO.osl 8 rfl) rfl hs_108 rfl) rfl (hl_h (o_alloc (cs := (fGfun_place.enc (⟨((0 : Int), (0 : Int)), (⟨([] : List UInt8), ([] : List UInt8)⟩ : Gfun_lag)⟩ : Gfun_place))) hO zeroValue84 rfl) rfl ?_)))
    rintro _ H_109 ⟨b_110, rfl, hO⟩
    refine hl_s (o_storeA (us := (fGfun_place.enc ((f4.rows.getD i.toNat default).it))) hO 0 rfl sizeOf84 rfl rfl rfl rfl (by intro u hu; exact (fGfun_place).one _ u hu)) ?_
    rintro _ H_111 hO
    refine hl_nil (thenQ_n (hw_seq (hw_seq (hw_quiet Tryz.mixed (by kernel_rfl) (hq_v (v_move rfl) rfl (hq_v (v_nilCheck rfl) rfl (hq_v (v_fieldA underlying60 rfl sizeOf58 rfl) rfl (hq_v (v_load1 isAgg58 rfl (Blk.cell (hO.box 7 rfl) rfl)) rfl (hq_v (v_fieldA underlying84 rfl sizeOf79 rfl) rfl (hq_v (v_loadA (cs := ((fTwo fInt).enc (((f4.rows.getD i.toNat default).it).at'))) isAgg79 sizeOf79 rfl (Blk.sub (n := 2) (hO.box 0 rfl) rfl) rfl) rfl (hq_v (v_lookup2 (d := (0 : Int)) (keyTwo underlying79 underlying3 sizeOf3 isAgg3) rfl underlying58 zeroValue3 rfl rfl (hO.tbl 6 rfl)) rfl (hq_v (v_move rfl) rfl (hq_v (v_extract rfl rfl) rfl (hq_v (v_extract rfl rfl) rfl (hq_v (v_assign rfl) rfl (hq_v (v_assign rfl) rfl (hq_nil (thenQ_n (hw_sub _ (a_c 0 rfl (a_c 8 rfl (a_c 11 rfl (a_c 13 rfl a_n)))) (hw_seq (hw_region (hl_v (v_move rfl) rfl (hl_nil (thenQ_n (hw_cond rfl (fun hc_112 => ?_) (fun hc_112 => ?_))))))))))))))))))))))))))
    ·replace h := ite_t h hc_112
     refine hw_exit (thenQ_e (blockQ_hit (thenQ_n (hw_region (hl_v (v_move rfl) rfl ?_)))))
     obtain ⟨hs_113, h⟩ := h
     refine hl_v (v_add rfl rfl hs_113) rfl (hl_v (v_assign rfl) rfl (hl_nil (thenQ_n ?_)))
     exact ⟨_, _, (a_c 0 rfl (a_c 8 rfl a_n)), ⟨f4, (i + 1), v_87, v_88, v_89, v_90, v_91, b_92, v_93, b_94, _, rfl, rfl, h.1, (Own.sel (Ls := [_, _, _, _, _, _, _, _, _, _, _]) (L := L) [1, 2, 3, 4, 5, 6, 7, 8, 9, 10] rfl hO)⟩, h.2⟩
    ·replace h := ite_f h hc_112
     refine hw_skip (thenQ_n (hw_seq (hw_held2 7 (fun H' => ∃ Z' : Nat → Prop, Own H' Z' (box b_110 (fGfun_place.enc ((f4.rows.getD i.toNat default).it)) 84 :: fz (Rep.sl fStr.rep) v_91 f4.ends :: fz (Rep.sl fGArc.rep) v_90 f4.from' :: fz fGArc.rep v_89 f4.t.Arcs :: fz fGTip.rep v_88 f4.t.Ends :: fz fGTip.rep v_87 f4.t.Starts :: tbl (aggOf (fTwo fInt)) (Value.int .i64) b_94 f4.seen :: box b_1 [.int .i64 f4.t.States, v_87, v_88, v_89, v_90, v_91, .map (some b_92), v_93, .map (some b_94)] 60 :: tbl (aggOf (fTwo fInt)) (aggOf fGfun_tail) b_92 f4.on' :: own fGfun_box_whittle_fun_place 86 v_93 f4.rows :: inZ Z :: L)) (.step 0 false (.step 1 false (.step 2 false (.step 3 false (.step 4 false (.step 5 false (.step 6 false .done))))))) (.step 7 true .done) Tryz.mixed (by kernel_rfl) ⟨_, hO⟩ (hd_v rfl (fun _ _ => (v_move rfl)) rfl (hd_v rfl (fun _ _ => (v_nilCheck rfl)) rfl (hd_v rfl (fun _ _ => (v_fieldA underlying60 rfl sizeOf58 rfl)) rfl (hd_v rfl (fun H' hS => by obtain ⟨Z', hO⟩ := hS; exact (v_load1 isAgg58 rfl (Blk.cell (hO.box 7 rfl) rfl))) rfl (hd_v rfl (fun _ _ => (v_fieldA underlying84 rfl sizeOf79 rfl)) rfl (hd_v rfl (fun H' hS => by obtain ⟨Z', hO⟩ := hS; exact (v_loadA (cs := ((fTwo fInt).enc (((f4.rows.getD i.toNat default).it).at'))) isAgg79 sizeOf79 rfl (Blk.sub (n := 2) (hO.box 0 rfl) rfl) rfl)) rfl (hd_v rfl (fun _ _ => (v_move rfl)) rfl (hd_nil (hd_s (o_mapUpdate (k := ((f4.rows.getD i.toNat default).it).at') (v := i) hO 6 rfl (keyTwo underlying79 underlying3 sizeOf3 isAgg3) rfl underlying58 rfl rfl rfl) (fun _ _ _ => trivial) ?_))))))))))))
     rintro _ H_114 hO
     refine hd_nil (thenQ_n (hw_seq (hw_quiet Tryz.mixed (by kernel_rfl) (hq_v (v_move rfl) rfl (hq_v (v_nilCheck rfl) rfl (hq_v (v_fieldA underlying60 rfl sizeOf53 rfl) rfl (hq_v (v_load1 isAgg53 rfl (Blk.cell (hO.box 7 rfl) rfl)) rfl (hq_v (v_fieldA underlying84 rfl sizeOf79 rfl) rfl (hq_v (v_ixA underlying79 sizeOf3 rfl rfl (by decide)) rfl (hq_v (v_load1 isAgg3 rfl (Blk.cell (hO.box 0 rfl) rfl)) rfl ?_))))))))))
     obtain ⟨hs_115, h⟩ := h
     refine hq_v (v_ixL underlying53 sizeOf23 rfl rfl (hO.fsl 2 rfl) hs_115) rfl ?_
     obtain ⟨v_116, ha_118, he_117⟩ := sl_row (hO.fsl 2 rfl) hs_115
     replace hO := Sl.item he_117 hO
     refine hq_v (v_load1 isAgg23 rfl ha_118) rfl ?_
     have hln_119 := Sl.cap (hO.fsl 0 rfl)
     refine hq_v (v_lenL rfl underlying23 rfl (hO.fsl 0 rfl)) rfl (hq_v (v_move rfl) rfl (hq_nil (thenQ_n (hw_sub _ (a_c 0 rfl (a_c 8 rfl (a_c 11 rfl (a_c 108 rfl (a_c 109 rfl (a_c 110 rfl a_n)))))) (hw_block ?_)))))
     obtain ⟨I_128, h, hI_130⟩ := h
     refine hw_lp (fun n' g' H' => ∃ (f5 : Gfun_finder) (k3 : Nat) (v_120 : Value) (v_121 : Value) (v_122 : Value) (v_123 : Value) (v_124 : Value) (b_125 : Nat) (v_126 : Value) (b_127 : Nat) (Z' : Nat → Prop), n' = (f4.from'.getD ((((f4.rows.getD i.toNat default).it).at').1).toNat default).length - k3 ∧ g' = [(0, ptr b_1 0), (8, .int .i64 i), (11, ptr b_110 0), (108, v_116), (109, .int .i64 ((f4.from'.getD ((((f4.rows.getD i.toNat default).it).at').1).toNat default).length : Int)), (110, .int .i64 (k3 : Int))] ∧ I_128 f5 k3 ∧ k3 ≤ (f4.from'.getD ((((f4.rows.getD i.toNat default).it).at').1).toNat default).length ∧ Own H' Z' (fz (Rep.sl fStr.rep) v_124 f5.ends :: fz (Rep.sl fGArc.rep) v_123 f5.from' :: fz fGArc.rep v_122 f5.t.Arcs :: fz fGTip.rep v_121 f5.t.Ends :: fz fGTip.rep v_120 f5.t.Starts :: fz fGArc.rep v_116 (f4.from'.getD ((((f4.rows.getD i.toNat default).it).at').1).toNat default) :: box b_110 (fGfun_place.enc ((f4.rows.getD i.toNat default).it)) 84 :: tbl (aggOf (fTwo fInt)) (Value.int .i64) b_127 f5.seen :: box b_1 [.int .i64 f5.t.States, v_120, v_121, v_122, v_123, v_124, .map (some b_125), v_126, .map (some b_127)] 60 :: tbl (aggOf (fTwo fInt)) (aggOf fGfun_tail) b_125 f5.on' :: own fGfun_box_whittle_fun_place 86 v_126 f5.rows :: inZ Z :: L)) _ _ (a_c 0 rfl (a_c 8 rfl (a_c 11 rfl (a_c 108 rfl (a_c 109 rfl (a_c 110 rfl a_n)))))) ⟨(⟨f4.t, f4.from', f4.ends, f4.on', f4.rows, (aput f4.seen (((f4.rows.getD i.toNat default).it).at') i)⟩ : Gfun_finder), 0, v_87, v_88, v_89, v_90, v_91, b_92, v_93, b_94, _, rfl, rfl, h, by omega, (Own.sel (Ls := [_, _, _, _, _, _, _, _, _, _, _, _]) (L := L) [2, 3, 4, 5, 6, 0, 1, 7, 8, 9, 10, 11] rfl hO)⟩ ?_
     rintro _ _ H_131 ⟨f5, k3, v_120, v_121, v_122, v_123, v_124, b_125, v_126, b_127, Z_132, rfl, rfl, h, hb_133, hO⟩
     replace h := hI_130 f5 k3 h hb_133
     refine hw_seq (hw_region (hl_v (v_lss rfl rfl) rfl (hl_nil (thenQ_n (hw_seq (hw_cond rfl (fun hc_134 => ?_) (fun hc_134 => ?_)))))))
     ·replace h := ite_t h hc_134
      refine hw_skip (thenQ_n (hw_seq (hw_block (hw_seq (hw_region (hl_v (v_ixL underlying23 sizeOf39 rfl rfl (hO.fsl 5 rfl) (by exact ⟨Int.natCast_nonneg _, of_decide_eq_true hc_134⟩)) rfl (hl_v (v_loadFl isAgg39 sizeOf39 rfl (hO.fsl 5 rfl) rfl (by exact ⟨Int.natCast_nonneg _, of_decide_eq_true hc_134⟩)) rfl (hl_h (o_alloc (cs := (fGArc.enc (⟨(0 : Int), (0 : Int), BSet.zero, ([] : List UInt8), false⟩ : GArc))) hO zeroValue39 rfl) rfl ?_))))))))
      rintro _ H_135 ⟨b_136, rfl, hO⟩
      refine hl_s (o_storeA (us := (fGArc.enc (zz20 f4 i k3))) hO 0 rfl sizeOf39 rfl rfl rfl rfl (by intro u hu; exact (fGArc).one _ u hu)) ?_
      rintro _ H_137 hO
      refine hl_nil (thenQ_n (hw_seq (hw_quiet Tryz.mixed (by kernel_rfl) (hq_v (v_move rfl) rfl (hq_v (v_nilCheck rfl) rfl (hq_v (v_fieldA underlying60 rfl sizeOf53 rfl) rfl (hq_v (v_load1 isAgg53 rfl (Blk.cell (hO.box 9 rfl) rfl)) rfl (hq_v (v_fieldA underlying84 rfl sizeOf79 rfl) rfl (hq_v (v_ixA underlying79 sizeOf3 rfl rfl (by decide)) rfl (hq_v (v_load1 isAgg3 rfl (Blk.cell (hO.box 7 rfl) rfl)) rfl ?_))))))))))
      obtain ⟨hs_138, h⟩ := h
      refine hq_v (v_ixL underlying53 sizeOf23 rfl rfl (hO.fsl 2 rfl) hs_138) rfl ?_
      obtain ⟨v_139, ha_141, he_140⟩ := sl_row (hO.fsl 2 rfl) hs_138
      replace hO := Sl.item he_140 hO
      refine hq_v (v_load1 isAgg23 rfl ha_141) rfl ?_
      have hln_142 := Sl.cap (hO.fsl 0 rfl)
      refine hq_v (v_lenL rfl underlying23 rfl (hO.fsl 0 rfl)) rfl (hq_v (v_move rfl) rfl (hq_nil (thenQ_n (hw_sub _ (a_c 0 rfl (a_c 8 rfl (a_c 11 rfl (a_c 15 rfl (a_c 108 rfl (a_c 109 rfl (a_c 110 rfl (a_c 122 rfl (a_c 123 rfl (a_c 124 rfl a_n)))))))))) (hw_block ?_)))))
      obtain ⟨I_151, h, hI_153⟩ := h
      refine hw_lp (fun n' g' H' => ∃ (f6 : Gfun_finder) (k4 : Nat) (v_143 : Value) (v_144 : Value) (v_145 : Value) (v_146 : Value) (v_147 : Value) (b_148 : Nat) (v_149 : Value) (b_150 : Nat) (Z' : Nat → Prop), n' = (f5.from'.getD ((((f4.rows.getD i.toNat default).it).at').2).toNat default).length - k4 ∧ g' = [(0, ptr b_1 0), (8, .int .i64 i), (11, ptr b_110 0), (15, ptr b_136 0), (108, v_116), (109, .int .i64 ((f4.from'.getD ((((f4.rows.getD i.toNat default).it).at').1).toNat default).length : Int)), (110, .int .i64 (k3 : Int)), (122, v_139), (123, .int .i64 ((f5.from'.getD ((((f4.rows.getD i.toNat default).it).at').2).toNat default).length : Int)), (124, .int .i64 (k4 : Int))] ∧ I_151 f6 k4 ∧ k4 ≤ (f5.from'.getD ((((f4.rows.getD i.toNat default).it).at').2).toNat default).length ∧ Own H' Z' (fz (Rep.sl fStr.rep) v_147 f6.ends :: fz (Rep.sl fGArc.rep) v_146 f6.from' :: fz fGArc.rep v_145 f6.t.Arcs :: fz fGTip.rep v_144 f6.t.Ends :: fz fGTip.rep v_143 f6.t.Starts :: fz fGArc.rep v_139 (f5.from'.getD ((((f4.rows.getD i.toNat default).it).at').2).toNat default) :: box b_136 (fGArc.enc (zz20 f4 i k3)) 39 :: fz fGArc.rep v_116 (f4.from'.getD ((((f4.rows.getD i.toNat default).it).at').1).toNat default) :: box b_110 (fGfun_place.enc ((f4.rows.getD i.toNat default).it)) 84 :: tbl (aggOf (fTwo fInt)) (Value.int .i64) b_150 f6.seen :: box b_1 [.int .i64 f6.t.States, v_143, v_144, v_145, v_146, v_147, .map (some b_148), v_149, .map (some b_150)] 60 :: tbl (aggOf (fTwo fInt)) (aggOf fGfun_tail) b_148 f6.on' :: own fGfun_box_whittle_fun_place 86 v_149 f6.rows :: inZ Z :: L)) _ _ (a_c 0 rfl (a_c 8 rfl (a_c 11 rfl (a_c 15 rfl (a_c 108 rfl (a_c 109 rfl (a_c 110 rfl (a_c 122 rfl (a_c 123 rfl (a_c 124 rfl a_n)))))))))) ⟨f5, 0, v_120, v_121, v_122, v_123, v_124, b_125, v_126, b_127, _, rfl, rfl, h, by omega, (Own.sel (Ls := [_, _, _, _, _, _, _, _, _, _, _, _, _, _]) (L := L) [2, 3, 4, 5, 6, 0, 1, 7, 8, 9, 10, 11, 12, 13] rfl hO)⟩ ?_
      rintro _ _ H_154 ⟨f6, k4, v_143, v_144, v_145, v_146, v_147, b_148, v_149, b_150, Z_155, rfl, rfl, h, hb_156, hO⟩
      replace h := hI_153 f6 k4 h hb_156
      refine hw_seq (hw_region (hl_v (v_lss rfl rfl) rfl (hl_nil (thenQ_n (hw_seq (hw_cond rfl (fun hc_157 => ?_) (fun hc_157 => ?_)))))))
      ·replace h := ite_t h hc_157
       refine hw_skip (thenQ_n (hw_seq (hw_block (hw_seq (hw_region (hl_v (v_ixL underlying23 sizeOf39 rfl rfl (hO.fsl 5 rfl) (by exact ⟨Int.natCast_nonneg _, of_decide_eq_true hc_157⟩)) rfl (hl_v (v_loadFl isAgg39 sizeOf39 rfl (hO.fsl 5 rfl) rfl (by exact ⟨Int.natCast_nonneg _, of_decide_eq_true hc_157⟩)) rfl (hl_h (o_alloc (cs := (fGArc.enc (⟨(0 : Int), (0 : Int), BSet.zero, ([] : List UInt8), false⟩ : GArc))) hO zeroValue39 rfl) rfl ?_))))))))
       rintro _ H_158 ⟨b_159, rfl, hO⟩
       refine hl_s (o_storeA (us := (fGArc.enc ((f5.from'.getD ((((f4.rows.getD i.toNat default).it).at').2).toNat default).getD k4 default))) hO 0 rfl sizeOf39 rfl rfl rfl rfl (by intro u hu; exact (fGArc).one _ u hu)) ?_
       rintro _ H_160 hO
       refine hl_nil (thenQ_n (hw_region (hl_v (v_move rfl) rfl (hl_v (v_move rfl) rfl (hl_v (v_loadA isAgg39 sizeOf39 rfl (Blk.at0 (hO.box 7 rfl)) rfl) rfl (hl_v (v_loadA isAgg39 sizeOf39 rfl (Blk.at0 (hO.box 0 rfl)) rfl) rfl ?_))))))
       obtain ⟨hs_161, h⟩ := h
       refine hl_h (h_call call31 (evs_cons rfl (evs_cons rfl (evs_cons rfl (evs_cons rfl evs_nil)))) (funStep_spec (a0 := f6) (a1 := i) (a2 := (zz20 f4 i k3)) (a3 := ((f5.from'.getD ((((f4.rows.getD i.toNat default).it).at').2).toNat default).getD k4 default)) (L := box b_159 (fGArc.enc ((f5.from'.getD ((((f4.rows.getD i.toNat default).it).at').2).toNat default).getD k4 default)) 39 :: fz (Rep.sl fStr.rep) v_147 f6.ends :: fz (Rep.sl fGArc.rep) v_146 f6.from' :: fz fGArc.rep v_145 f6.t.Arcs :: fz fGTip.rep v_144 f6.t.Ends :: fz fGTip.rep v_143 f6.t.Starts :: fz fGArc.rep v_139 (f5.from'.getD ((((f4.rows.getD i.toNat default).it).at').2).toNat default) :: box b_136 (fGArc.enc (zz20 f4 i k3)) 39 :: fz fGArc.rep v_116 (f4.from'.getD ((((f4.rows.getD i.toNat default).it).at').1).toNat default) :: box b_110 (fGfun_place.enc ((f4.rows.getD i.toNat default).it)) 84 :: inZ Z :: L) hs_161 (Own.sel (Ls := [_, _, _, _, _, _, _, _, _, _, _, _, _, _, _]) (L := L) [11, 12, 13, 10, 0, 1, 2, 3, 4, 5, 6, 7, 8, 9, 14] rfl hO) (Fz.of (i := 5) rfl) (Fz.of (i := 4) rfl) (Fz.of (i := 3) rfl) (Fz.of (i := 2) rfl) (Fz.of (i := 1) rfl))) rfl ?_
       rintro _ H_162 ⟨Z_163, v_165, v_167, v_169, v_171, v_173, v_176, b_175, b_177, _, rfl, hO⟩
       refine hl_nil (blockQ_n (thenQ_n (hw_region (hl_v (v_add rfl rfl (by have hq := of_decide_eq_true hc_157; have hm := hln_142; constructor <;> omega)) rfl (hl_v (v_move rfl) rfl (hl_nil (thenQ_n ?_)))))))
       exact ⟨_, _, (a_c 0 rfl (a_c 8 rfl (a_c 11 rfl (a_c 15 rfl (a_c 108 rfl (a_c 109 rfl (a_c 110 rfl (a_c 122 rfl (a_c 123 rfl (a_c 124 rfl a_n)))))))))), ⟨(nStp i (zz20 f4 i k3) ((f5.from'.getD ((((f4.rows.getD i.toNat default).it).at').2).toNat default).getD k4 default) f6), k4 + 1, v_165, v_167, v_169, v_171, v_173, b_175, v_176, b_177, _, rfl, rfl, h, (by have hq := of_decide_eq_true hc_157; omega), (Own.sel (Ls := [_, _, _, _, _, _, _, _, _, _, _, _, _, _, _, _, _, _, _, _]) (L := L) [8, 7, 6, 5, 4, 15, 16, 17, 18, 3, 0, 1, 2, 19] rfl hO)⟩, (by have hq := of_decide_eq_true hc_157; omega)⟩
      ·replace h := ite_f h hc_157
       refine hw_exit (thenQ_e (thenQ_e (blockQ_hit (blockQ_n (thenQ_n (hw_region (hl_v (v_add rfl rfl (by have hq := of_decide_eq_true hc_134; have hm := hln_119; constructor <;> omega)) rfl (hl_v (v_move rfl) rfl (hl_nil (thenQ_n ?_))))))))))
       exact ⟨_, _, (a_c 0 rfl (a_c 8 rfl (a_c 11 rfl (a_c 108 rfl (a_c 109 rfl (a_c 110 rfl a_n)))))), ⟨f6, k3 + 1, v_143, v_144, v_145, v_146, v_147, b_148, v_149, b_150, _, rfl, rfl, h, (by have hq := of_decide_eq_true hc_134; omega), (Own.sel (Ls := [_, _, _, _, _, _, _, _, _, _, _, _, _, _]) (L := L) [0, 1, 2, 3, 4, 7, 8, 9, 10, 11, 12, 13] rfl hO)⟩, (by have hq := of_decide_eq_true hc_134; omega)⟩
     ·replace h := ite_f h hc_134
      refine hw_exit (thenQ_e (thenQ_e (blockQ_hit (blockQ_n (thenQ_n (hw_region (hl_v (v_move rfl) rfl ?_)))))))
      obtain ⟨hs_178, h⟩ := h
      refine hl_v (v_add rfl rfl hs_178) rfl (hl_v (v_assign rfl) rfl (hl_nil (thenQ_n ?_)))
      exact ⟨_, _, (a_c 0 rfl (a_c 8 rfl a_n)), ⟨f5, (i + 1), v_120, v_121, v_122, v_123, v_124, b_125, v_126, b_127, _, rfl, rfl, h.1, (Own.sel (Ls := [_, _, _, _, _, _, _, _, _, _, _, _]) (L := L) [0, 1, 2, 3, 4, 7, 8, 9, 10, 11] rfl hO)⟩, h.2⟩
  ·replace h := ite_f h hc_102
   refine hw_exit (thenQ_e (thenQ_e (blockQ_hit (thenQ_n (hw_seq (hw_region (hl_v (v_assign rfl) rfl (hl_v (v_assign rfl) rfl (hl_nil (thenQ_n (hw_ret (ret_i _ (ra_t rfl (ra_t rfl ra_nil)) ?_))))))))))))
   exact ⟨_, [], false, (hO.inz 9 rfl), h, rfl, (Own.sel (Ls := [_, _, _, _, _, _, _, _, _, _]) (L := L) [] rfl hO)⟩
theorem funFind_spec {a0 : Gfun_finder} {v_2 : Value} {v_4 : Value} {v_6 : Value} {v_8 : Value} {v_10 : Value} {v_12 : Value} {b_1 : Nat} {L : List As} (hp : a0.rows = [] ∧ FdrOk a0.t a0.from' a0.ends) {H : Heap} {Z : Nat → Prop} (hO : Own H Z (box b_1 [.int .i64 a0.t.States, v_2, v_4, v_6, v_8, v_10, .map none, v_12, .map none] 60 :: own fGfun_box_whittle_fun_place 86 v_12 a0.rows :: L)) (hf_3 : Fz fGTip.rep L v_2 a0.t.Starts) (hf_5 : Fz fGTip.rep L v_4 a0.t.Ends) (hf_7 : Fz fGArc.rep L v_6 a0.t.Arcs) (hf_9 : Fz (Rep.sl fGArc.rep) L v_8 a0.from') (hf_11 : Fz (Rep.sl fStr.rep) L v_10 a0.ends) : HC Tryz.prog 16 [ptr b_1 0] H (fun v H' => ∃ (Z' : Nat → Prop) , (∀ b, Z b → Z' b) ∧ v = .tuple #[str ((nFind a0).1), .bool ((nFind a0).2)] ∧ Own H' Z' (L)) := by
  refine (funFind_ok (f := a0) (@funFind_wp a0 hp) hO hf_3 hf_5 hf_7 hf_9 hf_11).mono ?_
  rintro v H' ⟨Z', r0, r1, hz, hq, hv, hO'⟩
  obtain ⟨rfl, rfl⟩ := hq
  exact ⟨Z', hz, hv, hO'⟩
theorem funTwo_ok {t : GFst} {v_1 : Value} {v_3 : Value} {v_5 : Value} {Q : (List UInt8) → Bool → Int → Prop} {H : Heap} {Z : Nat → Prop} {L : List As} (h : wp_funTwo t Q) (hO : Own H Z (L)) (hf_2 : Fz fGTip.rep L v_1 t.Starts) (hf_4 : Fz fGTip.rep L v_3 t.Ends) (hf_6 : Fz fGArc.rep L v_5 t.Arcs) : HC Tryz.prog 7 [.agg [.int .i64 t.States, v_1, v_3, v_5].toArray] H (fun v H' => ∃ (Z' : Nat → Prop) (r0 : List UInt8) (r1 : Bool) (r2 : Int) , (∀ b, Z b → Z' b) ∧ Q r0 r1 r2 ∧ v = .tuple #[str r0, .bool r1, .int .i64 r2] ∧ Own H' Z' (L)) := by
 replace hO := hO.inZ
 replace hO := Fz.items [_] hf_2 hO
 replace hO := Fz.items [_, _] hf_4 hO
 replace hO := Fz.items [_, _, _] hf_6 hO
 unfold wp_funTwo at h
 refine hc_of_hw (N := 95) (rs := [(.tmp 2), (.tmp 3), (.tmp 4)]) Tryz.func7 rfl rfl rfl rfl (hw_seq (hw_region (hl_h (o_box (cs := [.int .i64 t.States, v_1, v_3, v_5]) hO rfl rfl) rfl ?_)))
 rintro _ H_7 ⟨b_8, rfl, hO⟩
 refine hl_v (v_assign rfl) rfl (hl_v (v_assign rfl) rfl (hl_v (v_assign rfl) rfl (hl_nil (thenQ_n (hw_seq (hw_region (hl_v (v_loadA isAgg25 sizeOf25 rfl (Blk.at0 (hO.box 0 rfl)) rfl) rfl (hl_h (h_call call15 (evs_cons rfl evs_nil) (trimP_spec (a0 := t) hO (Fz.of (i := 3) rfl) (Fz.of (i := 2) rfl) (Fz.of (i := 1) rfl))) rfl ?_))))))))
 rintro _ H_12 ⟨Z_13, v_9, v_10, v_11, _, rfl, hO⟩
 refine hl_v (v_move rfl) rfl (hl_v (v_extract rfl rfl) rfl (hl_v (v_extract rfl rfl) rfl (hl_s (o_storeA (us := [.int .i64 (((pTrim t).1).States), v_9, v_10, v_11]) hO 3 rfl sizeOf25 rfl rfl rfl rfl (by simp only [List.forall_mem_cons]; exact ⟨rfl, (Sl.one (hO.osl 0 rfl)), (Sl.one (hO.osl 1 rfl)), (Sl.one (hO.osl 2 rfl)), by simp⟩)) ?_)))
 rintro _ H_15 hO
 refine hl_v (v_assign rfl) rfl (hl_nil (thenQ_n (hw_seq (hw_block (hw_seq (hw_region (hl_v (v_move rfl) rfl (hl_v (v_neq rfl rfl) rfl (hl_v (v_assign rfl) rfl (hl_nil (thenQ_n (hw_cond rfl (fun hc_16 => ?_) (fun hc_16 => ?_)))))))))))))
 ·replace h := ite_t h hc_16
  refine hw_seq (hw_region (hl_v (v_move rfl) rfl (hl_v (v_assign rfl) rfl (hl_v (v_assign rfl) rfl (hl_v (v_assign rfl) rfl (hl_nil (thenQ_n (hw_sub _ (a_c 2 rfl (a_c 3 rfl (a_c 4 rfl a_n))) (hw_ret (blockQ_r (thenQ_r (ret_i _ (ra_t rfl (ra_t rfl (ra_t rfl ra_nil))) ?_))))))))))))
  exact ⟨_, [], false, (pTrim t).2, (hO.inz 7 rfl), h, rfl, (Own.sel (Ls := [_, _, _, _, _, _, _, _]) (L := L) [] rfl hO)⟩
 ·replace h := ite_f h hc_16
  refine hw_seq (hw_region (hl_v (v_fieldA underlying25 rfl sizeOf3 rfl) rfl (hl_v (v_load1 isAgg3 rfl (Blk.cell (hO.box 3 rfl) rfl)) rfl (hl_v (v_gtr rfl rfl) rfl (hl_v (v_assign rfl) rfl (hl_nil (thenQ_n (hw_sub _ (a_c 1 rfl (a_c 22 rfl a_n)) (hw_cond rfl (fun hc_17 => ?_) (fun hc_17 => ?_))))))))))
  ·replace h := ite_t h hc_17
   refine hw_seq (hw_region (hl_v (v_assign rfl) rfl (hl_v (v_assign rfl) rfl (hl_v (v_assign rfl) rfl (hl_nil (thenQ_n (hw_ret (blockQ_r (thenQ_r (ret_i _ (ra_t rfl (ra_t rfl (ra_t rfl ra_nil))) ?_))))))))))
   exact ⟨_, [], false, 2, (hO.inz 7 rfl), h, rfl, (Own.sel (Ls := [_, _, _, _, _, _, _, _]) (L := L) [] rfl hO)⟩
  ·replace h := ite_f h hc_17
   refine hw_skip (blockQ_n (thenQ_n (hw_seq (hw_hj (fun f' H' => ∃ (v_19 : Value) (v_22 : Value) (b_29 : Nat) (Z' : Nat → Prop), AllIn f' [(1, ptr b_8 0), (6, ptr b_29 0)] ∧ Own H' Z' (box b_29 [.int .i64 (((pTrim t).1).States), v_9, v_10, v_11, v_19, v_22, .map none, .slice none 0 0, .map none] 60 :: ownN fStr 61 9 v_22 (List.replicate (((pTrim t).1).States).toNat []) :: ownN fGArc 23 39 v_19 (List.replicate (((pTrim t).1).States).toNat []) :: own fGTip 50 v_9 (((pTrim t).1).Starts) :: own fGTip 50 v_10 (((pTrim t).1).Ends) :: own fGArc 39 v_11 (((pTrim t).1).Arcs) :: box b_8 [.int .i64 (((pTrim t).1).States), v_9, v_10, v_11] 25 :: fz fGArc.rep v_5 t.Arcs :: fz fGTip.rep v_3 t.Ends :: fz fGTip.rep v_1 t.Starts :: inZ Z :: L)) ?_ ?_))))
   ·refine hw_held2 9 (fun H' => ∃ Z' : Nat → Prop, Own H' Z' (own fGTip 50 v_9 (((pTrim t).1).Starts) :: own fGTip 50 v_10 (((pTrim t).1).Ends) :: own fGArc 39 v_11 (((pTrim t).1).Arcs) :: box b_8 [.int .i64 (((pTrim t).1).States), v_9, v_10, v_11] 25 :: fz fGArc.rep v_5 t.Arcs :: fz fGTip.rep v_3 t.Ends :: fz fGTip.rep v_1 t.Starts :: inZ Z :: L)) (.step 0 false (.step 1 false (.step 2 false (.step 4 false (.step 5 false (.two 3 6 (.step 6 true (.step 7 false (.step 8 true .done))) (.step 3 true (.step 7 false (.step 8 true .done))))))))) (.step 9 true .done) Tryz.mixed (by kernel_rfl) ⟨_, hO⟩ (hd_v rfl (fun H' hS => by obtain ⟨Z', hO⟩ := hS; exact (v_loadA isAgg25 sizeOf25 rfl (Blk.at0 (hO.box 3 rfl)) rfl)) rfl (hd_v rfl (fun _ _ => (v_fieldA underlying25 rfl sizeOf3 rfl)) rfl (hd_v rfl (fun H' hS => by obtain ⟨Z', hO⟩ := hS; exact (v_load1 isAgg3 rfl (Blk.cell (hO.box 3 rfl) rfl))) rfl (hd_v rfl (fun _ _ => (v_fieldA underlying25 rfl sizeOf3 rfl)) rfl (hd_v rfl (fun H' hS => by obtain ⟨Z', hO⟩ := hS; exact (v_load1 isAgg3 rfl (Blk.cell (hO.box 3 rfl) rfl))) rfl (hd_two ?_ ?_))))))
    ·obtain ⟨hs_20, h⟩ := h
     refine hd_h (o_makeN (g := fGArc) (e' := 39) hO underlying53 type23 rfl rfl rfl rfl hs_20.1 hs_20.2.1 hs_20.2.2) (by rintro v_19 H_18 hO; exact ⟨_, (Own.sel (Ls := [_, _, _, _, _, _, _, _, _]) (L := L) [1, 2, 3, 4, 5, 6, 7, 8] rfl hO)⟩) rfl ?_
     rintro v_19 H_18 hO
     refine hd_h (o_makeN (g := fStr) (e' := 9) hO underlying54 type61 rfl rfl rfl rfl hs_20.1 hs_20.2.1 hs_20.2.2) (by rintro v_22 H_21 hO; exact ⟨_, (Own.sel (Ls := [_, _, _, _, _, _, _, _, _, _]) (L := L) [2, 3, 4, 5, 6, 7, 8, 9] rfl hO)⟩) rfl ?_
     rintro v_22 H_21 hO
     have hsh_23 := Sl.sh (hO.osl 2 rfl)
     have hsh_24 := Sl.sh (hO.osl 3 rfl)
     have hsh_25 := Sl.sh (hO.osl 4 rfl)
     have hsh_26 := Sl.sh (hO.nsl 1 rfl)
     have hsh_27 := Sl.sh (hO.nsl 0 rfl)
     refine hd_v rfl (fun _ _ => (v_buildF (cs := [.int .i64 (((pTrim t).1).States), v_9, v_10, v_11, v_19, v_22, .map none, .slice none 0 0, .map none]) (xs := [.tmp 26, .tmp 29, .tmp 32]) (is := [0, 1, 2]) rfl (evs_cons rfl (evs_cons rfl (evs_cons rfl evs_nil))) (fun w => by obtain ⟨_, _, _, hw⟩ := hsh_23; (try subst hw); obtain ⟨_, _, _, hw⟩ := hsh_24; (try subst hw); obtain ⟨_, _, _, hw⟩ := hsh_25; (try subst hw); obtain ⟨_, _, _, hw⟩ := hsh_26; (try subst hw); obtain ⟨_, _, _, hw⟩ := hsh_27; (try subst hw); show _ = _; kernel_rfl))) rfl (hd_h (o_box (cs := [.int .i64 (((pTrim t).1).States), v_9, v_10, v_11, v_19, v_22, .map none, .slice none 0 0, .map none]) hO rfl rfl) (by rintro _ H_28 ⟨b_29, rfl, hO⟩; exact ⟨_, (Own.sel (Ls := [_, _, _, _, _, _, _, _, _, _, _]) (L := L) [3, 4, 5, 6, 7, 8, 9, 10] rfl hO)⟩) rfl ?_)
     rintro _ H_28 ⟨b_29, rfl, hO⟩
     refine hd_nil (hd_h (OpV.toH (v_assign rfl)) (fun _ _ hR => trivial) rfl ?_)
     rintro vv HH ⟨hvv, hHH⟩
     obtain rfl := hvv.symm
     obtain rfl := hHH.symm
     refine hd_nil ?_
     exact ⟨rfl, v_19, v_22, b_29, _, (a_c 1 rfl (a_c 6 rfl a_n)), hO⟩
    ·obtain ⟨hs_32, h⟩ := h
     refine hd_h (o_makeN (g := fStr) (e' := 9) hO underlying54 type61 rfl rfl rfl rfl hs_32.1 hs_32.2.1 hs_32.2.2) (by rintro v_31 H_30 hO; exact ⟨_, (Own.sel (Ls := [_, _, _, _, _, _, _, _, _]) (L := L) [1, 2, 3, 4, 5, 6, 7, 8] rfl hO)⟩) rfl ?_
     rintro v_31 H_30 hO
     refine hd_h (o_makeN (g := fGArc) (e' := 39) hO underlying53 type23 rfl rfl rfl rfl hs_32.1 hs_32.2.1 hs_32.2.2) (by rintro v_34 H_33 hO; exact ⟨_, (Own.sel (Ls := [_, _, _, _, _, _, _, _, _, _]) (L := L) [2, 3, 4, 5, 6, 7, 8, 9] rfl hO)⟩) rfl ?_
     rintro v_34 H_33 hO
     have hsh_35 := Sl.sh (hO.osl 2 rfl)
     have hsh_36 := Sl.sh (hO.osl 3 rfl)
     have hsh_37 := Sl.sh (hO.osl 4 rfl)
     have hsh_38 := Sl.sh (hO.nsl 0 rfl)
     have hsh_39 := Sl.sh (hO.nsl 1 rfl)
     refine hd_v rfl (fun _ _ => (v_buildF (cs := [.int .i64 (((pTrim t).1).States), v_9, v_10, v_11, v_34, v_31, .map none, .slice none 0 0, .map none]) (xs := [.tmp 26, .tmp 29, .tmp 32]) (is := [0, 1, 2]) rfl (evs_cons rfl (evs_cons rfl (evs_cons rfl evs_nil))) (fun w => by obtain ⟨_, _, _, hw⟩ := hsh_35; (try subst hw); obtain ⟨_, _, _, hw⟩ := hsh_36; (try subst hw); obtain ⟨_, _, _, hw⟩ := hsh_37; (try subst hw); obtain ⟨_, _, _, hw⟩ := hsh_38; (try subst hw); obtain ⟨_, _, _, hw⟩ := hsh_39; (try subst hw); show _ = _; kernel_rfl))) rfl (hd_h (o_box (cs := [.int .i64 (((pTrim t).1).States), v_9, v_10, v_11, v_34, v_31, .map none, .slice none 0 0, .map none]) hO rfl rfl) (by rintro _ H_40 ⟨b_41, rfl, hO⟩; exact ⟨_, (Own.sel (Ls := [_, _, _, _, _, _, _, _, _, _, _]) (L := L) [3, 4, 5, 6, 7, 8, 9, 10] rfl hO)⟩) rfl ?_)
     rintro _ H_40 ⟨b_41, rfl, hO⟩
     refine hd_nil (hd_h (OpV.toH (v_assign rfl)) (fun _ _ hR => trivial) rfl ?_)
     rintro vv HH ⟨hvv, hHH⟩
     obtain rfl := hvv.symm
     obtain rfl := hHH.symm
     refine hd_nil ?_
     exact ⟨rfl, v_34, v_31, b_41, _, (a_c 1 rfl (a_c 6 rfl a_n)), (Own.sel (Ls := [_, _, _, _, _, _, _, _, _, _, _]) (L := L) [0, 2, 1, 3, 4, 5, 6, 7, 8, 9, 10] rfl hO)⟩
   ·rintro _ H_42 ⟨v_19, v_22, b_29, Z_43, hai, hO⟩
    obtain ⟨hs_20, h⟩ := h
    refine thenQ_n (hw_sub _ hai (hw_seq (hw_seq (hw_region (hl_v (v_fieldA underlying25 rfl sizeOf23 rfl) rfl (hl_v (v_load1 isAgg23 rfl (Blk.cell (hO.box 6 rfl) rfl)) rfl ?_))))))
    have hln_44 := Sl.cap (hO.osl 5 rfl)
    refine hl_v (v_lenL rfl underlying23 rfl (hO.osl 5 rfl)) rfl (hl_v (v_move rfl) rfl (hl_nil (thenQ_n (hw_block ?_))))
    obtain ⟨I_51, h, hI_53⟩ := h
    replace hO := hO.nil fGfun_box_whittle_fun_place 86
    refine hw_lp (fun n' g' H' => ∃ (f : Gfun_finder) (k : Nat) (v_45 : Value) (v_46 : Value) (v_47 : Value) (v_48 : Value) (v_49 : Value) (v_50 : Value) (Z' : Nat → Prop), n' = (((pTrim t).1).Arcs).length - k ∧ g' = [(1, ptr b_8 0), (6, ptr b_29 0), (36, v_47), (37, .int .i64 ((((pTrim t).1).Arcs).length : Int)), (38, .int .i64 (k : Int))] ∧ I_51 f k ∧ k ≤ (((pTrim t).1).Arcs).length ∧ Own H' Z' (own fGfun_box_whittle_fun_place 86 v_50 f.rows :: box b_29 [.int .i64 f.t.States, v_45, v_46, v_47, v_48, v_49, .map none, v_50, .map none] 60 :: ownN fStr 61 9 v_49 f.ends :: ownN fGArc 23 39 v_48 f.from' :: own fGTip 50 v_45 f.t.Starts :: own fGTip 50 v_46 f.t.Ends :: own fGArc 39 v_47 f.t.Arcs :: box b_8 [.int .i64 (((pTrim t).1).States), v_45, v_46, v_47] 25 :: inZ Z :: L)) _ _ (a_c 1 rfl (a_c 6 rfl (a_c 36 rfl (a_c 37 rfl (a_c 38 rfl a_n))))) ⟨(⟨((pTrim t).1), (List.replicate (((pTrim t).1).States).toNat []), (List.replicate (((pTrim t).1).States).toNat []), [], [], []⟩ : Gfun_finder), 0, v_9, v_10, v_11, v_19, v_22, .slice none 0 0, _, rfl, rfl, h, by omega, (Own.sel (Ls := [_, _, _, _, _, _, _, _, _, _, _, _]) (L := L) [0, 1, 2, 3, 4, 5, 6, 7, 11] rfl hO)⟩ ?_
    rintro _ _ H_54 ⟨f, k, v_45, v_46, v_47, v_48, v_49, v_50, Z_55, rfl, rfl, h, hb_56, hO⟩
    replace h := hI_53 f k h hb_56
    refine hw_seq (hw_region (hl_v (v_lss rfl rfl) rfl (hl_nil (thenQ_n (hw_seq (hw_cond rfl (fun hc_57 => ?_) (fun hc_57 => ?_)))))))
    ·replace h := ite_t h hc_57
     refine hw_skip (thenQ_n (hw_seq (hw_block (hw_seq (hw_region ?_)))))
     obtain ⟨hs_58, h⟩ := h
     refine hl_v (v_ixL underlying23 sizeOf39 rfl rfl (hO.osl 6 rfl) hs_58) rfl (hl_v (v_loadFl isAgg39 sizeOf39 rfl (hO.osl 6 rfl) rfl hs_58) rfl (hl_h (o_alloc (cs := (fGArc.enc (⟨(0 : Int), (0 : Int), BSet.zero, ([] : List UInt8), false⟩ : GArc))) hO zeroValue39 rfl) rfl ?_))
     rintro _ H_59 ⟨b_60, rfl, hO⟩
     refine hl_s (o_storeA (us := (fGArc.enc (f.t.Arcs.getD k default))) hO 0 rfl sizeOf39 rfl rfl rfl rfl (by intro u hu; exact (fGArc).one _ u hu)) ?_
     rintro _ H_61 hO
     refine hl_nil (thenQ_n ?_)
     obtain ⟨hs_62, h⟩ := h
     replace hO := Own.sel (Ls := [box b_60 (fGArc.enc (f.t.Arcs.getD k default)) 39, own fGfun_box_whittle_fun_place 86 v_50 f.rows, box b_29 [.int .i64 f.t.States, v_45, v_46, v_47, v_48, v_49, .map none, v_50, .map none] 60, ownN fStr 61 9 v_49 f.ends, ownN fGArc 23 39 v_48 f.from', own fGTip 50 v_45 f.t.Starts, own fGTip 50 v_46 f.t.Ends, own fGArc 39 v_47 f.t.Arcs, box b_8 [.int .i64 (((pTrim t).1).States), v_45, v_46, v_47] 25, inZ Z]) (L := L) [4, 0, 1, 2, 3, 5, 6, 7, 8, 9] rfl hO
     replace hO : Own H_61 Z_55 (ownN fGArc 23 39 v_48 f.from' :: box b_60 (fGArc.enc (f.t.Arcs.getD k default)) 39 :: own fGfun_box_whittle_fun_place 86 v_50 f.rows :: box b_29 [.int .i64 f.t.States, v_45, v_46, v_47, v_48, v_49, .map none, v_50, .map none] 60 :: ownN fStr 61 9 v_49 f.ends :: own fGTip 50 v_45 f.t.Starts :: own fGTip 50 v_46 f.t.Ends :: own fGArc 39 v_47 f.t.Arcs :: box b_8 [.int .i64 (((pTrim t).1).States), v_45, v_46, v_47] 25 :: inZ Z :: L) := hO
     obtain ⟨vs_63, hl_64, hO⟩ := Own.take (k := ((f.t.Arcs.getD k default).From).toNat) hO (by have hq := hs_62; omega)
     replace hO : Own H_61 Z_55 (own fGArc 39 (vs_63.getD (((f.t.Arcs.getD k default).From).toNat) default) (f.from'.getD ((f.t.Arcs.getD k default).From).toNat default) :: rowv 23 v_48 vs_63 :: innX fGArc 39 vs_63 f.from' (((f.t.Arcs.getD k default).From).toNat) :: box b_60 (fGArc.enc (f.t.Arcs.getD k default)) 39 :: own fGfun_box_whittle_fun_place 86 v_50 f.rows :: box b_29 [.int .i64 f.t.States, v_45, v_46, v_47, v_48, v_49, .map none, v_50, .map none] 60 :: ownN fStr 61 9 v_49 f.ends :: own fGTip 50 v_45 f.t.Starts :: own fGTip 50 v_46 f.t.Ends :: own fGArc 39 v_47 f.t.Arcs :: box b_8 [.int .i64 (((pTrim t).1).States), v_45, v_46, v_47] 25 :: inZ Z :: L) := hO
     refine hw_held2 17 (fun H' => ∃ Z' : Nat → Prop, Own H' Z' (rowv 23 v_48 vs_63 :: innX fGArc 39 vs_63 f.from' (((f.t.Arcs.getD k default).From).toNat) :: box b_60 (fGArc.enc (f.t.Arcs.getD k default)) 39 :: own fGfun_box_whittle_fun_place 86 v_50 f.rows :: box b_29 [.int .i64 f.t.States, v_45, v_46, v_47, v_48, v_49, .map none, v_50, .map none] 60 :: ownN fStr 61 9 v_49 f.ends :: own fGTip 50 v_45 f.t.Starts :: own fGTip 50 v_46 f.t.Ends :: own fGArc 39 v_47 f.t.Arcs :: box b_8 [.int .i64 (((pTrim t).1).States), v_45, v_46, v_47] 25 :: inZ Z :: L)) (.step 0 false (.step 1 false (.step 2 false (.step 3 false (.step 4 false (.step 5 false (.step 6 false (.step 7 false (.step 8 false (.step 9 false (.step 10 false (.step 11 false (.step 12 false (.step 13 false (.step 14 false (.step 15 true (.step 16 true .done))))))))))))))))) (.step 17 true (.step 18 true .done)) Tryz.mixed (by kernel_rfl) ⟨_, (Own.sel (Ls := [_, _, _, _, _, _, _, _, _, _, _, _]) (L := L) [1, 2, 3, 4, 5, 6, 7, 8, 9, 10, 11] rfl hO)⟩ ?_
     refine hd_v rfl (fun _ _ => (v_move rfl)) rfl (hd_v rfl (fun _ _ => (v_nilCheck rfl)) rfl (hd_v rfl (fun _ _ => (v_fieldA underlying60 rfl sizeOf53 rfl)) rfl (hd_v rfl (fun H' hS => by obtain ⟨Z', hO⟩ := hS; exact (v_load1 isAgg53 rfl (Blk.cell (hO.box 4 rfl) rfl))) rfl (hd_v rfl (fun _ _ => (v_fieldA underlying39 rfl sizeOf3 rfl)) rfl (hd_v rfl (fun H' hS => by obtain ⟨Z', hO⟩ := hS; exact (v_load1 isAgg3 rfl (Blk.cell (hO.box 2 rfl) rfl))) rfl (hd_v rfl (fun _ _ => (v_move rfl)) rfl (hd_v rfl (fun _ _ => (v_nilCheck rfl)) rfl (hd_v rfl (fun _ _ => (v_fieldA underlying60 rfl sizeOf53 rfl)) rfl (hd_v rfl (fun H' hS => by obtain ⟨Z', hO⟩ := hS; exact (v_load1 isAgg53 rfl (Blk.cell (hO.box 4 rfl) rfl))) rfl (hd_v rfl (fun _ _ => (v_fieldA underlying39 rfl sizeOf3 rfl)) rfl (hd_v rfl (fun H' hS => by obtain ⟨Z', hO⟩ := hS; exact (v_load1 isAgg3 rfl (Blk.cell (hO.box 2 rfl) rfl))) rfl (hd_v rfl (fun H' hS => by obtain ⟨Z', hO⟩ := hS; exact (v_ixL underlying53 sizeOf23 rfl rfl (hO.rw 0 rfl) (by rw [hl_64]; exact hs_62))) rfl (hd_v rfl (fun H' hS => by obtain ⟨Z', hO⟩ := hS; exact (v_rowLoad hO (i := 0) rfl isAgg23 rfl (by rw [hl_64]; exact hs_62))) rfl (hd_v rfl (fun H' hS => by obtain ⟨Z', hO⟩ := hS; exact (v_loadA isAgg39 sizeOf39 rfl (Blk.at0 (hO.box 2 rfl)) rfl)) rfl (hd_h (o_lit (g := fGArc) (l := [(f.t.Arcs.getD k default)]) (xs := [.tmp 56]) hO underlying23 sizeOf39 zeroValue39 rfl (evs_cons rfl evs_nil) rfl rfl rfl rfl rfl) (by rintro v_66 H_65 hO; exact ⟨_, (Own.sel (Ls := [_, _, _, _, _, _, _, _, _, _, _, _, _]) (L := L) [2, 3, 4, 5, 6, 7, 8, 9, 10, 11, 12] rfl hO)⟩) rfl ?_)))))))))))))))
     rintro v_66 H_65 hO
     obtain ⟨hs_69, h⟩ := h
     refine hd_h (o_append (l2 := [(f.t.Arcs.getD k default)]) hO 1 rfl rfl underlying23 type39 rfl rfl rfl rfl rfl rfl rfl (hO.osl 0 rfl) hs_69 (le63 hs_69 rfl)) (by rintro v_68 H_67 hO; exact ⟨_, (Own.sel (Ls := [_, _, _, _, _, _, _, _, _, _, _, _, _]) (L := L) [2, 3, 4, 5, 6, 7, 8, 9, 10, 11, 12] rfl hO)⟩) rfl ?_
     rintro v_68 H_67 hO
     refine hd_nil (hd_h (OpV.toH (v_ixL underlying53 sizeOf23 rfl rfl (hO.rw 2 rfl) (by rw [hl_64]; exact hs_62))) (fun _ _ hR => trivial) rfl ?_)
     rintro vv HH ⟨hvv, hHH⟩
     obtain rfl := hvv.symm
     obtain rfl := hHH.symm
     refine hd_s (o_rowStore hO (i := 2) rfl sizeOf23 rfl rfl (by rw [hl_64]; exact hs_62) (Sl.one (hO.osl 1 rfl))) (fun _ _ _ => trivial) ?_
     rintro _ H_70 hO
     refine hd_nil ?_
     replace hO := Own.back (Own.sel (Ls := [_, _, _, _, _, _, _, _, _, _, _, _, _]) (L := L) [1, 2, 3, 0, 4, 5, 6, 7, 8, 9, 10, 11, 12] rfl hO) hl_64 (by have hq := hs_62; omega)
     replace hO : Own H_70 Z_55 (ownN fGArc 23 39 v_48 (f.from'.set ((f.t.Arcs.getD k default).From).toNat ((f.from'.getD ((f.t.Arcs.getD k default).From).toNat default) ++ [(f.t.Arcs.getD k default)])) :: own fGArc 39 v_66 [(f.t.Arcs.getD k default)] :: box b_60 (fGArc.enc (f.t.Arcs.getD k default)) 39 :: own fGfun_box_whittle_fun_place 86 v_50 f.rows :: box b_29 [.int .i64 f.t.States, v_45, v_46, v_47, v_48, v_49, .map none, v_50, .map none] 60 :: ownN fStr 61 9 v_49 f.ends :: own fGTip 50 v_45 f.t.Starts :: own fGTip 50 v_46 f.t.Ends :: own fGArc 39 v_47 f.t.Arcs :: box b_8 [.int .i64 (((pTrim t).1).States), v_45, v_46, v_47] 25 :: inZ Z :: L) := hO
     refine blockQ_n (thenQ_n (hw_region (hl_v (v_add rfl rfl (by have hq := of_decide_eq_true hc_57; have hm := hln_44; constructor <;> omega)) rfl (hl_v (v_move rfl) rfl (hl_nil (thenQ_n ?_))))))
     exact ⟨_, _, (a_c 1 rfl (a_c 6 rfl (a_c 36 rfl (a_c 37 rfl (a_c 38 rfl a_n))))), ⟨(⟨f.t, (f.from'.set ((f.t.Arcs.getD k default).From).toNat ((f.from'.getD ((f.t.Arcs.getD k default).From).toNat default) ++ [(f.t.Arcs.getD k default)])), f.ends, [], f.rows, []⟩ : Gfun_finder), k + 1, v_45, v_46, v_47, v_48, v_49, v_50, _, rfl, rfl, h, (by have hq := of_decide_eq_true hc_57; omega), (Own.sel (Ls := [_, _, _, _, _, _, _, _, _, _, _]) (L := L) [3, 4, 5, 0, 6, 7, 8, 9, 10] rfl hO)⟩, (by have hq := of_decide_eq_true hc_57; omega)⟩
    ·replace h := ite_f h hc_57
     refine hw_exit (thenQ_e (thenQ_e (blockQ_hit (thenQ_n (hw_seq (hw_seq (hw_region (hl_v (v_fieldA underlying25 rfl sizeOf22 rfl) rfl (hl_v (v_load1 isAgg22 rfl (Blk.cell (hO.box 7 rfl) rfl)) rfl ?_)))))))))
     have hln_71 := Sl.cap (hO.osl 5 rfl)
     refine hl_v (v_lenL rfl underlying22 rfl (hO.osl 5 rfl)) rfl (hl_v (v_move rfl) rfl (hl_nil (thenQ_n (hw_block ?_))))
     obtain ⟨I_78, h, hI_80⟩ := h
     refine hw_lp (fun n' g' H' => ∃ (f2 : Gfun_finder) (k2 : Nat) (v_72 : Value) (v_73 : Value) (v_74 : Value) (v_75 : Value) (v_76 : Value) (v_77 : Value) (Z' : Nat → Prop), n' = f.t.Ends.length - k2 ∧ g' = [(6, ptr b_29 0), (62, v_73), (63, .int .i64 (f.t.Ends.length : Int)), (64, .int .i64 (k2 : Int))] ∧ I_78 f2 k2 ∧ k2 ≤ f.t.Ends.length ∧ Own H' Z' (own fGfun_box_whittle_fun_place 86 v_77 f2.rows :: box b_29 [.int .i64 f2.t.States, v_72, v_73, v_74, v_75, v_76, .map none, v_77, .map none] 60 :: ownN fStr 61 9 v_76 f2.ends :: ownN fGArc 23 39 v_75 f2.from' :: own fGTip 50 v_72 f2.t.Starts :: own fGTip 50 v_73 f2.t.Ends :: own fGArc 39 v_74 f2.t.Arcs :: inZ Z :: L)) _ _ (a_c 6 rfl (a_c 62 rfl (a_c 63 rfl (a_c 64 rfl a_n)))) ⟨(⟨f.t, f.from', f.ends, [], f.rows, []⟩ : Gfun_finder), 0, v_45, v_46, v_47, v_48, v_49, v_50, _, rfl, rfl, h, by omega, (Own.sel (Ls := [_, _, _, _, _, _, _, _, _]) (L := L) [0, 1, 2, 3, 4, 5, 6, 8] rfl hO)⟩ ?_
     rintro _ _ H_81 ⟨f2, k2, v_72, v_73, v_74, v_75, v_76, v_77, Z_82, rfl, rfl, h, hb_83, hO⟩
     replace h := hI_80 f2 k2 h hb_83
     refine hw_seq (hw_region (hl_v (v_lss rfl rfl) rfl (hl_nil (thenQ_n (hw_seq (hw_cond rfl (fun hc_84 => ?_) (fun hc_84 => ?_)))))))
     ·replace h := ite_t h hc_84
      refine hw_skip (thenQ_n (hw_seq (hw_block (hw_seq (hw_region ?_)))))
      obtain ⟨hs_85, h⟩ := h
      refine hl_v (v_ixL underlying22 sizeOf50 rfl rfl (hO.osl 5 rfl) hs_85) rfl (hl_v (v_loadFl isAgg50 sizeOf50 rfl (hO.osl 5 rfl) rfl hs_85) rfl (hl_h (o_alloc (cs := (fGTip.enc (⟨(0 : Int), ([] : List UInt8)⟩ : GTip))) hO zeroValue50 rfl) rfl ?_))
      rintro _ H_86 ⟨b_87, rfl, hO⟩
      refine hl_s (o_storeA (us := (fGTip.enc (f2.t.Ends.getD k2 default))) hO 0 rfl sizeOf50 rfl rfl rfl rfl (by intro u hu; exact (fGTip).one _ u hu)) ?_
      rintro _ H_88 hO
      refine hl_nil (thenQ_n ?_)
      obtain ⟨hs_89, h⟩ := h
      replace hO := Own.sel (Ls := [box b_87 (fGTip.enc (f2.t.Ends.getD k2 default)) 50, own fGfun_box_whittle_fun_place 86 v_77 f2.rows, box b_29 [.int .i64 f2.t.States, v_72, v_73, v_74, v_75, v_76, .map none, v_77, .map none] 60, ownN fStr 61 9 v_76 f2.ends, ownN fGArc 23 39 v_75 f2.from', own fGTip 50 v_72 f2.t.Starts, own fGTip 50 v_73 f2.t.Ends, own fGArc 39 v_74 f2.t.Arcs, inZ Z]) (L := L) [3, 0, 1, 2, 4, 5, 6, 7, 8] rfl hO
      replace hO : Own H_88 Z_82 (ownN fStr 61 9 v_76 f2.ends :: box b_87 (fGTip.enc (f2.t.Ends.getD k2 default)) 50 :: own fGfun_box_whittle_fun_place 86 v_77 f2.rows :: box b_29 [.int .i64 f2.t.States, v_72, v_73, v_74, v_75, v_76, .map none, v_77, .map none] 60 :: ownN fGArc 23 39 v_75 f2.from' :: own fGTip 50 v_72 f2.t.Starts :: own fGTip 50 v_73 f2.t.Ends :: own fGArc 39 v_74 f2.t.Arcs :: inZ Z :: L) := hO
      obtain ⟨vs_90, hl_91, hO⟩ := Own.take (k := ((f2.t.Ends.getD k2 default).State).toNat) hO (by have hq := hs_89; omega)
      replace hO : Own H_88 Z_82 (own fStr 9 (vs_90.getD (((f2.t.Ends.getD k2 default).State).toNat) default) (f2.ends.getD ((f2.t.Ends.getD k2 default).State).toNat default) :: rowv 61 v_76 vs_90 :: innX fStr 9 vs_90 f2.ends (((f2.t.Ends.getD k2 default).State).toNat) :: box b_87 (fGTip.enc (f2.t.Ends.getD k2 default)) 50 :: own fGfun_box_whittle_fun_place 86 v_77 f2.rows :: box b_29 [.int .i64 f2.t.States, v_72, v_73, v_74, v_75, v_76, .map none, v_77, .map none] 60 :: ownN fGArc 23 39 v_75 f2.from' :: own fGTip 50 v_72 f2.t.Starts :: own fGTip 50 v_73 f2.t.Ends :: own fGArc 39 v_74 f2.t.Arcs :: inZ Z :: L) := hO
      refine hw_held2 18 (fun H' => ∃ Z' : Nat → Prop, Own H' Z' (rowv 61 v_76 vs_90 :: innX fStr 9 vs_90 f2.ends (((f2.t.Ends.getD k2 default).State).toNat) :: box b_87 (fGTip.enc (f2.t.Ends.getD k2 default)) 50 :: own fGfun_box_whittle_fun_place 86 v_77 f2.rows :: box b_29 [.int .i64 f2.t.States, v_72, v_73, v_74, v_75, v_76, .map none, v_77, .map none] 60 :: ownN fGArc 23 39 v_75 f2.from' :: own fGTip 50 v_72 f2.t.Starts :: own fGTip 50 v_73 f2.t.Ends :: own fGArc 39 v_74 f2.t.Arcs :: inZ Z :: L)) (.step 0 false (.step 1 false (.step 2 false (.step 3 false (.step 4 false (.step 5 false (.step 6 false (.step 7 false (.step 8 false (.step 9 false (.step 10 false (.step 11 false (.step 12 false (.step 13 false (.step 14 false (.step 15 false (.step 16 true (.step 17 true .done)))))))))))))))))) (.step 18 true (.step 19 true .done)) Tryz.mixed (by kernel_rfl) ⟨_, (Own.sel (Ls := [_, _, _, _, _, _, _, _, _, _, _]) (L := L) [1, 2, 3, 4, 5, 6, 7, 8, 9, 10] rfl hO)⟩ (hd_v rfl (fun _ _ => (v_move rfl)) rfl ?_)
      refine hd_v rfl (fun _ _ => (v_nilCheck rfl)) rfl (hd_v rfl (fun _ _ => (v_fieldA underlying60 rfl sizeOf54 rfl)) rfl (hd_v rfl (fun H' hS => by obtain ⟨Z', hO⟩ := hS; exact (v_load1 isAgg54 rfl (Blk.cell (hO.box 4 rfl) rfl))) rfl (hd_v rfl (fun _ _ => (v_fieldA underlying50 rfl sizeOf3 rfl)) rfl (hd_v rfl (fun H' hS => by obtain ⟨Z', hO⟩ := hS; exact (v_load1 isAgg3 rfl (Blk.cell (hO.box 2 rfl) rfl))) rfl (hd_v rfl (fun _ _ => (v_move rfl)) rfl (hd_v rfl (fun _ _ => (v_nilCheck rfl)) rfl (hd_v rfl (fun _ _ => (v_fieldA underlying60 rfl sizeOf54 rfl)) rfl (hd_v rfl (fun H' hS => by obtain ⟨Z', hO⟩ := hS; exact (v_load1 isAgg54 rfl (Blk.cell (hO.box 4 rfl) rfl))) rfl (hd_v rfl (fun _ _ => (v_fieldA underlying50 rfl sizeOf3 rfl)) rfl (hd_v rfl (fun H' hS => by obtain ⟨Z', hO⟩ := hS; exact (v_load1 isAgg3 rfl (Blk.cell (hO.box 2 rfl) rfl))) rfl (hd_v rfl (fun H' hS => by obtain ⟨Z', hO⟩ := hS; exact (v_ixL underlying54 sizeOf61 rfl rfl (hO.rw 0 rfl) (by rw [hl_91]; exact hs_89))) rfl (hd_v rfl (fun H' hS => by obtain ⟨Z', hO⟩ := hS; exact (v_rowLoad hO (i := 0) rfl isAgg61 rfl (by rw [hl_91]; exact hs_89))) rfl (hd_v rfl (fun _ _ => (v_fieldA underlying50 rfl sizeOf9 rfl)) rfl (hd_v rfl (fun H' hS => by obtain ⟨Z', hO⟩ := hS; exact (v_load1 isAgg9 rfl (Blk.cell (hO.box 2 rfl) rfl))) rfl (hd_h (o_lit (g := fStr) (l := [(f2.t.Ends.getD k2 default).Out]) (xs := [.tmp 83]) hO underlying61 sizeOf9 zeroValue9 rfl (evs_cons rfl evs_nil) rfl rfl rfl rfl rfl) (by rintro v_93 H_92 hO; exact ⟨_, (Own.sel (Ls := [_, _, _, _, _, _, _, _, _, _, _, _]) (L := L) [2, 3, 4, 5, 6, 7, 8, 9, 10, 11] rfl hO)⟩) rfl ?_)))))))))))))))
      rintro v_93 H_92 hO
      obtain ⟨hs_96, h⟩ := h
      refine hd_h (o_append (l2 := [(f2.t.Ends.getD k2 default).Out]) hO 1 rfl rfl underlying61 type9 rfl rfl rfl rfl rfl rfl rfl (hO.osl 0 rfl) hs_96 (le63 hs_96 rfl)) (by rintro v_95 H_94 hO; exact ⟨_, (Own.sel (Ls := [_, _, _, _, _, _, _, _, _, _, _, _]) (L := L) [2, 3, 4, 5, 6, 7, 8, 9, 10, 11] rfl hO)⟩) rfl ?_
      rintro v_95 H_94 hO
      refine hd_nil (hd_h (OpV.toH (v_ixL underlying54 sizeOf61 rfl rfl (hO.rw 2 rfl) (by rw [hl_91]; exact hs_89))) (fun _ _ hR => trivial) rfl ?_)
      rintro vv HH ⟨hvv, hHH⟩
      obtain rfl := hvv.symm
      obtain rfl := hHH.symm
      refine hd_s (o_rowStore hO (i := 2) rfl sizeOf61 rfl rfl (by rw [hl_91]; exact hs_89) (Sl.one (hO.osl 1 rfl))) (fun _ _ _ => trivial) ?_
      rintro _ H_97 hO
      refine hd_nil ?_
      replace hO := Own.back (Own.sel (Ls := [_, _, _, _, _, _, _, _, _, _, _, _]) (L := L) [1, 2, 3, 0, 4, 5, 6, 7, 8, 9, 10, 11] rfl hO) hl_91 (by have hq := hs_89; omega)
      replace hO : Own H_97 Z_82 (ownN fStr 61 9 v_76 (f2.ends.set ((f2.t.Ends.getD k2 default).State).toNat ((f2.ends.getD ((f2.t.Ends.getD k2 default).State).toNat default) ++ [(f2.t.Ends.getD k2 default).Out])) :: own fStr 9 v_93 [(f2.t.Ends.getD k2 default).Out] :: box b_87 (fGTip.enc (f2.t.Ends.getD k2 default)) 50 :: own fGfun_box_whittle_fun_place 86 v_77 f2.rows :: box b_29 [.int .i64 f2.t.States, v_72, v_73, v_74, v_75, v_76, .map none, v_77, .map none] 60 :: ownN fGArc 23 39 v_75 f2.from' :: own fGTip 50 v_72 f2.t.Starts :: own fGTip 50 v_73 f2.t.Ends :: own fGArc 39 v_74 f2.t.Arcs :: inZ Z :: L) := hO
      refine blockQ_n (thenQ_n (hw_region (hl_v (v_add rfl rfl (by have hq := of_decide_eq_true hc_84; have hm := hln_71; constructor <;> omega)) rfl (hl_v (v_move rfl) rfl (hl_nil (thenQ_n ?_))))))
      exact ⟨_, _, (a_c 6 rfl (a_c 62 rfl (a_c 63 rfl (a_c 64 rfl a_n)))), ⟨(⟨f2.t, f2.from', (f2.ends.set ((f2.t.Ends.getD k2 default).State).toNat ((f2.ends.getD ((f2.t.Ends.getD k2 default).State).toNat default) ++ [(f2.t.Ends.getD k2 default).Out])), [], f2.rows, []⟩ : Gfun_finder), k2 + 1, v_72, v_73, v_74, v_75, v_76, v_77, _, rfl, rfl, h, (by have hq := of_decide_eq_true hc_84; omega), (Own.sel (Ls := [_, _, _, _, _, _, _, _, _, _]) (L := L) [3, 4, 0, 5, 6, 7, 8, 9] rfl hO)⟩, (by have hq := of_decide_eq_true hc_84; omega)⟩
     ·replace h := ite_f h hc_84
      refine hw_exit (thenQ_e (thenQ_e (blockQ_hit (thenQ_n (hw_seq (hw_region (hl_v (v_move rfl) rfl ?_)))))))
      obtain ⟨Z_98, _, hO⟩ := hO.freeze (i := 4) rfl
      obtain ⟨Z_99, _, hO⟩ := hO.freeze (i := 5) rfl
      obtain ⟨Z_100, _, hO⟩ := hO.freeze (i := 6) rfl
      obtain ⟨Z_101, _, hO⟩ := hO.freezeN (i := 3) rfl
      replace hO : Own H_81 Z_101 (own fGfun_box_whittle_fun_place 86 v_77 f2.rows :: box b_29 [.int .i64 f2.t.States, v_72, v_73, v_74, v_75, v_76, .map none, v_77, .map none] 60 :: ownN fStr 61 9 v_76 f2.ends :: fz (Rep.sl fGArc.rep) v_75 f2.from' :: fz fGTip.rep v_72 f2.t.Starts :: fz fGTip.rep v_73 f2.t.Ends :: fz fGArc.rep v_74 f2.t.Arcs :: inZ Z :: L) := hO
      obtain ⟨Z_102, _, hO⟩ := hO.freezeN (i := 2) rfl
      obtain ⟨hs_103, h⟩ := h
      refine hl_h (h_call call16 (evs_cons rfl evs_nil) (funFind_spec (a0 := (⟨f2.t, f2.from', f2.ends, [], f2.rows, []⟩ : Gfun_finder)) (L := fz (Rep.sl fStr.rep) v_76 f2.ends :: fz (Rep.sl fGArc.rep) v_75 f2.from' :: fz fGTip.rep v_72 f2.t.Starts :: fz fGTip.rep v_73 f2.t.Ends :: fz fGArc.rep v_74 f2.t.Arcs :: inZ Z :: L) hs_103 (Own.sel (Ls := [_, _, _, _, _, _, _, _]) (L := L) [1, 0, 2, 3, 4, 5, 6, 7] rfl hO) (Fz.of (i := 2) rfl) (Fz.of (i := 3) rfl) (Fz.of (i := 4) rfl) (Fz.of (i := 1) rfl) (Fz.of (i := 0) rfl))) rfl ?_
      rintro _ H_104 ⟨Z_105, _, rfl, hO⟩
      refine hl_v (v_move rfl) rfl (hl_v (v_extract rfl rfl) rfl (hl_v (v_extract rfl rfl) rfl (hl_v (v_assign rfl) rfl (hl_v (v_assign rfl) rfl (hl_nil (thenQ_n (hw_seq (hw_region (hl_v (v_move rfl) rfl (hl_v (v_move rfl) rfl (hl_v (v_assign rfl) rfl (hl_v (v_assign rfl) rfl (hl_v (v_assign rfl) rfl (hl_nil (thenQ_n (hw_sub _ (a_c 2 rfl (a_c 3 rfl (a_c 4 rfl a_n))) (hw_ret (ret_i _ (ra_t rfl (ra_t rfl (ra_t rfl ra_nil))) ?_))))))))))))))))))
      exact ⟨_, (nFind (⟨f2.t, f2.from', f2.ends, [], f2.rows, []⟩ : Gfun_finder)).1, (nFind (⟨f2.t, f2.from', f2.ends, [], f2.rows, []⟩ : Gfun_finder)).2, 0, (hO.inz 5 rfl), h, rfl, (Own.sel (Ls := [_, _, _, _, _, _]) (L := L) [] rfl hO)⟩
theorem funTwo_spec {a0 : GFst} {v_1 : Value} {v_3 : Value} {v_5 : Value} {L : List As} (hp : a0.Arcs.length ≤ 1024) {H : Heap} {Z : Nat → Prop} (hO : Own H Z (L)) (hf_2 : Fz fGTip.rep L v_1 a0.Starts) (hf_4 : Fz fGTip.rep L v_3 a0.Ends) (hf_6 : Fz fGArc.rep L v_5 a0.Arcs) : HC Tryz.prog 7 [.agg [.int .i64 a0.States, v_1, v_3, v_5].toArray] H (fun v H' => ∃ (Z' : Nat → Prop) , (∀ b, Z b → Z' b) ∧ v = .tuple #[str ((nTwo a0).1), .bool ((nTwo a0).2.1), .int .i64 ((nTwo a0).2.2)] ∧ Own H' Z' (L)) := by
  refine (funTwo_ok (t := a0) (@funTwo_wp a0 hp) hO hf_2 hf_4 hf_6).mono ?_
  rintro v H' ⟨Z', r0, r1, r2, hz, hq, hv, hO'⟩
  obtain ⟨rfl, rfl, rfl⟩ := hq
  exact ⟨Z', hz, hv, hO'⟩
theorem funOne_ok {t : GFst} {v_1 : Value} {v_3 : Value} {v_5 : Value} {Q : Bool → Int → Prop} {H : Heap} {Z : Nat → Prop} {L : List As} (h : wp_funOne t Q) (hO : Own H Z (L)) (hf_2 : Fz fGTip.rep L v_1 t.Starts) (hf_4 : Fz fGTip.rep L v_3 t.Ends) (hf_6 : Fz fGArc.rep L v_5 t.Arcs) : HC Tryz.prog 5 [.agg [.int .i64 t.States, v_1, v_3, v_5].toArray] H (fun v H' => ∃ (Z' : Nat → Prop) (r0 : Bool) (r1 : Int) , (∀ b, Z b → Z' b) ∧ Q r0 r1 ∧ v = .tuple #[.bool r0, .int .i64 r1] ∧ Own H' Z' (L)) := by
 replace hO := hO.inZ
 replace hO := Fz.items [_] hf_2 hO
 replace hO := Fz.items [_, _] hf_4 hO
 replace hO := Fz.items [_, _, _] hf_6 hO
 unfold wp_funOne at h
 refine hc_of_hw (N := 20) (rs := [(.tmp 2), (.tmp 3)]) Tryz.func5 rfl rfl rfl rfl (hw_seq (hw_region (hl_h (o_box (cs := [.int .i64 t.States, v_1, v_3, v_5]) hO rfl rfl) rfl ?_)))
 rintro _ H_7 ⟨b_8, rfl, hO⟩
 refine hl_v (v_assign rfl) rfl (hl_v (v_assign rfl) rfl (hl_nil (thenQ_n (hw_seq (hw_region (hl_v (v_loadA isAgg25 sizeOf25 rfl (Blk.at0 (hO.box 0 rfl)) rfl) rfl ?_))))))
 obtain ⟨hs_9, h⟩ := h
 refine hl_h (h_call call7 (evs_cons rfl evs_nil) (funTwo_spec (a0 := t) hs_9 hO (Fz.of (i := 3) rfl) (Fz.of (i := 2) rfl) (Fz.of (i := 1) rfl))) rfl ?_
 rintro _ H_10 ⟨Z_11, _, rfl, hO⟩
 refine hl_v (v_move rfl) rfl (hl_v (v_extract rfl rfl) rfl (hl_v (v_extract rfl rfl) rfl (hl_v (v_extract rfl rfl) rfl (hl_v (v_assign rfl) rfl (hl_v (v_assign rfl) rfl (hl_v (v_assign rfl) rfl (hl_nil (thenQ_n (hw_seq (hw_region (hl_v (v_move rfl) rfl (hl_v (v_eql rfl rfl) rfl (hl_v (v_move rfl) rfl (hl_g rfl rfl (fun hg => (v_move rfl)) rfl (hl_g rfl rfl (fun hg => (v_not (gv_ok rfl hg))) rfl (hl_v (v_and rfl rfl) rfl (hl_v (v_move rfl) rfl (hl_v (v_assign rfl) rfl (hl_v (v_assign rfl) rfl (hl_nil (thenQ_n (hw_sub _ (a_c 2 rfl (a_c 3 rfl a_n)) (hw_ret (ret_i _ (ra_t rfl (ra_t rfl ra_nil)) ?_))))))))))))))))))))))))
 exact ⟨_, (decide ((nTwo t).2.2 = 0) && (!(nTwo t).2.1)), (nTwo t).2.2, (hO.inz 4 rfl), h, rfl, (Own.sel (Ls := [_, _, _, _, _]) (L := L) [] rfl hO)⟩
theorem funOne_spec {a0 : GFst} {v_1 : Value} {v_3 : Value} {v_5 : Value} {L : List As} (hp : a0.Arcs.length ≤ 1024) {H : Heap} {Z : Nat → Prop} (hO : Own H Z (L)) (hf_2 : Fz fGTip.rep L v_1 a0.Starts) (hf_4 : Fz fGTip.rep L v_3 a0.Ends) (hf_6 : Fz fGArc.rep L v_5 a0.Arcs) : HC Tryz.prog 5 [.agg [.int .i64 a0.States, v_1, v_3, v_5].toArray] H (fun v H' => ∃ (Z' : Nat → Prop) , (∀ b, Z b → Z' b) ∧ v = .tuple #[.bool ((nOne a0).1), .int .i64 ((nOne a0).2)] ∧ Own H' Z' (L)) := by
  refine (funOne_ok (t := a0) (@funOne_wp a0 hp) hO hf_2 hf_4 hf_6).mono ?_
  rintro v H' ⟨Z', r0, r1, hz, hq, hv, hO'⟩
  obtain ⟨rfl, rfl⟩ := hq
  exact ⟨Z', hz, hv, hO'⟩
end
section
open Go.Proofs
end
section
open Go.Proofs
open Tryz
theorem rBytes_spec {a0 : BSet} {L : List As} {H : Heap} {Z : Nat → Prop} (hO : Own H Z L) : HC Tryz.prog 9 [sv a0] H (fun v H' => ∃ (Z' : Nat → Prop) (v_1 : Value), (∀ b, Z b → Z' b) ∧ v = v_1 ∧ Own H' Z' (own fByte 5 v_1 (a0.bytes) :: L)) :=
  Bytes_spec.mono fun v H' ⟨h1, h2⟩ => ⟨Z, v, fun _ h => h, rfl, hO.made h1 h2⟩
theorem rFew19_ok {t : GFst} {v_1 : Value} {v_3 : Value} {v_5 : Value} {Q : Bool → Prop} {H : Heap} {Z : Nat → Prop} {L : List As} (h : wp_rFew19 t Q) (hO : Own H Z (L)) (hf_2 : Fz fGTip.rep L v_1 t.Starts) (hf_4 : Fz fGTip.rep L v_3 t.Ends) (hf_6 : Fz fGArc.rep L v_5 t.Arcs) : HC Tryz.prog 4 [.agg [.int .i64 t.States, v_1, v_3, v_5].toArray] H (fun v H' => ∃ (Z' : Nat → Prop) (r0 : Bool) , (∀ b, Z b → Z' b) ∧ Q r0 ∧ v = .bool r0 ∧ Own H' Z' (L)) := by
 replace hO := hO.inZ
 replace hO := Fz.items [_] hf_2 hO
 replace hO := Fz.items [_, _] hf_4 hO
 replace hO := Fz.items [_, _, _] hf_6 hO
 unfold wp_rFew19 at h
 refine hc_of_hw (N := 48) (rs := [(.tmp 2)]) Tryz.func4 rfl rfl rfl rfl (hw_seq (hw_region (hl_h (o_box (cs := [.int .i64 t.States, v_1, v_3, v_5]) hO rfl rfl) rfl ?_)))
 rintro _ H_7 ⟨b_8, rfl, hO⟩
 refine hl_v (v_assign rfl) rfl (hl_nil (thenQ_n (hw_seq (hw_region (hl_v (v_assign rfl) rfl (hl_nil (thenQ_n (hw_seq (hw_seq (hw_region (hl_v (v_assign rfl) rfl (hl_nil (thenQ_n (hw_block ?_))))))))))))))
 obtain ⟨I_9, μ_10, h, hI_11⟩ := h
 refine hw_lp (fun n' g' H' => ∃ (n : Int) (i : Int) (Z' : Nat → Prop), n' = μ_10 n i ∧ g' = [(1, ptr b_8 0), (3, .int .i64 n), (4, .int .i64 i)] ∧ I_9 n i ∧ Own H' Z' (box b_8 [.int .i64 t.States, v_1, v_3, v_5] 25 :: fz fGArc.rep v_5 t.Arcs :: fz fGTip.rep v_3 t.Ends :: fz fGTip.rep v_1 t.Starts :: inZ Z :: L)) _ _ (a_c 1 rfl (a_c 3 rfl (a_c 4 rfl a_n))) ⟨0, 0, _, rfl, rfl, h, hO⟩ ?_
 rintro _ _ H_12 ⟨n, i, Z_13, rfl, rfl, h, hO⟩
 replace h := hI_11 n i h
 refine hw_seq (hw_seq (hw_region (hl_v (v_move rfl) rfl (hl_v (v_fieldA underlying25 rfl sizeOf23 rfl) rfl (hl_v (v_load1 isAgg23 rfl (Blk.cell (hO.box 0 rfl) rfl)) rfl ?_)))))
 have hln_15 := Sl.cap (hO.fsl 1 rfl)
 refine hl_v (v_lenL rfl underlying23 rfl (hO.fsl 1 rfl)) rfl (hl_v (v_lss rfl rfl) rfl (hl_v (v_move rfl) rfl (hl_g rfl rfl (fun hg => (v_move rfl)) rfl (hl_g rfl rfl (fun hg => (v_leq (gv_ok rfl hg) rfl)) rfl (hl_v (v_and rfl rfl) rfl (hl_nil (thenQ_n (hw_cond rfl (fun hc_16 => ?_) (fun hc_16 => ?_)))))))))
 ·replace h := ite_t h hc_16
  refine hw_skip (thenQ_n (hw_seq (hw_block (hw_region (hl_v (v_move rfl) rfl (hl_v (v_fieldA underlying25 rfl sizeOf23 rfl) rfl (hl_v (v_load1 isAgg23 rfl (Blk.cell (hO.box 0 rfl) rfl)) rfl (hl_v (v_move rfl) rfl ?_))))))))
  obtain ⟨hs_17, h⟩ := h
  refine hl_v (v_ixL underlying23 sizeOf39 rfl rfl (hO.fsl 1 rfl) hs_17) rfl (hl_v (v_fieldA underlying39 rfl sizeOf37 rfl) rfl (hl_v (v_loadSubA (o := 2) isAgg37 sizeOf37 rfl (hO.fsl 1 rfl) rfl hs_17 rfl) rfl (hl_h (h_call call9 (evs_cons rfl evs_nil) (rBytes_spec (a0 := (t.Arcs.getD i.toNat default).Set) hO)) rfl ?_)))
  rintro v_18 H_19 ⟨Z_20, _, _, rfl, hO⟩
  have hln_22 := Sl.cap (hO.osl 0 rfl)
  refine hl_v (v_lenL rfl underlying33 rfl (hO.osl 0 rfl)) rfl ?_
  obtain ⟨hs_23, h⟩ := h
  refine hl_v (v_add rfl rfl hs_23) rfl (hl_v (v_assign rfl) rfl (hl_nil (blockQ_n (thenQ_n (hw_region (hl_v (v_move rfl) rfl ?_))))))
  obtain ⟨hs_24, h⟩ := h
  refine hl_v (v_add rfl rfl hs_24) rfl (hl_v (v_assign rfl) rfl (hl_nil (thenQ_n ?_)))
  exact ⟨_, _, (a_c 1 rfl (a_c 3 rfl (a_c 4 rfl a_n))), ⟨(n + ((((t.Arcs.getD i.toNat default).Set).bytes).length : Int)), (i + 1), _, rfl, rfl, h.1, (Own.sel (Ls := [_, _, _, _, _, _]) (L := L) [1, 2, 3, 4, 5] rfl hO)⟩, h.2⟩
 ·replace h := ite_f h hc_16
  refine hw_exit (thenQ_e (thenQ_e (blockQ_hit (thenQ_n (hw_seq (hw_region (hl_v (v_loadA isAgg25 sizeOf25 rfl (Blk.at0 (hO.box 0 rfl)) rfl) rfl ?_)))))))
  obtain ⟨hs_25, h⟩ := h
  refine hl_h (h_call call10 (evs_cons rfl evs_nil) (rFew15_spec (a0 := t) hs_25 hO (Fz.of (i := 3) rfl) (Fz.of (i := 2) rfl) (Fz.of (i := 1) rfl))) rfl ?_
  rintro _ H_26 ⟨Z_27, _, rfl, hO⟩
  refine hl_v (v_move rfl) rfl (hl_g rfl rfl (fun hg => (v_fieldA underlying25 rfl sizeOf23 rfl)) rfl (hl_g rfl rfl (fun hg => (v_load1 isAgg23 (gv_ok rfl hg) (Blk.cell (hO.box 0 rfl) rfl))) rfl (hl_g rfl rfl (fun hg => (v_lenL rfl underlying23 (gv_ok rfl hg) (hO.fsl 1 rfl))) rfl (hl_g rfl rfl (fun hg => (v_leq (gv_ok rfl hg) rfl)) rfl (hl_v (v_and rfl rfl) rfl (hl_v (v_move rfl) rfl (hl_g rfl rfl (fun hg => (v_fieldA underlying25 rfl sizeOf3 rfl)) rfl (hl_g rfl rfl (fun hg => (v_load1 isAgg3 (gv_ok rfl hg) (Blk.cell (hO.box 0 rfl) rfl))) rfl (hl_g rfl rfl (fun hg => (v_leq (gv_ok rfl hg) rfl)) rfl (hl_g rfl rfl (fun hg => (v_move (gv_ok rfl hg))) rfl (hl_g rfl rfl (fun hg => (v_fieldA underlying25 rfl sizeOf3 rfl)) rfl (hl_g rfl rfl (fun hg => (v_load1 isAgg3 (gv_ok rfl hg) (Blk.cell (hO.box 0 rfl) rfl))) rfl (hl_g rfl rfl (fun hg => (v_gtr (gv_ok rfl hg) rfl)) rfl (hl_g rfl rfl (fun hg => (v_or (gv_ok rfl hg) (gvgb_ok rfl hg))) rfl (hl_v (v_and rfl rfl) rfl (hl_v (v_move rfl) rfl (hl_g rfl rfl (fun hg => (v_move rfl)) rfl (hl_g rfl rfl (fun hg => (v_leq (gv_ok rfl hg) rfl)) rfl (hl_v (v_and rfl rfl) rfl (hl_v (v_assign rfl) rfl (hl_nil (thenQ_n (hw_sub _ (a_c 2 rfl a_n) (hw_ret (ret_i _ (ra_t rfl ra_nil) ?_)))))))))))))))))))))))))
  exact ⟨_, (((fFew t && decide ((t.Arcs.length : Int) ≤ 14)) && (decide (t.States ≤ 5) || decide (1024 < t.States))) && decide (n ≤ 40)), (hO.inz 4 rfl), h, rfl, (Own.sel (Ls := [_, _, _, _, _]) (L := L) [] rfl hO)⟩
theorem rFew19_spec {a0 : GFst} {v_1 : Value} {v_3 : Value} {v_5 : Value} {L : List As} (hp : fSane a0) {H : Heap} {Z : Nat → Prop} (hO : Own H Z (L)) (hf_2 : Fz fGTip.rep L v_1 a0.Starts) (hf_4 : Fz fGTip.rep L v_3 a0.Ends) (hf_6 : Fz fGArc.rep L v_5 a0.Arcs) : HC Tryz.prog 4 [.agg [.int .i64 a0.States, v_1, v_3, v_5].toArray] H (fun v H' => ∃ (Z' : Nat → Prop) , (∀ b, Z b → Z' b) ∧ v = .bool (f19Few a0) ∧ Own H' Z' (L)) := by
  refine (rFew19_ok (t := a0) (@rFew19_wp a0 hp) hO hf_2 hf_4 hf_6).mono ?_
  rintro v H' ⟨Z', r0, hz, hq, hv, hO'⟩
  obtain rfl := hq
  exact ⟨Z', hz, hv, hO'⟩
end
section
open Go.Proofs
open Tryz
abbrev zz21 := (⟨2, [(⟨(0 : Int), ([] : List UInt8)⟩ : GTip)], [(⟨1, ([] : List UInt8)⟩ : GTip)], [(⟨(0 : Int), 1, BSet.ofL [97], [120], false⟩ : GArc), (⟨(0 : Int), 1, BSet.ofL [97], [121], false⟩ : GArc)]⟩ : GFst)
abbrev zz22 := (⟨2, [(⟨(0 : Int), ([] : List UInt8)⟩ : GTip)], [(⟨1, ([] : List UInt8)⟩ : GTip)], ([(⟨(0 : Int), 1, BSet.ofL [97], [120], false⟩ : GArc), (⟨(0 : Int), 1, BSet.ofL [97], [121], false⟩ : GArc)].take 1)⟩ : GFst)
theorem lAwake19_ok   {Q : Bool → Prop} {H : Heap} {Z : Nat → Prop} {L : List As} (h : wp_lAwake19 Q) (hO : Own H Z (L))  : HC Tryz.prog 8 [] H (fun v H' => ∃ (Z' : Nat → Prop) (r0 : Bool) , (∀ b, Z b → Z' b) ∧ Q r0 ∧ v = .bool r0 ∧ Own H' Z' (L)) := by
 replace hO := hO.inZ
 unfold wp_lAwake19 at h
 refine hc_of_hw (N := 67) (rs := [(.tmp 0)]) Tryz.func8 rfl rfl rfl rfl (hw_seq (hw_region (hl_v (v_assign rfl) rfl (hl_nil (thenQ_n (hw_seq (hw_region (hl_v (v_buildF (cs := (fGTip.enc (⟨(0 : Int), ([] : List UInt8)⟩ : GTip))) (xs := []) (is := []) rfl evs_nil (fun w => by show _ = _; kernel_rfl)) rfl (hl_h (o_lit (g := fGTip) (l := [(⟨(0 : Int), ([] : List UInt8)⟩ : GTip)]) (xs := [.tmp 9]) hO underlying22 sizeOf50 zeroValue50 rfl (evs_cons rfl evs_nil) rfl rfl rfl rfl rfl) rfl ?_)))))))))
 rintro v_2 H_1 hO
 refine hl_v (v_buildF (cs := (fGTip.enc (⟨1, ([] : List UInt8)⟩ : GTip))) (xs := [_]) (is := [0]) rfl (evs_cons (show _ = some (.int .i64 1) from rfl) evs_nil) (fun w => by show _ = _; kernel_rfl)) rfl (hl_h (o_lit (g := fGTip) (l := [(⟨1, ([] : List UInt8)⟩ : GTip)]) (xs := [.tmp 11]) hO underlying22 sizeOf50 zeroValue50 rfl (evs_cons rfl evs_nil) rfl rfl rfl rfl rfl) rfl ?_)
 rintro v_4 H_3 hO
 refine hl_h (o_lit (g := fByte) (l := [97]) (xs := [_]) hO underlying33 sizeOf5 zeroValue5 rfl (evs_cons (show _ = some (.int .u8 97) from rfl) evs_nil) rfl rfl rfl rfl rfl) rfl ?_
 rintro v_6 H_5 hO
 refine hl_h (h_call call17 (evs_cons rfl evs_nil) (setOf_spec (a0 := [97]) hO (Rd.of_own (i := 0) rfl))) rfl ?_
 rintro _ H_7 ⟨Z_8, _, rfl, hO⟩
 refine hl_v (v_buildF (cs := (fGArc.enc (⟨(0 : Int), 1, BSet.ofL [97], [120], false⟩ : GArc))) (xs := [_, .tmp 14, _]) (is := [1, 2, 3]) rfl (evs_cons (show _ = some (.int .i64 1) from rfl) (evs_cons rfl (evs_cons (show _ = some (str [120]) from rfl) evs_nil))) (fun w => by show _ = _; kernel_rfl)) rfl (hl_h (o_lit (g := fByte) (l := [97]) (xs := [_]) hO underlying33 sizeOf5 zeroValue5 rfl (evs_cons (show _ = some (.int .u8 97) from rfl) evs_nil) rfl rfl rfl rfl rfl) rfl ?_)
 rintro v_11 H_10 hO
 refine hl_h (h_call call17 (evs_cons rfl evs_nil) (setOf_spec (a0 := [97]) hO (Rd.of_own (i := 0) rfl))) rfl ?_
 rintro _ H_12 ⟨Z_13, _, rfl, hO⟩
 refine hl_v (v_buildF (cs := (fGArc.enc (⟨(0 : Int), 1, BSet.ofL [97], [121], false⟩ : GArc))) (xs := [_, .tmp 17, _]) (is := [1, 2, 3]) rfl (evs_cons (show _ = some (.int .i64 1) from rfl) (evs_cons rfl (evs_cons (show _ = some (str [121]) from rfl) evs_nil))) (fun w => by show _ = _; kernel_rfl)) rfl (hl_h (o_lit (g := fGArc) (l := [(⟨(0 : Int), 1, BSet.ofL [97], [120], false⟩ : GArc), (⟨(0 : Int), 1, BSet.ofL [97], [121], false⟩ : GArc)]) (xs := [.tmp 15, .tmp 18]) hO underlying23 sizeOf39 zeroValue39 rfl (evs_cons rfl (evs_cons rfl evs_nil)) rfl rfl rfl rfl rfl) rfl ?_)
 rintro v_16 H_15 hO
 have hsh_17 := Sl.sh (hO.osl 4 rfl)
 have hsh_18 := Sl.sh (hO.osl 3 rfl)
 have hsh_19 := Sl.sh (hO.osl 0 rfl)
 refine hl_v (v_buildF (cs := [.int .i64 2, v_2, v_4, v_16]) (xs := [_, .tmp 10, .tmp 12, .tmp 19]) (is := [0, 1, 2, 3]) rfl (evs_cons (show _ = some (.int .i64 2) from rfl) (evs_cons rfl (evs_cons rfl (evs_cons rfl evs_nil)))) (fun w => by obtain ⟨_, _, _, hw⟩ := hsh_17; (try subst hw); obtain ⟨_, _, _, hw⟩ := hsh_18; (try subst hw); obtain ⟨_, _, _, hw⟩ := hsh_19; (try subst hw); show _ = _; kernel_rfl)) rfl (hl_h (o_alloc (cs := [.int .i64 (0 : Int), .slice none 0 0, .slice none 0 0, .slice none 0 0]) hO zeroValue25 rfl) rfl ?_)
 rintro _ H_20 ⟨b_21, rfl, hO⟩
 refine hl_s (o_storeA (us := [.int .i64 2, v_2, v_4, v_16]) hO 0 rfl sizeOf25 rfl rfl rfl rfl (by simp only [List.forall_mem_cons]; exact ⟨rfl, (Sl.one (hO.osl 5 rfl)), (Sl.one (hO.osl 4 rfl)), (Sl.one (hO.osl 1 rfl)), by simp⟩)) ?_
 rintro _ H_22 hO
 refine hl_nil (thenQ_n (hw_seq (hw_region (hl_v (v_loadA isAgg25 sizeOf25 rfl (Blk.at0 (hO.box 0 rfl)) rfl) rfl ?_))))
 obtain ⟨Z_23, _, hO⟩ := hO.freeze (i := 5) rfl
 obtain ⟨Z_24, _, hO⟩ := hO.freeze (i := 4) rfl
 obtain ⟨Z_25, _, hO⟩ := hO.freeze (i := 1) rfl
 replace hO : Own H_22 Z_25 (box b_21 [.int .i64 2, v_2, v_4, v_16] 25 :: fz fGArc.rep v_16 [(⟨(0 : Int), 1, BSet.ofL [97], [120], false⟩ : GArc), (⟨(0 : Int), 1, BSet.ofL [97], [121], false⟩ : GArc)] :: own fByte 5 v_11 [97] :: own fByte 5 v_6 [97] :: fz fGTip.rep v_4 [(⟨1, ([] : List UInt8)⟩ : GTip)] :: fz fGTip.rep v_2 [(⟨(0 : Int), ([] : List UInt8)⟩ : GTip)] :: inZ Z :: L) := hO
 obtain ⟨hs_26, h⟩ := h
 refine hl_h (h_call call5 (evs_cons rfl evs_nil) (funOne_spec (a0 := zz21) hs_26 hO (Fz.of (i := 5) rfl) (Fz.of (i := 4) rfl) (Fz.of (i := 1) rfl))) rfl ?_
 rintro _ H_27 ⟨Z_28, _, rfl, hO⟩
 refine hl_v (v_move rfl) rfl (hl_v (v_extract rfl rfl) rfl (hl_v (v_extract rfl rfl) rfl (hl_v (v_assign rfl) rfl (hl_v (v_assign rfl) rfl (hl_nil (thenQ_n (hw_sub _ (a_c 1 rfl (a_c 2 rfl (a_c 3 rfl a_n))) (hw_seq (hw_region (hl_v (v_loadA isAgg25 sizeOf25 rfl (Blk.at0 (hO.box 0 rfl)) rfl) rfl (hl_h (h_call call7 (evs_cons rfl evs_nil) (funTwo_spec (a0 := zz21) hs_26 hO (Fz.of (i := 5) rfl) (Fz.of (i := 4) rfl) (Fz.of (i := 1) rfl))) rfl ?_)))))))))))
 rintro _ H_30 ⟨Z_31, _, rfl, hO⟩
 refine hl_v (v_move rfl) rfl (hl_v (v_extract rfl rfl) rfl (hl_v (v_extract rfl rfl) rfl (hl_v (v_extract rfl rfl) rfl (hl_v (v_assign rfl) rfl (hl_v (v_assign rfl) rfl (hl_v (v_assign rfl) rfl (hl_nil (thenQ_n (hw_seq (hw_region (hl_v (v_fieldA underlying25 rfl sizeOf23 rfl) rfl (hl_v (v_load1 isAgg23 rfl (Blk.cell (hO.box 0 rfl) rfl)) rfl ?_))))))))))))
 obtain ⟨hs_33, h⟩ := h
 replace hO := Sl.item (slvh_of (hi := 1) (hO.fsl 1 rfl) hs_33 rfl) hO
 refine hl_v (v_sliceLh underlying23 sizeOf39 rfl rfl (hO.fsl 2 rfl) hs_33) rfl (hl_v (v_fieldA underlying25 rfl sizeOf23 rfl) rfl (hl_s (o_store1 hO 1 rfl sizeOf23 rfl rfl rfl (Sl.one (hO.fsl 0 rfl))) ?_))
 rintro _ H_34 hO
 refine hl_nil (thenQ_n (hw_sub _ (a_c 1 rfl (a_c 2 rfl (a_c 3 rfl (a_c 4 rfl (a_c 5 rfl (a_c 6 rfl a_n)))))) (hw_seq (hw_region (hl_v (v_loadA isAgg25 sizeOf25 rfl (Blk.at0 (hO.box 1 rfl)) rfl) rfl ?_)))))
 obtain ⟨hs_35, h⟩ := h
 refine hl_h (h_call call5 (evs_cons rfl evs_nil) (funOne_spec (a0 := zz22) hs_35 hO (Fz.of (i := 6) rfl) (Fz.of (i := 5) rfl) (Fz.of (i := 0) rfl))) rfl ?_
 rintro _ H_36 ⟨Z_37, _, rfl, hO⟩
 refine hl_v (v_move rfl) rfl (hl_v (v_extract rfl rfl) rfl (hl_v (v_extract rfl rfl) rfl (hl_v (v_assign rfl) rfl (hl_v (v_assign rfl) rfl (hl_nil (thenQ_n (hw_seq (hw_region (hl_v (v_move rfl) rfl (hl_v (v_not rfl) rfl (hl_v (v_move rfl) rfl (hl_g rfl rfl (fun hg => (v_move rfl)) rfl (hl_g rfl rfl (fun hg => (v_eql (gv_ok rfl hg) rfl)) rfl (hl_v (v_and rfl rfl) rfl (hl_v (v_move rfl) rfl (hl_g rfl rfl (fun hg => (v_move rfl)) rfl (hl_g rfl rfl (fun hg => (v_eqlS (gv_ok rfl hg) rfl)) rfl (hl_v (v_and rfl rfl) rfl (hl_v (v_move rfl) rfl (hl_g rfl rfl (fun hg => (v_move rfl)) rfl (hl_v (v_and rfl rfl) rfl (hl_v (v_move rfl) rfl (hl_g rfl rfl (fun hg => (v_move rfl)) rfl (hl_g rfl rfl (fun hg => (v_move rfl)) rfl (hl_g rfl rfl (fun hg => (v_eql (gv_ok rfl hg) (gv_ok rfl hg))) rfl (hl_v (v_and rfl rfl) rfl (hl_v (v_move rfl) rfl (hl_g rfl rfl (fun hg => (v_move rfl)) rfl (hl_v (v_and rfl rfl) rfl (hl_v (v_move rfl) rfl (hl_g rfl rfl (fun hg => (v_move rfl)) rfl (hl_g rfl rfl (fun hg => (v_move rfl)) rfl (hl_g rfl rfl (fun hg => (v_eql (gv_ok rfl hg) (gv_ok rfl hg))) rfl (hl_v (v_and rfl rfl) rfl (hl_v (v_assign rfl) rfl (hl_nil (thenQ_n (hw_sub _ (a_c 0 rfl a_n) (hw_ret (ret_i _ (ra_t rfl ra_nil) ?_))))))))))))))))))))))))))))))))))))))))
 exact ⟨_, (((((((!(nOne zz21).1) && decide ((nOne zz21).2 = 0)) && decide ((nTwo zz21).1 = [97])) && (nTwo zz21).2.1) && decide ((nTwo zz21).2.2 = (nOne zz21).2)) && (nOne zz22).1) && decide ((nOne zz22).2 = (nOne zz21).2)), (hO.inz 7 rfl), h, rfl, (Own.sel (Ls := [_, _, _, _, _, _, _, _]) (L := L) [] rfl hO)⟩
theorem lAwake19_spec   {L : List As} {H : Heap} {Z : Nat → Prop} (hO : Own H Z (L))  : HC Tryz.prog 8 [] H (fun v H' => ∃ (Z' : Nat → Prop) , (∀ b, Z b → Z' b) ∧ v = .bool (true) ∧ Own H' Z' (L)) := by
  refine (lAwake19_ok  (@lAwake19_wp ) hO).mono ?_
  rintro v H' ⟨Z', r0, hz, hq, hv, hO'⟩
  obtain rfl := hq
  exact ⟨Z', hz, hv, hO'⟩
end
section
section
variable {H H' : Heap} {Z Z' F D : Nat → Prop} {L L' : List As} {A A' : As}
variable {e e' : TypeId} {v v' u w : Value} {vs us : List Value} {α : Type} {g : Flat α} {l m : List (List α)}
theorem Own.inPl {i : Nat} (h : Own H Z L) (hi : L[i]? = some A) (hA : ∀ D, A.r H Z D → A'.r H Z D) : Own H Z (L.set i A') := by
  obtain ⟨D, h1, h2, h3⟩ := h.f.at hi
  exact ⟨h.z, h3 (H' := H) (Z' := Z) (F' := fun b => b < H.size ∧ ¬ Z b) (D' := D) (A' := A') (hA D h1) (Nat.le_refl _) h2 (fun b f1 f2 => ⟨f1, f2⟩) (fun _ _ _ => rfl) fun _ h => h⟩
theorem Own.drop1 (h : Own H Z (A :: L)) : Own H Z L := by
  obtain ⟨hz, D, h1, h2, h3⟩ := h
  exact ⟨hz, h3.frame (Nat.le_refl _) (fun b k => k.1) (fun _ _ _ => rfl) fun _ h => h⟩
theorem Own.drop2 (h : Own H Z (A :: A' :: L)) : Own H Z (A :: L) := (h.perm (.swap _ _ _)).drop1
/-- the same, its rows' headers known -/
def openN (g : Flat α) (e e' : TypeId) (v : Value) (vs : List Value) (l : List (List α)) : As := exs fun Ls => vs.length = l.length ∧ Ls = rowv e v vs :: List.zipWith (own g e') vs l
theorem openN_N {D : Nat → Prop} (h : (openN g e e' v vs l).r H Z D) : (ownN g e e' v l).r H Z D := by
  obtain ⟨h0, _, ⟨hl, rfl⟩, h1⟩ := h
  exact ⟨h0, _, ⟨vs, hl, rfl⟩, h1⟩
theorem Own.openN {i : Nat} (h : Own H Z L) (hi : L[i]? = some (ownN g e e' v l)) : ∃ vs, Own H Z (L.set i (Go.Proofs.YtaopgjfioabfpaaGreat.openN g e e' v vs l)) := by
  obtain ⟨D, h1, h2, h3⟩ := h.f.at hi
  obtain ⟨hb, _, ⟨vs, hl, rfl⟩, hf⟩ := h1
  exact ⟨vs, h.z, h3 (H' := H) (Z' := Z) (F' := fun b => b < H.size ∧ ¬ Z b) (D' := D) (A' := Go.Proofs.YtaopgjfioabfpaaGreat.openN g e e' v vs l) ⟨hb, _, ⟨hl, rfl⟩, hf⟩ (Nat.le_refl _) h2 (fun b f1 f2 => ⟨f1, f2⟩) (fun _ _ _ => rfl) fun _ h => h⟩
theorem Own.closeN {i : Nat} (h : Own H Z L) (hi : L[i]? = some (Go.Proofs.YtaopgjfioabfpaaGreat.openN g e e' v vs l)) : Own H Z (L.set i (ownN g e e' v l)) := h.inPl (A' := ownN g e e' v l) hi fun _ h => openN_N h
theorem Own.vsl (h : Own H Z L) (i : Nat) (hi : L[i]? = some (Go.Proofs.YtaopgjfioabfpaaGreat.openN g e e' v vs l)) : Sl (Rep.sl g.rep) H (fun _ => True) v l := by
  obtain ⟨D, h1, _⟩ := h.get hi
  exact (ownN_sl (openN_N h1)).weak fun _ _ => trivial
/-- a row of it, at any time -/
theorem Own.nrow (h : Own H Z L) (i : Nat) (hi : L[i]? = some (Go.Proofs.YtaopgjfioabfpaaGreat.openN g e e' v vs l)) {k : Int} (hk : 0 ≤ k ∧ k < l.length) : Sl g.rep H (fun _ => True) (vs.getD k.toNat default) (l.getD k.toNat default) := by
  obtain ⟨D, ⟨_, _, ⟨hl, rfl⟩, D1, h1, h2, h3⟩, _⟩ := h.get hi
  have hk' : k.toNat < l.length := by omega
  obtain ⟨D2, q1, q2, _⟩ := h3.at (i := k.toNat) (zip_get _ (hl ▸ hk') hk')
  have e1 : vs.getD k.toNat default = vs[k.toNat] := by simp [List.getD, hl ▸ hk']
  have e2 : l.getD k.toNat default = l[k.toNat] := by simp [List.getD, hk']
  rw [e1, e2]
  exact (q1.1.sl fun b hb => (q2 b ((q1.2 b).2 hb)).1).weak fun _ _ => trivial
theorem Own.nrc (h : Own H Z L) (i : Nat) (hi : L[i]? = some (Go.Proofs.YtaopgjfioabfpaaGreat.openN g e e' v vs l)) {k : Int} (hk : 0 ≤ k ∧ k < l.length) : cellH H (sb v) (so v + k.toNat * 1) = some (vs.getD k.toNat default) := by
  obtain ⟨D, ⟨_, _, ⟨hl, rfl⟩, D1, h1, h2, h3⟩, _⟩ := h.get hi
  have hk' : k.toNat < vs.length := by omega
  obtain ⟨_, _, cs, h3, h4, _⟩ := (rowv_sl h1).mem k.toNat hk'
  have := h3 0 vs[k.toNat] (by rw [h4]; rfl)
  rw [show vs.getD k.toNat default = vs[k.toNat] by simp [List.getD, hk']]
  exact this
variable {P : Program} {N : Sz} {f : Frm} {ty t : TypeId} {x y z : Operand}
theorem v_nrowLoad {i : Nat} {k : Int} (hO : Own H Z L) (hi : L[i]? = some (Go.Proofs.YtaopgjfioabfpaaGreat.openN g e e' v vs l)) (ha : ∀ w, (isAgg t).run P w = .ok false w) (hx : ev f x = some (ptr (sb v) (so v + k.toNat * 1))) (hk : 0 ≤ k ∧ k < l.length) : OpV P N (.load t x) ty f H (vs.getD k.toNat default) :=
  v_load1 ha hx (hO.nrc i hi hk)
theorem o_nrowSet [Inhabited α] {i : Nat} {k j : Int} {u : Value} {x' : α} (hO : Own H Z L) (hi : L[i]? = some (Go.Proofs.YtaopgjfioabfpaaGreat.openN g e e' v vs l)) (hs : ∀ w, (sizeOf t).run P w = .ok 1 w) (hg : g.sz = 1) (hk : 0 ≤ k ∧ k < l.length)
    (hx : ev f x = some (ptr (sb (vs.getD k.toNat default)) (so (vs.getD k.toNat default) + j.toNat * 1))) (hy : ev f y = some u) (hj : 0 ≤ j ∧ j < (l.getD k.toNat default).length) (hx' : [u] = g.enc x') (h1 : u.oneCell' = true) :
    OpH P N (.store t x y) ty f H (fun _ H' => Own H' Z (L.set i (Go.Proofs.YtaopgjfioabfpaaGreat.openN g e e' v vs (l.set k.toNat ((l.getD k.toNat default).set j.toNat x'))))) := by
  have hk' : k.toNat < l.length := by omega
  obtain ⟨_, ⟨hl, rfl⟩, h2⟩ := (hO.pull hi).opn
  have hkv : k.toNat < vs.length := by omega
  have hz : (List.zipWith (own g e') vs l)[k.toNat]? = some (own g e' (vs.getD k.toNat default) (l.getD k.toNat default)) := by
    rw [zip_get _ hkv hk']; simp [List.getD, hkv, hk']
  have hlt : k.toNat < (List.zipWith (own g e') vs l).length := by simp [hl, hk']
  refine (o_set1 (sz := 1) h2 (k.toNat + 1) (by rw [List.cons_append, List.getElem?_cons_succ, List.getElem?_append_left hlt]; exact hz) hs hg rfl hx hy hj hx' h1).mono fun _ H' h3 => ?_
  rw [List.cons_append, List.set_cons_succ, List.set_append_left _ _ hlt] at h3
  have e1 : (List.zipWith (own g e') vs l).set k.toNat (own g e' (vs.getD k.toNat default) ((l.getD k.toNat default).set j.toNat x')) = List.zipWith (own g e') vs (l.set k.toNat ((l.getD k.toNat default).set j.toNat x')) := by
    apply List.ext_getElem?
    intro i
    rw [List.getElem?_zipWith, List.getElem?_set, List.getElem?_set]
    by_cases q : k.toNat = i
    · subst q; simp [hl, hk', List.getD, hkv]
    · rw [if_neg q, if_neg q, List.getElem?_zipWith]
  rw [e1] at h3
  have h4 := Own.cls (Ls := rowv e v vs :: List.zipWith (own g e') vs (l.set k.toNat ((l.getD k.toNat default).set j.toNat x'))) (S := fun Ls => vs.length = (l.set k.toNat ((l.getD k.toNat default).set j.toNat x')).length ∧ Ls = rowv e v vs :: List.zipWith (own g e') vs (l.set k.toNat ((l.getD k.toNat default).set j.toNat x'))) h3 ⟨by rw [List.length_set]; exact hl, rfl⟩
  have h5 := Own.push (A := Go.Proofs.YtaopgjfioabfpaaGreat.openN g e e' v vs (l.set k.toNat ((l.getD k.toNat default).set j.toNat x'))) h4 (i := i) (by
    have : i < L.length := by rcases Nat.lt_or_ge i L.length with q | q; exact q; rw [List.getElem?_eq_none q] at hi; cases hi
    simp [this])
  rwa [List.set_set] at h5
/-! ## headers as plain cells -/
abbrev Cell1 := { v : Value // v.oneCell' = true }
def fCell : Flat Cell1 := ⟨fun x => [x.1], 1, fun _ => rfl, fun x c h => by simp at h; subst h; exact x.2⟩
theorem fm_cell (xs : List Cell1) : xs.flatMap fCell.enc = xs.map (·.1) := by
  induction xs with
  | nil => rfl
  | cons a l ih => rw [List.flatMap_cons, ih]; rfl
theorem cells_of : ∀ (vs : List Value), (∀ c ∈ vs, c.oneCell' = true) → ∃ xs : List Cell1, xs.map (·.1) = vs
  | [], _ => ⟨[], rfl⟩
  | a :: l, h => by
    obtain ⟨xs, hx⟩ := cells_of l fun c hc => h c (List.mem_cons_of_mem _ hc)
    exact ⟨⟨a, h a (by simp)⟩ :: xs, by simp [hx]⟩
theorem Own.toCell (h : Own H Z (rowv e v vs :: L)) : ∃ xs : List Cell1, xs.map (·.1) = vs ∧ Own H Z (own fCell e v xs :: L) := by
  obtain ⟨hz, D, ⟨⟨h1, h0⟩, h2⟩, h3, h4⟩ := h
  obtain ⟨xs, rfl⟩ := cells_of vs h0
  refine ⟨xs, rfl, hz, D, ⟨?_, h2⟩, h3, h4⟩
  unfold Ow
  rw [fm_cell]
  rw [List.length_map] at h1
  exact h1
theorem Own.ofCell {xs : List Cell1} (h : Own H Z (own fCell e v xs :: L)) : Own H Z (rowv e v (xs.map (·.1)) :: L) := by
  obtain ⟨hz, D, ⟨h1, h2⟩, h3, h4⟩ := h
  refine ⟨hz, D, ⟨⟨?_, fun c hc => ?_⟩, h2⟩, h3, h4⟩
  · unfold Ow at h1
    rw [fm_cell] at h1
    rw [List.length_map]; exact h1
  · obtain ⟨x, _, rfl⟩ := List.mem_map.1 hc
    exact x.2
theorem Own.nilN (h : Own H Z L) (g : Flat α) (e e' : TypeId) : Own H Z (ownN g e e' (.slice none 0 0) [] :: L) :=
  Own.cls (Ls := [rowv e (.slice none 0 0) []]) (S := fun Ls => ∃ vs : List Value, vs.length = ([] : List (List α)).length ∧ Ls = rowv e (.slice none 0 0) vs :: List.zipWith (own g e') vs []) (Own.ofCell (xs := []) (h.nil fCell e)) ⟨[], rfl, rfl⟩
theorem o_litN {a : List α} {i : Nat} {x : Operand} {z : Value} (hO : Own H Z L) (hi : L[i]? = some (own g e' w a)) (h1 : w.oneCell' = true) (ht : P.underlying t = some (.slice e)) (hs : ∀ w, (sizeOf e).run P w = .ok 1 w) (hz : ∀ w, (zeroValue e).run P w = .ok z w) (hx : ev f x = some w) :
    OpH P N (.buildSlice t 1 #[(0, x)]) ty f H (fun v H' => Own H' Z (ownN g e e' v [a] :: L.set i emp)) := by
  refine (o_lit (g := fCell) (l := [⟨w, h1⟩]) (xs := [x]) (vs := [w]) (sz := 1) hO ht hs hz rfl (evs_cons hx evs_nil) rfl rfl rfl (by
    have : w.cells = #[w] := by
      cases w <;> first | rfl | simp [Value.oneCell'] at h1
    simp [fCell, this]) rfl).mono fun v H' h => ?_
  have h2 := h.ofCell
  have h3 := h2.pull (i := i + 1) (A := own g e' w a) (by rw [List.getElem?_cons_succ]; exact hi)
  rw [List.set_cons_succ] at h3
  have h4 := h3.perm (.swap _ _ _)
  exact Own.cls (Ls := [rowv e v [w], own g e' w a]) (S := fun Ls => ∃ vs : List Value, vs.length = ([a] : List (List α)).length ∧ Ls = rowv e v vs :: List.zipWith (own g e') vs [a]) h4 ⟨[w], rfl, rfl⟩
theorem o_appendN {q : TypeInfo} {zv : Value} {tys : Array TypeId} (hO : Own H Z (ownN g e e' v l :: ownN g e e' u m :: L)) (ha : tys = #[t, t]) (ht : P.underlying t = some (.slice e)) (hq : P.info? e = some q) (hz : q.zero = some zv) (hsz : q.size = 1) (hzs : zv.cells.size = 1)
    (hx : ev f x = some v) (hy : ev f y = some u) (hlen : (l.length + m.length) * q.bytes ≤ 140737488355328) (h63 : l.length + m.length ≤ 9223372036854775807) :
    OpH P N (.call ⟨.builtin .append, #[x, y], tys⟩) ty f H (fun v' H' => Own H' Z (ownN g e e' v' (l ++ m) :: L)) := by
  obtain ⟨_, ⟨vs, hl, rfl⟩, h1⟩ := hO.opn
  have h2 := h1.perm (L' := ownN g e e' u m :: ((rowv e v vs :: List.zipWith (own g e') vs l) ++ L)) List.perm_middle
  obtain ⟨_, ⟨us, hm, rfl⟩, h3⟩ := h2.opn
  have h4 : Own H Z (rowv e v vs :: rowv e u us :: (List.zipWith (own g e') vs l ++ List.zipWith (own g e') us m ++ L)) := by
    refine h3.perm ?_
    simp only [List.cons_append]
    refine List.Perm.trans (.cons _ List.perm_middle) (List.Perm.trans (.swap _ _ _) (.cons _ (.cons _ ?_)))
    rw [← List.append_assoc]
    exact List.perm_append_comm.append_right _
  obtain ⟨xs, hxs, h5⟩ := h4.toCell
  obtain ⟨ys, hys, h6⟩ := (h5.perm (.swap _ _ _)).toCell
  have hsl := h6.osl 0 rfl
  have h7 := h6.perm (.swap _ _ _)
  have lx : xs.length = l.length := by rw [← hl, ← hxs, List.length_map]
  have ly : ys.length = m.length := by rw [← hm, ← hys, List.length_map]
  refine (o_append (g := fCell) (sz := 1) h7 0 rfl ha ht hq hz hsz rfl hzs rfl hx hy hsl (by rw [lx, ly]; exact hlen) (by rw [lx, ly]; exact h63)).mono fun v' H' h8 => ?_
  have h9 := (Own.ofCell h8).perm (L' := own fCell e u ys :: rowv e v' ((xs ++ ys).map (·.1)) :: (List.zipWith (own g e') vs l ++ List.zipWith (own g e') us m ++ L)) (.swap _ _ _)
  have h10 := h9.drop1
  rw [List.map_append, hxs, hys, ← List.zipWith_append (by rw [hl])] at h10
  exact Own.cls (Ls := rowv e v' (vs ++ us) :: List.zipWith (own g e') (vs ++ us) (l ++ m)) (S := fun Ls => ∃ ws : List Value, ws.length = (l ++ m).length ∧ Ls = rowv e v' ws :: List.zipWith (own g e') ws (l ++ m)) h10 ⟨vs ++ us, by rw [List.length_append, List.length_append, hl, hm], rfl⟩
end
end
section
structure Gwhittleref19_Lag where
  P : Int
  Q : Int
  A : List UInt8
  B : List UInt8
  deriving DecidableEq, Inhabited
def fGwhittleref19_Lag : Flat Gwhittleref19_Lag := ⟨fun x => [.int .i64 x.P, .int .i64 x.Q, str x.A, str x.B], 4, fun _ => rfl, fun x c h => by
  simp only [List.mem_cons, List.not_mem_nil, or_false] at h
  rcases h with rfl | rfl | rfl | rfl <;> rfl⟩
end
section
/-- come to from Starts by a text, with what came out -/
def Run (t : GFst) (s : Int) (w A : List UInt8) : Prop := (⟨s, A⟩ : GTip) ∈ fReach t w
/-- from a state to Ends by a text -/
def Fin (t : GFst) : Int → List UInt8 → List UInt8 → Prop
  | s, [], u => ∃ e ∈ t.Ends, e.State = s ∧ u = e.Out
  | s, c :: w, u => ∃ x ∈ t.Arcs, x.From = s ∧ x.Set.has c.toNat = true ∧ ∃ u', Fin t x.To w u' ∧ u = fOutB x c ++ u'
/-- related -/
def Acc (t : GFst) (w o : List UInt8) : Prop := ∃ s A u, Run t s w A ∧ Fin t s [] u ∧ o = A ++ u
variable {t : GFst}
theorem run_nil {s : Int} {A : List UInt8} : Run t s [] A ↔ (⟨s, A⟩ : GTip) ∈ t.Starts := Iff.rfl
theorem run_snoc {s : Int} {w A : List UInt8} {c : UInt8} : Run t s (w ++ [c]) A ↔ ∃ x ∈ t.Arcs, x.To = s ∧ x.Set.has c.toNat = true ∧ ∃ B, Run t x.From w B ∧ A = B ++ fOutB x c := by
  unfold Run fReach
  rw [List.foldl_append]
  simp only [List.foldl_cons, List.foldl_nil]
  unfold fRaw
  rw [List.mem_flatMap]
  constructor
  · rintro ⟨p, hp, hx⟩
    obtain ⟨x, hx, e⟩ := List.mem_map.1 hx
    obtain ⟨hx1, hx2⟩ := List.mem_filter.1 hx
    simp only [Bool.and_eq_true, decide_eq_true_eq] at hx2
    cases e
    exact ⟨x, hx1, rfl, hx2.2, p.Out, by rw [hx2.1]; exact hp, rfl⟩
  · rintro ⟨x, hx, rfl, hc, B, hB, rfl⟩
    exact ⟨⟨x.From, B⟩, hB, List.mem_map.2 ⟨x, List.mem_filter.2 ⟨hx, by simp [hc]⟩, rfl⟩⟩
theorem run_step {w A : List UInt8} {x : GArc} (hx : x ∈ t.Arcs) {c : UInt8} (hc : x.Set.has c.toNat = true) (h : Run t x.From w A) : Run t x.To (w ++ [c]) (A ++ fOutB x c) := run_snoc.2 ⟨x, hx, rfl, hc, A, h, rfl⟩
theorem run_fin : ∀ {w' : List UInt8} {w : List UInt8} {s : Int} {A u : List UInt8}, Run t s w A → Fin t s w' u → Acc t (w ++ w') (A ++ u)
  | [], w, s, A, u, h, k => by rw [List.append_nil]; exact ⟨s, A, u, h, k, rfl⟩
  | c :: w', w, s, A, u, h, ⟨x, hx, hs, hc, u', hu, e⟩ => by
    subst hs
    have := run_fin (run_step hx hc h) hu
    rw [e, show w ++ c :: w' = w ++ [c] ++ w' by simp, ← List.append_assoc]
    exact this
/-! ## trimmed -/
theorem snocInd {P : List UInt8 → Prop} (h0 : P []) (hs : ∀ w c, P w → P (w ++ [c])) (w : List UInt8) : P w := by
  have : ∀ n, ∀ w : List UInt8, w.length = n → P w := by
    intro n
    induction n with
    | zero => intro w hw; rw [List.eq_nil_of_length_eq_zero hw]; exact h0
    | succ n ih =>
      intro w hw
      have hne : w ≠ [] := by intro e; rw [e] at hw; simp at hw
      rw [← List.dropLast_concat_getLast hne]
      exact hs _ _ (ih _ (by rw [List.length_dropLast]; omega))
  exact this _ w rfl
end
section
/-! ## rows by state -/
theorem rows_memG {α β : Type} {n : Nat} (f : α → Int) (g : α → β) : ∀ (l : List α) (o : List (List β)), o.length = n → (∀ x ∈ l, 0 ≤ f x ∧ f x < n) → ∀ s : Int, 0 ≤ s → ∀ t,
    (t ∈ (l.foldl (fun o x => o.set (f x).toNat (o.getD (f x).toNat default ++ [g x])) o).getD s.toNat default ↔ t ∈ o.getD s.toNat default ∨ ∃ x ∈ l, f x = s ∧ g x = t)
  | [], o, _, _, s, hs, t => by simp
  | x :: l, o, ho, hx, s, hs, t => by
    have h1 := hx x (by simp)
    rw [List.foldl_cons, rows_memG f g l _ (by simpa using ho) (fun y hy => hx y (List.mem_cons_of_mem _ hy)) s hs t]
    have e : ∀ t, t ∈ (o.set (f x).toNat (o.getD (f x).toNat default ++ [g x])).getD s.toNat default ↔ t ∈ o.getD s.toNat default ∨ (f x = s ∧ g x = t) := fun t => by
      rw [List.getD_eq_getElem?_getD, List.getElem?_set]
      by_cases h : (f x).toNat = s.toNat
      · rw [if_pos h, if_pos (by omega), h]
        have : f x = s := by omega
        simp [this, eq_comm]
      · rw [if_neg h, ← List.getD_eq_getElem?_getD]
        have : f x ≠ s := fun e => h (by rw [e])
        simp [this]
    rw [e]
    constructor
    · rintro ((h | h) | ⟨y, hy, h⟩)
      · exact .inl h
      · exact .inr ⟨x, by simp, h⟩
      · exact .inr ⟨y, List.mem_cons_of_mem _ hy, h⟩
    · rintro (h | ⟨y, hy, h⟩)
      · exact .inl (.inl h)
      · rcases List.mem_cons.1 hy with rfl | hy
        · exact .inl (.inr h)
        · exact .inr ⟨y, hy, h⟩
theorem empty_rowG {β : Type} {n : Nat} {s : Int} {t : β} : ¬ t ∈ (List.replicate n ([] : List β)).getD s.toNat default := by
  rw [List.getD_eq_getElem?_getD, List.getElem?_replicate]
  split <;> simp <;> exact List.not_mem_nil
theorem mem_nFrom {n : Int} {l : List GArc} (h : ∀ x ∈ l, 0 ≤ x.From ∧ x.From < n) {s : Int} (hs : 0 ≤ s) {x : GArc} : x ∈ (nFrom n l).getD s.toNat default ↔ x ∈ l ∧ x.From = s := by
  unfold nFrom
  rw [rows_memG (n := n.toNat) (·.From) (fun x => x) l _ (by simp) (fun x hx => by have := h x hx; omega) s hs x]
  constructor
  · rintro (q | ⟨y, hy, e, rfl⟩)
    · exact absurd q empty_rowG
    · exact ⟨hy, e⟩
  · rintro ⟨hx, e⟩
    exact .inr ⟨x, hx, e, rfl⟩
theorem mem_nEnds {n : Int} {l : List GTip} (h : ∀ x ∈ l, 0 ≤ x.State ∧ x.State < n) {s : Int} (hs : 0 ≤ s) {u : List UInt8} : u ∈ (nEnds n l).getD s.toNat default ↔ ∃ x ∈ l, x.State = s ∧ x.Out = u := by
  unfold nEnds
  rw [rows_memG (n := n.toNat) (·.State) (·.Out) l _ (by simp) (fun x hx => by have := h x hx; omega) s hs u]
  exact ⟨fun q => q.elim (fun q => absurd q empty_rowG) id, .inr⟩
/-! ## both have a byte -/
theorem mem_bytes {S : BSet} {c : UInt8} : c ∈ S.bytes ↔ S.has c.toNat = true := by
  unfold BSet.bytes
  rw [List.mem_map]
  constructor
  · rintro ⟨m, hm, rfl⟩
    have := S.mem_lt m hm
    rw [UInt8.toNat_ofNat_of_lt' (show m < 256 by omega)]; exact this.2
  · intro h
    refine ⟨c.toNat, ?_, by simp⟩
    unfold BSet.mem BSet.memK
    exact List.mem_filter.2 ⟨List.mem_range.2 c.toNat_lt, h⟩
theorem mem_both {A B : BSet} {c : UInt8} : c ∈ (BSet.band A B).bytes ↔ A.has c.toNat = true ∧ B.has c.toNat = true := by
  rw [mem_bytes, BSet.has_band A B c.toNat_lt, Bool.and_eq_true]
theorem both_ne {A B : BSet} {c : UInt8} (h : A.has c.toNat = true ∧ B.has c.toNat = true) : (BSet.band A B).mem.length ≠ 0 := by
  have := mem_both.2 h
  rw [← BSet.bytes_len]
  intro e
  rw [List.length_eq_zero_iff.1 e] at this
  simp at this
theorem both_first {A B : BSet} (h : (BSet.band A B).mem.length ≠ 0) : A.has ((BSet.band A B).bytes.getD 0 0).toNat = true ∧ B.has ((BSet.band A B).bytes.getD 0 0).toNat = true := by
  rw [← BSet.bytes_len] at h
  exact mem_both.1 (getk_mem (by omega))
/-! ## loops that do something for each -/
theorem foldl_each {α β : Type} {P : β → Prop} {Q : α → β → Prop} {g : β → α → β} : ∀ {l : List α} {s : β}, (∀ s, ∀ x ∈ l, P s → P (g s x) ∧ Q x (g s x)) → (∀ s, ∀ x ∈ l, ∀ y, P s → Q y s → Q y (g s x)) → P s → P (l.foldl g s) ∧ (∀ y, Q y s → Q y (l.foldl g s)) ∧ ∀ x ∈ l, Q x (l.foldl g s)
  | [], s, _, _, h => ⟨h, fun _ h => h, fun _ h => by simp at h⟩
  | x :: l, s, h1, h2, h => by
    obtain ⟨k1, k2⟩ := h1 s x (by simp) h
    obtain ⟨m1, m2, m3⟩ := foldl_each (l := l) (s := g s x) (fun s y hy => h1 s y (List.mem_cons_of_mem _ hy)) (fun s y hy => h2 s y (List.mem_cons_of_mem _ hy)) k1
    refine ⟨m1, fun y hy => m2 y (h2 s x (by simp) y h hy), fun y hy => ?_⟩
    rcases List.mem_cons.1 hy with rfl | hy
    · exact m2 _ k2
    · exact m3 y hy
/-! ## tails -/
/-- each pair is led to Ends as it is told -/
def TlSem (t : GFst) (on : List (TwoS × Gfun_tail)) : Prop := ∀ p x, aget on p = some x → Fin t p.1 x.w x.a ∧ Fin t p.2 x.w x.b
def SInv (f : Gfun_finder) (s : TlS) : Prop := TInv f s ∧ TlSem f.t s.1.on'
theorem SInv.put {f : Gfun_finder} {s : TlS} (h : SInv f s) {p : TwoS} {x : Gfun_tail} (hp : InSq f.t.States p) (h1 : x.w.length ≤ s.2.length) (h2 : x.a.length ≤ 1024 + 1025 * s.2.length) (h3 : x.b.length ≤ 1024 + 1025 * s.2.length) (h4 : Fin f.t p.1 x.w x.a ∧ Fin f.t p.2 x.w x.b) : SInv f (nPut p x s.1 s.2) ∧ p ∈ (nPut p x s.1 s.2).2 := by
  have hT := h.1.put hp h1 h2 h3
  refine ⟨⟨hT, ?_⟩, ?_⟩
  · unfold nPut
    split
    · exact h.2
    · intro q y hy
      dsimp only at hy
      rw [aget_put] at hy
      split at hy
      · rename_i e; cases hy; rw [e]; exact h4
      · exact h.2 q y hy
  · unfold nPut
    split <;> rename_i hc
    · exact (h.1.2.ks p).1 hc
    · exact List.mem_append_right _ (by simp)
theorem mem_pre {α : Type} {a b : List α} (h : a <+: b) {x : α} (hx : x ∈ a) : x ∈ b := by
  obtain ⟨t, rfl⟩ := h; exact List.mem_append_left _ hx
variable {f : Gfun_finder}
/-- the pair behind place i leads two arcs back -/
def Led (i : Nat) (q : TwoS) (x y : GArc) (s : TlS) : Prop := (BSet.band x.Set y.Set).mem.length ≠ 0 → x.To = q.1 → y.To = q.2 → (x.From, y.From) ∈ s.2
theorem arc_sem {i : Nat} {x y : GArc} {s : TlS} {q : TwoS} (h : SInv f s) (hi : i < s.2.length) (hq : s.2.getD i default = q) (mx : x ∈ f.t.Arcs) (my : y ∈ f.t.Arcs) (hx : (0 ≤ x.From ∧ x.From < f.t.States) ∧ x.Out.length ≤ 1024) (hy : (0 ≤ y.From ∧ y.From < f.t.States) ∧ y.Out.length ≤ 1024) : SInv f (nTailsArc i x y s) ∧ Led i q x y (nTailsArc i x y s) := by
  subst hq
  unfold nTailsArc
  dsimp only
  split <;> rename_i hc
  · have hb : (BSet.band x.Set y.Set).mem.length ≠ 0 := by simpa using hc.1
    have hl := h.1.2.len i hi
    have l1 := fOutB_len x ((BSet.band x.Set y.Set).bytes.getD 0 0); have l2 := fOutB_len y ((BSet.band x.Set y.Set).bytes.getD 0 0)
    have hf := both_first hb
    obtain ⟨z, hz⟩ := aget_some ((h.1.2.ks _).2 (getk_mem (d := default) hi))
    have hs := h.2 _ _ hz
    rw [hz] at hl ⊢
    dsimp only [Option.getD_some] at hl ⊢
    have := h.put (p := (x.From, y.From)) (x := ⟨[(BSet.band x.Set y.Set).bytes.getD 0 0] ++ z.w, fOutB x ((BSet.band x.Set y.Set).bytes.getD 0 0) ++ z.a, fOutB y ((BSet.band x.Set y.Set).bytes.getD 0 0) ++ z.b⟩) ⟨hx.1, hy.1⟩
      (by dsimp only; rw [List.length_append, List.length_singleton]; omega) (by dsimp only; rw [List.length_append]; omega) (by dsimp only; rw [List.length_append]; omega)
      ⟨⟨x, mx, rfl, hf.1, z.a, by rw [hc.2.1]; exact hs.1, rfl⟩, ⟨y, my, rfl, hf.2, z.b, by rw [hc.2.2]; exact hs.2, rfl⟩⟩
    exact ⟨this.1, fun _ _ _ => this.2⟩
  · exact ⟨h, fun h1 h2 h3 => absurd ⟨by simpa using h1, h2, h3⟩ hc⟩
theorem arcs_sem (hF : FdrOk f.t f.from' f.ends) {i : Nat} {s : TlS} (h : SInv f s) (hi : i < s.2.length) : SInv f (tlArcs i f.t.Arcs s) ∧ s.2 <+: (tlArcs i f.t.Arcs s).2 ∧ ∀ x ∈ f.t.Arcs, ∀ y ∈ f.t.Arcs, Led i (s.2.getD i default) x y (tlArcs i f.t.Arcs s) := by
  have hA : ∀ y ∈ f.t.Arcs, (0 ≤ y.From ∧ y.From < f.t.States) ∧ y.Out.length ≤ 1024 := fun y hy => ⟨(hF.arcs.2 y hy).1, (hF.arcs.2 y hy).2.2⟩
  generalize hq : s.2.getD i default = q
  have pre : ∀ x ∈ f.t.Arcs, ∀ y ∈ f.t.Arcs, ∀ s : TlS, SInv f s → i < s.2.length → s.2 <+: (nTailsArc i x y s).2 := fun x hx y hy s h hi => (nTailsArc_ok h.1 hi (hA x hx) (hA y hy)).2
  have one : ∀ x ∈ f.t.Arcs, ∀ s' : TlS, (SInv f s' ∧ s.2 <+: s'.2) → (SInv f (f.t.Arcs.foldl (fun s y => nTailsArc i x y s) s') ∧ s.2 <+: (f.t.Arcs.foldl (fun s y => nTailsArc i x y s) s').2) ∧ s'.2 <+: (f.t.Arcs.foldl (fun s y => nTailsArc i x y s) s').2 ∧ ∀ y ∈ f.t.Arcs, Led i q x y (f.t.Arcs.foldl (fun s y => nTailsArc i x y s) s') := by
    intro x hx s' hs'
    have hpre := (nTailsRow_ok (hA x hx) f.t.Arcs hA hs'.1.1 (Nat.lt_of_lt_of_le hi hs'.2.length_le)).2
    obtain ⟨k1, _, k3⟩ := foldl_each (P := fun s' : TlS => SInv f s' ∧ s.2 <+: s'.2) (Q := fun y s' => Led i q x y s') (g := fun s y => nTailsArc i x y s) (l := f.t.Arcs) (s := s') (fun s2 y hy hP => by
      have hi2 := Nat.lt_of_lt_of_le hi hP.2.length_le
      obtain ⟨m1, m2⟩ := arc_sem (q := q) hP.1 hi2 (by rw [getD_pre hP.2 hi]; exact hq) hx hy (hA x hx) (hA y hy)
      exact ⟨⟨m1, hP.2.trans (pre x hx y hy s2 hP.1 hi2)⟩, m2⟩) (fun s2 y hy z hP hz h1 h2 h3 => mem_pre (pre x hx y hy s2 hP.1 (Nat.lt_of_lt_of_le hi hP.2.length_le)) (hz h1 h2 h3)) hs'
    exact ⟨k1, hpre, k3⟩
  obtain ⟨k1, _, k3⟩ := foldl_each (P := fun s' : TlS => SInv f s' ∧ s.2 <+: s'.2) (Q := fun x s' => ∀ y ∈ f.t.Arcs, Led i q x y s') (g := fun s x => f.t.Arcs.foldl (fun s y => nTailsArc i x y s) s) (l := f.t.Arcs) (s := s) (fun s2 x hx hP => by
    obtain ⟨m1, m2, m3⟩ := one x hx s2 hP
    exact ⟨m1, m3⟩) (fun s2 x hx z hP hz y hy h1 h2 h3 => mem_pre (one x hx s2 hP).2.1 (hz y hy h1 h2 h3)) ⟨h, List.prefix_refl _⟩
  exact ⟨k1.1, k1.2, k3⟩
theorem ends_sem (hF : FdrOk f.t f.from' f.ends) : SInv f (nTailsEnds f) ∧ ∀ x ∈ f.t.Ends, ∀ y ∈ f.t.Ends, (x.State, y.State) ∈ (nTailsEnds f).2 := by
  have h0 : SInv f ({ f with on' := [] }, []) := ⟨⟨⟨rfl, rfl, rfl, rfl, rfl⟩, ⟨List.nodup_nil, fun p => by simp [aget], fun p hp => by simp at hp, fun j hj => by simp at hj⟩⟩, fun p x hx => by simp [aget] at hx⟩
  have put : ∀ x ∈ f.t.Ends, ∀ y ∈ f.t.Ends, ∀ s : TlS, SInv f s → SInv f (nPut (x.State, y.State) ⟨[], x.Out, y.Out⟩ s.1 s.2) ∧ (x.State, y.State) ∈ (nPut (x.State, y.State) ⟨[], x.Out, y.Out⟩ s.1 s.2).2 := fun x hx y hy s h => by
    have hx' := hF.eds.2 x hx; have hy' := hF.eds.2 y hy
    exact h.put ⟨hx'.1, hy'.1⟩ (Nat.zero_le _) (by dsimp only; omega) (by dsimp only; omega) ⟨⟨x, hx, rfl, rfl⟩, ⟨y, hy, rfl, rfl⟩⟩
  have one : ∀ x ∈ f.t.Ends, ∀ s : TlS, SInv f s → SInv f (f.t.Ends.foldl (fun s y => nPut (x.State, y.State) ⟨[], x.Out, y.Out⟩ s.1 s.2) s) ∧ (∀ q ∈ s.2, q ∈ (f.t.Ends.foldl (fun s y => nPut (x.State, y.State) ⟨[], x.Out, y.Out⟩ s.1 s.2) s).2) ∧ ∀ y ∈ f.t.Ends, (x.State, y.State) ∈ (f.t.Ends.foldl (fun s y => nPut (x.State, y.State) ⟨[], x.Out, y.Out⟩ s.1 s.2) s).2 := by
    intro x hx s hs
    obtain ⟨k1, k2, k3⟩ := foldl_each (P := fun s : TlS => SInv f s) (Q := fun (q : TwoS) (s : TlS) => q ∈ s.2) (g := fun (s : TlS) (q : TwoS) => s) (l := []) (s := s) (fun _ _ h => by simp at h) (fun _ _ h => by simp at h) hs
    have m1 := foldl_each (P := fun s : TlS => SInv f s) (Q := fun (y : GTip) (s : TlS) => (x.State, y.State) ∈ s.2) (g := fun (s : TlS) (y : GTip) => nPut (x.State, y.State) ⟨[], x.Out, y.Out⟩ s.1 s.2) (l := f.t.Ends) (s := s) (fun s y hy h => put x hx y hy s h) (fun s y hy z h hz => mem_pre (nPut_pre _ _ _ _) hz) hs
    refine ⟨m1.1, fun q hq => ?_, m1.2.2⟩
    exact foldl_inv (P := fun s : TlS => q ∈ s.2) (fun s y hy h => mem_pre (nPut_pre _ _ _ _) h) hq
  have := foldl_each (P := fun s : TlS => SInv f s) (Q := fun (x : GTip) (s : TlS) => ∀ y ∈ f.t.Ends, (x.State, y.State) ∈ s.2) (g := fun (s : TlS) (x : GTip) => f.t.Ends.foldl (fun s y => nPut (x.State, y.State) ⟨[], x.Out, y.Out⟩ s.1 s.2) s) (l := f.t.Ends) (s := ({ f with on' := [] }, [])) (fun s x hx h => ⟨(one x hx s h).1, (one x hx s h).2.2⟩) (fun s x hx z h hz y hy => (one x hx s h).2.1 _ (hz y hy)) h0
  exact ⟨this.1, this.2.2⟩
/-- all that leads back to the first j pairs is among them -/
def CInv (f : Gfun_finder) (j : Nat) (s : TlS) : Prop := (∀ x ∈ f.t.Ends, ∀ y ∈ f.t.Ends, (x.State, y.State) ∈ s.2) ∧ ∀ i, i < j → ∀ x ∈ f.t.Arcs, ∀ y ∈ f.t.Arcs, Led i (s.2.getD i default) x y s
theorem run_sem (hF : FdrOk f.t f.from' f.ends) : ∀ (n j : Nat) {s : TlS}, 1025 ≤ n + j → SInv f s → CInv f j s → j ≤ s.2.length → SInv f (nTailsRun n j s) ∧ CInv f (nTailsRun n j s).2.length (nTailsRun n j s)
  | 0, j, s, hn, h, _, hj => by have := h.1.2.le hF.st; omega
  | n + 1, j, s, hn, h, hC, hj => by
    have hA : ∀ y ∈ f.t.Arcs, (0 ≤ y.From ∧ y.From < f.t.States) ∧ y.Out.length ≤ 1024 := fun y hy => ⟨(hF.arcs.2 y hy).1, (hF.arcs.2 y hy).2.2⟩
    by_cases hlt : j < s.2.length
    · rw [nTailsRun_succ h.1 hA hlt]
      obtain ⟨h1, h2, h3⟩ := arcs_sem hF h hlt
      refine run_sem hF n (j + 1) (by omega) h1 ⟨fun x hx y hy => mem_pre h2 (hC.1 x hx y hy), fun i hi x hx y hy q1 q2 q3 => ?_⟩ (by have := h2.length_le; omega)
      rw [getD_pre h2 (by omega)] at q2 q3
      by_cases e : i = j
      · subst e; exact h3 x hx y hy q1 q2 q3
      · exact mem_pre h2 (hC.2 i (by omega) x hx y hy q1 q2 q3)
    · obtain rfl : j = s.2.length := by omega
      have : nTailsRun (n + 1) s.2.length s = s := by
        unfold nTailsRun
        rw [if_neg (Nat.lt_irrefl _)]
      rw [this]
      exact ⟨h, hC⟩
/-- what the tails tell -/
structure TailsSem (f : Gfun_finder) (on : List (TwoS × Gfun_tail)) : Prop where
  sem : TlSem f.t on
  all : ∀ (w : List UInt8) (p : TwoS) (u v : List UInt8), Fin f.t p.1 w u → Fin f.t p.2 w v → (aget on p).isSome = true
  len : ∀ p x, aget on p = some x → x.w.length ≤ f.t.States.toNat * f.t.States.toNat
theorem tails_sem (hF : FdrOk f.t f.from' f.ends) : TailsSem f (nTails f).on' := by
  obtain ⟨h1, h2⟩ := ends_sem hF
  obtain ⟨k1, k2⟩ := run_sem hF 1025 0 (by omega) h1 ⟨h2, fun i hi => by omega⟩ (Nat.zero_le _)
  unfold nTails
  generalize nTailsRun 1025 0 (nTailsEnds f) = r at *
  refine ⟨k1.2, fun w => ?_, fun p x hx => ?_⟩
  · have key : ∀ (w : List UInt8) (p : TwoS) (u v : List UInt8), Fin f.t p.1 w u → Fin f.t p.2 w v → p ∈ r.2 := by
      intro w
      induction w with
      | nil =>
        rintro ⟨p, q⟩ u v ⟨x, hx, e1, _⟩ ⟨y, hy, e2, _⟩
        dsimp only at e1 e2
        rw [← e1, ← e2]; exact k2.1 x hx y hy
      | cons c w ih =>
        rintro ⟨p, q⟩ u v ⟨x, hx, e1, c1, u', hu, _⟩ ⟨y, hy, e2, c2, v', hv, _⟩
        have := ih (x.To, y.To) u' v' hu hv
        obtain ⟨i, hi, e⟩ := List.getElem_of_mem this
        dsimp only at e1 e2
        rw [← e1, ← e2]
        have hg : r.2.getD i default = (x.To, y.To) := by rw [getk hi, e]
        exact k2.2 i hi x hx y hy (both_ne ⟨c1, c2⟩) (by rw [hg]) (by rw [hg])
    exact fun p u v hu hv => (k1.1.2.ks p).2 (key w p u v hu hv)
  · have hm : p ∈ r.2 := (k1.1.2.ks p).1 (by rw [hx]; rfl)
    obtain ⟨j, hj, e⟩ := List.getElem_of_mem hm
    have := (k1.1.2.len j hj).1
    rw [getk hj, e, hx] at this
    have hl := sq_len hF.st k1.1.2.nd k1.1.2.sq
    exact Nat.le_trans this (by omega)
end
section
/-! ## lags -/
def lagL (a b : List UInt8) : Gfun_lag := ⟨a.drop (lcp a b), b.drop (lcp a b)⟩
theorem lag_app (c a b : List UInt8) : lagL (c ++ a) (c ++ b) = lagL a b := by
  unfold lagL; rw [lcp_app, drop_app, drop_app]
theorem lag_split (a b : List UInt8) : ∃ c, a = c ++ (lagL a b).a ∧ b = c ++ (lagL a b).b := by
  refine ⟨a.take (lcp a b), (List.take_append_drop _ _).symm, ?_⟩
  rw [lcp_take]; exact (List.take_append_drop _ _).symm
theorem lag_of {A B : List UInt8} {l : Gfun_lag} (h : lagL A B = l) : ∃ c, A = c ++ l.a ∧ B = c ++ l.b := by
  subst h; exact lag_split A B
theorem lag_red (a b : List UInt8) : lcp (lagL a b).a (lagL a b).b = 0 := lcp_drop a b
/-- of what is led on alike -/
theorem lag_step {A B u v : List UInt8} {l : Gfun_lag} (h : lagL A B = l) : lagL (A ++ u) (B ++ v) = lagL (l.a ++ u) (l.b ++ v) := by
  obtain ⟨c, h1, h2⟩ := lag_of h
  rw [h1, h2, List.append_assoc, List.append_assoc, lag_app]
theorem red_side {l : Gfun_lag} (h : lcp l.a l.b = 0) {u v : List UInt8} (e : l.a ++ u = l.b ++ v) : l.a = [] ∨ l.b = [] := by
  rcases lcp_zero h with q | q | q
  · exact .inl q
  · exact .inr q
  · cases ha : l.a with
    | nil => exact .inl rfl
    | cons x a =>
      cases hb : l.b with
      | nil => exact .inr rfl
      | cons y b =>
        rw [ha, hb] at e q
        simp only [List.cons_append, List.cons.injEq] at e
        exact absurd (by simp [e.1]) q
theorem lag_uniq {l m : Gfun_lag} (hl : lcp l.a l.b = 0) (hm : lcp m.a m.b = 0) {u v : List UInt8} (e1 : l.a ++ u = l.b ++ v) (e2 : m.a ++ u = m.b ++ v) : l = m := by
  have n1 := congrArg List.length e1; have n2 := congrArg List.length e2
  rw [List.length_append, List.length_append] at n1 n2
  have key : ∀ {l m : Gfun_lag}, l.a ++ u = l.b ++ v → m.a ++ u = m.b ++ v → l.a.length + u.length = l.b.length + v.length → m.a.length + u.length = m.b.length + v.length → l.a = [] → (m.a = [] ∨ m.b = []) → l = m := by
    intro l m e1 e2 n1 n2 ha hm
    obtain ⟨la, lb⟩ := l; obtain ⟨ma, mb⟩ := m
    dsimp only at *
    subst ha
    have hma : ma = [] := by
      rcases hm with h | h
      · exact h
      · subst h
        rw [List.length_nil] at n1 n2
        exact List.eq_nil_of_length_eq_zero (by omega)
    subst hma
    rw [List.nil_append] at e1 e2
    rw [e1] at e2
    rw [List.append_cancel_right e2]
  have key2 : ∀ {l m : Gfun_lag}, l.a ++ u = l.b ++ v → m.a ++ u = m.b ++ v → l.a.length + u.length = l.b.length + v.length → m.a.length + u.length = m.b.length + v.length → l.b = [] → (m.a = [] ∨ m.b = []) → l = m := by
    intro l m e1 e2 n1 n2 ha hm
    obtain ⟨la, lb⟩ := l; obtain ⟨ma, mb⟩ := m
    dsimp only at *
    subst ha
    have hma : mb = [] := by
      rcases hm with h | h
      · subst h
        rw [List.length_nil] at n1 n2
        exact List.eq_nil_of_length_eq_zero (by omega)
      · exact h
    subst hma
    rw [List.nil_append] at e1 e2
    rw [← e1] at e2
    rw [List.append_cancel_right e2]
  rcases red_side hl e1 with h | h
  · exact key e1 e2 n1 n2 h (red_side hm e2)
  · exact key2 e1 e2 n1 n2 h (red_side hm e2)
/-! ## a round adds places behind those that are there -/
def addR (g : Gfun_finder) (r : List Box) : Gfun_finder := { g with rows := g.rows ++ r }
theorem addR_nil (g : Gfun_finder) : addR g [] = g := by unfold addR; rw [List.append_nil]
theorem addR_add (g : Gfun_finder) (r q : List Box) : addR (addR g r) q = addR g (r ++ q) := by unfold addR; rw [List.append_assoc]
def pushed (on : List (TwoS × Gfun_tail)) (p : TwoS) (a b : List UInt8) (i : Int) (c : UInt8) : List Box := if (aget on p).isSome = true then [⟨⟨p, lagL a b⟩, i, c⟩] else []
theorem nPush_add (p : TwoS) (a b : List UInt8) (i : Int) (c : UInt8) (g : Gfun_finder) : nPush p a b i c g = addR g (pushed g.on' p a b i c) := by
  unfold nPush pushed
  split
  · rfl
  · exact (addR_nil g).symm
theorem fold_add {α : Type} {h : Gfun_finder → α → Gfun_finder} {k : α → List Box} {G : Gfun_finder → Prop} (hG : ∀ g r, G g → G (addR g r)) : ∀ {l : List α} {g : Gfun_finder}, (∀ g, ∀ x ∈ l, G g → h g x = addR g (k x)) → G g → l.foldl h g = addR g (l.flatMap k)
  | [], g, _, _ => by rw [List.flatMap_nil, addR_nil]; rfl
  | x :: l, g, hh, hg => by
    rw [List.foldl_cons, hh g x (by simp) hg, fold_add (k := k) hG (fun g y hy => hh g y (List.mem_cons_of_mem _ hy)) (hG _ _ hg), addR_add, List.flatMap_cons]
/-- the places behind one by two arcs -/
def newsB (on : List (TwoS × Gfun_tail)) (l : Gfun_lag) (i : Int) (x y : GArc) : List Box := (BSet.band x.Set y.Set).bytes.flatMap fun b => pushed on (x.To, y.To) (l.a ++ fOutB x b) (l.b ++ fOutB y b) i b
theorem nStp_add {i : Int} {x y : GArc} {g : Gfun_finder} : nStp i x y g = addR g (newsB g.on' (nLag g.rows i).lag i x y) := by
  unfold nStp newsB
  refine fold_add (G := fun g' => g'.on' = g.on') (fun _ _ h => h) (fun g' b _ hg' => ?_) rfl
  rw [nPush_add, hg']
def news (from' : List (List GArc)) (on : List (TwoS × Gfun_tail)) (q : Gfun_place) (i : Int) : List Box := (from'.getD q.at'.1.toNat default).flatMap fun x => (from'.getD q.at'.2.toNat default).flatMap fun y => newsB on q.lag i x y
theorem nGo_add {g : Gfun_finder} {i : Nat} (hi : i < g.rows.length) : nGo i g = addR { g with seen := aput g.seen (nLag g.rows i).at' i } (news g.from' g.on' (nLag g.rows i) i) := by
  unfold nGo news
  refine fold_add (G := fun g' => g'.on' = g.on' ∧ g.rows <+: g'.rows) (fun g' r h => ⟨h.1, h.2.trans (List.prefix_append _ _)⟩) (fun g' x _ hg' => ?_) ⟨rfl, List.prefix_refl _⟩
  refine fold_add (G := fun g' => g'.on' = g.on' ∧ g.rows <+: g'.rows) (fun g' r h => ⟨h.1, h.2.trans (List.prefix_append _ _)⟩) (fun g' y _ hg' => ?_) hg'
  rw [nStp_add, hg'.1, nLag_pre hg'.2 (by omega) (by omega)]
def firsts (t : GFst) (on : List (TwoS × Gfun_tail)) : List Box := t.Starts.flatMap fun x => t.Starts.flatMap fun y => pushed on (x.State, y.State) x.Out y.Out (-1) 0
theorem nFirst_add {f : Gfun_finder} : nFirst f = addR f (firsts f.t f.on') := by
  unfold nFirst firsts
  refine fold_add (G := fun g' => g'.on' = f.on') (fun _ _ h => h) (fun g' x _ hg' => ?_) rfl
  refine fold_add (G := fun g' => g'.on' = f.on') (fun _ _ h => h) (fun g' y _ hg' => ?_) hg'
  rw [nPush_add, hg']
theorem mem_pushed {on : List (TwoS × Gfun_tail)} {p : TwoS} {a b : List UInt8} {i : Int} {c : UInt8} {q : Box} : q ∈ pushed on p a b i c ↔ (aget on p).isSome = true ∧ q = ⟨⟨p, lagL a b⟩, i, c⟩ := by
  unfold pushed
  split <;> rename_i h
  · simp [h]
  · simp [h]
theorem mem_newsB {on : List (TwoS × Gfun_tail)} {l : Gfun_lag} {i : Int} {x y : GArc} {q : Box} : q ∈ newsB on l i x y ↔ ∃ b : UInt8, (x.Set.has b.toNat = true ∧ y.Set.has b.toNat = true) ∧ (aget on (x.To, y.To)).isSome = true ∧ q = ⟨⟨(x.To, y.To), lagL (l.a ++ fOutB x b) (l.b ++ fOutB y b)⟩, i, b⟩ := by
  unfold newsB
  rw [List.mem_flatMap]
  exact ⟨fun ⟨b, hb, hq⟩ => ⟨b, mem_both.1 hb, mem_pushed.1 hq⟩, fun ⟨b, hb, hq⟩ => ⟨b, mem_both.2 hb, mem_pushed.2 hq⟩⟩
theorem mem_news {from' : List (List GArc)} {on : List (TwoS × Gfun_tail)} {p : Gfun_place} {i : Int} {q : Box} : q ∈ news from' on p i ↔ ∃ x ∈ from'.getD p.at'.1.toNat default, ∃ y ∈ from'.getD p.at'.2.toNat default, q ∈ newsB on p.lag i x y := by
  unfold news
  rw [List.mem_flatMap]
  exact ⟨fun ⟨x, hx, hq⟩ => ⟨x, hx, List.mem_flatMap.1 hq⟩, fun ⟨x, hx, hq⟩ => ⟨x, hx, List.mem_flatMap.2 hq⟩⟩
/-! ## the texts by which places are come to -/
theorem wordK_out (l : List Box) : ∀ (n : Nat) (i : Int) (out : List UInt8), wordK l n i out = wordK l n i [] ++ out
  | 0, _, _ => rfl
  | n + 1, i, out => by
    unfold wordK
    split
    · rw [wordK_out l n _ ([(l.getD i.toNat default).by'] ++ out), wordK_out l n _ ([(l.getD i.toNat default).by'] ++ [])]
      simp
    · rfl
theorem wordK_pre {a b : List Box} (hb : LinksOk b) (h : a <+: b) : ∀ (n : Nat) (i : Int) (out : List UInt8), 0 ≤ i → i < a.length → wordK b n i out = wordK a n i out
  | 0, _, _, _, _ => rfl
  | n + 1, i, out, h0, h1 => by
    unfold wordK
    have e := getD_pre h (show i.toNat < a.length by omega) default
    rw [e]
    split
    · rename_i hc
      have := hb.2 i.toNat (by have := h.length_le; omega)
      rw [e] at this
      exact wordK_pre hb h n _ _ hc (by omega)
    · rfl
theorem nWord_pre {a b : List Box} (hb : LinksOk b) (h : a <+: b) {i : Int} (h0 : 0 ≤ i) (h1 : i < a.length) : nWord b i = nWord a i := wordK_pre hb h _ i [] h0 h1
/-- the text of a place that comes next -/
def boxW (rows : List Box) (q : Box) : List UInt8 := if 0 ≤ q.from' then nWord rows q.from' ++ [q.by'] else []
theorem nWord_new {a b : List Box} (hb : LinksOk b) (h : a <+: b) {k : Nat} (hk : k < b.length) (ha : (b.getD k default).from' < a.length) : nWord b k = boxW a (b.getD k default) := by
  unfold nWord boxW
  rw [show ((k : Int)).toNat = k by omega]
  have := wordK_step hb (i := (k : Int)) (by omega) (by omega) []
  rw [show ((k : Int)).toNat = k by omega] at this
  rw [this]
  split
  · rename_i hc
    rw [wordK_out]
    have := nWord_pre hb h hc ha
    unfold nWord at this
    rw [this]
    simp [nWord]
  · rfl
/-- what a place tells: two ways by its text, which have come out with its lag -/
def BoxSem (t : GFst) (n : Nat) (q : Box) (w : List UInt8) : Prop := (∃ c, Run t q.it.at'.1 w (c ++ q.it.lag.a) ∧ Run t q.it.at'.2 w (c ++ q.it.lag.b)) ∧ lcp q.it.lag.a q.it.lag.b = 0 ∧ w.length ≤ n
def RSem (t : GFst) (n : Nat) (rows : List Box) : Prop := ∀ i, i < rows.length → BoxSem t n (rows.getD i default) (nWord rows i)
theorem RSem.add {t : GFst} {n m : Nat} {a r : List Box} (h : RSem t n a) (hnm : n ≤ m) (hb : LinksOk (a ++ r)) (hr : ∀ q ∈ r, q.from' < a.length ∧ BoxSem t m q (boxW a q)) : RSem t m (a ++ r) := by
  intro i hi
  have hp : a <+: a ++ r := List.prefix_append _ _
  by_cases hlt : i < a.length
  · rw [getD_pre hp hlt, nWord_pre hb hp (by omega) (by omega)]
    have := h i hlt
    exact ⟨this.1, this.2.1, Nat.le_trans this.2.2 hnm⟩
  · have hm : (a ++ r).getD i default ∈ r := by
      rw [List.getD_eq_getElem?_getD, List.getElem?_append_right (by omega), ← List.getD_eq_getElem?_getD]
      rw [List.length_append] at hi
      exact getk_mem (by omega)
    obtain ⟨h1, h2⟩ := hr _ hm
    rw [nWord_new hb hp hi h1]
    exact h2
end
section
/-- a text that is related to two, and is not too long -/
def Shows (t : GFst) (s : List UInt8) : Prop := ∃ o1 o2, o1 ≠ o2 ∧ Acc t s o1 ∧ Acc t s o2 ∧ s.length ≤ 2 * (t.States.toNat * t.States.toNat)
theorem shows_of {t : GFst} {n : Nat} {q : Box} {w w' u v : List UInt8} (h : BoxSem t n q w) (h1 : Fin t q.it.at'.1 w' u) (h2 : Fin t q.it.at'.2 w' v) (hne : q.it.lag.a ++ u ≠ q.it.lag.b ++ v) (hl : n ≤ t.States.toNat * t.States.toNat) (hl2 : w'.length ≤ t.States.toNat * t.States.toNat) : Shows t (w ++ w') := by
  obtain ⟨⟨c, r1, r2⟩, _, hw⟩ := h
  refine ⟨_, _, ?_, run_fin r1 h1, run_fin r2 h2, by rw [List.length_append]; omega⟩
  intro e
  rw [List.append_assoc, List.append_assoc] at e
  exact hne (List.append_cancel_left e)
structure LInv (F : Gfun_finder) (j : Nat) (g : Gfun_finder) : Prop where
  inv : FInv F g
  rsem : RSem F.t g.seen.length g.rows
  sseen : ∀ p k, aget g.seen p = some k → ∃ i : Nat, k = i ∧ i < j ∧ (nLag g.rows k).at' = p
  ends : ∀ i : Nat, i < j → ∀ x ∈ F.t.Ends, x.State = (nLag g.rows i).at'.1 → ∀ y ∈ F.t.Ends, y.State = (nLag g.rows i).at'.2 → (nLag g.rows i).lag.a ++ x.Out = (nLag g.rows i).lag.b ++ y.Out
  seen : ∀ i : Nat, i < j → ∃ k, aget g.seen (nLag g.rows i).at' = some k ∧ (nLag g.rows k).lag = (nLag g.rows i).lag
  clo : ∀ p k, aget g.seen p = some k → ∀ x ∈ F.t.Arcs, x.From = p.1 → ∀ y ∈ F.t.Arcs, y.From = p.2 → ∀ c : UInt8, x.Set.has c.toNat = true → y.Set.has c.toNat = true → (aget F.on' (x.To, y.To)).isSome = true → ∃ i : Nat, i < g.rows.length ∧ nLag g.rows i = ⟨(x.To, y.To), lagL ((nLag g.rows k).lag.a ++ fOutB x c) ((nLag g.rows k).lag.b ++ fOutB y c)⟩
  strt : ∀ x ∈ F.t.Starts, ∀ y ∈ F.t.Starts, (aget F.on' (x.State, y.State)).isSome = true → ∃ i : Nat, i < g.rows.length ∧ nLag g.rows i = ⟨(x.State, y.State), lagL x.Out y.Out⟩
  jle : j ≤ g.rows.length
variable {F : Gfun_finder}
/-- a finder that is made of its transducer -/
structure MadeOk (F : Gfun_finder) : Prop where
  go : GoOk F
  tl : TailsSem F F.on'
  frm : ∀ s : Int, 0 ≤ s → ∀ x, x ∈ F.from'.getD s.toNat default ↔ x ∈ F.t.Arcs ∧ x.From = s
  eds : ∀ s : Int, 0 ≤ s → ∀ u, u ∈ F.ends.getD s.toNat default ↔ ∃ x ∈ F.t.Ends, x.State = s ∧ x.Out = u
theorem LInv.sq {j : Nat} {g : Gfun_finder} (hM : MadeOk F) (h : LInv F j g) : g.seen.length ≤ F.t.States.toNat * F.t.States.toNat := by
  have := sq_len hM.go.ok.st h.inv.2.sn.1 h.inv.2.sn.2.1
  rw [keys_len] at this; exact this
theorem LInv.links {j : Nat} {g : Gfun_finder} (hM : MadeOk F) (h : LInv F j g) : LinksOk g.rows := h.inv.2.ok (by have := h.inv.small hM.go.ok.st; omega)
theorem nLag_nat (rows : List Box) (i : Nat) : nLag rows i = (rows.getD i default).it := rfl
theorem wrong_sem (hM : MadeOk F) {j : Nat} {g : Gfun_finder} (h : LInv F j g) (hj : j < g.rows.length) :
    ((nWrong g j).2 = true → Shows F.t (nWrong g j).1) ∧ ((nWrong g j).2 = false → (∀ k, aget g.seen (nLag g.rows j).at' = some k → (nLag g.rows k).lag = (nLag g.rows j).lag) ∧
      ∀ x ∈ F.t.Ends, x.State = (nLag g.rows j).at'.1 → ∀ y ∈ F.t.Ends, y.State = (nLag g.rows j).at'.2 → (nLag g.rows j).lag.a ++ x.Out = (nLag g.rows j).lag.b ++ y.Out) := by
  have hb := h.rsem j hj
  have hsq := h.sq hM
  obtain ⟨on, hon⟩ := aget_some (h.inv.2.at' j hj)
  have hO := hM.go.on _ _ hon
  have hT := hM.tl.sem _ _ hon
  have hTl := hM.tl.len _ _ hon
  have hInSq := hO.1
  unfold nWrong
  rw [h.inv.1.2.2.2, h.inv.1.2.2.1]
  change aget F.on' (nLag g.rows j).at' = some on at hon
  change Fin F.t (nLag g.rows j).at'.1 _ _ ∧ Fin F.t (nLag g.rows j).at'.2 _ _ at hT
  change InSq _ (nLag g.rows j).at' at hInSq
  dsimp only
  rw [hon]
  dsimp only [Option.getD_some]
  by_cases c1 : (nLag g.rows j).lag.a ++ on.a ≠ (nLag g.rows j).lag.b ++ on.b
  · rw [if_pos c1]
    exact ⟨fun _ => shows_of hb hT.1 hT.2 c1 hsq hTl, fun q => by simp at q⟩
  · rw [if_neg c1]
    have c1' : (nLag g.rows j).lag.a ++ on.a = (nLag g.rows j).lag.b ++ on.b := Classical.not_not.1 c1
    by_cases c2 : (aget g.seen (nLag g.rows j).at').isSome = true ∧ (nLag g.rows ((aget g.seen (nLag g.rows j).at').getD 0)).lag ≠ (nLag g.rows j).lag
    · rw [if_pos c2]
      refine ⟨fun _ => ?_, fun q => by simp at q⟩
      obtain ⟨k, hk⟩ := aget_some c2.1
      rw [hk] at c2 ⊢
      dsimp only [Option.getD_some] at c2 ⊢
      obtain ⟨i, rfl, hi, hat⟩ := h.sseen _ _ hk
      have hbi := h.rsem i (by omega)
      rw [← hat] at hT
      refine shows_of hbi hT.1 hT.2 (fun e => ?_) hsq hTl
      exact c2.2 (lag_uniq hbi.2.1 hb.2.1 e c1')
    · rw [if_neg c2]
      have hu : ∀ k, aget g.seen (nLag g.rows j).at' = some k → (nLag g.rows k).lag = (nLag g.rows j).lag := fun k hk => by
        rw [hk] at c2
        exact Classical.byContradiction fun q => c2 ⟨rfl, q⟩
      split <;> rename_i c3
      · refine ⟨fun _ => ?_, fun q => by simp at q⟩
        rw [List.any_eq_true] at c3
        obtain ⟨u, hu1, hv⟩ := c3
        rw [List.any_eq_true] at hv
        obtain ⟨v, hv1, hne⟩ := hv
        obtain ⟨x, hx, hx1, rfl⟩ := (hM.eds _ hInSq.1.1 _).1 hu1
        obtain ⟨y, hy, hy1, rfl⟩ := (hM.eds _ hInSq.2.1 _).1 hv1
        have hne' : (nLag g.rows j).lag.a ++ x.Out ≠ (nLag g.rows j).lag.b ++ y.Out := by simpa using hne
        have := shows_of (w' := []) (u := x.Out) (v := y.Out) hb ⟨x, hx, hx1, rfl⟩ ⟨y, hy, hy1, rfl⟩ hne' hsq (Nat.zero_le _)
        rw [List.append_nil] at this
        exact this
      · refine ⟨fun q => by simp at q, fun _ => ⟨hu, fun x hx hx1 y hy hy1 => ?_⟩⟩
        refine Classical.byContradiction fun hne => c3 ?_
        rw [List.any_eq_true]
        refine ⟨x.Out, (hM.eds _ hInSq.1.1 _).2 ⟨x, hx, hx1, rfl⟩, ?_⟩
        rw [List.any_eq_true]
        exact ⟨y.Out, (hM.eds _ hInSq.2.1 _).2 ⟨y, hy, hy1, rfl⟩, by simpa using hne⟩
theorem LInv.skip {j : Nat} {g : Gfun_finder} (h : LInv F j g) (hj : j < g.rows.length) (h1 : ∃ k, aget g.seen (nLag g.rows j).at' = some k ∧ (nLag g.rows k).lag = (nLag g.rows j).lag)
    (h2 : ∀ x ∈ F.t.Ends, x.State = (nLag g.rows j).at'.1 → ∀ y ∈ F.t.Ends, y.State = (nLag g.rows j).at'.2 → (nLag g.rows j).lag.a ++ x.Out = (nLag g.rows j).lag.b ++ y.Out) : LInv F (j + 1) g := by
  refine ⟨h.inv, h.rsem, fun p k hk => ?_, fun i hi => ?_, fun i hi => ?_, h.clo, h.strt, hj⟩
  · obtain ⟨i, e, hi, q⟩ := h.sseen p k hk
    exact ⟨i, e, by omega, q⟩
  · rcases Nat.lt_succ_iff_lt_or_eq.1 hi with q | rfl
    · exact h.ends i q
    · exact h2
  · rcases Nat.lt_succ_iff_lt_or_eq.1 hi with q | rfl
    · exact h.seen i q
    · exact h1
theorem LInv.go (hM : MadeOk F) {j : Nat} {g : Gfun_finder} (h : LInv F j g) (hj : j < g.rows.length) (hn : ¬ (aget g.seen (nLag g.rows j).at').isSome = true)
    (h2 : ∀ x ∈ F.t.Ends, x.State = (nLag g.rows j).at'.1 → ∀ y ∈ F.t.Ends, y.State = (nLag g.rows j).at'.2 → (nLag g.rows j).lag.a ++ x.Out = (nLag g.rows j).lag.b ++ y.Out) : LInv F (j + 1) (nGo j g) := by
  obtain ⟨k1, k2, k3⟩ := nGo_ok hM.go h.inv hj hn
  have hadd := nGo_add (g := g) hj
  rw [h.inv.1.2.1, h.inv.1.2.2.2] at hadd
  obtain ⟨x0, hx0⟩ := aget_some (h.inv.2.at' j hj)
  have hInSq : InSq F.t.States (nLag g.rows j).at' := (hM.go.on _ _ hx0).1
  have hL := k1.2.ok (by have := k1.small hM.go.ok.st; omega)
  have erows : (nGo j g).rows = g.rows ++ news F.from' F.on' (nLag g.rows j) j := by rw [hadd]; rfl
  have eseen : (nGo j g).seen = aput g.seen (nLag g.rows j).at' j := by rw [hadd]; rfl
  have lagE : ∀ i : Int, 0 ≤ i → i < g.rows.length → nLag (nGo j g).rows i = nLag g.rows i := fun i h0 h1 => nLag_pre k3 h0 h1
  have lagN : ∀ q ∈ news F.from' F.on' (nLag g.rows j) j, ∃ i : Nat, i < (nGo j g).rows.length ∧ nLag (nGo j g).rows i = q.it := fun q hq => by
    obtain ⟨i, hi, e⟩ := List.getElem_of_mem hq
    refine ⟨g.rows.length + i, by rw [erows, List.length_append]; omega, ?_⟩
    rw [nLag_nat, erows, List.getD_eq_getElem?_getD, List.getElem?_append_right (by omega), Nat.add_sub_cancel_left, List.getElem?_eq_getElem hi, e]; rfl
  have hsl : (nGo j g).seen.length = g.seen.length + 1 := k2
  refine ⟨k1, ?_, fun p k hk => ?_, fun i hi => ?_, fun i hi => ?_, fun p k hk x hx ex y hy ey c cx cy hon => ?_, fun x hx y hy hon => ?_, by have := k3.length_le; omega⟩
  · rw [erows, hsl]
    refine h.rsem.add (by omega) (by rw [← erows]; exact hL) fun q hq => ?_
    obtain ⟨x, hx, y, hy, hq⟩ := mem_news.1 hq
    obtain ⟨b, ⟨bx, bY⟩, _, rfl⟩ := mem_newsB.1 hq
    obtain ⟨mx, ex⟩ := (hM.frm _ hInSq.1.1 _).1 hx
    obtain ⟨my, ey⟩ := (hM.frm _ hInSq.2.1 _).1 hy
    obtain ⟨⟨c, r1, r2⟩, r3, r4⟩ := h.rsem j hj
    change Run F.t (nLag g.rows j).at'.1 _ (c ++ (nLag g.rows j).lag.a) at r1
    change Run F.t (nLag g.rows j).at'.2 _ (c ++ (nLag g.rows j).lag.b) at r2
    rw [← ex] at r1
    rw [← ey] at r2
    refine ⟨by dsimp only; omega, ?_⟩
    unfold boxW
    dsimp only
    rw [if_pos (by omega)]
    obtain ⟨d, e1, e2⟩ := lag_split ((nLag g.rows j).lag.a ++ fOutB x b) ((nLag g.rows j).lag.b ++ fOutB y b)
    refine ⟨⟨c ++ d, ?_, ?_⟩, lag_red _ _, by rw [List.length_append, List.length_singleton]; omega⟩
    · have := run_step mx bx r1
      rw [List.append_assoc, e1, ← List.append_assoc] at this
      exact this
    · have := run_step my bY r2
      rw [List.append_assoc, e2, ← List.append_assoc] at this
      exact this
  · rw [eseen, aget_put] at hk
    split at hk
    · rename_i e
      cases hk
      exact ⟨j, rfl, by omega, by rw [lagE j (by omega) (by omega)]; exact e.symm⟩
    · obtain ⟨i, rfl, hi, q⟩ := h.sseen p k hk
      exact ⟨i, rfl, by omega, by rw [lagE i (by omega) (by omega)]; exact q⟩
  · rw [lagE i (by omega) (by omega)]
    rcases Nat.lt_succ_iff_lt_or_eq.1 hi with q | rfl
    · exact h.ends i q
    · exact h2
  · rw [lagE i (by omega) (by omega), eseen]
    rcases Nat.lt_succ_iff_lt_or_eq.1 hi with q | rfl
    · obtain ⟨k, hk, hl⟩ := h.seen i q
      obtain ⟨i', rfl, hi', hat⟩ := h.sseen _ _ hk
      refine ⟨i', ?_, by rw [lagE i' (by omega) (by omega)]; exact hl⟩
      rw [aget_put, if_neg (fun e => hn (by rw [← e, hk]; rfl))]
      exact hk
    · exact ⟨i, by rw [aget_put, if_pos rfl], by rw [lagE i (by omega) (by omega)]⟩
  · rw [eseen, aget_put] at hk
    split at hk
    · rename_i e
      cases hk
      rw [lagE j (by omega) (by omega)]
      subst e
      have hq : (⟨⟨(x.To, y.To), lagL ((nLag g.rows j).lag.a ++ fOutB x c) ((nLag g.rows j).lag.b ++ fOutB y c)⟩, (j : Int), c⟩ : Box) ∈ news F.from' F.on' (nLag g.rows j) j :=
        mem_news.2 ⟨x, (hM.frm _ hInSq.1.1 _).2 ⟨hx, ex⟩, y, (hM.frm _ hInSq.2.1 _).2 ⟨hy, ey⟩, mem_newsB.2 ⟨c, ⟨cx, cy⟩, hon, rfl⟩⟩
      exact lagN _ hq
    · obtain ⟨i', rfl, hi', hat⟩ := h.sseen _ _ hk
      rw [lagE i' (by omega) (by omega)]
      obtain ⟨i, hi, e⟩ := h.clo p i' hk x hx ex y hy ey c cx cy hon
      exact ⟨i, by have := k3.length_le; omega, by rw [lagE i (by omega) (by omega)]; exact e⟩
  · obtain ⟨i, hi, e⟩ := h.strt x hx y hy hon
    exact ⟨i, by have := k3.length_le; omega, by rw [lagE i (by omega) (by omega)]; exact e⟩
theorem find_sem (hM : MadeOk F) : ∀ (n : Nat) {j : Nat} {g : Gfun_finder}, nMu g j < n → LInv F j g → ((nFindAt j g).2 = true → Shows F.t (nFindAt j g).1) ∧ ((nFindAt j g).2 = false → (nFindAt j g).1 = [] ∧ ∃ g', LInv F g'.rows.length g')
  | 0, _, _, h, _ => absurd h (Nat.not_lt_zero _)
  | n + 1, j, g, hn, h => by
    rw [nFindAt_eq hM.go h.inv j]
    by_cases hj : j < g.rows.length
    · rw [if_pos hj]
      obtain ⟨w1, w2⟩ := wrong_sem hM h hj
      by_cases hw : (nWrong g j).2 = true
      · rw [if_pos hw]
        exact ⟨fun _ => w1 hw, fun q => by simp at q⟩
      · rw [if_neg hw]
        obtain ⟨v1, v2⟩ := w2 (by simpa using hw)
        by_cases hs : (aget g.seen (nLag g.rows j).at').isSome = true
        · rw [if_pos hs]
          have : nMu g (j + 1) < nMu g j := by unfold nMu; omega
          obtain ⟨k, hk⟩ := aget_some hs
          exact find_sem hM n (by omega) (h.skip hj ⟨k, hk, v1 k hk⟩ v2)
        · rw [if_neg hs]
          have := nMu_go hM.go h.inv hj hs
          exact find_sem hM n (by omega) (h.go hM hj hs v2)
    · rw [if_neg hj]
      refine ⟨fun q => by simp at q, fun _ => ⟨rfl, g, ?_⟩⟩
      have : j = g.rows.length := by have := h.jle; omega
      rw [← this]; exact h
/-- what is found: nothing only if each text is related to one at most -/
theorem found_none (hM : MadeOk F) {g : Gfun_finder} (h : LInv F g.rows.length g) {w : List UInt8} : ∀ {s1 s2 : Int} {A B : List UInt8}, Run F.t s1 w A → Run F.t s2 w B → (aget F.on' (s1, s2)).isSome = true → ∃ i : Nat, i < g.rows.length ∧ nLag g.rows i = ⟨(s1, s2), lagL A B⟩ := by
  refine @snocInd (fun w => ∀ {s1 s2 : Int} {A B : List UInt8}, Run F.t s1 w A → Run F.t s2 w B → (aget F.on' (s1, s2)).isSome = true → ∃ i : Nat, i < g.rows.length ∧ nLag g.rows i = ⟨(s1, s2), lagL A B⟩) (fun {s1 s2 A B} h1 h2 hon => ?_) (fun w c ih {s1 s2 A B} h1 h2 hon => ?_) w
  · exact h.strt _ (run_nil.1 h1) _ (run_nil.1 h2) hon
  · obtain ⟨x, hx, rfl, cx, A', hA, rfl⟩ := run_snoc.1 h1
    obtain ⟨y, hy, rfl, cy, B', hB, rfl⟩ := run_snoc.1 h2
    obtain ⟨z, hz⟩ := aget_some hon
    have hT := hM.tl.sem _ _ hz
    have hp := hM.tl.all (c :: z.w) (x.From, y.From) _ _ ⟨x, hx, rfl, cx, z.a, hT.1, rfl⟩ ⟨y, hy, rfl, cy, z.b, hT.2, rfl⟩
    obtain ⟨i, hi, e⟩ := ih hA hB hp
    obtain ⟨k, hk, hl⟩ := h.seen i hi
    rw [e] at hk hl
    obtain ⟨i', hi', e'⟩ := h.clo _ k hk x hx rfl y hy rfl c cx cy hon
    refine ⟨i', hi', ?_⟩
    rw [e', hl]
    dsimp only
    rw [← lag_step rfl]
theorem found_uniq (hM : MadeOk F) {g : Gfun_finder} (h : LInv F g.rows.length g) {w o1 o2 : List UInt8} (h1 : Acc F.t w o1) (h2 : Acc F.t w o2) : o1 = o2 := by
  obtain ⟨s1, A, u, r1, ⟨x, hx, ex, rfl⟩, rfl⟩ := h1
  obtain ⟨s2, B, v, r2, ⟨y, hy, ey, rfl⟩, rfl⟩ := h2
  have hon := hM.tl.all [] (s1, s2) _ _ ⟨x, hx, ex, rfl⟩ ⟨y, hy, ey, rfl⟩
  obtain ⟨i, hi, e⟩ := found_none hM h r1 r2 hon
  have := h.ends i hi x hx (by rw [e]; exact ex) y hy (by rw [e]; exact ey)
  rw [e] at this
  dsimp only at this
  obtain ⟨c, e1, e2⟩ := lag_split A B
  generalize lagL A B = l at *
  rw [e1, e2, List.append_assoc, List.append_assoc, this]
/-! ## from the start -/
theorem made_ok {T : GFst} (hF : FdrOk T (nFrom T.States T.Arcs) (nEnds T.States T.Ends)) : MadeOk (nPre (nFdr T)) ∧ (nPre (nFdr T)).t = T := by
  have hG := nPre_go (f := nFdr T) rfl hF
  have ht : (nPre (nFdr T)).t = T := hG.2.1
  have hS := tails_sem (f := nClr (nFdr T)) hF
  refine ⟨⟨hG.1, ⟨?_, ?_, ?_⟩, fun s hs x => ?_, fun s hs u => ?_⟩, ht⟩
  · have := hS.sem; unfold TlSem at this ⊢; rw [ht]; exact this
  · rw [ht]; exact hS.all
  · rw [ht]; exact hS.len
  · rw [hG.2.2.1, ht]; exact mem_nFrom (fun x hx => (hF.arcs.2 x hx).1) hs
  · rw [hG.2.2.2.1, ht]; exact mem_nEnds (fun x hx => (hF.eds.2 x hx).1) hs
theorem begin_inv {T : GFst} (hF : FdrOk T (nFrom T.States T.Arcs) (nEnds T.States T.Ends)) : LInv (nPre (nFdr T)) 0 (nBegin (nFdr T)) := by
  obtain ⟨hM, ht⟩ := made_ok hF
  have hB := nBegin_ok (f := nFdr T) rfl hF
  have hG := nPre_go (f := nFdr T) rfl hF
  have hadd : nBegin (nFdr T) = addR (nPre (nFdr T)) (firsts (nPre (nFdr T)).t (nPre (nFdr T)).on') := nFirst_add
  have erows : (nBegin (nFdr T)).rows = firsts (nPre (nFdr T)).t (nPre (nFdr T)).on' := by
    rw [hadd]; show (nPre (nFdr T)).rows ++ _ = _; rw [hG.2.2.2.2.1]; rfl
  have hB' : FInv (nPre (nFdr T)) (nBegin (nFdr T)) := ⟨hB.same, hB.fit.mono (by omega)⟩
  have hs := hB.seen
  generalize nPre (nFdr T) = F at *
  generalize nBegin (nFdr T) = g at *
  have memF : ∀ q, q ∈ firsts F.t F.on' ↔ ∃ x ∈ F.t.Starts, ∃ y ∈ F.t.Starts, q ∈ pushed F.on' (x.State, y.State) x.Out y.Out (-1) 0 := fun q => by
    unfold firsts
    rw [List.mem_flatMap]
    exact ⟨fun ⟨x, hx, hq⟩ => ⟨x, hx, List.mem_flatMap.1 hq⟩, fun ⟨x, hx, hq⟩ => ⟨x, hx, List.mem_flatMap.2 hq⟩⟩
  have hL : LinksOk g.rows := hB'.2.ok (by have := hB'.small hM.go.ok.st; omega)
  refine ⟨hB', ?_, fun p k hk => ?_, fun i hi => by omega, fun i hi => by omega, fun p k hk => ?_, fun x hx y hy hon => ?_, Nat.zero_le _⟩
  · have h0 : RSem F.t 0 [] := fun i hi => by simp at hi
    have : RSem F.t 0 ([] ++ g.rows) := by
      intro i hi
      have hm : g.rows.getD i default ∈ firsts F.t F.on' := by rw [← erows]; exact getk_mem hi
      obtain ⟨x, hx, y, hy, hq⟩ := (memF _).1 hm
      obtain ⟨_, hq⟩ := mem_pushed.1 hq
      rw [List.nil_append]
      have hw : nWord g.rows i = [] := by
        have := wordK_step hL (i := (i : Int)) (by omega) (by rw [List.nil_append] at hi; omega) []
        unfold nWord
        rw [this, show ((i : Int)).toNat = i by omega, hq, if_neg (by show ¬ (0 : Int) ≤ -1; decide)]
      rw [hw, hq]
      obtain ⟨c, e1, e2⟩ := lag_split x.Out y.Out
      refine ⟨⟨c, ?_, ?_⟩, lag_red _ _, Nat.le_refl _⟩
      · rw [← e1]; exact run_nil.2 hx
      · rw [← e2]; exact run_nil.2 hy
    rw [hs]; exact this
  · rw [hs] at hk; simp [aget] at hk
  · rw [hs] at hk; simp [aget] at hk
  · have hq : (⟨⟨(x.State, y.State), lagL x.Out y.Out⟩, -1, 0⟩ : Box) ∈ g.rows := by
      rw [erows]; exact (memF _).2 ⟨x, hx, y, hy, mem_pushed.2 ⟨hon, rfl⟩⟩
    obtain ⟨i, hi, e⟩ := List.getElem_of_mem hq
    exact ⟨i, hi, by rw [nLag_nat, getk hi, e]⟩
theorem nFind_sem {T : GFst} (hF : FdrOk T (nFrom T.States T.Arcs) (nEnds T.States T.Ends)) : ((nFind (nFdr T)).2 = true → Shows T (nFind (nFdr T)).1) ∧ ((nFind (nFdr T)).2 = false → (nFind (nFdr T)).1 = [] ∧ ∀ w o1 o2, Acc T w o1 → Acc T w o2 → o1 = o2) := by
  obtain ⟨hM, ht⟩ := made_ok hF
  have := find_sem hM _ (Nat.lt_succ_self _) (begin_inv hF)
  rw [← nFind_at, ht] at this
  refine ⟨this.1, fun q => ⟨(this.2 q).1, fun w o1 o2 h1 h2 => ?_⟩⟩
  obtain ⟨g, hg⟩ := (this.2 q).2
  exact found_uniq hM hg (by rw [ht]; exact h1) (by rw [ht]; exact h2)
end
section
def rTipsOk (l : List GTip) (n : Int) : Bool := (l.all fun x => !(!(decide (0 ≤ x.State) && decide (x.State < n)) || decide ((1024 : Int) < x.Out.length))) && decide (l.length ≤ 1024)
end
section
def wp_rTips15 (l : List GTip) (n : Int) (Q : Bool → Prop) : Prop :=
  ∃ I_3 : Nat → Prop,
    I_3 0 ∧
    ∀ (i : Nat), I_3 i → i ≤ l.length →
    if decide ((i : Int) < (l.length : Int)) then
      if ((decide ((l.getD i default).State < 0) || decide (n ≤ (l.getD i default).State)) || decide (1024 < (((l.getD i default).Out).length : Int))) then
        Q false
      else
        I_3 (i + 1)
    else
      Q (decide ((l.length : Int) ≤ 1024))
def wp_rRight15 (t : GFst) (Q : Bool → Prop) : Prop :=
  ((decide (t.States < 0) || decide (1024 < t.States)) = false → t.Starts.length ≤ 17592186044416) ∧
  (((decide (t.States < 0) || decide (1024 < t.States)) || (!rTipsOk t.Starts t.States)) = false → t.Ends.length ≤ 17592186044416) ∧
  if ((((decide (t.States < 0) || decide (1024 < t.States)) || (!rTipsOk t.Starts t.States)) || (!rTipsOk t.Ends t.States)) || decide (16384 < (t.Arcs.length : Int))) then
    Q false
  else
    ∃ I_13 : Nat → Prop,
      I_13 0 ∧
      ∀ (i : Nat), I_13 i → i ≤ t.Arcs.length →
      if decide ((i : Int) < (t.Arcs.length : Int)) then
        if (((((decide ((t.Arcs.getD i default).From < 0) || decide (t.States ≤ (t.Arcs.getD i default).From)) || decide ((t.Arcs.getD i default).To < 0)) || decide (t.States ≤ (t.Arcs.getD i default).To)) || decide ((t.Arcs.getD i default).Set = BSet.zero)) || decide (1024 < (((t.Arcs.getD i default).Out).length : Int))) then
          Q false
        else
          I_13 (i + 1)
      else
        Q true
def wp_rTipLess (a : GTip) (b : GTip) (Q : Bool → Prop) : Prop :=
  Q (decide (a.State < b.State) || (decide (a.State = b.State) && (Op.bytesLess a.Out b.Out)))
def wp_rArcLess (a : GArc) (b : GArc) (Q : Bool → Prop) : Prop :=
  if (!decide (a.From = b.From)) then
    Q (decide (a.From < b.From))
  else
    if (!decide (a.To = b.To)) then
      Q (decide (a.To < b.To))
    else
      ∃ I_7 : Nat → Prop,
        I_7 0 ∧
        ∀ (i : Nat), I_7 i → i ≤ 4 →
        if decide ((i : Int) < 4) then
          ((0 : Int) ≤ (i : Int) ∧ (i : Int) < 4) ∧
          (i < 4) ∧
          if (!decide ((a.Set.wd i) = (b.Set.wd i))) then
            Q (decide ((a.Set.wd i) < (b.Set.wd i)))
          else
            I_7 (i + 1)
        else
          if (!decide (a.Out = b.Out)) then
            Q (Op.bytesLess a.Out b.Out)
          else
            Q ((!a.Copy) && b.Copy)
def wp_rSortTips (l : List GTip) (Q : (List GTip) → Prop) : Prop :=
  ∃ I_5 : (List GTip) → Nat → Prop,
    I_5 [] 0 ∧
    ∀ (out : List GTip) (i : Nat), I_5 out i → i ≤ l.length →
    if decide ((i : Int) < (l.length : Int)) then
      ∃ (I_13 : Int → Prop) (μ_14 : Int → Nat),
        I_13 0 ∧
        ∀ (xat : Int), I_13 xat →
        ((decide (xat < (out.length : Int))) = true → (0 : Int) ≤ xat ∧ xat < (out.length : Int)) ∧
        ((decide (xat < (out.length : Int))) = true → (0 : Int) ≤ xat ∧ xat < (out.length : Int)) ∧
        if (decide (xat < (out.length : Int)) && decide (cmpTip (out.getD xat.toNat default) (l.getD i default) < 0)) then
          (i64 (xat + 1)) ∧
          I_13 (xat + 1) ∧ μ_14 (xat + 1) < μ_14 xat
        else
          ((decide (xat < (out.length : Int))) = true → (0 : Int) ≤ xat ∧ xat < (out.length : Int)) ∧
          ((decide (xat < (out.length : Int))) = true → (0 : Int) ≤ xat ∧ xat < (out.length : Int)) ∧
          if (decide (xat < (out.length : Int)) && decide ((out.getD xat.toNat default) = (l.getD i default))) then
            I_5 out (i + 1)
          else
            ((0 : Int) ≤ xat ∧ xat ≤ (out.length : Int)) ∧
            ((0 + (out.take xat.toNat).length) * 24 ≤ 140737488355328) ∧
            ((([] ++ (out.take xat.toNat)).length + 1) * 24 ≤ 140737488355328) ∧
            (((([] ++ (out.take xat.toNat)) ++ [(l.getD i default)]).length + (out.drop xat.toNat).length) * 24 ≤ 140737488355328) ∧
            I_5 ((([] ++ (out.take xat.toNat)) ++ [(l.getD i default)]) ++ (out.drop xat.toNat)) (i + 1)
    else
      Q out
def wp_rSortArcs (l : List GArc) (Q : (List GArc) → Prop) : Prop :=
  ∃ I_5 : (List GArc) → Nat → Prop,
    I_5 [] 0 ∧
    ∀ (out : List GArc) (i : Nat), I_5 out i → i ≤ l.length →
    if decide ((i : Int) < (l.length : Int)) then
      ∃ (I_13 : Int → Prop) (μ_14 : Int → Nat),
        I_13 0 ∧
        ∀ (xat : Int), I_13 xat →
        ((decide (xat < (out.length : Int))) = true → (0 : Int) ≤ xat ∧ xat < (out.length : Int)) ∧
        ((decide (xat < (out.length : Int))) = true → (0 : Int) ≤ xat ∧ xat < (out.length : Int)) ∧
        if (decide (xat < (out.length : Int)) && decide (cmpArc (out.getD xat.toNat default) (l.getD i default) < 0)) then
          (i64 (xat + 1)) ∧
          I_13 (xat + 1) ∧ μ_14 (xat + 1) < μ_14 xat
        else
          ((decide (xat < (out.length : Int))) = true → (0 : Int) ≤ xat ∧ xat < (out.length : Int)) ∧
          ((decide (xat < (out.length : Int))) = true → (0 : Int) ≤ xat ∧ xat < (out.length : Int)) ∧
          if (decide (xat < (out.length : Int)) && decide ((out.getD xat.toNat default) = (l.getD i default))) then
            I_5 out (i + 1)
          else
            ((0 : Int) ≤ xat ∧ xat ≤ (out.length : Int)) ∧
            ((0 + (out.take xat.toNat).length) * 72 ≤ 140737488355328) ∧
            ((([] ++ (out.take xat.toNat)).length + 1) * 72 ≤ 140737488355328) ∧
            (((([] ++ (out.take xat.toNat)) ++ [(l.getD i default)]).length + (out.drop xat.toNat).length) * 72 ≤ 140737488355328) ∧
            I_5 ((([] ++ (out.take xat.toNat)) ++ [(l.getD i default)]) ++ (out.drop xat.toNat)) (i + 1)
    else
      Q out
def wp_rSort15 (t : GFst) (Q : GFst → Int → Prop) : Prop :=
  (t.Starts.length ≤ 17592186044416 ∧ t.Ends.length ≤ 17592186044416 ∧ t.Arcs.length ≤ 17592186044416) ∧
  if (!fRight t) then
    Q (⟨(0 : Int), [], [], []⟩ : GFst) 1
  else
    (t.Starts.length ≤ 1000000) ∧
    (t.Ends.length ≤ 1000000) ∧
    (t.Arcs.length ≤ 1000000) ∧
    Q (⟨t.States, (ordL cmpTip t.Starts), (ordL cmpTip t.Ends), (ordL cmpArc t.Arcs)⟩ : GFst) 0
end
section
theorem bytesLess_cmp : ∀ a b : List UInt8, Op.bytesLess a b = decide (cmpS a b < 0)
  | [], [] => rfl
  | _ :: _, [] => rfl
  | [], _ :: _ => rfl
  | a :: x, b :: y => by
    have ih := bytesLess_cmp x y
    unfold Op.bytesLess cmpS cmpL
    unfold cmpS at ih
    rw [ih]
    unfold orZ cmpB
    by_cases h1 : a < b
    · simp [h1]
    · by_cases h2 : b < a
      · have : ¬ a = b := fun e => h1 (e ▸ h2)
        simp [h1, h2, this]
      · have : a = b := UInt8.toNat_inj.1 (by simp only [UInt8.lt_iff_toNat_lt] at h1 h2; omega)
        simp [h1, h2, this]
theorem rTips15_wp {l : List GTip} {n : Int} (hp : l.length ≤ 17592186044416) : wp_rTips15 l n (fun r0 => r0 = rTipsOk l n) := by
  unfold wp_rTips15 rTipsOk
  refine cnt0 (fun k => ((l.drop k).all fun x => !(!(decide (0 ≤ x.State) && decide (x.State < n)) || decide ((1024 : Int) < x.Out.length))) = l.all fun x => !(!(decide (0 ≤ x.State) && decide (x.State < n)) || decide ((1024 : Int) < x.Out.length))) rfl (fun k hI hk => ?_) (fun hI => ?_)
  · rw [dropk default hk, List.all_cons] at hI
    generalize l.getD k default = x at *
    split <;> rename_i h
    · rw [← hI]
      simp only [Bool.or_eq_true, decide_eq_true_eq] at h
      have : (!(!(decide (0 ≤ x.State) && decide (x.State < n)) || decide ((1024 : Int) < x.Out.length))) = false := by
        rcases h with (h | h) | h
        · simp [show ¬ 0 ≤ x.State by omega]
        · simp [show ¬ x.State < n by omega]
        · simp [h]
      rw [this]; simp
    · simp only [Bool.or_eq_true, decide_eq_true_eq, not_or] at h
      have : (!(!(decide (0 ≤ x.State) && decide (x.State < n)) || decide ((1024 : Int) < x.Out.length))) = true := by
        simp [show 0 ≤ x.State by omega, show x.State < n by omega, show ¬ (1024 : Int) < x.Out.length by omega]
      rw [this, Bool.true_and] at hI
      exact hI
  · rw [List.drop_length] at hI
    rw [← hI]
    show _ = (true && _)
    rw [Bool.true_and]
    exact decide_eq_decide.2 (by omega)
theorem fRight_parts (t : GFst) : fRight t = (((!(decide (t.States < 0) || decide (1024 < t.States)) && rTipsOk t.Starts t.States) && rTipsOk t.Ends t.States) && decide (t.Arcs.length ≤ 16384) && t.Arcs.all (fArcOk t)) := by
  have e1 : (!(decide (t.States < 0) || decide (1024 < t.States))) = (decide (0 ≤ t.States) && decide (t.States ≤ 1024)) := by
    by_cases h1 : t.States < 0 <;> by_cases h2 : 1024 < t.States <;> simp [h1, h2] <;> omega
  rw [e1]
  unfold fRight rTipsOk
  have e2 : (t.Starts.all fun x => !fTipBad t x) = t.Starts.all fun x => !(!(decide (0 ≤ x.State) && decide (x.State < t.States)) || decide ((1024 : Int) < x.Out.length)) := rfl
  have e3 : (t.Ends.all fun x => !fTipBad t x) = t.Ends.all fun x => !(!(decide (0 ≤ x.State) && decide (x.State < t.States)) || decide ((1024 : Int) < x.Out.length)) := rfl
  rw [e2, e3]
  generalize decide (0 ≤ t.States) = b1
  generalize decide (t.States ≤ 1024) = b2
  generalize decide (t.Arcs.length ≤ 16384) = b3
  generalize decide (t.Starts.length ≤ 1024) = b4
  generalize decide (t.Ends.length ≤ 1024) = b5
  generalize (t.Starts.all fun x => !(!(decide (0 ≤ x.State) && decide (x.State < t.States)) || decide ((1024 : Int) < x.Out.length))) = b6
  generalize (t.Ends.all fun x => !(!(decide (0 ≤ x.State) && decide (x.State < t.States)) || decide ((1024 : Int) < x.Out.length))) = b7
  cases b1 <;> cases b2 <;> cases b3 <;> cases b4 <;> cases b5 <;> cases b6 <;> cases b7 <;> rfl
theorem rRight15_wp {t : GFst} (hp : t.Starts.length ≤ 17592186044416 ∧ t.Ends.length ≤ 17592186044416 ∧ t.Arcs.length ≤ 17592186044416) : wp_rRight15 t (fun r0 => r0 = fRight t) := by
  refine ⟨fun _ => hp.1, fun _ => hp.2.1, ?_⟩
  rw [fRight_parts]
  have e : decide (t.Arcs.length ≤ 16384) = !decide (16384 < (t.Arcs.length : Int)) := by
    by_cases h : t.Arcs.length ≤ 16384
    · rw [decide_eq_true h, decide_eq_false (by omega)]; rfl
    · rw [decide_eq_false h, decide_eq_true (by omega)]; rfl
  rw [e]
  generalize (decide (t.States < 0) || decide (1024 < t.States)) = b1
  generalize rTipsOk t.Starts t.States = b2
  generalize rTipsOk t.Ends t.States = b3
  generalize hb4 : decide (16384 < (t.Arcs.length : Int)) = b4
  split <;> rename_i h
  · revert h; cases b1 <;> cases b2 <;> cases b3 <;> cases b4 <;> simp
  · have hq : b1 = false ∧ b2 = true ∧ b3 = true ∧ b4 = false := by revert h; cases b1 <;> cases b2 <;> cases b3 <;> cases b4 <;> simp
    obtain ⟨rfl, rfl, rfl, rfl⟩ := hq
    refine cnt0 (fun k => ((t.Arcs.drop k).all (fArcOk t)) = t.Arcs.all (fArcOk t)) rfl (fun k hI hk => ?_) (fun hI => ?_)
    · rw [dropk default hk, List.all_cons] at hI
      generalize t.Arcs.getD k default = x at *
      split <;> rename_i h
      · rw [← hI]
        simp only [Bool.or_eq_true, decide_eq_true_eq] at h
        have : fArcOk t x = false := by
          unfold fArcOk fIn
          rcases h with ((((h | h) | h) | h) | h) | h
          · simp [show ¬ 0 ≤ x.From by omega]
          · simp [show ¬ x.From < t.States by omega]
          · simp [show ¬ 0 ≤ x.To by omega]
          · simp [show ¬ x.To < t.States by omega]
          · simp [h]
          · simp [show ¬ x.Out.length ≤ 1024 by omega]
        rw [this]; rfl
      · simp only [Bool.or_eq_true, decide_eq_true_eq, not_or] at h
        have : fArcOk t x = true := by
          unfold fArcOk fIn
          simp [show 0 ≤ x.From by omega, show x.From < t.States by omega, show 0 ≤ x.To by omega, show x.To < t.States by omega, h.1.2, show x.Out.length ≤ 1024 by omega]
        rw [this, Bool.true_and] at hI
        exact hI
    · rw [List.drop_length] at hI
      rw [← hI]; rfl
theorem cmpI_lt {a b : Int} : cmpI a b < 0 ↔ a < b := by unfold cmpI; split <;> (try split) <;> omega
theorem rTipLess_wp {a : GTip} {b : GTip} : wp_rTipLess a b (fun r0 => r0 = decide (cmpTip a b < 0)) := by
  unfold wp_rTipLess
  rw [bytesLess_cmp]
  unfold cmpTip orZ
  by_cases h : a.State = b.State
  · have e : cmpI a.State b.State = 0 := (linI.eq0 _ _).2 h
    simp [h, (linI.eq0 b.State b.State).2 rfl]
  · have e : cmpI a.State b.State ≠ 0 := fun q => h ((linI.eq0 _ _).1 q)
    simp only [e, ne_eq, not_false_eq_true, if_true, h, decide_false, Bool.false_and, Bool.or_false]
    exact decide_eq_decide.2 cmpI_lt.symm
theorem cmpW_lt {a b : BitVec 64} : cmpW a b < 0 ↔ a < b := by
  rw [cmpW_eq, cmpI_lt, BitVec.lt_def]; omega
theorem wds_cmp {a b : BSet} {i : Nat} (hi : i < 4) (h : ∀ k, k < i → a.wd k = b.wd k) (hne : a.wd i ≠ b.wd i) : cmpL cmpW (wds a) (wds b) = cmpW (a.wd i) (b.wd i) := by
  have z : ∀ x : BitVec 64, cmpW x x = 0 := fun x => (linW.eq0 x x).2 rfl
  have hn : cmpW (a.wd i) (b.wd i) ≠ 0 := fun q => hne ((linW.eq0 _ _).1 q)
  obtain ⟨a0, a1, a2, a3⟩ := a
  obtain ⟨b0, b1, b2, b3⟩ := b
  rcases (show i = 0 ∨ i = 1 ∨ i = 2 ∨ i = 3 by omega) with rfl | rfl | rfl | rfl
  · simp only [BSet.wd] at hn ⊢
    simp only [wds, cmpL, orZ]
    rw [if_pos hn]
  · have h0 := h 0 (by omega)
    simp only [BSet.wd] at hn h0 ⊢
    subst h0
    simp only [wds, cmpL, orZ, z]
    simp [hn]
  · have h0 := h 0 (by omega); have h1 := h 1 (by omega)
    simp only [BSet.wd] at hn h0 h1 ⊢
    subst h0; subst h1
    simp only [wds, cmpL, orZ, z]
    simp [hn]
  · have h0 := h 0 (by omega); have h1 := h 1 (by omega); have h2 := h 2 (by omega)
    simp only [BSet.wd] at hn h0 h1 h2 ⊢
    subst h0; subst h1; subst h2
    simp only [wds, cmpL, orZ, z]
    simp [hn]
theorem wds_eq {a b : BSet} (h : ∀ k, k < 4 → a.wd k = b.wd k) : cmpL cmpW (wds a) (wds b) = 0 := by
  have h0 := h 0 (by omega); have h1 := h 1 (by omega); have h2 := h 2 (by omega); have h3 := h 3 (by omega)
  obtain ⟨a0, a1, a2, a3⟩ := a
  obtain ⟨b0, b1, b2, b3⟩ := b
  simp only [BSet.wd] at h0 h1 h2 h3
  subst h0; subst h1; subst h2; subst h3
  exact (linW.list.eq0 _ _).2 rfl
theorem rArcLess_wp {a : GArc} {b : GArc} : wp_rArcLess a b (fun r0 => r0 = decide (cmpArc a b < 0)) := by
  unfold wp_rArcLess cmpArc
  by_cases h1 : a.From = b.From
  · rw [if_neg (by simpa using h1)]
    have e1 : cmpI a.From b.From = 0 := (linI.eq0 _ _).2 h1
    by_cases h2 : a.To = b.To
    · rw [if_neg (by simpa using h2)]
      have e2 : cmpI a.To b.To = 0 := (linI.eq0 _ _).2 h2
      simp only [orZ, e1, e2, ne_eq, not_true_eq_false, if_false]
      refine ⟨fun i => ∀ k, k < i → a.Set.wd k = b.Set.wd k, fun k hk => by omega, fun i hI hle => ?_⟩
      by_cases hlt : i < 4
      · rw [if_pos (show decide ((i : Int) < 4) = true by rw [decide_eq_true_eq]; omega)]
        refine ⟨⟨by omega, by omega⟩, hlt, ?_⟩
        by_cases c : a.Set.wd i = b.Set.wd i
        · rw [if_neg (by simpa using c)]
          intro k hk
          rcases Nat.lt_succ_iff_lt_or_eq.1 hk with q | rfl
          · exact hI k q
          · exact c
        · rw [if_pos (by simpa using c)]
          have e := wds_cmp hlt hI c
          have hn : cmpW (a.Set.wd i) (b.Set.wd i) ≠ 0 := fun q => c ((linW.eq0 _ _).1 q)
          rw [e, if_pos hn]
          exact decide_eq_decide.2 cmpW_lt.symm
      · rw [if_neg (show ¬ decide ((i : Int) < 4) = true by rw [decide_eq_true_eq]; omega)]
        rw [wds_eq fun k hk => hI k (by omega)]
        simp only [not_true_eq_false, if_false]
        by_cases c : a.Out = b.Out
        · rw [if_neg (by simpa using c)]
          have e : cmpS a.Out b.Out = 0 := (linS.eq0 _ _).2 c
          simp only [e, not_true_eq_false, if_false]
          cases a.Copy <;> cases b.Copy <;> rfl
        · rw [if_pos (by simpa using c)]
          have e : cmpS a.Out b.Out ≠ 0 := fun q => c ((linS.eq0 _ _).1 q)
          rw [if_pos e, bytesLess_cmp]
    · rw [if_pos (by simpa using h2)]
      have e2 : cmpI a.To b.To ≠ 0 := fun q => h2 ((linI.eq0 _ _).1 q)
      simp only [orZ, e1, ne_eq, not_true_eq_false, if_false, e2, not_false_eq_true, if_true]
      exact decide_eq_decide.2 cmpI_lt.symm
  · rw [if_pos (by simpa using h1)]
    have e1 : cmpI a.From b.From ≠ 0 := fun q => h1 ((linI.eq0 _ _).1 q)
    simp only [orZ, ne_eq, e1, not_false_eq_true, if_true]
    exact decide_eq_decide.2 cmpI_lt.symm
/-! ## in order -/
section
variable {α : Type} [DecidableEq α] [Inhabited α] {cf : α → α → Int}
omit [Inhabited α] in
theorem ins_there {l : List α} {x : α} (h : LinC cf) (hx : x ∈ ordL cf l) : ordL cf (l ++ [x]) = ordL cf l :=
  ordL_congr h.tot fun q => by
    rw [List.mem_append, List.mem_singleton]
    exact ⟨fun k => k.elim id fun e => e ▸ mem_ordL.1 hx, .inl⟩
theorem ins_new {l : List α} {x : α} (h : LinC cf) {k : Nat} (hk : k ≤ (ordL cf l).length) (h1 : ∀ j, j < k → cf ((ordL cf l).getD j default) x < 0) (h2 : k < (ordL cf l).length → ¬ cf ((ordL cf l).getD k default) x < 0 ∧ (ordL cf l).getD k default ≠ x) :
    ordL cf (l ++ [x]) = (ordL cf l).take k ++ [x] ++ (ordL cf l).drop k := by
  refine rises_uniq h.tot (ordL_rises h.tot _) ?_ fun q => ?_
  · have hr := ordL_rises h.tot l
    generalize ordL cf l = o at *
    unfold Rises at hr ⊢
    rw [← List.take_append_drop k o, List.pairwise_append] at hr
    obtain ⟨r1, r2, r3⟩ := hr
    have hxd : ∀ b ∈ o.drop k, cf x b < 0 := by
      intro b hb
      have hlt : k < o.length := by
        rcases Nat.lt_or_ge k o.length with q | q
        · exact q
        · rw [List.drop_eq_nil_of_le q] at hb; simp at hb
      obtain ⟨n1, n2⟩ := h2 hlt
      have hxk : cf x (o.getD k default) < 0 := by
        have e0 : cf (o.getD k default) x ≠ 0 := fun e => n2 ((h.eq0 _ _).1 e)
        exact (h.neg _ _).1 (by omega)
      rw [dropk default hlt] at hb r2
      rcases List.mem_cons.1 hb with rfl | hb
      · exact hxk
      · exact h.trans _ _ _ hxk ((List.pairwise_cons.1 r2).1 b hb)
    have htx : ∀ a ∈ o.take k, cf a x < 0 := by
      intro a ha
      obtain ⟨j, hj, rfl⟩ := List.getElem_of_mem ha
      rw [List.length_take] at hj
      have := h1 j (by omega)
      rw [getk (show j < o.length by omega)] at this
      rw [List.getElem_take]; exact this
    rw [List.append_assoc, List.pairwise_append]
    refine ⟨r1, List.pairwise_cons.2 ⟨hxd, r2⟩, fun a ha b hb => ?_⟩
    rcases List.mem_cons.1 hb with rfl | hb
    · exact htx a ha
    · exact r3 a ha b hb
  · rw [mem_ordL, List.mem_append, List.mem_append, List.mem_append, List.mem_singleton]
    have : q ∈ l ↔ q ∈ (ordL cf l).take k ∨ q ∈ (ordL cf l).drop k := by
      rw [← List.mem_append, List.take_append_drop, mem_ordL]
    rw [this]
    constructor
    · rintro ((k | k) | k)
      · exact .inl (.inl k)
      · exact .inr k
      · exact .inl (.inr k)
    · rintro ((k | k) | k)
      · exact .inl (.inl k)
      · exact .inr k
      · exact .inl (.inr k)
theorem sort_loop {l : List α} {n : Nat} (h : LinC cf) (hl : l.length ≤ 1000000) (hn : n ≤ 100) {Q : List α → Prop} (hQ : Q (ordL cf l)) :
    ∃ I_5 : (List α) → Nat → Prop,
    I_5 [] 0 ∧
    ∀ (out : List α) (i : Nat), I_5 out i → i ≤ l.length →
    if decide ((i : Int) < (l.length : Int)) = true then
      ∃ (I_13 : Int → Prop) (μ_14 : Int → Nat),
        I_13 0 ∧
        ∀ (xat : Int), I_13 xat →
        ((decide (xat < (out.length : Int))) = true → (0 : Int) ≤ xat ∧ xat < (out.length : Int)) ∧
        ((decide (xat < (out.length : Int))) = true → (0 : Int) ≤ xat ∧ xat < (out.length : Int)) ∧
        if (decide (xat < (out.length : Int)) && decide (cf (out.getD xat.toNat default) (l.getD i default) < 0)) = true then
          (i64 (xat + 1)) ∧
          I_13 (xat + 1) ∧ μ_14 (xat + 1) < μ_14 xat
        else
          ((decide (xat < (out.length : Int))) = true → (0 : Int) ≤ xat ∧ xat < (out.length : Int)) ∧
          ((decide (xat < (out.length : Int))) = true → (0 : Int) ≤ xat ∧ xat < (out.length : Int)) ∧
          if (decide (xat < (out.length : Int)) && decide ((out.getD xat.toNat default) = (l.getD i default))) = true then
            I_5 out (i + 1)
          else
            ((0 : Int) ≤ xat ∧ xat ≤ (out.length : Int)) ∧
            ((0 + (out.take xat.toNat).length) * n ≤ 140737488355328) ∧
            ((([] ++ (out.take xat.toNat)).length + 1) * n ≤ 140737488355328) ∧
            (((([] ++ (out.take xat.toNat)) ++ [(l.getD i default)]).length + (out.drop xat.toNat).length) * n ≤ 140737488355328) ∧
            I_5 ((([] ++ (out.take xat.toNat)) ++ [(l.getD i default)]) ++ (out.drop xat.toNat)) (i + 1)
    else
      Q out := by
  have bnd : ∀ m : Nat, m ≤ 1000001 → m * n ≤ 140737488355328 := fun m hm => Nat.le_trans (Nat.mul_le_mul hm hn) (by decide)
  refine cnt1 (fun out k => out = ordL cf (l.take k)) ?_ (fun out i hI hi => ?_) (fun out hI => ?_)
  · exact (rises_uniq h.tot (ordL_rises h.tot _) (by simp [Rises]) fun q => by rw [mem_ordL]; simp).symm
  · have hlen : out.length ≤ i := by rw [hI]; exact Nat.le_trans (ordL_len _) (by rw [List.length_take]; omega)
    generalize hx : l.getD i default = x
    have hsn : ordL cf (l.take (i + 1)) = ordL cf (l.take i ++ [x]) := by rw [takek default hi, hx]
    refine ⟨fun a => ∃ j : Nat, a = j ∧ j ≤ out.length ∧ ∀ q, q < j → cf (out.getD q default) x < 0, fun a => out.length - a.toNat, ⟨0, rfl, Nat.zero_le _, fun q hq => by omega⟩, ?_⟩
    rintro _ ⟨j, rfl, hj, hq⟩
    have s : decide ((j : Int) < (out.length : Int)) = true → (0 : Int) ≤ (j : Int) ∧ (j : Int) < (out.length : Int) := fun k => by rw [decide_eq_true_eq] at k; omega
    refine ⟨s, s, ?_⟩
    simp only [Int.toNat_natCast]
    by_cases c1 : j < out.length ∧ cf (out.getD j default) x < 0
    · rw [if_pos (by rw [Bool.and_eq_true, decide_eq_true_eq, decide_eq_true_eq]; exact ⟨by omega, c1.2⟩)]
      refine ⟨⟨by omega, by omega⟩, ⟨j + 1, by omega, c1.1, fun q hq' => ?_⟩, by omega⟩
      rcases Nat.lt_succ_iff_lt_or_eq.1 hq' with r | rfl
      · exact hq q r
      · exact c1.2
    · rw [if_neg (by rw [Bool.and_eq_true, decide_eq_true_eq, decide_eq_true_eq]; exact fun k => c1 ⟨by omega, k.2⟩)]
      refine ⟨s, s, ?_⟩
      by_cases c2 : j < out.length ∧ out.getD j default = x
      · rw [if_pos (by rw [Bool.and_eq_true, decide_eq_true_eq, decide_eq_true_eq]; exact ⟨by omega, c2.2⟩)]
        show out = _
        rw [hsn, ins_there h, ← hI]
        rw [← hI, ← c2.2]; exact getk_mem c2.1
      · rw [if_neg (by rw [Bool.and_eq_true, decide_eq_true_eq, decide_eq_true_eq]; exact fun k => c2 ⟨by omega, k.2⟩)]
        rw [List.nil_append]
        refine ⟨⟨by omega, by omega⟩, bnd _ (by rw [List.length_take]; omega), bnd _ (by rw [List.length_take]; omega), bnd _ (by rw [List.length_append, List.length_take, List.length_drop, List.length_singleton]; omega), ?_⟩
        show _ = _
        subst hI
        rw [hsn]
        exact (ins_new h hj hq fun r => ⟨fun q => c1 ⟨r, q⟩, fun q => c2 ⟨r, q⟩⟩).symm
  · have : out = ordL cf (l.take l.length) := hI
    rw [List.take_length] at this
    rw [this]; exact hQ
end
theorem rSortTips_wp {l : List GTip} (hp : l.length ≤ 1000000) : wp_rSortTips l (fun r0 => r0 = (ordL cmpTip l)) := sort_loop linTip hp (by decide) rfl
theorem rSortArcs_wp {l : List GArc} (hp : l.length ≤ 1000000) : wp_rSortArcs l (fun r0 => r0 = (ordL cmpArc l)) := sort_loop linArc hp (by decide) rfl
theorem rSort15_wp {t : GFst} (hp : t.Starts.length ≤ 1000000 ∧ t.Ends.length ≤ 1000000 ∧ t.Arcs.length ≤ 1000000) : wp_rSort15 t (fun r0 r1 => r0 = (fSort t).1 ∧ r1 = (fSort t).2) := by
  refine ⟨⟨by omega, by omega, by omega⟩, ?_⟩
  unfold fSort
  cases fRight t with
  | false => exact ⟨rfl, rfl⟩
  | true => exact ⟨hp.1, hp.2.1, hp.2.2, rfl, rfl⟩
end
section
end
section
def wp_rBegins (front : List UInt8) (s : List UInt8) (Q : Bool → Prop) : Prop :=
  ((decide ((front.length : Int) ≤ (s.length : Int))) = true → (0 : Int) ≤ (front.length : Int) ∧ (front.length : Int) ≤ (s.length : Int)) ∧
  Q (decide ((front.length : Int) ≤ (s.length : Int)) && decide ((s.take (front.length : Int).toNat) = front))
def wp_rLcp (l : List (List UInt8)) (Q : (List UInt8) → Prop) : Prop :=
  if decide ((l.length : Int) = 0) then
    Q []
  else
    ((0 : Int) ≤ 0 ∧ 0 < (l.length : Int)) ∧
    ∃ (I_6 : Int → Prop) (μ_7 : Int → Nat),
      I_6 ((l.getD 0 default).length : Int) ∧
      ∀ (n : Int), I_6 n →
      if decide (0 < n) then
        ∃ I_13 : Bool → Nat → Prop,
          I_13 true 0 ∧
          ∀ (ok : Bool) (i : Nat), I_13 ok i → i ≤ l.length →
          if decide ((i : Int) < (l.length : Int)) then
            (ok = true → (0 : Int) ≤ 0 ∧ 0 < (l.length : Int)) ∧
            (ok = true → (0 : Int) ≤ 0 ∧ 0 < (l.length : Int)) ∧
            (ok = true → (0 : Int) ≤ n ∧ n ≤ ((l.getD 0 default).length : Int)) ∧
            (ok = true → ((l.getD 0 default).take n.toNat).length ≤ 9223372036854775807 ∧ (l.getD i default).length ≤ 9223372036854775807) ∧
            I_13 (ok && List.isPrefixOf ((l.getD 0 default).take n.toNat) (l.getD i default)) (i + 1)
          else
            if ok then
              ((0 : Int) ≤ n ∧ n ≤ ((l.getD 0 default).length : Int)) ∧
              Q ((l.getD 0 default).take n.toNat)
            else
              (i64 (n - 1)) ∧
              I_6 (n - 1) ∧ μ_7 (n - 1) < μ_7 n
      else
        Q []
def wp_rLag03 (a : List UInt8) (b : List UInt8) (Q : (List UInt8) → (List UInt8) → Prop) : Prop :=
  ([a, b].length ≤ 1000000 ∧ ∀ x ∈ [a, b], x.length ≤ 1000000000000) ∧
  ((0 : Int) ≤ ((lcpAll [a, b]).length : Int) ∧ ((lcpAll [a, b]).length : Int) ≤ (a.length : Int)) ∧
  ((0 : Int) ≤ ((lcpAll [a, b]).length : Int) ∧ ((lcpAll [a, b]).length : Int) ≤ (b.length : Int)) ∧
  Q (a.drop ((lcpAll [a, b]).length : Int).toNat) (b.drop ((lcpAll [a, b]).length : Int).toNat)
end
section
theorem rBegins_wp {front : List UInt8} {s : List UInt8} (hp : front.length ≤ 9223372036854775807 ∧ s.length ≤ 9223372036854775807) : wp_rBegins front s (fun r0 => r0 = List.isPrefixOf front s) := by
  refine ⟨fun h => by rw [decide_eq_true_eq] at h; omega, ?_⟩
  rw [show ((front.length : Int)).toNat = front.length by omega]
  exact pre_eq s front
theorem lcpAll_max {l : List (List UInt8)} (hl : l ≠ []) {n : Nat} (hn : n ≤ (l.getD 0 default).length) (h : (l.all fun t => List.isPrefixOf ((l.getD 0 default).take n) t) = true) (hm : ∀ k, n < k → k ≤ (l.getD 0 default).length → ¬ (l.all fun t => List.isPrefixOf ((l.getD 0 default).take k) t) = true) : lcpAll l = (l.getD 0 default).take n := by
  have pre : ∀ p : List UInt8, p <+: lcpAll l ↔ ∀ t ∈ l, p <+: t := lcpAll_prefix hl
  have all : ∀ k, (l.all fun t => List.isPrefixOf ((l.getD 0 default).take k) t) = true ↔ (l.getD 0 default).take k <+: lcpAll l := fun k => by
    rw [pre, List.all_eq_true]
    exact ⟨fun q t ht => List.isPrefixOf_iff_prefix.1 (q t ht), fun q t ht => List.isPrefixOf_iff_prefix.2 (q t ht)⟩
  have h0 : lcpAll l <+: l.getD 0 default := by
    refine (pre _).1 (List.prefix_refl _) _ (getk_mem ?_)
    rcases l with _ | ⟨a, l⟩
    · exact absurd rfl hl
    · simp
  have hk : lcpAll l = (l.getD 0 default).take (lcpAll l).length := (List.prefix_iff_eq_take.1 h0)
  have hle := h0.length_le
  have h1 := (all n).1 h
  have h2 := h1.length_le
  rw [List.length_take] at h2
  rcases Nat.lt_or_ge n (lcpAll l).length with q | q
  · exact absurd ((all _).2 (by rw [← hk]; exact List.prefix_refl _)) (hm _ q hle)
  · rw [show n = (lcpAll l).length by omega]; exact hk
theorem rLcp_wp {l : List (List UInt8)} (hp : l.length ≤ 1000000 ∧ ∀ x ∈ l, x.length ≤ 1000000000000) : wp_rLcp l (fun r0 => r0 = (lcpAll l)) := by
  unfold wp_rLcp
  split <;> rename_i h0 <;> simp only [decide_eq_true_eq] at h0
  · have : l = [] := List.eq_nil_of_length_eq_zero (by omega)
    subst this; rfl
  · have hl : l ≠ [] := fun e => h0 (by rw [e]; rfl)
    have hlen : 0 < l.length := by omega
    have hx0 := hp.2 _ (getk_mem (d := default) hlen)
    refine ⟨⟨by omega, by omega⟩, ?_⟩
    refine ⟨fun n => ∃ m : Nat, n = m ∧ m ≤ (l.getD 0 default).length ∧ ∀ k, m < k → k ≤ (l.getD 0 default).length → ¬ (l.all fun t => List.isPrefixOf ((l.getD 0 default).take k) t) = true, fun n => n.toNat, ⟨_, rfl, Nat.le_refl _, fun k h1 h2 => by omega⟩, ?_⟩
    rintro _ ⟨m, rfl, hm, hI⟩
    split <;> rename_i hc <;> simp only [decide_eq_true_eq] at hc
    · simp only [Int.toNat_natCast]
      refine cnt1 (fun ok k => ok = (l.take k).all fun t => List.isPrefixOf ((l.getD 0 default).take m) t) rfl (fun ok k hok hk => ?_) (fun ok hok => ?_)
      · have hx := hp.2 _ (getk_mem (d := default) hk)
        refine ⟨fun _ => ⟨by omega, by omega⟩, fun _ => ⟨by omega, by omega⟩, fun _ => ⟨by omega, by omega⟩, fun _ => ⟨by rw [List.length_take]; omega, by omega⟩, ?_⟩
        show _ = _
        rw [takek default hk, List.all_append, hok]
        simp
      · have hok' : ok = l.all fun t => List.isPrefixOf ((l.getD 0 default).take m) t := by
          have := hok; rwa [List.take_length] at this
        split <;> rename_i hc2
        · exact ⟨⟨by omega, by omega⟩, (lcpAll_max hl hm (by rw [← hok']; exact hc2) hI).symm⟩
        · refine ⟨⟨by omega, by omega⟩, ⟨m - 1, by omega, by omega, fun k h1 h2 => ?_⟩, by omega⟩
          by_cases e : k = m
          · subst e; rw [← hok']; exact hc2
          · exact hI k (by omega) h2
    · have hm0 : m = 0 := by omega
      subst hm0
      have := lcpAll_max hl (n := 0) (Nat.zero_le _) (by simp) hI
      rw [this]; rfl
theorem lcpAll_two (a b : List UInt8) : (lcpAll [a, b]).length = lcp a b := by
  have h1 := lcp_le1 a b
  show (lcpOf a [b]).length = _
  unfold lcpOf
  simp only [List.foldl_cons, List.foldl_nil]
  rw [List.length_take]; omega
theorem rLag03_wp {a : List UInt8} {b : List UInt8} (hp : a.length ≤ 1000000000000 ∧ b.length ≤ 1000000000000) : wp_rLag03 a b (fun r0 r1 => r0 = (a.drop (lcp a b)) ∧ r1 = (b.drop (lcp a b))) := by
  have h1 := lcp_le1 a b; have h2 := lcp_le2 a b
  unfold wp_rLag03
  rw [lcpAll_two]
  refine ⟨⟨by simp, fun x hx => ?_⟩, ⟨by omega, by omega⟩, ⟨by omega, by omega⟩, rfl, rfl⟩
  simp only [List.mem_cons, List.not_mem_nil, or_false] at hx
  rcases hx with rfl | rfl
  · exact hp.1
  · exact hp.2
end
section
abbrev RLag := Gwhittleref19_Lag
def rLg (p q : Int) (a b : List UInt8) : RLag := ⟨p, q, a.drop (lcp a b), b.drop (lcp a b)⟩
def rFirsts (t : GFst) : List RLag := t.Starts.flatMap fun x => t.Starts.map fun y => rLg x.State y.State x.Out y.Out
def rStep (l : RLag) (x y : GArc) : List RLag := if x.From ≠ l.P ∨ y.From ≠ l.Q then [] else (BSet.band x.Set y.Set).bytes.map fun b => rLg x.To y.To (l.A ++ fOutB x b) (l.B ++ fOutB y b)
def rNext (t : GFst) (l : RLag) : List RLag := t.Arcs.flatMap fun x => t.Arcs.flatMap fun y => rStep l x y
/-- from both some text leads to Ends -/
def CoR (t : GFst) (p q : Int) : Prop := ∃ w u v, Fin t p w u ∧ Fin t q w v
noncomputable def coB (t : GFst) (p q : Int) : Bool := @decide (CoR t p q) (Classical.propDecidable _)
noncomputable def jointL (t : GFst) : List (List Bool) := (List.range t.States.toNat).map fun (p : Nat) => (List.range t.States.toNat).map fun (q : Nat) => coB t p q
structure RefOk (t : GFst) : Prop where
  st : 0 ≤ t.States ∧ t.States ≤ 1024
  starts : t.Starts.length ≤ 1024 ∧ ∀ x ∈ t.Starts, (0 ≤ x.State ∧ x.State < t.States) ∧ x.Out.length ≤ 1024
  eds : t.Ends.length ≤ 1024 ∧ ∀ x ∈ t.Ends, (0 ≤ x.State ∧ x.State < t.States) ∧ x.Out.length ≤ 1024
  arcs : t.Arcs.length ≤ 1024 ∧ ∀ x ∈ t.Arcs, (0 ≤ x.From ∧ x.From < t.States) ∧ (0 ≤ x.To ∧ x.To < t.States) ∧ x.Out.length ≤ 1024
end
section
def wp_rLagP (p : Int) (q : Int) (a : List UInt8) (b : List UInt8) (Q : Gwhittleref19_Lag → Prop) : Prop :=
  (a.length ≤ 1000000000000 ∧ b.length ≤ 1000000000000) ∧
  Q (⟨p, q, (a.drop (lcp a b)), (b.drop (lcp a b))⟩ : Gwhittleref19_Lag)
def wp_rFirstsP (t : GFst) (Q : (List Gwhittleref19_Lag) → Prop) : Prop :=
  ∃ I_11 : (List Gwhittleref19_Lag) → Nat → Prop,
    I_11 [] 0 ∧
    ∀ (out : List Gwhittleref19_Lag) (i : Nat), I_11 out i → i ≤ t.Starts.length →
    if decide ((i : Int) < (t.Starts.length : Int)) then
      ∃ I_20 : (List Gwhittleref19_Lag) → Nat → Prop,
        I_20 out 0 ∧
        ∀ (out2 : List Gwhittleref19_Lag) (k : Nat), I_20 out2 k → k ≤ t.Starts.length →
        if decide ((k : Int) < (t.Starts.length : Int)) then
          (((t.Starts.getD i default).Out).length ≤ 1000000000000 ∧ ((t.Starts.getD k default).Out).length ≤ 1000000000000) ∧
          ((out2.length + 1) * 48 ≤ 140737488355328) ∧
          I_20 (out2 ++ [(rLg ((t.Starts.getD i default).State) ((t.Starts.getD k default).State) ((t.Starts.getD i default).Out) ((t.Starts.getD k default).Out))]) (k + 1)
        else
          I_11 out2 (i + 1)
    else
      Q out
def wp_rNextP (t : GFst) (l : Gwhittleref19_Lag) (Q : (List Gwhittleref19_Lag) → Prop) : Prop :=
  ∃ I_13 : (List Gwhittleref19_Lag) → Nat → Prop,
    I_13 [] 0 ∧
    ∀ (out : List Gwhittleref19_Lag) (i : Nat), I_13 out i → i ≤ t.Arcs.length →
    if decide ((i : Int) < (t.Arcs.length : Int)) then
      ∃ I_22 : (List Gwhittleref19_Lag) → Nat → Prop,
        I_22 out 0 ∧
        ∀ (out2 : List Gwhittleref19_Lag) (k : Nat), I_22 out2 k → k ≤ t.Arcs.length →
        if decide ((k : Int) < (t.Arcs.length : Int)) then
          if ((!decide ((t.Arcs.getD i default).From = l.P)) || (!decide ((t.Arcs.getD k default).From = l.Q))) then
            I_22 out2 (k + 1)
          else
            ∃ I_44 : (List Gwhittleref19_Lag) → Nat → Prop,
              I_44 out2 0 ∧
              ∀ (out3 : List Gwhittleref19_Lag) (j : Nat), I_44 out3 j → j ≤ ((BSet.ofFn (fun m => byP 0 (((t.Arcs.getD i default).Set).has m) (((t.Arcs.getD k default).Set).has m)) 256).bytes).length →
              if decide ((j : Int) < (((BSet.ofFn (fun m => byP 0 (((t.Arcs.getD i default).Set).has m) (((t.Arcs.getD k default).Set).has m)) 256).bytes).length : Int)) then
                (l.A.length + ((t.Arcs.getD i default).Out).length ≤ 9223372036854775807) ∧
                (l.B.length + ((t.Arcs.getD k default).Out).length ≤ 9223372036854775807) ∧
                ∃ K_54 : (List UInt8) → Prop,
                ((if (t.Arcs.getD i default).Copy then
                    ((0 : Int) ≤ (j : Int) ∧ (j : Int) ≤ ((j : Int) + 1) ∧ ((j : Int) + 1) ≤ (((BSet.ofFn (fun m => byP 0 (((t.Arcs.getD i default).Set).has m) (((t.Arcs.getD k default).Set).has m)) 256).bytes).length : Int)) ∧
                    ((l.A ++ (t.Arcs.getD i default).Out).length + ((((BSet.ofFn (fun m => byP 0 (((t.Arcs.getD i default).Set).has m) (((t.Arcs.getD k default).Set).has m)) 256).bytes).take ((j : Int) + 1).toNat).drop j).length ≤ 9223372036854775807) ∧
                    K_54 ((l.A ++ (t.Arcs.getD i default).Out) ++ ((((BSet.ofFn (fun m => byP 0 (((t.Arcs.getD i default).Set).has m) (((t.Arcs.getD k default).Set).has m)) 256).bytes).take ((j : Int) + 1).toNat).drop j))
                  else
                    K_54 (l.A ++ (t.Arcs.getD i default).Out))) ∧
                ∀ a, K_54 a →
                (∃ K_61 : (List UInt8) → Prop,
                  ((if (t.Arcs.getD k default).Copy then
                      ((0 : Int) ≤ (j : Int) ∧ (j : Int) ≤ ((j : Int) + 1) ∧ ((j : Int) + 1) ≤ (((BSet.ofFn (fun m => byP 0 (((t.Arcs.getD i default).Set).has m) (((t.Arcs.getD k default).Set).has m)) 256).bytes).length : Int)) ∧
                      ((l.B ++ (t.Arcs.getD k default).Out).length + ((((BSet.ofFn (fun m => byP 0 (((t.Arcs.getD i default).Set).has m) (((t.Arcs.getD k default).Set).has m)) 256).bytes).take ((j : Int) + 1).toNat).drop j).length ≤ 9223372036854775807) ∧
                      K_61 ((l.B ++ (t.Arcs.getD k default).Out) ++ ((((BSet.ofFn (fun m => byP 0 (((t.Arcs.getD i default).Set).has m) (((t.Arcs.getD k default).Set).has m)) 256).bytes).take ((j : Int) + 1).toNat).drop j))
                    else
                      K_61 (l.B ++ (t.Arcs.getD k default).Out))) ∧
                  ∀ b, K_61 b →
                  ((a.length ≤ 1000000000000 ∧ b.length ≤ 1000000000000) ∧
                    ((out3.length + 1) * 48 ≤ 140737488355328) ∧
                    I_44 (out3 ++ [(rLg ((t.Arcs.getD i default).To) ((t.Arcs.getD k default).To) a b)]) (j + 1)))
              else
                I_22 out3 (k + 1)
        else
          I_13 out2 (i + 1)
    else
      Q out
def wp_rJointP (t : GFst) (Q : (List (List Bool)) → Prop) : Prop :=
  ∃ I_12 : (List (List Bool)) → Nat → Prop,
    I_12 [] 0 ∧
    ∀ (xin : List (List Bool)) (i : Nat), I_12 xin i →
    if decide ((i : Int) < t.States) then
      (0 ≤ t.States ∧ 1 * t.States.toNat ≤ 281474976710656 ∧ t.States ≤ 9223372036854775807) ∧
      ((xin.length + 1) * 24 ≤ 140737488355328) ∧
      (i64 ((i : Int) + 1)) ∧
      I_12 (xin ++ [(List.replicate t.States.toNat false)]) (i + 1)
    else
      ∃ I_29 : (List (List Bool)) → Nat → Prop,
        I_29 xin 0 ∧
        ∀ (xin2 : List (List Bool)) (i2 : Nat), I_29 xin2 i2 → i2 ≤ t.Ends.length →
        if decide ((i2 : Int) < (t.Ends.length : Int)) then
          ∃ I_38 : (List (List Bool)) → Nat → Prop,
            I_38 xin2 0 ∧
            ∀ (xin3 : List (List Bool)) (k : Nat), I_38 xin3 k → k ≤ t.Ends.length →
            if decide ((k : Int) < (t.Ends.length : Int)) then
              ((0 : Int) ≤ (t.Ends.getD i2 default).State ∧ (t.Ends.getD i2 default).State < (xin3.length : Int)) ∧
              ((0 : Int) ≤ (t.Ends.getD k default).State ∧ (t.Ends.getD k default).State < ((xin3.getD ((t.Ends.getD i2 default).State).toNat default).length : Int)) ∧
              I_38 (xin3.set ((t.Ends.getD i2 default).State).toNat ((xin3.getD ((t.Ends.getD i2 default).State).toNat default).set ((t.Ends.getD k default).State).toNat true)) (k + 1)
            else
              I_29 xin3 (i2 + 1)
        else
          ∃ (I_49 : (List (List Bool)) → Bool → Prop) (μ_50 : (List (List Bool)) → Bool → Nat),
            I_49 xin2 true ∧
            ∀ (xin4 : List (List Bool)) (turned : Bool), I_49 xin4 turned →
            if turned then
              ∃ I_56 : (List (List Bool)) → Bool → Nat → Prop,
                I_56 xin4 false 0 ∧
                ∀ (xin5 : List (List Bool)) (turned2 : Bool) (i3 : Nat), I_56 xin5 turned2 i3 → i3 ≤ t.Arcs.length →
                if decide ((i3 : Int) < (t.Arcs.length : Int)) then
                  ∃ I_64 : (List (List Bool)) → Bool → Nat → Prop,
                    I_64 xin5 turned2 0 ∧
                    ∀ (xin6 : List (List Bool)) (turned3 : Bool) (k2 : Nat), I_64 xin6 turned3 k2 → k2 ≤ t.Arcs.length →
                    if decide ((k2 : Int) < (t.Arcs.length : Int)) then
                      ((0 : Int) ≤ (t.Arcs.getD i3 default).From ∧ (t.Arcs.getD i3 default).From < (xin6.length : Int)) ∧
                      ((0 : Int) ≤ (t.Arcs.getD i3 default).To ∧ (t.Arcs.getD i3 default).To < (xin6.length : Int)) ∧
                      ((0 : Int) ≤ (t.Arcs.getD k2 default).To ∧ (t.Arcs.getD k2 default).To < ((xin6.getD ((t.Arcs.getD i3 default).To).toNat default).length : Int)) ∧
                      (((xin6.getD ((t.Arcs.getD i3 default).To).toNat default).getD ((t.Arcs.getD k2 default).To).toNat default) = true → (0 : Int) ≤ (t.Arcs.getD k2 default).From ∧ (t.Arcs.getD k2 default).From < ((xin6.getD ((t.Arcs.getD i3 default).From).toNat default).length : Int)) ∧
                      (((xin6.getD ((t.Arcs.getD i3 default).To).toNat default).getD ((t.Arcs.getD k2 default).To).toNat default) = true → (0 : Int) ≤ (t.Arcs.getD i3 default).From ∧ (t.Arcs.getD i3 default).From < (xin6.length : Int)) ∧
                      (((xin6.getD ((t.Arcs.getD i3 default).To).toNat default).getD ((t.Arcs.getD k2 default).To).toNat default) = true → (0 : Int) ≤ (t.Arcs.getD k2 default).From ∧ (t.Arcs.getD k2 default).From < ((xin6.getD ((t.Arcs.getD i3 default).From).toNat default).length : Int)) ∧
                      (((xin6.getD ((t.Arcs.getD i3 default).To).toNat default).getD ((t.Arcs.getD k2 default).To).toNat default) = true → (0 : Int) ≤ (t.Arcs.getD i3 default).From ∧ (t.Arcs.getD i3 default).From < (xin6.length : Int)) ∧
                      if ((((xin6.getD ((t.Arcs.getD i3 default).To).toNat default).getD ((t.Arcs.getD k2 default).To).toNat default) && (!((xin6.getD ((t.Arcs.getD i3 default).From).toNat default).getD ((t.Arcs.getD k2 default).From).toNat default))) && (!decide ((BSet.ofFn (fun m => byP 0 (((t.Arcs.getD i3 default).Set).has m) (((t.Arcs.getD k2 default).Set).has m)) 256) = BSet.zero))) then
                        ((0 : Int) ≤ (t.Arcs.getD k2 default).From ∧ (t.Arcs.getD k2 default).From < ((xin6.getD ((t.Arcs.getD i3 default).From).toNat default).length : Int)) ∧
                        I_64 (xin6.set ((t.Arcs.getD i3 default).From).toNat ((xin6.getD ((t.Arcs.getD i3 default).From).toNat default).set ((t.Arcs.getD k2 default).From).toNat true)) true (k2 + 1)
                      else
                        I_64 xin6 turned3 (k2 + 1)
                    else
                      I_56 xin6 turned3 (i3 + 1)
                else
                  I_49 xin5 turned2 ∧ μ_50 xin5 turned2 < μ_50 xin4 turned
            else
              Q xin4
def wp_rOne19 (t : GFst) (Q : Bool → Int → Prop) : Prop :=
  (t.Starts.length ≤ 17592186044416 ∧ t.Ends.length ≤ 17592186044416 ∧ t.Arcs.length ≤ 17592186044416) ∧
  if (!decide ((pTrim t).2 = 0)) then
    Q false ((pTrim t).2)
  else
    if decide (32 < ((pTrim t).1).States) then
      Q false 2
    else
      (RefOk ((pTrim t).1)) ∧
      ∃ (I_34 : (List Gwhittleref19_Lag) → (List Gwhittleref19_Lag) → Int → Prop) (μ_35 : (List Gwhittleref19_Lag) → (List Gwhittleref19_Lag) → Int → Nat),
        I_34 (rFirsts ((pTrim t).1)) [] 0 ∧
        ∀ (wait : List Gwhittleref19_Lag) (seen : List Gwhittleref19_Lag) (i : Int), I_34 wait seen i →
        if decide (i < (wait.length : Int)) then
          ((0 : Int) ≤ i ∧ i < (wait.length : Int)) ∧
          ((0 : Int) ≤ (wait.getD i.toNat default).P ∧ (wait.getD i.toNat default).P < ((jointL ((pTrim t).1)).length : Int)) ∧
          ((0 : Int) ≤ (wait.getD i.toNat default).Q ∧ (wait.getD i.toNat default).Q < (((jointL ((pTrim t).1)).getD ((wait.getD i.toNat default).P).toNat default).length : Int)) ∧
          if (!(((jointL ((pTrim t).1)).getD ((wait.getD i.toNat default).P).toNat default).getD ((wait.getD i.toNat default).Q).toNat default)) then
            (i64 (i + 1)) ∧
            I_34 wait seen (i + 1) ∧ μ_35 wait seen (i + 1) < μ_35 wait seen i
          else
            if ((!decide ((wait.getD i.toNat default).A = [])) && (!decide ((wait.getD i.toNat default).B = []))) then
              Q false 0
            else
              ∃ I_54 : Bool → Nat → Prop,
                I_54 false 0 ∧
                ∀ (there : Bool) (k : Nat), I_54 there k → k ≤ seen.length →
                if decide ((k : Int) < (seen.length : Int)) then
                  if (decide ((seen.getD k default).P = (wait.getD i.toNat default).P) && decide ((seen.getD k default).Q = (wait.getD i.toNat default).Q)) then
                    if (!decide ((seen.getD k default) = (wait.getD i.toNat default))) then
                      Q false 0
                    else
                      I_54 true (k + 1)
                  else
                    I_54 there (k + 1)
                else
                  if there then
                    (i64 (i + 1)) ∧
                    I_34 wait seen (i + 1) ∧ μ_35 wait seen (i + 1) < μ_35 wait seen i
                  else
                    ((seen.length + 1) * 48 ≤ 140737488355328) ∧
                    ∃ I_71 : Nat → Prop,
                      I_71 0 ∧
                      ∀ (k2 : Nat), I_71 k2 → k2 ≤ (((pTrim t).1).Ends).length →
                      if decide ((k2 : Int) < ((((pTrim t).1).Ends).length : Int)) then
                        ∃ I_79 : Nat → Prop,
                          I_79 0 ∧
                          ∀ (j : Nat), I_79 j → j ≤ (((pTrim t).1).Ends).length →
                          if decide ((j : Int) < ((((pTrim t).1).Ends).length : Int)) then
                            ((decide (((((pTrim t).1).Ends).getD k2 default).State = (wait.getD i.toNat default).P) && decide (((((pTrim t).1).Ends).getD j default).State = (wait.getD i.toNat default).Q)) = true → ((wait.getD i.toNat default).A).length + (((((pTrim t).1).Ends).getD k2 default).Out).length ≤ 9223372036854775807) ∧
                            ((decide (((((pTrim t).1).Ends).getD k2 default).State = (wait.getD i.toNat default).P) && decide (((((pTrim t).1).Ends).getD j default).State = (wait.getD i.toNat default).Q)) = true → ((wait.getD i.toNat default).B).length + (((((pTrim t).1).Ends).getD j default).Out).length ≤ 9223372036854775807) ∧
                            if ((decide (((((pTrim t).1).Ends).getD k2 default).State = (wait.getD i.toNat default).P) && decide (((((pTrim t).1).Ends).getD j default).State = (wait.getD i.toNat default).Q)) && (!decide (((wait.getD i.toNat default).A ++ ((((pTrim t).1).Ends).getD k2 default).Out) = ((wait.getD i.toNat default).B ++ ((((pTrim t).1).Ends).getD j default).Out)))) then
                              Q false 0
                            else
                              I_79 (j + 1)
                          else
                            I_71 (k2 + 1)
                      else
                        (RefOk ((pTrim t).1) ∧ (wait.getD i.toNat default).A.length ≤ 1000000000 ∧ (wait.getD i.toNat default).B.length ≤ 1000000000) ∧
                        ((wait.length + (rNext ((pTrim t).1) (wait.getD i.toNat default)).length) * 48 ≤ 140737488355328) ∧
                        (i64 (i + 1)) ∧
                        I_34 (wait ++ (rNext ((pTrim t).1) (wait.getD i.toNat default))) (seen ++ [(wait.getD i.toNat default)]) (i + 1) ∧ μ_35 (wait ++ (rNext ((pTrim t).1) (wait.getD i.toNat default))) (seen ++ [(wait.getD i.toNat default)]) (i + 1) < μ_35 wait seen i
        else
          Q true 0
end
section
def wp_rGrown (t : GFst) (l : List GTip) (back : Bool) (Q : (List Bool) → Prop) : Prop :=
  (0 ≤ t.States ∧ 1 * t.States.toNat ≤ 281474976710656 ∧ t.States ≤ 9223372036854775807) ∧
  ∃ I_15 : (List Bool) → Nat → Prop,
    I_15 (List.replicate t.States.toNat false) 0 ∧
    ∀ (xin : List Bool) (i : Nat), I_15 xin i → i ≤ l.length →
    if decide ((i : Int) < (l.length : Int)) then
      ((0 : Int) ≤ (l.getD i default).State ∧ (l.getD i default).State < (xin.length : Int)) ∧
      I_15 (xin.set ((l.getD i default).State).toNat true) (i + 1)
    else
      ∃ (I_25 : (List Bool) → Bool → Prop) (μ_26 : (List Bool) → Bool → Nat),
        I_25 xin true ∧
        ∀ (xin2 : List Bool) (turned : Bool), I_25 xin2 turned →
        if turned then
          ∃ I_32 : (List Bool) → Bool → Nat → Prop,
            I_32 xin2 false 0 ∧
            ∀ (xin3 : List Bool) (turned2 : Bool) (i2 : Nat), I_32 xin3 turned2 i2 → i2 ≤ t.Arcs.length →
            if decide ((i2 : Int) < (t.Arcs.length : Int)) then
              ∃ K_40 : Int → Int → Prop,
              ((if back then
                  K_40 ((t.Arcs.getD i2 default).To) ((t.Arcs.getD i2 default).From)
                else
                  K_40 ((t.Arcs.getD i2 default).From) ((t.Arcs.getD i2 default).To))) ∧
              ∀ a b, K_40 a b →
              (((0 : Int) ≤ a ∧ a < (xin3.length : Int)) ∧
                ((xin3.getD a.toNat default) = true → (0 : Int) ≤ b ∧ b < (xin3.length : Int)) ∧
                ((xin3.getD a.toNat default) = true → (0 : Int) ≤ b ∧ b < (xin3.length : Int)) ∧
                if ((xin3.getD a.toNat default) && (!(xin3.getD b.toNat default))) then
                  ((0 : Int) ≤ b ∧ b < (xin3.length : Int)) ∧
                  I_32 (xin3.set b.toNat true) true (i2 + 1)
                else
                  I_32 xin3 turned2 (i2 + 1))
            else
              I_25 xin3 turned2 ∧ μ_26 xin3 turned2 < μ_26 xin2 turned
        else
          Q xin2
def wp_rTrim18 (t : GFst) (Q : GFst → Int → Prop) : Prop :=
  (t.Starts.length ≤ 17592186044416 ∧ t.Ends.length ≤ 17592186044416 ∧ t.Arcs.length ≤ 17592186044416) ∧
  if (!fRight t) then
    Q (⟨(0 : Int), [], [], []⟩ : GFst) 1
  else
    (fRight t = true ∧ ∀ x ∈ t.Starts, 0 ≤ x.State ∧ x.State < t.States) ∧
    (fRight t = true ∧ ∀ x ∈ t.Ends, 0 ≤ x.State ∧ x.State < t.States) ∧
    (0 ≤ t.States ∧ 8 * t.States.toNat ≤ 281474976710656 ∧ t.States ≤ 9223372036854775807) ∧
    ∃ I_42 : (List Int) → GFst → Nat → Prop,
      I_42 (List.replicate t.States.toNat (0 : Int)) (⟨(0 : Int), [], [], []⟩ : GFst) 0 ∧
      ∀ (number : List Int) (out : GFst) (s : Nat), I_42 number out s →
      if decide ((s : Int) < t.States) then
        ((0 : Int) ≤ (s : Int) ∧ (s : Int) < (number.length : Int)) ∧
        ((0 : Int) ≤ (s : Int) ∧ (s : Int) < ((reachL t.States t.Starts (if false then backL t.States t.Arcs else onL t.States t.Arcs)).length : Int)) ∧
        (((reachL t.States t.Starts (if false then backL t.States t.Arcs else onL t.States t.Arcs)).getD s default) = true → (0 : Int) ≤ (s : Int) ∧ (s : Int) < ((reachL t.States t.Ends (if true then backL t.States t.Arcs else onL t.States t.Arcs)).length : Int)) ∧
        (((reachL t.States t.Starts (if false then backL t.States t.Arcs else onL t.States t.Arcs)).getD s default) = true → (0 : Int) ≤ (s : Int) ∧ (s : Int) < ((reachL t.States t.Ends (if true then backL t.States t.Arcs else onL t.States t.Arcs)).length : Int)) ∧
        if (((reachL t.States t.Starts (if false then backL t.States t.Arcs else onL t.States t.Arcs)).getD s default) && ((reachL t.States t.Ends (if true then backL t.States t.Arcs else onL t.States t.Arcs)).getD s default)) then
          ((0 : Int) ≤ (s : Int) ∧ (s : Int) < ((number.set s (-1)).length : Int)) ∧
          (i64 (out.States + 1)) ∧
          (i64 ((s : Int) + 1)) ∧
          I_42 ((number.set s (-1)).set s out.States) (⟨(out.States + 1), out.Starts, out.Ends, out.Arcs⟩ : GFst) (s + 1)
        else
          (i64 ((s : Int) + 1)) ∧
          I_42 (number.set s (-1)) out (s + 1)
      else
        ∃ I_64 : GFst → Nat → Prop,
          I_64 out 0 ∧
          ∀ (out2 : GFst) (i : Nat), I_64 out2 i → i ≤ t.Starts.length →
          if decide ((i : Int) < (t.Starts.length : Int)) then
            ((0 : Int) ≤ (t.Starts.getD i default).State ∧ (t.Starts.getD i default).State < (number.length : Int)) ∧
            if decide (0 ≤ (number.getD ((t.Starts.getD i default).State).toNat default)) then
              ((out2.Starts.length + 1) * 24 ≤ 140737488355328) ∧
              I_64 (⟨out2.States, (out2.Starts ++ [(⟨(number.getD ((t.Starts.getD i default).State).toNat default), (t.Starts.getD i default).Out⟩ : GTip)]), out2.Ends, out2.Arcs⟩ : GFst) (i + 1)
            else
              I_64 out2 (i + 1)
          else
            ∃ I_86 : GFst → Nat → Prop,
              I_86 out2 0 ∧
              ∀ (out3 : GFst) (i2 : Nat), I_86 out3 i2 → i2 ≤ t.Ends.length →
              if decide ((i2 : Int) < (t.Ends.length : Int)) then
                ((0 : Int) ≤ (t.Ends.getD i2 default).State ∧ (t.Ends.getD i2 default).State < (number.length : Int)) ∧
                if decide (0 ≤ (number.getD ((t.Ends.getD i2 default).State).toNat default)) then
                  ((out3.Ends.length + 1) * 24 ≤ 140737488355328) ∧
                  I_86 (⟨out3.States, out3.Starts, (out3.Ends ++ [(⟨(number.getD ((t.Ends.getD i2 default).State).toNat default), (t.Ends.getD i2 default).Out⟩ : GTip)]), out3.Arcs⟩ : GFst) (i2 + 1)
                else
                  I_86 out3 (i2 + 1)
              else
                ∃ I_108 : GFst → Nat → Prop,
                  I_108 out3 0 ∧
                  ∀ (out4 : GFst) (i3 : Nat), I_108 out4 i3 → i3 ≤ t.Arcs.length →
                  if decide ((i3 : Int) < (t.Arcs.length : Int)) then
                    ((0 : Int) ≤ (t.Arcs.getD i3 default).From ∧ (t.Arcs.getD i3 default).From < (number.length : Int)) ∧
                    ((decide (0 ≤ (number.getD ((t.Arcs.getD i3 default).From).toNat default))) = true → (0 : Int) ≤ (t.Arcs.getD i3 default).To ∧ (t.Arcs.getD i3 default).To < (number.length : Int)) ∧
                    ((decide (0 ≤ (number.getD ((t.Arcs.getD i3 default).From).toNat default))) = true → (0 : Int) ≤ (t.Arcs.getD i3 default).To ∧ (t.Arcs.getD i3 default).To < (number.length : Int)) ∧
                    if (decide (0 ≤ (number.getD ((t.Arcs.getD i3 default).From).toNat default)) && decide (0 ≤ (number.getD ((t.Arcs.getD i3 default).To).toNat default))) then
                      ((0 : Int) ≤ ({ (t.Arcs.getD i3 default) with From := (number.getD ((t.Arcs.getD i3 default).From).toNat default) }).To ∧ ({ (t.Arcs.getD i3 default) with From := (number.getD ((t.Arcs.getD i3 default).From).toNat default) }).To < (number.length : Int)) ∧
                      ((out4.Arcs.length + 1) * 72 ≤ 140737488355328) ∧
                      I_108 (⟨out4.States, out4.Starts, out4.Ends, (out4.Arcs ++ [{ { (t.Arcs.getD i3 default) with From := (number.getD ((t.Arcs.getD i3 default).From).toNat default) } with To := (number.getD (({ (t.Arcs.getD i3 default) with From := (number.getD ((t.Arcs.getD i3 default).From).toNat default) }).To).toNat default) }])⟩ : GFst) (i3 + 1)
                    else
                      I_108 out4 (i3 + 1)
                  else
                    (out4.Starts.length ≤ 1000000 ∧ out4.Ends.length ≤ 1000000 ∧ out4.Arcs.length ≤ 1000000) ∧
                    Q ((fSort out4).1) ((fSort out4).2)
end
section
theorem reachL_len {n : Int} {l : List GTip} {steps : List (List Int)} : (reachL n l steps).length = n.toNat := by
  unfold reachL
  exact foldl_inv (P := fun o : List Bool => o.length = n.toNat) (fun o x _ h => (visit_len _ _).trans h) (by simp)
/-- one step, on or back -/
def stepR (t : GFst) (back : Bool) (s u : Int) : Prop := if back = true then Arc t u s else Arc t s u
theorem grown_iff {t : GFst} (h : fRight t = true) {l : List GTip} (hl : ∀ x ∈ l, 0 ≤ x.State ∧ x.State < t.States) (back : Bool) {s : Int} (hs : 0 ≤ s) :
    on' (reachL t.States l (if back then backL t.States t.Arcs else onL t.States t.Arcs)) s ↔ Rch (fun s => ∃ x ∈ l, x.State = s) (stepR t back) s := by
  cases back with
  | false =>
    rw [if_neg (by decide), reachL_spec (steps_ok h).1 hl hs]
    exact ⟨Rch.mono (fun _ q => q) fun a b q => (onL_mem h q.1).1 q.2, Rch.mono (fun _ q => q) fun a b q => ⟨(arc_in h q).1.1, (onL_mem h (arc_in h q).1.1).2 q⟩⟩
  | true =>
    rw [if_pos rfl, reachL_spec (steps_ok h).2 hl hs]
    exact ⟨Rch.mono (fun _ q => q) fun a b q => (backL_mem h q.1).1 q.2, Rch.mono (fun _ q => q) fun a b q => ⟨(arc_in h q).2.1, (backL_mem h (arc_in h q).2.1).2 q⟩⟩
theorem bools_ext {a b : List Bool} {n : Nat} (ha : a.length = n) (hb : b.length = n) (h : ∀ s : Int, 0 ≤ s → s < n → (on' a s ↔ on' b s)) : a = b := by
  refine List.ext_getElem (ha.trans hb.symm) fun i h1 h2 => ?_
  have := h (i : Int) (by omega) (by omega)
  unfold on' at this
  rw [Int.toNat_natCast, getk h1, getk h2] at this
  cases ea : a[i] <;> cases eb : b[i] <;> simp_all
def arcA (back : Bool) (x : GArc) : Int := if back = true then x.To else x.From
def arcB (back : Bool) (x : GArc) : Int := if back = true then x.From else x.To
theorem step_arc {t : GFst} {back : Bool} {x : GArc} (hx : x ∈ t.Arcs) : stepR t back (arcA back x) (arcB back x) := by
  unfold stepR arcA arcB
  cases back
  · exact ⟨x, hx, rfl, rfl⟩
  · exact ⟨x, hx, rfl, rfl⟩
theorem arc_of_step {t : GFst} {back : Bool} {s u : Int} (h : stepR t back s u) : ∃ x ∈ t.Arcs, arcA back x = s ∧ arcB back x = u := by
  unfold stepR at h
  cases back
  · obtain ⟨x, hx, h1, h2⟩ := h; exact ⟨x, hx, h1, h2⟩
  · obtain ⟨x, hx, h1, h2⟩ := h; exact ⟨x, hx, h2, h1⟩
theorem rGrown_wp {t : GFst} {l : List GTip} {back : Bool} (hp : fRight t = true ∧ ∀ x ∈ l, 0 ≤ x.State ∧ x.State < t.States) : wp_rGrown t l back (fun r0 => r0 = (reachL t.States l (if back then backL t.States t.Arcs else onL t.States t.Arcs))) := by
  obtain ⟨hR, hl⟩ := hp
  have hst := fStates_in hR
  have ha := fArcs_in hR
  obtain ⟨n, hn⟩ := Int.eq_ofNat_of_zero_le hst.1
  have hA : ∀ x ∈ t.Arcs, (0 ≤ arcA back x ∧ arcA back x < n) ∧ 0 ≤ arcB back x ∧ arcB back x < n := fun x hx => by
    have := ha x hx
    unfold arcA arcB
    cases back
    · exact ⟨by have := this.1; simp; omega, by have := this.2.1; simp; omega⟩
    · exact ⟨by have := this.2.1; simp; omega, by have := this.1; simp; omega⟩
  let R := Rch (fun s => ∃ x ∈ l, x.State = s) (stepR t back)
  refine ⟨⟨by omega, by omega, by omega⟩, ?_⟩
  refine cnt1 (fun o k => o.length = n ∧ ∀ s : Int, 0 ≤ s → (on' o s ↔ ∃ x ∈ l.take k, x.State = s)) ⟨by rw [List.length_replicate]; omega, fun s hs => ?_⟩ (fun o k hI hk => ?_) (fun o hI => ?_)
  · unfold on'
    rw [List.getD_eq_getElem?_getD, List.getElem?_replicate]
    split <;> simp
  · have hx := hl _ (getk_mem (d := default) hk)
    refine ⟨⟨hx.1, by rw [hI.1]; omega⟩, by rw [List.length_set]; exact hI.1, fun s hs => ?_⟩
    rw [on_set hs ⟨hx.1, by rw [hI.1]; omega⟩, hI.2 s hs, takek default hk]
    constructor
    · rintro (⟨x, hx, e⟩ | e)
      · exact ⟨x, List.mem_append_left _ hx, e⟩
      · exact ⟨_, List.mem_append_right _ (by simp), e.symm⟩
    · rintro ⟨x, hx, e⟩
      rcases List.mem_append.1 hx with q | q
      · exact .inl ⟨x, q, e⟩
      · rw [List.mem_singleton] at q; subst q; exact .inr e.symm
  · obtain ⟨o1, o2⟩ := hI
    rw [List.take_length] at o2
    refine ⟨fun o b => (o.length = n ∧ (∀ s : Int, 0 ≤ s → on' o s → R s) ∧ ∀ x ∈ l, on' o x.State) ∧ (b = false → ∀ x ∈ t.Arcs, on' o (arcA back x) → on' o (arcB back x)), fun o b => 2 * o.count false + (if b = true then 1 else 0), ⟨⟨o1, fun s hs h => .base ((o2 s hs).1 h), fun x hx => (o2 _ (hl x hx).1).2 ⟨x, hx, rfl⟩⟩, fun h => by cases h⟩, ?_⟩
    rintro o b ⟨⟨i1, i2, i3⟩, i4⟩
    cases b with
    | false =>
      rw [if_neg (by decide)]
      refine bools_ext i1 (by rw [reachL_len]; omega) fun s h0 h1 => ?_
      rw [grown_iff hR hl back h0]
      refine ⟨i2 s h0, fun h => ?_⟩
      clear h1
      induction h with
      | base h => obtain ⟨x, hx, rfl⟩ := h; exact i3 x hx
      | step h1 h2 ih =>
        obtain ⟨x, hx, e1, e2⟩ := arc_of_step h2
        rw [← e2]
        refine i4 rfl x hx ?_
        rw [e1]
        exact ih (by rw [← e1]; exact (hA x hx).1.1)
    | true =>
      rw [if_pos rfl]
      refine cnt2 (fun o2 b k => (o2.length = n ∧ (∀ s : Int, 0 ≤ s → on' o2 s → R s) ∧ ∀ x ∈ l, on' o2 x.State) ∧ (b = false → o2 = o ∧ ∀ x ∈ t.Arcs.take k, on' o2 (arcA back x) → on' o2 (arcB back x)) ∧ o2.count false ≤ o.count false ∧ (b = true → o2.count false < o.count false)) ⟨⟨i1, i2, i3⟩, fun _ => ⟨rfl, fun x hx => by simp at hx⟩, Nat.le_refl _, fun h => by cases h⟩ (fun o2 b k hI hk => ?_) (fun o2 b hI => ?_)
      · obtain ⟨⟨j1, j2, j3⟩, j4, j5, j6⟩ := hI
        have hx := getk_mem (d := default) hk
        have hAx := hA _ hx
        generalize hX : t.Arcs.getD k default = x at *
        refine ⟨fun a b => a = arcA back x ∧ b = arcB back x, ?_, ?_⟩
        · unfold arcA arcB
          cases back <;> exact ⟨rfl, rfl⟩
        · rintro a c ⟨rfl, rfl⟩
          have sb : (0 : Int) ≤ arcB back x ∧ arcB back x < (o2.length : Int) := ⟨hAx.2.1, by omega⟩
          refine ⟨⟨hAx.1.1, by omega⟩, fun _ => sb, fun _ => sb, ?_⟩
          cases c1 : o2.getD (arcA back x).toNat default with
          | false =>
            rw [if_neg (by simp)]
            refine ⟨⟨j1, j2, j3⟩, fun hb => ⟨(j4 hb).1, fun y hy hon => ?_⟩, j5, j6⟩
            rw [takek default hk, hX] at hy
            rcases List.mem_append.1 hy with q | q
            · exact (j4 hb).2 y q hon
            · rw [List.mem_singleton] at q; subst q
              exact absurd (show o2.getD (arcA back y).toNat false = true from hon) (by rw [show o2.getD (arcA back y).toNat false = o2.getD (arcA back y).toNat default from rfl, c1]; decide)
          | true =>
            cases c2 : o2.getD (arcB back x).toNat default with
            | true =>
              rw [if_neg (by simp)]
              refine ⟨⟨j1, j2, j3⟩, fun hb => ⟨(j4 hb).1, fun y hy hon => ?_⟩, j5, j6⟩
              rw [takek default hk, hX] at hy
              rcases List.mem_append.1 hy with q | q
              · exact (j4 hb).2 y q hon
              · rw [List.mem_singleton] at q; subst q; exact c2
            | false =>
              rw [if_pos (by simp)]
              have hcf := cf_set o2 (arcB back x).toNat (by omega) c2
              refine ⟨sb, ⟨by rw [List.length_set]; exact j1, fun s hs hon => ?_, fun y hy => (on_set (hl y hy).1 sb).2 (.inl (j3 y hy))⟩, fun h => (by cases h), by omega, fun _ => by omega⟩
              rcases (on_set hs sb).1 hon with q | rfl
              · exact j2 s hs q
              · exact .step (j2 _ hAx.1.1 c1) (step_arc hx)
      · obtain ⟨j0, j4, j5, j6⟩ := hI
        rw [List.take_length] at j4
        refine ⟨⟨j0, fun hb => (j4 hb).2⟩, ?_⟩
        dsimp only
        cases b with
        | false => rw [if_neg (by decide), if_pos rfl]; omega
        | true => have := j6 rfl; rw [if_pos rfl]; omega
/-! ## Trim -/
theorem tipsL_snoc {m : List (Int × Int)} {l : List GTip} {x : GTip} : tipsL m (l ++ [x]) = if (aget m x.State).isSome = true then tipsL m l ++ [⟨(aget m x.State).getD 0, x.Out⟩] else tipsL m l := by
  unfold tipsL
  rw [List.filter_append, List.map_append, List.filter_cons]
  split <;> simp
theorem arcsL_snoc {m : List (Int × Int)} {l : List GArc} {x : GArc} : arcsL m (l ++ [x]) = if ((aget m x.From).isSome && (aget m x.To).isSome) = true then arcsL m l ++ [{ x with From := (aget m x.From).getD 0, To := (aget m x.To).getD 0 }] else arcsL m l := by
  unfold arcsL
  rw [List.filter_append, List.map_append, List.filter_cons]
  split <;> simp
theorem tipsL_len {m : List (Int × Int)} {l : List GTip} : (tipsL m l).length ≤ l.length := by unfold tipsL; rw [List.length_map]; exact List.length_filter_le _ _
theorem arcsL_len {m : List (Int × Int)} {l : List GArc} : (arcsL m l).length ≤ l.length := by unfold arcsL; rw [List.length_map]; exact List.length_filter_le _ _
def useP (t : GFst) (s : Nat) : Bool := (reachL t.States t.Starts (onL t.States t.Arcs)).getD s default && (reachL t.States t.Ends (backL t.States t.Arcs)).getD s default
def useK (t : GFst) (k : Nat) : List Nat := (List.range k).filter (useP t)
theorem useK_succ (t : GFst) (k : Nat) : useK t (k + 1) = if useP t k = true then useK t k ++ [k] else useK t k := by
  unfold useK
  rw [List.range_succ, List.filter_append]
  by_cases h : useP t k = true <;> simp [h]
theorem useL_eq (t : GFst) : useL t = (useK t t.States.toNat).map fun (s : Nat) => (s : Int) := rfl
/-- a state's number -/
def numAt (t : GFst) (s : Nat) : Int := if useP t s = true then ((useK t s).length : Int) else -1
theorem num_at {t : GFst} {s : Nat} (hs : s < t.States.toNat) : aget (numL (useL t)) (s : Int) = if useP t s = true then some ((useK t s).length : Int) else none := by
  have hsp := useful_split t.States.toNat s hs (useP t)
  by_cases h : useP t s = true
  · rw [if_pos h]
    rw [if_pos h] at hsp
    have hlen : (useK t s).length < (useL t).length := by
      rw [useL_eq, List.length_map]
      show _ < ((List.range t.States.toNat).filter (useP t)).length
      rw [hsp]
      simp [useK]
    have hq : ((List.range t.States.toNat).filter (useP t))[(useK t s).length]? = some s := by
      rw [hsp]
      show (useK t s ++ [s] ++ _)[(useK t s).length]? = some s
      rw [List.getElem?_append_left (by simp), List.getElem?_append_right (Nat.le_refl _)]
      simp
    have he : (useL t)[(useK t s).length] = (s : Int) := by
      have h2 : (useL t)[(useK t s).length]? = some (s : Int) := by
        rw [useL_eq, List.getElem?_map]
        show Option.map _ ((List.range t.States.toNat).filter (useP t))[(useK t s).length]? = _
        rw [hq]; rfl
      rw [List.getElem?_eq_getElem hlen] at h2
      exact Option.some.inj h2
    have := num_get (useL_nodup t) hlen
    rw [he] at this
    exact this
  · rw [if_neg h]
    refine aget_none fun hk => ?_
    rw [numL_keys, useL_eq] at hk
    obtain ⟨u, hu, e⟩ := List.mem_map.1 hk
    have : u = s := by omega
    subst this
    exact h (List.mem_filter.1 hu).2
theorem numAt_some {t : GFst} {x : Int} (h0 : 0 ≤ x) (h1 : x < t.States) : (0 ≤ numAt t x.toNat ↔ (aget (numL (useL t)) x).isSome = true) ∧ ((aget (numL (useL t)) x).isSome = true → numAt t x.toNat = (aget (numL (useL t)) x).getD 0) := by
  have := num_at (t := t) (s := x.toNat) (by omega)
  rw [show ((x.toNat : Nat) : Int) = x by omega] at this
  rw [this]
  unfold numAt
  by_cases h : useP t x.toNat = true
  · rw [if_pos h, if_pos h]; exact ⟨⟨fun _ => rfl, fun _ => by omega⟩, fun _ => rfl⟩
  · rw [if_neg h, if_neg h]; exact ⟨⟨fun q => by omega, fun q => by simp at q⟩, fun q => by simp at q⟩
theorem rTrim18_wp {t : GFst} (hp : t.Starts.length ≤ 17592186044416 ∧ t.Ends.length ≤ 17592186044416 ∧ t.Arcs.length ≤ 17592186044416) : wp_rTrim18 t (fun r0 r1 => r0 = (pTrim t).1 ∧ r1 = (pTrim t).2) := by
  refine ⟨hp, ?_⟩
  unfold pTrim
  cases hR : fRight t with
  | false => exact ⟨rfl, rfl⟩
  | true =>
    rw [if_neg (by decide)]
    have hst := fStates_in hR; have htip := fTips_in hR; have har := fArcs_in hR; have hlen := fLens_le hR
    obtain ⟨n, hn⟩ := Int.eq_ofNat_of_zero_le hst.1
    have e1 : (if false then backL t.States t.Arcs else onL t.States t.Arcs) = onL t.States t.Arcs := rfl
    have e2 : (if true then backL t.States t.Arcs else onL t.States t.Arcs) = backL t.States t.Arcs := rfl
    rw [e1, e2, if_pos rfl]
    have l1 : (reachL t.States t.Starts (onL t.States t.Arcs)).length = n := by rw [reachL_len]; omega
    have l2 : (reachL t.States t.Ends (backL t.States t.Arcs)).length = n := by rw [reachL_len]; omega
    have hn' : t.States.toNat = n := by omega
    refine ⟨⟨rfl, htip.1⟩, ⟨rfl, htip.2⟩, ⟨by omega, by omega, by omega⟩, ?_⟩
    refine ⟨fun num out s => (s ≤ n ∧ num.length = n ∧ ∀ j, j < s → num.getD j default = numAt t j) ∧ out = ⟨((useK t s).length : Nat), [], [], []⟩, ⟨⟨Nat.zero_le _, by rw [List.length_replicate]; exact hn', fun j hj => by omega⟩, rfl⟩, ?_⟩
    rintro num out s ⟨⟨h1, h2, h3⟩, rfl⟩
    by_cases hlt : s < n
    · rw [if_pos (by rw [decide_eq_true_eq]; omega)]
      have hin : (0 : Int) ≤ (s : Int) ∧ (s : Int) < ((reachL t.States t.Ends (backL t.States t.Arcs)).length : Int) := ⟨by omega, by omega⟩
      have hkl : (useK t s).length ≤ s := by unfold useK; exact Nat.le_trans (List.length_filter_le _ _) (by simp)
      refine ⟨⟨by omega, by omega⟩, ⟨by omega, by omega⟩, fun _ => hin, fun _ => hin, ?_⟩
      have hus := useK_succ t s
      have hset : ∀ v : Int, v = numAt t s → ∀ m : List Int, m.length = n → (∀ j, j < s → m.getD j default = numAt t j) → (m.set s v).length = n ∧ ∀ j, j < s + 1 → (m.set s v).getD j default = numAt t j := fun v hv m hm hj => by
        refine ⟨by rw [List.length_set]; exact hm, fun j hj' => ?_⟩
        rw [List.getD_eq_getElem?_getD, List.getElem?_set]
        by_cases e : s = j
        · subst e; rw [if_pos rfl, if_pos (by omega)]; exact hv
        · rw [if_neg e, ← List.getD_eq_getElem?_getD]; exact hj j (by omega)
      have hpre : ∀ v : Int, ∀ j, j < s → (num.set s v).getD j default = numAt t j := fun v j hj => by
        rw [List.getD_eq_getElem?_getD, List.getElem?_set, if_neg (by omega), ← List.getD_eq_getElem?_getD]; exact h3 j hj
      change if useP t s = true then _ else _
      by_cases hu : useP t s = true
      · rw [if_pos hu] at hus ⊢
        have hv : (((useK t s).length : Nat) : Int) = numAt t s := by unfold numAt; rw [if_pos hu]
        obtain ⟨q1, q2⟩ := hset _ hv (num.set s (-1)) (by rw [List.length_set]; exact h2) (hpre _)
        refine ⟨⟨by omega, by rw [List.length_set]; omega⟩, ⟨by dsimp only; omega, by dsimp only; omega⟩, ⟨by omega, by omega⟩, ⟨by omega, q1, q2⟩, ?_⟩
        rw [hus, List.length_append]; rfl
      · rw [if_neg hu] at hus ⊢
        have hv : (-1 : Int) = numAt t s := by unfold numAt; rw [if_neg hu]
        obtain ⟨q1, q2⟩ := hset _ hv num h2 h3
        exact ⟨⟨by omega, by omega⟩, ⟨by omega, q1, q2⟩, by rw [hus]⟩
    · rw [if_neg (by rw [decide_eq_true_eq]; omega)]
      have hs : s = n := by omega
      subst hs
      have hnum : ∀ x : Int, 0 ≤ x → x < t.States → num.getD x.toNat default = numAt t x.toNat := fun x h0 h1 => h3 _ (by omega)
      have hc : ((useK t s).length : Int) = ((useL t).length : Int) := by rw [useL_eq, List.length_map, hn']
      rw [hc]
      refine cnt1 (fun out k => out = ⟨(useL t).length, tipsL (numL (useL t)) (t.Starts.take k), [], []⟩) rfl (fun out k hI hk => ?_) (fun out hI => ?_)
      · subst hI
        have hx := htip.1 _ (getk_mem (d := default) hk)
        have hsn := tipsL_snoc (m := numL (useL t)) (l := t.Starts.take k) (x := t.Starts.getD k default)
        rw [← takek default hk] at hsn
        generalize t.Starts.getD k default = x at *
        obtain ⟨m1, m2⟩ := numAt_some hx.1 hx.2
        rw [hnum _ hx.1 hx.2]
        refine ⟨⟨hx.1, by omega⟩, ?_⟩
        by_cases c : (aget (numL (useL t)) x.State).isSome = true
        · rw [if_pos (by rw [decide_eq_true_eq]; exact m1.2 c)]
          rw [if_pos c] at hsn
          refine ⟨?_, by dsimp only; rw [hsn, m2 c]⟩
          have := tipsL_len (m := numL (useL t)) (l := t.Starts.take k)
          rw [List.length_take] at this
          dsimp only; omega
        · rw [if_neg (by rw [decide_eq_true_eq]; exact fun q => c (m1.1 q))]
          rw [if_neg c] at hsn
          show _ = _
          rw [hsn]
      · have hI' : out = ⟨(useL t).length, tipsL (numL (useL t)) t.Starts, [], []⟩ := by have := hI; rwa [List.take_length] at this
        subst hI'
        refine cnt1 (fun out k => out = ⟨(useL t).length, tipsL (numL (useL t)) t.Starts, tipsL (numL (useL t)) (t.Ends.take k), []⟩) rfl (fun out k hI hk => ?_) (fun out hI => ?_)
        · subst hI
          have hx := htip.2 _ (getk_mem (d := default) hk)
          have hsn := tipsL_snoc (m := numL (useL t)) (l := t.Ends.take k) (x := t.Ends.getD k default)
          rw [← takek default hk] at hsn
          generalize t.Ends.getD k default = x at *
          obtain ⟨m1, m2⟩ := numAt_some hx.1 hx.2
          rw [hnum _ hx.1 hx.2]
          refine ⟨⟨hx.1, by omega⟩, ?_⟩
          by_cases c : (aget (numL (useL t)) x.State).isSome = true
          · rw [if_pos (by rw [decide_eq_true_eq]; exact m1.2 c)]
            rw [if_pos c] at hsn
            refine ⟨?_, by dsimp only; rw [hsn, m2 c]⟩
            have := tipsL_len (m := numL (useL t)) (l := t.Ends.take k)
            rw [List.length_take] at this
            dsimp only; omega
          · rw [if_neg (by rw [decide_eq_true_eq]; exact fun q => c (m1.1 q))]
            rw [if_neg c] at hsn
            show _ = _
            rw [hsn]
        · have hI' : out = ⟨(useL t).length, tipsL (numL (useL t)) t.Starts, tipsL (numL (useL t)) t.Ends, []⟩ := by have := hI; rwa [List.take_length] at this
          subst hI'
          refine cnt1 (fun out k => out = ⟨(useL t).length, tipsL (numL (useL t)) t.Starts, tipsL (numL (useL t)) t.Ends, arcsL (numL (useL t)) (t.Arcs.take k)⟩) rfl (fun out k hI hk => ?_) (fun out hI => ?_)
          · subst hI
            have hx := har _ (getk_mem (d := default) hk)
            have hsn := arcsL_snoc (m := numL (useL t)) (l := t.Arcs.take k) (x := t.Arcs.getD k default)
            rw [← takek default hk] at hsn
            generalize t.Arcs.getD k default = x at *
            obtain ⟨m1, m2⟩ := numAt_some hx.1.1 hx.1.2
            obtain ⟨m3, m4⟩ := numAt_some hx.2.1.1 hx.2.1.2
            dsimp only
            rw [hnum _ hx.1.1 hx.1.2, hnum _ hx.2.1.1 hx.2.1.2]
            have hto : (0 : Int) ≤ x.To ∧ x.To < (num.length : Int) := ⟨hx.2.1.1, by have := hx.2.1.2; omega⟩
            refine ⟨⟨hx.1.1, by have := hx.1.2; omega⟩, fun _ => hto, fun _ => hto, ?_⟩
            by_cases c : ((aget (numL (useL t)) x.From).isSome && (aget (numL (useL t)) x.To).isSome) = true
            · rw [if_pos c] at hsn
              rw [Bool.and_eq_true] at c
              rw [if_pos (by rw [Bool.and_eq_true, decide_eq_true_eq, decide_eq_true_eq]; exact ⟨m1.2 c.1, m3.2 c.2⟩)]
              refine ⟨hto, ?_, by rw [hsn, m2 c.1, m4 c.2]⟩
              have := arcsL_len (m := numL (useL t)) (l := t.Arcs.take k)
              rw [List.length_take] at this
              omega
            · rw [if_neg c] at hsn
              rw [Bool.and_eq_true] at c
              rw [if_neg (by rw [Bool.and_eq_true, decide_eq_true_eq, decide_eq_true_eq]; exact fun q => c ⟨m1.1 q.1, m3.1 q.2⟩)]
              show _ = _
              rw [hsn]
          · have hI' : out = pCut t := by have := hI; rwa [List.take_length] at this
            subst hI'
            have q1 := tipsL_len (m := numL (useL t)) (l := t.Starts)
            have q2 := tipsL_len (m := numL (useL t)) (l := t.Ends)
            have q3 := arcsL_len (m := numL (useL t)) (l := t.Arcs)
            refine ⟨⟨?_, ?_, ?_⟩, rfl, rfl⟩
            · show (tipsL _ _).length ≤ _; omega
            · show (tipsL _ _).length ≤ _; omega
            · show (arcsL _ _).length ≤ _; omega
end
section
theorem by0 (a b : BSet) : BSet.ofFn (fun m => byP 0 (a.has m) (b.has m)) 256 = BSet.band a b := by
  refine (BSet.ofFn_eq fun m hm => ?_).symm
  rw [BSet.has_band a b hm]
  cases a.has m <;> cases b.has m <;> rfl
theorem rLagP_wp {p : Int} {q : Int} {a : List UInt8} {b : List UInt8} (hp : a.length ≤ 1000000000000 ∧ b.length ≤ 1000000000000) : wp_rLagP p q a b (fun r0 => r0 = (rLg p q a b)) := ⟨hp, rfl⟩
theorem rFirsts_len {t : GFst} (h : RefOk t) (k : Nat) : ((t.Starts.take k).flatMap fun x => t.Starts.map fun y => rLg x.State y.State x.Out y.Out).length ≤ 1048576 := by
  have := flat_len_le (l := t.Starts.take k) (g := fun x => t.Starts.map fun y => rLg x.State y.State x.Out y.Out) (n := 1024) fun x _ => by rw [List.length_map]; exact h.starts.1
  have h1 := h.starts.1
  have : (t.Starts.take k).length ≤ 1024 := by rw [List.length_take]; omega
  omega
theorem rFirstsP_wp {t : GFst} (hp : RefOk t) : wp_rFirstsP t (fun r0 => r0 = (rFirsts t)) := by
  have hs := hp.starts
  refine cnt1 (fun out k => out = (t.Starts.take k).flatMap fun x => t.Starts.map fun y => rLg x.State y.State x.Out y.Out) rfl (fun out i hI hi => ?_) (fun out hI => ?_)
  · have hx := hs.2 _ (getk_mem (d := default) hi)
    have hl := rFirsts_len hp i
    rw [← hI] at hl
    have e1 := flatTake (fun x : GTip => t.Starts.map fun y => rLg x.State y.State x.Out y.Out) hi
    generalize t.Starts.getD i default = x at *
    refine cnt1 (fun out2 k => out2 = out ++ (t.Starts.take k).map fun y => rLg x.State y.State x.Out y.Out) (by simp) (fun out2 k hI2 hk => ?_) (fun out2 hI2 => ?_)
    · have hy := hs.2 _ (getk_mem (d := default) hk)
      have hl2 : out2.length ≤ 1048576 + 1024 := by rw [hI2, List.length_append, List.length_map, List.length_take]; omega
      refine ⟨⟨by omega, by omega⟩, by omega, ?_⟩
      show _ = _
      rw [hI2, takek default hk, List.map_append, List.append_assoc]; rfl
    · show out2 = _
      have : out2 = out ++ (t.Starts.take t.Starts.length).map fun y => rLg x.State y.State x.Out y.Out := hI2
      rw [List.take_length] at this
      rw [this, e1, hI]
  · have : out = (t.Starts.take t.Starts.length).flatMap fun x => t.Starts.map fun y => rLg x.State y.State x.Out y.Out := hI
    rw [List.take_length] at this; exact this
theorem bytes_le (S : BSet) : S.bytes.length ≤ 256 := by rw [S.bytes_len]; exact S.mem_len
theorem rStep_len {l : RLag} {x y : GArc} : (rStep l x y).length ≤ 256 := by
  unfold rStep
  split
  · simp
  · rw [List.length_map]; exact bytes_le _
theorem rRow_len {t : GFst} (h : RefOk t) {l : RLag} {x : GArc} (k : Nat) : ((t.Arcs.take k).flatMap fun y => rStep l x y).length ≤ 262144 := by
  have := flat_len_le (l := t.Arcs.take k) (g := fun y => rStep l x y) (n := 256) fun y _ => rStep_len
  have h1 := h.arcs.1
  have : (t.Arcs.take k).length ≤ 1024 := by rw [List.length_take]; omega
  omega
theorem rRows_len {t : GFst} (h : RefOk t) {l : RLag} (k : Nat) : ((t.Arcs.take k).flatMap fun x => t.Arcs.flatMap fun y => rStep l x y).length ≤ 268435456 := by
  have := flat_len_le (l := t.Arcs.take k) (g := fun x => t.Arcs.flatMap fun y => rStep l x y) (n := 262144) fun x _ => by
    have := rRow_len h (l := l) (x := x) t.Arcs.length
    rwa [List.take_length] at this
  have h1 := h.arcs.1
  have : (t.Arcs.take k).length ≤ 1024 := by rw [List.length_take]; omega
  omega
theorem one_at (l : List UInt8) {j : Nat} (hj : j < l.length) : (l.take (j + 1)).drop j = [l.getD j default] := by
  rw [takek default hj, List.drop_append]
  simp [List.length_take, Nat.min_eq_left (Nat.le_of_lt hj)]
theorem rNextP_wp {t : GFst} {l : Gwhittleref19_Lag} (hp : RefOk t ∧ l.A.length ≤ 1000000000 ∧ l.B.length ≤ 1000000000) : wp_rNextP t l (fun r0 => r0 = (rNext t l)) := by
  obtain ⟨hR, hA, hB⟩ := hp
  have ha := hR.arcs
  unfold wp_rNextP
  refine cnt1 (fun out k => out = (t.Arcs.take k).flatMap fun x => t.Arcs.flatMap fun y => rStep l x y) rfl (fun out i hI hi => ?_) (fun out hI => ?_)
  · have hx := (ha.2 _ (getk_mem (d := default) hi)).2.2
    have hl := rRows_len hR (l := l) i
    rw [← hI] at hl
    have e1 := flatTake (fun x : GArc => t.Arcs.flatMap fun y => rStep l x y) hi
    generalize t.Arcs.getD i default = x at *
    refine cnt1 (fun out2 k => out2 = out ++ (t.Arcs.take k).flatMap fun y => rStep l x y) (by simp) (fun out2 k hI2 hk => ?_) (fun out2 hI2 => ?_)
    · have hy := (ha.2 _ (getk_mem (d := default) hk)).2.2
      have hl2 : out2.length ≤ 268435456 + 262144 := by
        have := rRow_len hR (l := l) (x := x) k
        rw [hI2, List.length_append]; omega
      have e2 := flatTake (fun y : GArc => rStep l x y) hk
      generalize t.Arcs.getD k default = y at *
      rw [by0]
      by_cases c : x.From ≠ l.P ∨ y.From ≠ l.Q
      · rw [if_pos (by simpa using c)]
        have : rStep l x y = [] := by unfold rStep; rw [if_pos c]
        show out2 = _
        rw [e2, this, List.append_nil, hI2]
      · rw [if_neg (by simpa using c)]
        have hst : rStep l x y = (BSet.band x.Set y.Set).bytes.map fun b => rLg x.To y.To (l.A ++ fOutB x b) (l.B ++ fOutB y b) := by unfold rStep; rw [if_neg c]
        have hbl := bytes_le (BSet.band x.Set y.Set)
        generalize (BSet.band x.Set y.Set).bytes = bs at *
        refine cnt1 (fun out3 j => out3 = out2 ++ (bs.take j).map fun b => rLg x.To y.To (l.A ++ fOutB x b) (l.B ++ fOutB y b)) (by simp) (fun out3 j hI3 hj => ?_) (fun out3 hI3 => ?_)
        · have ho := one_at bs hj
          have hl3 : out3.length ≤ 268435456 + 262144 + 256 := by rw [hI3, List.length_append, List.length_map, List.length_take]; omega
          have l1 := fOutB_len x (bs.getD j default); have l2 := fOutB_len y (bs.getD j default)
          have ej : ((j : Int) + 1).toNat = j + 1 := by omega
          rw [ej, ho]
          have e3 : out2 ++ (bs.take (j + 1)).map (fun b => rLg x.To y.To (l.A ++ fOutB x b) (l.B ++ fOutB y b)) = out3 ++ [rLg x.To y.To (l.A ++ fOutB x (bs.getD j default)) (l.B ++ fOutB y (bs.getD j default))] := by
            rw [hI3, takek default hj, List.map_append, List.append_assoc]; rfl
          generalize bs.getD j default = b at *
          refine ⟨by omega, by omega, fun a => a = l.A ++ fOutB x b, ?_, ?_⟩
          · unfold fOutB
            cases x.Copy
            · simp
            · exact ⟨⟨by omega, by omega, by omega⟩, by rw [List.length_append]; simp; omega, by rw [List.append_assoc]; rfl⟩
          · rintro a rfl
            refine ⟨fun c => c = l.B ++ fOutB y b, ?_, ?_⟩
            · unfold fOutB
              cases y.Copy
              · simp
              · exact ⟨⟨by omega, by omega, by omega⟩, by rw [List.length_append]; simp; omega, by rw [List.append_assoc]; rfl⟩
            · rintro c rfl
              exact ⟨⟨by rw [List.length_append]; omega, by rw [List.length_append]; omega⟩, by omega, e3.symm⟩
        · show out3 = _
          have : out3 = out2 ++ (bs.take bs.length).map fun b => rLg x.To y.To (l.A ++ fOutB x b) (l.B ++ fOutB y b) := hI3
          rw [List.take_length] at this
          rw [this, e2, hst, hI2, List.append_assoc]
    · show out2 = _
      have : out2 = out ++ (t.Arcs.take t.Arcs.length).flatMap fun y => rStep l x y := hI2
      rw [List.take_length] at this
      rw [this, e1, hI]
  · have : out = (t.Arcs.take t.Arcs.length).flatMap fun x => t.Arcs.flatMap fun y => rStep l x y := hI
    rw [List.take_length] at this; exact this
/-! ## joint -/
def on2 (M : List (List Bool)) (p q : Int) : Prop := (M.getD p.toNat default).getD q.toNat default = true
def MatOk (M : List (List Bool)) (n : Nat) : Prop := M.length = n ∧ ∀ r ∈ M, r.length = n
theorem MatOk.row {M : List (List Bool)} {n : Nat} (h : MatOk M n) {p : Int} (hp : 0 ≤ p ∧ p < n) : (M.getD p.toNat default).length = n := h.2 _ (getk_mem (by rw [h.1]; omega))
def set2 (M : List (List Bool)) (p q : Int) : List (List Bool) := M.set p.toNat ((M.getD p.toNat default).set q.toNat true)
theorem MatOk.set {M : List (List Bool)} {n : Nat} (h : MatOk M n) {p : Int} (hp : 0 ≤ p ∧ p < n) (q : Int) : MatOk (set2 M p q) n := by
  refine ⟨by unfold set2; rw [List.length_set]; exact h.1, fun r hr => ?_⟩
  rcases List.mem_or_eq_of_mem_set hr with k | rfl
  · exact h.2 r k
  · rw [List.length_set]; exact h.row hp
theorem on2_set {M : List (List Bool)} {n : Nat} (h : MatOk M n) {p q u v : Int} (hp : 0 ≤ p ∧ p < n) (hq : 0 ≤ q ∧ q < n) (hu : 0 ≤ u) (hv : 0 ≤ v) : on2 (set2 M p q) u v ↔ on2 M u v ∨ (u = p ∧ v = q) := by
  unfold on2 set2
  have hr := h.row hp
  have e : (M.set p.toNat ((M.getD p.toNat default).set q.toNat true)).getD u.toNat default = if p.toNat = u.toNat then (M.getD p.toNat default).set q.toNat true else M.getD u.toNat default := by
    rw [List.getD_eq_getElem?_getD, List.getElem?_set]
    by_cases k : p.toNat = u.toNat
    · rw [if_pos k, if_pos k, if_pos (by rw [h.1]; omega)]; rfl
    · rw [if_neg k, if_neg k, ← List.getD_eq_getElem?_getD]
  rw [e]
  by_cases k : p.toNat = u.toNat
  · have hpu : u = p := by omega
    subst hpu
    rw [if_pos rfl, List.getD_eq_getElem?_getD, List.getElem?_set]
    by_cases m : q.toNat = v.toNat
    · have hqv : v = q := by omega
      subst hqv
      rw [if_pos rfl, if_pos (by rw [hr]; omega)]; simp
    · rw [if_neg m, ← List.getD_eq_getElem?_getD]
      have hqv : v ≠ q := fun e => m (by rw [e])
      simp [hqv]
  · rw [if_neg k]
    have hpu : u ≠ p := fun e => k (by rw [e])
    simp [hpu]
def cnt2f (M : List (List Bool)) : Nat := (M.map fun r => r.count false).sum
theorem cnt2_set {M : List (List Bool)} {n : Nat} (h : MatOk M n) {p q : Int} (hp : 0 ≤ p ∧ p < n) (hq : 0 ≤ q ∧ q < n) (hn : (M.getD p.toNat default).getD q.toNat default = false) : cnt2f (set2 M p q) + 1 = cnt2f M := by
  have key : ∀ (M : List (List Bool)) (i : Nat) (r : List Bool), i < M.length → r.count false + 1 = (M.getD i default).count false → cnt2f (M.set i r) + 1 = cnt2f M := by
    intro M
    induction M with
    | nil => intro i r hi; simp at hi
    | cons a M ih =>
      intro i r hi hr
      cases i with
      | zero => simp [cnt2f] at hr ⊢; omega
      | succ i =>
        have := ih i r (by simpa using hi) (by simpa using hr)
        simp only [cnt2f, List.set_cons_succ, List.map_cons, List.sum_cons] at this ⊢
        omega
  refine key M _ _ (by rw [h.1]; omega) ?_
  exact cf_set _ _ (by rw [h.row hp]; omega) hn
theorem mat_ext {A B : List (List Bool)} {n : Nat} (ha : MatOk A n) (hb : MatOk B n) (h : ∀ p q : Int, 0 ≤ p → p < n → 0 ≤ q → q < n → (on2 A p q ↔ on2 B p q)) : A = B := by
  refine List.ext_getElem (ha.1.trans hb.1.symm) fun i h1 h2 => ?_
  have hi : i < n := by rw [← ha.1]; exact h1
  refine bools_ext (n := n) (ha.2 _ (List.getElem_mem h1)) (hb.2 _ (List.getElem_mem h2)) fun s h3 h4 => ?_
  have := h (i : Int) s (by omega) (by omega) h3 h4
  unfold on2 at this
  rw [Int.toNat_natCast, getk h1, getk h2] at this
  exact this
theorem joint_ok (t : GFst) : MatOk (jointL t) t.States.toNat := by
  unfold jointL
  refine ⟨by simp, fun r hr => ?_⟩
  obtain ⟨p, _, rfl⟩ := List.mem_map.1 hr
  simp
theorem joint_on {t : GFst} {p q : Int} (hp : 0 ≤ p ∧ p < t.States) (hq : 0 ≤ q ∧ q < t.States) : on2 (jointL t) p q ↔ CoR t p q := by
  have h1 : p.toNat < t.States.toNat := by omega
  have h2 : q.toNat < t.States.toNat := by omega
  have e : (jointL t).getD p.toNat default = (List.range t.States.toNat).map fun (q : Nat) => coB t p q := by
    unfold jointL
    rw [getk (by simpa using h1), List.getElem_map, List.getElem_range, show ((p.toNat : Nat) : Int) = p by omega]
  unfold on2
  rw [e, getk (by simpa using h2), List.getElem_map, List.getElem_range, show ((q.toNat : Nat) : Int) = q by omega]
  unfold coB
  exact @decide_eq_true_iff _ (Classical.propDecidable _)
theorem set_ne {S : BSet} : S ≠ BSet.zero ↔ ∃ c : UInt8, S.has c.toNat = true := by
  constructor
  · intro h
    refine Classical.byContradiction fun hn => h ?_
    have h0 : ∀ m, m < 256 → S.has m = (fun _ => false) m := fun m hm => by
      cases e : S.has m with
      | false => rfl
      | true => exact absurd ⟨UInt8.ofNat m, by rw [UInt8.toNat_ofNat_of_lt' (show m < 256 from hm)]; exact e⟩ hn
    exact (BSet.ofFn_eq h0).trans (BSet.ofFn_eq fun m hm => BSet.has_zero m).symm
  · rintro ⟨c, hc⟩ rfl
    rw [BSet.has_zero] at hc; cases hc
theorem co_step {t : GFst} {x y : GArc} (hx : x ∈ t.Arcs) (hy : y ∈ t.Arcs) {c : UInt8} (cx : x.Set.has c.toNat = true) (cy : y.Set.has c.toNat = true) (h : CoR t x.To y.To) : CoR t x.From y.From := by
  obtain ⟨w, u, v, h1, h2⟩ := h
  exact ⟨c :: w, _, _, ⟨x, hx, rfl, cx, u, h1, rfl⟩, ⟨y, hy, rfl, cy, v, h2, rfl⟩⟩
structure JInv (t : GFst) (M : List (List Bool)) : Prop where
  mat : MatOk M t.States.toNat
  sound : ∀ p q : Int, 0 ≤ p → 0 ≤ q → on2 M p q → CoR t p q
theorem JInv.set {t : GFst} {M : List (List Bool)} (h : JInv t M) {p q : Int} (hp : 0 ≤ p ∧ p < t.States) (hq : 0 ≤ q ∧ q < t.States) (hc : CoR t p q) : JInv t (set2 M p q) :=
  ⟨h.mat.set (by omega) q, fun u v hu hv k => by
    rcases (on2_set h.mat (by omega) (by omega) hu hv).1 k with k | ⟨rfl, rfl⟩
    · exact h.sound u v hu hv k
    · exact hc⟩
def JEnds (t : GFst) (M : List (List Bool)) : Prop := ∀ x ∈ t.Ends, ∀ y ∈ t.Ends, on2 M x.State y.State
def JClo (x y : GArc) (M : List (List Bool)) : Prop := on2 M x.To y.To → BSet.band x.Set y.Set ≠ BSet.zero → on2 M x.From y.From
theorem rJointP_wp {t : GFst} (hp : RefOk t) : wp_rJointP t (fun r0 => r0 = (jointL t)) := by
  have hst := hp.st; have hE := hp.eds; have hA := hp.arcs
  obtain ⟨n, hn⟩ := Int.eq_ofNat_of_zero_le hst.1
  have hn' : t.States.toNat = n := by omega
  refine ⟨fun M i => i ≤ n ∧ M = List.replicate i (List.replicate n false), ⟨Nat.zero_le _, rfl⟩, ?_⟩
  rintro M i ⟨hi, rfl⟩
  by_cases hlt : i < n
  · rw [if_pos (by rw [decide_eq_true_eq]; omega)]
    refine ⟨⟨by omega, by omega, by omega⟩, by rw [List.length_replicate]; omega, ⟨by omega, by omega⟩, by omega, ?_⟩
    rw [hn', List.replicate_succ']
  · rw [if_neg (by rw [decide_eq_true_eq]; omega)]
    have hin : i = n := by omega
    subst hin
    have hJ0 : JInv t (List.replicate i (List.replicate i false)) := by
      refine ⟨⟨by rw [List.length_replicate]; exact hn'.symm, fun r hr => by rw [List.eq_of_mem_replicate hr, List.length_replicate]; exact hn'.symm⟩, fun p q h0 h1 k => ?_⟩
      unfold on2 at k
      by_cases c : p.toNat < i
      · rw [getk (l := List.replicate i (List.replicate i false)) (by simpa using c), List.getElem_replicate, List.getD_eq_getElem?_getD, List.getElem?_replicate] at k
        split at k <;> simp at k
      · rw [List.getD_eq_getElem?_getD (l := List.replicate i (List.replicate i false)), List.getElem?_replicate, if_neg c] at k
        simp at k
        exact absurd k (by simp [default, List.getD])
    refine cnt1 (fun M k => JInv t M ∧ ∀ x ∈ t.Ends.take k, ∀ y ∈ t.Ends, on2 M x.State y.State) ⟨hJ0, fun x hx => by simp at hx⟩ (fun M k hI hk => ?_) (fun M hI => ?_)
    · have hx := hE.2 _ (getk_mem (d := default) hk)
      have mx := getk_mem (d := default) hk
      generalize hX : t.Ends.getD k default = x at *
      refine cnt1 (fun M2 j => (JInv t M2 ∧ ∀ x ∈ t.Ends.take k, ∀ y ∈ t.Ends, on2 M2 x.State y.State) ∧ ∀ y ∈ t.Ends.take j, on2 M2 x.State y.State) ⟨hI, fun y hy => by simp at hy⟩ (fun M2 j hI2 hj => ?_) (fun M2 hI2 => ?_)
      · have hy := hE.2 _ (getk_mem (d := default) hj)
        have my := getk_mem (d := default) hj
        generalize hY : t.Ends.getD j default = y at *
        have hm := hI2.1.1.mat
        have hr := hm.row (p := x.State) (by omega)
        have hml := hm.1
        have hset := hI2.1.1.set (p := x.State) (q := y.State) hx.1 hy.1 ⟨[], _, _, ⟨x, mx, rfl, rfl⟩, ⟨y, my, rfl, rfl⟩⟩
        have mono : ∀ u v : Int, 0 ≤ u → 0 ≤ v → on2 M2 u v → on2 (set2 M2 x.State y.State) u v := fun u v h0 h1 q => (on2_set hm (by omega) (by omega) h0 h1).2 (.inl q)
        refine ⟨⟨hx.1.1, by omega⟩, ⟨hy.1.1, by omega⟩, ⟨hset, fun a ha b hb => mono _ _ (hE.2 a (List.mem_of_mem_take ha)).1.1 (hE.2 b hb).1.1 (hI2.1.2 a ha b hb)⟩, fun b hb => ?_⟩
        rw [takek default hj, hY] at hb
        rcases List.mem_append.1 hb with q | q
        · exact mono _ _ hx.1.1 (hE.2 b (List.mem_of_mem_take q)).1.1 (hI2.2 b q)
        · rw [List.mem_singleton] at q; subst q
          exact (on2_set hm (by omega) (by omega) hx.1.1 hy.1.1).2 (.inr ⟨rfl, rfl⟩)
      · obtain ⟨⟨j1, j2⟩, j3⟩ := hI2
        rw [List.take_length] at j3
        refine ⟨j1, fun a ha b hb => ?_⟩
        rw [takek default hk, hX] at ha
        rcases List.mem_append.1 ha with q | q
        · exact j2 a q b hb
        · rw [List.mem_singleton] at q; subst q; exact j3 b hb
    · obtain ⟨hJ, hJE⟩ := hI
      rw [List.take_length] at hJE
      refine ⟨fun M b => (JInv t M ∧ JEnds t M) ∧ (b = false → ∀ x ∈ t.Arcs, ∀ y ∈ t.Arcs, JClo x y M), fun M b => 2 * cnt2f M + (if b = true then 1 else 0), ⟨⟨hJ, hJE⟩, fun h => by cases h⟩, ?_⟩
      rintro M b ⟨⟨i1, i2⟩, i3⟩
      cases b with
      | false =>
        rw [if_neg (by decide)]
        refine mat_ext (n := t.States.toNat) i1.mat (joint_ok t) fun p q h0 h1 h2 h3 => ?_
        rw [joint_on (by omega) (by omega)]
        refine ⟨i1.sound p q h0 h2, ?_⟩
        rintro ⟨w, u, v, k1, k2⟩
        clear h0 h1 h2 h3
        induction w generalizing p q u v with
        | nil =>
          obtain ⟨x, hx, e1, _⟩ := k1
          obtain ⟨y, hy, e2, _⟩ := k2
          rw [← e1, ← e2]; exact i2 x hx y hy
        | cons c w ih =>
          obtain ⟨x, hx, e1, cx, u', hu, _⟩ := k1
          obtain ⟨y, hy, e2, cy, v', hv, _⟩ := k2
          rw [← e1, ← e2]
          exact i3 rfl x hx y hy (ih _ _ _ _ hu hv) (set_ne.2 ⟨c, by rw [BSet.has_band _ _ c.toNat_lt, cx, cy]; rfl⟩)
      | true =>
        rw [if_pos rfl]
        refine cnt2 (fun M2 b k => (JInv t M2 ∧ JEnds t M2) ∧ (b = false → M2 = M ∧ ∀ x ∈ t.Arcs.take k, ∀ y ∈ t.Arcs, JClo x y M2) ∧ cnt2f M2 ≤ cnt2f M ∧ (b = true → cnt2f M2 < cnt2f M)) ⟨⟨i1, i2⟩, fun _ => ⟨rfl, fun x hx => by simp at hx⟩, Nat.le_refl _, fun h => (by cases h)⟩ (fun M2 b k hI hk => ?_) (fun M2 b hI => ?_)
        · have hx := hA.2 _ (getk_mem (d := default) hk)
          have mx := getk_mem (d := default) hk
          generalize hX : t.Arcs.getD k default = x at *
          refine cnt2 (fun M3 b j => (JInv t M3 ∧ JEnds t M3) ∧ (b = false → M3 = M ∧ (∀ x ∈ t.Arcs.take k, ∀ y ∈ t.Arcs, JClo x y M3) ∧ ∀ y ∈ t.Arcs.take j, JClo x y M3) ∧ cnt2f M3 ≤ cnt2f M ∧ (b = true → cnt2f M3 < cnt2f M)) ⟨hI.1, fun hb => ⟨(hI.2.1 hb).1, (hI.2.1 hb).2, fun y hy => by simp at hy⟩, hI.2.2.1, hI.2.2.2⟩ (fun M3 b3 j hI3 hj => ?_) (fun M3 b3 hI3 => ?_)
          · obtain ⟨⟨j1, j2⟩, j3, j4, j5⟩ := hI3
            have hy := hA.2 _ (getk_mem (d := default) hj)
            have my := getk_mem (d := default) hj
            generalize hY : t.Arcs.getD j default = y at *
            have hm := j1.mat
            have hml := hm.1
            have r1 := hm.row (p := x.From) (by omega); have r2 := hm.row (p := x.To) (by omega)
            have s1 : (0 : Int) ≤ x.From ∧ x.From < (M3.length : Int) := ⟨hx.1.1, by omega⟩
            have s2 : (0 : Int) ≤ y.From ∧ y.From < ((M3.getD x.From.toNat default).length : Int) := ⟨hy.1.1, by omega⟩
            rw [by0]
            refine ⟨s1, ⟨hx.2.1.1, by omega⟩, ⟨hy.2.1.1, by omega⟩, fun _ => s2, fun _ => s1, fun _ => s2, fun _ => s1, ?_⟩
            have keep : (on2 M3 x.To y.To → BSet.band x.Set y.Set ≠ BSet.zero → on2 M3 x.From y.From) → (b3 = false → M3 = M ∧ (∀ x ∈ t.Arcs.take k, ∀ y ∈ t.Arcs, JClo x y M3) ∧ ∀ y ∈ t.Arcs.take (j + 1), JClo x y M3) := fun hc hb => by
              obtain ⟨a1, a2, a3⟩ := j3 hb
              refine ⟨a1, a2, fun z hz => ?_⟩
              rw [takek default hj, hY] at hz
              rcases List.mem_append.1 hz with q | q
              · exact a3 z q
              · rw [List.mem_singleton] at q; subst q; exact hc
            by_cases c : on2 M3 x.To y.To ∧ ¬ on2 M3 x.From y.From ∧ BSet.band x.Set y.Set ≠ BSet.zero
            · rw [if_pos (by
                have c1 : (M3.getD x.To.toNat default).getD y.To.toNat default = true := c.1
                have c2 : (M3.getD x.From.toNat default).getD y.From.toNat default = false := by
                  have := c.2.1; unfold on2 at this; simpa using this
                rw [c1, c2]; simpa using c.2.2)]
              have c2 : (M3.getD x.From.toNat default).getD y.From.toNat default = false := by
                have := c.2.1; unfold on2 at this; simpa using this
              obtain ⟨d, hd⟩ := set_ne.1 c.2.2
              rw [BSet.has_band _ _ d.toNat_lt, Bool.and_eq_true] at hd
              have hco := co_step mx my hd.1 hd.2 (j1.sound _ _ hx.2.1.1 hy.2.1.1 c.1)
              have hset := j1.set (p := x.From) (q := y.From) hx.1 hy.1 hco
              have hcs := cnt2_set hm (p := x.From) (q := y.From) (by omega) (by omega) c2
              refine ⟨s2, ⟨hset, fun a ha b hb => (on2_set hm (by omega) (by omega) (hE.2 a ha).1.1 (hE.2 b hb).1.1).2 (.inl (j2 a ha b hb))⟩, fun h => (by cases h), ?_, fun _ => ?_⟩
              · show cnt2f (set2 M3 x.From y.From) ≤ _; omega
              · show cnt2f (set2 M3 x.From y.From) < _; omega
            · rw [if_neg (by
                intro q
                rw [Bool.and_eq_true, Bool.and_eq_true] at q
                refine c ⟨q.1.1, ?_, by simpa using q.2⟩
                have := q.1.2
                unfold on2
                simpa using this)]
              exact ⟨⟨j1, j2⟩, keep fun q1 q2 => Classical.byContradiction fun q3 => c ⟨q1, q3, q2⟩, j4, j5⟩
          · obtain ⟨j0, j3, j4, j5⟩ := hI3
            rw [List.take_length] at j3
            refine ⟨j0, fun hb => ⟨(j3 hb).1, fun z hz => ?_⟩, j4, j5⟩
            rw [takek default hk, hX] at hz
            rcases List.mem_append.1 hz with q | q
            · exact (j3 hb).2.1 z q
            · rw [List.mem_singleton] at q; subst q; exact (j3 hb).2.2
        · obtain ⟨j0, j3, j4, j5⟩ := hI
          rw [List.take_length] at j3
          refine ⟨⟨j0, fun hb => (j3 hb).2⟩, ?_⟩
          dsimp only
          cases b with
          | false => rw [if_neg (by decide), if_pos rfl]; omega
          | true => have := j5 rfl; rw [if_pos rfl]; omega
/-! ## One -/
/-- what a lag tells -/
def HLag (t : GFst) (l : RLag) : Prop := (∃ w c, Run t l.P w (c ++ l.A) ∧ Run t l.Q w (c ++ l.B)) ∧ lcp l.A l.B = 0
def EndsOk (t : GFst) (l : RLag) : Prop := ∀ x ∈ t.Ends, x.State = l.P → ∀ y ∈ t.Ends, y.State = l.Q → l.A ++ x.Out = l.B ++ y.Out
theorem mem_rNext {t : GFst} {m l : RLag} : l ∈ rNext t m ↔ ∃ x ∈ t.Arcs, ∃ y ∈ t.Arcs, (x.From = m.P ∧ y.From = m.Q) ∧ ∃ c : UInt8, (x.Set.has c.toNat = true ∧ y.Set.has c.toNat = true) ∧ l = rLg x.To y.To (m.A ++ fOutB x c) (m.B ++ fOutB y c) := by
  unfold rNext
  simp only [List.mem_flatMap]
  constructor
  · rintro ⟨x, hx, y, hy, h⟩
    unfold rStep at h
    split at h <;> rename_i hc
    · simp at h
    · obtain ⟨c, hc2, rfl⟩ := List.mem_map.1 h
      simp only [not_or, Classical.not_not] at hc
      exact ⟨x, hx, y, hy, hc, c, mem_both.1 hc2, rfl⟩
  · rintro ⟨x, hx, y, hy, hc, c, hb, rfl⟩
    refine ⟨x, hx, y, hy, ?_⟩
    unfold rStep
    rw [if_neg (by simp [hc.1, hc.2])]
    exact List.mem_map.2 ⟨c, mem_both.2 hb, rfl⟩
theorem mem_rFirsts {t : GFst} {l : RLag} : l ∈ rFirsts t ↔ ∃ x ∈ t.Starts, ∃ y ∈ t.Starts, l = rLg x.State y.State x.Out y.Out := by
  unfold rFirsts
  simp only [List.mem_flatMap, List.mem_map]
  exact ⟨fun ⟨x, hx, y, hy, e⟩ => ⟨x, hx, y, hy, e.symm⟩, fun ⟨x, hx, y, hy, e⟩ => ⟨x, hx, y, hy, e.symm⟩⟩
theorem hlag_of {t : GFst} {p q : Int} {w A B : List UInt8} (h1 : Run t p w A) (h2 : Run t q w B) : HLag t (rLg p q A B) := by
  obtain ⟨c, e1, e2⟩ := lag_split A B
  refine ⟨⟨w, c, ?_, ?_⟩, lcp_drop A B⟩
  · show Run t p w (c ++ (lagL A B).a); rw [← e1]; exact h1
  · show Run t q w (c ++ (lagL A B).b); rw [← e2]; exact h2
theorem hlag_next {t : GFst} {m l : RLag} (h : HLag t m) (hl : l ∈ rNext t m) : HLag t l := by
  obtain ⟨x, hx, y, hy, ⟨e1, e2⟩, c, ⟨cx, cy⟩, rfl⟩ := mem_rNext.1 hl
  obtain ⟨⟨w, d, r1, r2⟩, _⟩ := h
  rw [← e1] at r1
  rw [← e2] at r2
  have := hlag_of (run_step hx cx r1) (run_step hy cy r2)
  have e : rLg x.To y.To (d ++ m.A ++ fOutB x c) (d ++ m.B ++ fOutB y c) = rLg x.To y.To (m.A ++ fOutB x c) (m.B ++ fOutB y c) := by
    unfold rLg
    rw [List.append_assoc, List.append_assoc]
    have := lag_app d (m.A ++ fOutB x c) (m.B ++ fOutB y c)
    unfold lagL at this
    simp only [Gfun_lag.mk.injEq] at this
    rw [this.1, this.2]
  rw [e] at this
  exact this
/-- two ways that end with other texts -/
def Amb (t : GFst) : Prop := ∃ w o1 o2, Acc t w o1 ∧ Acc t w o2 ∧ o1 ≠ o2
theorem amb_of {t : GFst} {l : RLag} (h : HLag t l) {w u v : List UInt8} (h1 : Fin t l.P w u) (h2 : Fin t l.Q w v) (hne : l.A ++ u ≠ l.B ++ v) : Amb t := by
  obtain ⟨⟨w0, c, r1, r2⟩, _⟩ := h
  refine ⟨_, _, _, run_fin r1 h1, run_fin r2 h2, fun e => hne ?_⟩
  rw [List.append_assoc, List.append_assoc] at e
  exact List.append_cancel_left e
structure OInv (T : GFst) (wait seen : List RLag) (j : Nat) : Prop where
  all : ∀ l ∈ wait, HLag T l ∧ (l.A.length ≤ 1024 + 1025 * seen.length ∧ l.B.length ≤ 1024 + 1025 * seen.length) ∧ InSq T.States (l.P, l.Q)
  first : ∀ l ∈ rFirsts T, l ∈ wait
  done : ∀ i, i < j → CoR T (wait.getD i default).P (wait.getD i default).Q → wait.getD i default ∈ seen
  ends : ∀ m ∈ seen, EndsOk T m
  nd : (seen.map fun m => ((m.P, m.Q) : TwoS)).Nodup
  sub : ∀ m ∈ seen, m ∈ wait
  next : ∀ m ∈ seen, ∀ l ∈ rNext T m, l ∈ wait
  len : wait.length ≤ 1048576 + 268435456 * seen.length
  jle : j ≤ wait.length
theorem OInv.seen_le {T : GFst} {wait seen : List RLag} {j : Nat} (h : OInv T wait seen j) (h0 : 0 ≤ T.States ∧ T.States ≤ 32) : seen.length ≤ 1024 := by
  have := sq_len h0 h.nd (fun p hp => by
    obtain ⟨m, hm, rfl⟩ := List.mem_map.1 hp
    exact (h.all m (h.sub m hm)).2.2)
  have := sq_le h0
  rw [List.length_map] at *; omega
theorem OInv.skip {T : GFst} {wait seen : List RLag} {j : Nat} (h : OInv T wait seen j) (hj : j < wait.length) (hd : CoR T (wait.getD j default).P (wait.getD j default).Q → wait.getD j default ∈ seen) : OInv T wait seen (j + 1) :=
  ⟨h.all, h.first, fun i hi => by
    rcases Nat.lt_succ_iff_lt_or_eq.1 hi with q | rfl
    · exact h.done i q
    · exact hd, h.ends, h.nd, h.sub, h.next, h.len, hj⟩
theorem rNext_len {T : GFst} (hR : RefOk T) (l : RLag) : (rNext T l).length ≤ 268435456 := by
  have := rRows_len hR (l := l) T.Arcs.length
  rwa [List.take_length] at this
theorem OInv.more {T : GFst} (hR : RefOk T) {wait seen : List RLag} {j : Nat} (h : OInv T wait seen j) (hj : j < wait.length) (he : EndsOk T (wait.getD j default)) (hn : ∀ m ∈ seen, ¬ (m.P = (wait.getD j default).P ∧ m.Q = (wait.getD j default).Q)) : OInv T (wait ++ rNext T (wait.getD j default)) (seen ++ [wait.getD j default]) (j + 1) := by
  have hm := getk_mem (d := default) hj
  have hl := h.all _ hm
  have hpre : wait <+: wait ++ rNext T (wait.getD j default) := List.prefix_append _ _
  refine ⟨fun l hl' => ?_, fun l hl' => List.mem_append_left _ (h.first l hl'), fun i hi hc => ?_, fun m hm' => ?_, ?_, fun m hm' => ?_, fun m hm' l hl' => ?_, ?_, ?_⟩
  · rw [List.length_append, List.length_singleton]
    rcases List.mem_append.1 hl' with q | q
    · have := h.all l q
      exact ⟨this.1, by omega, this.2.2⟩
    · refine ⟨hlag_next hl.1 q, ?_⟩
      obtain ⟨x, hx, y, hy, _, c, _, rfl⟩ := mem_rNext.1 q
      have l1 := fOutB_len x c; have l2 := fOutB_len y c
      have ax := hR.arcs.2 x hx; have ay := hR.arcs.2 y hy
      unfold rLg
      dsimp only
      rw [List.length_drop, List.length_drop, List.length_append, List.length_append]
      exact ⟨by omega, ax.2.1, ay.2.1⟩
  · rw [getD_pre hpre (by omega)] at hc ⊢
    rcases Nat.lt_succ_iff_lt_or_eq.1 hi with q | rfl
    · exact List.mem_append_left _ (h.done i q hc)
    · exact List.mem_append_right _ (by simp)
  · rcases List.mem_append.1 hm' with q | q
    · exact h.ends m q
    · rw [List.mem_singleton] at q; subst q; exact he
  · rw [List.map_append, List.nodup_append]
    refine ⟨h.nd, by simp, fun a ha b hb e => ?_⟩
    obtain ⟨m, hm', rfl⟩ := List.mem_map.1 ha
    simp only [List.map_cons, List.map_nil, List.mem_singleton] at hb
    rw [hb] at e
    simp only [Prod.mk.injEq] at e
    exact hn m hm' e
  · rcases List.mem_append.1 hm' with q | q
    · exact List.mem_append_left _ (h.sub m q)
    · rw [List.mem_singleton] at q; subst q; exact List.mem_append_left _ hm
  · rcases List.mem_append.1 hm' with q | q
    · exact List.mem_append_left _ (h.next m q l hl')
    · rw [List.mem_singleton] at q; subst q; exact List.mem_append_right _ hl'
  · have := rNext_len hR (wait.getD j default)
    have := h.len
    rw [List.length_append, List.length_append, List.length_singleton]; omega
  · rw [List.length_append]; omega
theorem OInv.uniq {T : GFst} {wait seen : List RLag} (h : OInv T wait seen wait.length) : ¬ Amb T := by
  have key : ∀ (w : List UInt8) {s1 s2 : Int} {A B : List UInt8}, Run T s1 w A → Run T s2 w B → CoR T s1 s2 → rLg s1 s2 A B ∈ wait := by
    intro w
    refine @snocInd (fun w => ∀ {s1 s2 : Int} {A B : List UInt8}, Run T s1 w A → Run T s2 w B → CoR T s1 s2 → rLg s1 s2 A B ∈ wait) (fun {s1 s2 A B} h1 h2 hc => ?_) (fun w c ih {s1 s2 A B} h1 h2 hc => ?_) w
    · exact h.first _ (mem_rFirsts.2 ⟨_, run_nil.1 h1, _, run_nil.1 h2, rfl⟩)
    · obtain ⟨x, hx, rfl, cx, A', hA, rfl⟩ := run_snoc.1 h1
      obtain ⟨y, hy, rfl, cy, B', hB, rfl⟩ := run_snoc.1 h2
      have hp := co_step hx hy cx cy hc
      have hm := ih hA hB hp
      obtain ⟨i, hi, e⟩ := List.getElem_of_mem hm
      have hs := h.done i hi (by rw [getk hi, e]; exact hp)
      rw [getk hi, e] at hs
      refine h.next _ hs _ (mem_rNext.2 ⟨x, hx, y, hy, ⟨rfl, rfl⟩, c, ⟨cx, cy⟩, ?_⟩)
      have := lag_step (A := A') (B := B') (u := fOutB x c) (v := fOutB y c) rfl
      unfold lagL at this
      simp only [Gfun_lag.mk.injEq] at this
      unfold rLg
      dsimp only
      rw [← this.1, ← this.2]
  rintro ⟨w, o1, o2, ⟨s1, A, u, r1, ⟨x, hx, ex, rfl⟩, rfl⟩, ⟨s2, B, v, r2, ⟨y, hy, ey, rfl⟩, rfl⟩, hne⟩
  have hc : CoR T s1 s2 := ⟨[], _, _, ⟨x, hx, ex, rfl⟩, ⟨y, hy, ey, rfl⟩⟩
  have hm := key w r1 r2 hc
  obtain ⟨i, hi, e⟩ := List.getElem_of_mem hm
  have hs := h.done i hi (by rw [getk hi, e]; exact hc)
  rw [getk hi, e] at hs
  have := h.ends _ hs x hx ex y hy ey
  obtain ⟨c, e1, e2⟩ := lag_split A B
  have h3 : (lagL A B).a ++ x.Out = (lagL A B).b ++ y.Out := this
  generalize lagL A B = l at *
  refine hne ?_
  rw [e1, e2, List.append_assoc, List.append_assoc, h3]
theorem rOne19_wp {t : GFst} (hp : t.Arcs.length ≤ 1024 ∧ t.Starts.length ≤ 17592186044416 ∧ t.Ends.length ≤ 17592186044416) : wp_rOne19 t (fun r0 r1 => r0 = (nOne t).1 ∧ r1 = (nOne t).2) := by
  refine ⟨⟨by omega, by omega, by omega⟩, ?_⟩
  unfold nOne nTwo
  by_cases h1 : (pTrim t).2 = 0
  · rw [if_neg (show ¬ (!decide ((pTrim t).2 = 0)) = true by simp [h1]), if_neg (show ¬ (pTrim t).2 ≠ 0 by simp [h1])]
    by_cases h2 : 32 < (pTrim t).1.States
    · rw [if_pos (show decide (32 < (pTrim t).1.States) = true by simpa using h2), if_pos h2]; exact ⟨rfl, rfl⟩
    · rw [if_neg (show ¬ decide (32 < (pTrim t).1.States) = true by simpa using h2), if_neg h2]
      have hF := (fdr_ok hp.1 h1 h2).1
      generalize (pTrim t).1 = T at *
      have hsem := nFind_sem hF
      have hst := hF.st
      have hR : RefOk T := ⟨⟨hst.1, by omega⟩, hF.starts, hF.eds, hF.arcs⟩
      have yes : Amb T → (nFind (nFdr T)).2 = true := fun ⟨w, o1, o2, a1, a2, hne⟩ => by
        cases e : (nFind (nFdr T)).2 with
        | true => rfl
        | false => exact absurd ((hsem.2 e).2 w o1 o2 a1 a2) hne
      have no : ¬ Amb T → (nFind (nFdr T)).2 = false := fun hn => by
        cases e : (nFind (nFdr T)).2 with
        | false => rfl
        | true =>
          obtain ⟨o1, o2, hne, a1, a2, _⟩ := hsem.1 e
          exact absurd ⟨_, o1, o2, a1, a2, hne⟩ hn
      have out : Amb T → (false = (decide ((0 : Int) = 0) && !(nFind (nFdr T)).2) ∧ (0 : Int) = 0) := fun h => by rw [yes h]; exact ⟨rfl, rfl⟩
      dsimp only
      refine ⟨hR, ?_⟩
      have h0 : OInv T (rFirsts T) [] 0 := by
        refine ⟨fun l hl => ?_, fun l hl => hl, fun i hi => by omega, fun m hm => by simp at hm, List.nodup_nil, fun m hm => by simp at hm, fun m hm => by simp at hm, ?_, Nat.zero_le _⟩
        · obtain ⟨x, hx, y, hy, rfl⟩ := mem_rFirsts.1 hl
          have sx := hR.starts.2 x hx; have sy := hR.starts.2 y hy
          refine ⟨hlag_of (w := []) (run_nil.2 hx) (run_nil.2 hy), ?_, sx.1, sy.1⟩
          unfold rLg
          dsimp only
          rw [List.length_drop, List.length_drop]
          omega
        · have := rFirsts_len hR T.Starts.length
          rw [List.take_length] at this
          exact this
      refine ⟨fun wait seen i => ∃ j : Nat, i = j ∧ OInv T wait seen j, fun wait seen i => 1000000000000 * (1025 - seen.length) + (wait.length - i.toNat), ⟨0, rfl, h0⟩, ?_⟩
      rintro wait seen _ ⟨j, rfl, hI⟩
      have hsl := hI.seen_le hst
      have hwl := hI.len
      by_cases hj : j < wait.length
      · rw [if_pos (show decide ((j : Int) < (wait.length : Int)) = true by rw [decide_eq_true_eq]; omega)]
        rw [Int.toNat_natCast]
        have hl := hI.all _ (getk_mem (d := default) hj)
        have hskip := hI.skip hj
        have hmore := hI.more hR hj
        have hnl := rNext_len hR (wait.getD j default)
        generalize wait.getD j default = l at *
        obtain ⟨hH, hlen, hsq⟩ := hl
        have hjr := (joint_ok T).row (p := l.P) (by have := hsq.1.1; have := hsq.1.2; dsimp only at *; omega)
        have hsq1 := hsq.1; have hsq2 := hsq.2
        dsimp only at hsq1 hsq2
        have hjl := (joint_ok T).1
        refine ⟨⟨by omega, by omega⟩, ⟨hsq1.1, by omega⟩, ⟨hsq2.1, by omega⟩, ?_⟩
        have hon := joint_on (t := T) hsq1 hsq2
        unfold on2 at hon
        cases hc : ((jointL T).getD l.P.toNat default).getD l.Q.toNat default with
        | false =>
          rw [if_pos (show (!false) = true from rfl)]
          have hnc : ¬ CoR T l.P l.Q := fun q => by rw [hc] at hon; exact absurd (hon.2 q) (by decide)
          exact ⟨⟨by omega, by omega⟩, ⟨j + 1, by omega, hskip fun q => absurd q hnc⟩, by dsimp only; omega⟩
        | true =>
          rw [if_neg (by decide)]
          obtain ⟨w, u, v, hu, hv⟩ := hon.1 hc
          by_cases c1 : l.A ≠ [] ∧ l.B ≠ []
          · rw [if_pos (by simpa using c1)]
            refine out (amb_of hH hu hv fun e => ?_)
            rcases red_side (l := ⟨l.A, l.B⟩) hH.2 e with q | q
            · exact c1.1 q
            · exact c1.2 q
          · rw [if_neg (by simpa using c1)]
            refine cnt1 (fun there k => (there = true ↔ ∃ m ∈ seen.take k, m.P = l.P ∧ m.Q = l.Q) ∧ ∀ m ∈ seen.take k, m.P = l.P → m.Q = l.Q → m = l) ⟨by simp, fun m hm => by simp at hm⟩ (fun there k hK hk => ?_) (fun there hK => ?_)
            · have hmm := getk_mem (d := default) hk
              have hHm := hI.all _ (hI.sub _ hmm)
              have htk := takek (l := seen) default hk
              generalize seen.getD k default = m at *
              by_cases c2 : m.P = l.P ∧ m.Q = l.Q
              · rw [if_pos (by simpa using c2)]
                by_cases c3 : m = l
                · rw [if_neg (by simpa using c3)]
                  refine ⟨⟨fun _ => ⟨m, by rw [htk]; simp, c2⟩, fun _ => rfl⟩, fun q hq e1 e2 => ?_⟩
                  rw [htk] at hq
                  rcases List.mem_append.1 hq with r | r
                  · exact hK.2 q r e1 e2
                  · rw [List.mem_singleton] at r; exact r.trans c3
                · rw [if_pos (by simpa using c3)]
                  refine out ?_
                  by_cases e1 : l.A ++ u = l.B ++ v
                  · refine amb_of hHm.1 (by rw [c2.1]; exact hu) (by rw [c2.2]; exact hv) fun e2 => c3 ?_
                    have := lag_uniq (l := ⟨m.A, m.B⟩) (m := ⟨l.A, l.B⟩) hHm.1.2 hH.2 e2 e1
                    simp only [Gfun_lag.mk.injEq] at this
                    obtain ⟨p1, p2, p3, p4⟩ := m
                    obtain ⟨q1, q2, q3, q4⟩ := l
                    dsimp only at c2 this
                    rw [c2.1, c2.2, this.1, this.2]
                  · exact amb_of hH hu hv e1
              · rw [if_neg (by simpa using c2)]
                refine ⟨?_, fun q hq e1 e2 => ?_⟩
                · rw [hK.1, htk]
                  constructor
                  · rintro ⟨q, hq, e⟩; exact ⟨q, List.mem_append_left _ hq, e⟩
                  · rintro ⟨q, hq, e⟩
                    rcases List.mem_append.1 hq with r | r
                    · exact ⟨q, r, e⟩
                    · rw [List.mem_singleton] at r; subst r; exact absurd e c2
                · rw [htk] at hq
                  rcases List.mem_append.1 hq with r | r
                  · exact hK.2 q r e1 e2
                  · rw [List.mem_singleton] at r; subst r; exact absurd ⟨e1, e2⟩ c2
            · obtain ⟨k1, k2⟩ := hK
              rw [List.take_length] at k1 k2
              cases there with
              | true =>
                rw [if_pos rfl]
                obtain ⟨m, hm, e⟩ := k1.1 rfl
                have hml := k2 m hm e.1 e.2
                exact ⟨⟨by omega, by omega⟩, ⟨j + 1, by omega, hskip fun _ => hml ▸ hm⟩, by dsimp only; omega⟩
              | false =>
                rw [if_neg (by decide)]
                have hn : ∀ m ∈ seen, ¬ (m.P = l.P ∧ m.Q = l.Q) := fun m hm e => by
                  have := k1.2 ⟨m, hm, e⟩; cases this
                refine ⟨by omega, ?_⟩
                refine cnt0 (fun k => ∀ x ∈ T.Ends.take k, x.State = l.P → ∀ y ∈ T.Ends, y.State = l.Q → l.A ++ x.Out = l.B ++ y.Out) (fun x hx => by simp at hx) (fun k hK hk => ?_) (fun hK => ?_)
                · have hx := hR.eds.2 _ (getk_mem (d := default) hk)
                  have mx := getk_mem (d := default) hk
                  have htk := takek (l := T.Ends) default hk
                  generalize T.Ends.getD k default = x at *
                  refine cnt0 (fun i => x.State = l.P → ∀ y ∈ T.Ends.take i, y.State = l.Q → l.A ++ x.Out = l.B ++ y.Out) (fun _ y hy => by simp at hy) (fun i hK2 hi => ?_) (fun hK2 => ?_)
                  · have hy := hR.eds.2 _ (getk_mem (d := default) hi)
                    have my := getk_mem (d := default) hi
                    have htk2 := takek (l := T.Ends) default hi
                    generalize T.Ends.getD i default = y at *
                    refine ⟨fun _ => by omega, fun _ => by omega, ?_⟩
                    by_cases c4 : (x.State = l.P ∧ y.State = l.Q) ∧ l.A ++ x.Out ≠ l.B ++ y.Out
                    · rw [if_pos (by simpa using c4)]
                      exact out (amb_of (w := []) hH ⟨x, mx, c4.1.1, rfl⟩ ⟨y, my, c4.1.2, rfl⟩ c4.2)
                    · rw [if_neg (by simpa using c4)]
                      intro e1 z hz e2
                      rw [htk2] at hz
                      rcases List.mem_append.1 hz with r | r
                      · exact hK2 e1 z r e2
                      · rw [List.mem_singleton] at r; subst r
                        exact Classical.byContradiction fun q => c4 ⟨⟨e1, e2⟩, q⟩
                  · have hK2' : x.State = l.P → ∀ y ∈ T.Ends, y.State = l.Q → l.A ++ x.Out = l.B ++ y.Out := by
                      have := hK2; rwa [List.take_length] at this
                    intro z hz e1 y hy e2
                    rw [htk] at hz
                    rcases List.mem_append.1 hz with r | r
                    · exact hK z r e1 y hy e2
                    · rw [List.mem_singleton] at r; subst r; exact hK2' e1 y hy e2
                · have hE : EndsOk T l := by
                    have := hK; rwa [List.take_length] at this
                  have hnew := hmore hE hn
                  have hlw : (wait ++ rNext T l).length = wait.length + (rNext T l).length := List.length_append
                  have hls : (seen ++ [l]).length = seen.length + 1 := by simp
                  exact ⟨⟨hR, by omega, by omega⟩, by omega, ⟨by omega, by omega⟩, ⟨j + 1, by omega, hnew⟩, by dsimp only; omega⟩
      · rw [if_neg (show ¬ decide ((j : Int) < (wait.length : Int)) = true by rw [decide_eq_true_eq]; omega)]
        have hjw : j = wait.length := by have := hI.jle; omega
        subst hjw
        rw [no hI.uniq]; exact ⟨rfl, rfl⟩
  · rw [if_pos (by simpa using h1), if_pos h1]
    dsimp only
    rw [decide_eq_false h1]
    exact ⟨rfl, rfl⟩
end
section
open Go.Proofs
open Tryz
theorem rBegins_ok {front : List UInt8} {s : List UInt8}  {Q : Bool → Prop} {H : Heap} {Z : Nat → Prop} {L : List As} (h : wp_rBegins front s Q) (hO : Own H Z (L))  : HC Tryz.prog 74 [str front, str s] H (fun v H' => ∃ (r0 : Bool) , Q r0 ∧ v = .bool r0 ∧ H' = H) := by
 unfold wp_rBegins at h
 refine hc_of_hw (N := 18) (rs := [(.tmp 4)]) Tryz.func74 rfl rfl rfl rfl (hw_seq (hw_region (hl_v (v_assign rfl) rfl (hl_nil (thenQ_n (hw_seq (hw_region (hl_v (v_move rfl) rfl (hl_v (v_lenS rfl underlying9 rfl) rfl (hl_v (v_move rfl) rfl (hl_v (v_lenS rfl underlying9 rfl) rfl (hl_v (v_leq rfl rfl) rfl (hl_v (v_move rfl) rfl (hl_g rfl rfl (fun hg => (v_move rfl)) rfl (hl_g rfl rfl (fun hg => (v_move rfl)) rfl (hl_g rfl rfl (fun hg => (v_lenS rfl underlying9 (gv_ok rfl hg))) rfl ?_))))))))))))))))
 obtain ⟨hs_1, h⟩ := h
 refine hl_g rfl rfl (fun hg => (v_sliceSh underlying9 (gv_ok rfl hg) (gv_ok rfl hg) (hs_1 (gb_bool hg)))) rfl (hl_g rfl rfl (fun hg => (v_move rfl)) rfl (hl_g rfl rfl (fun hg => (v_eqlS (gv_ok rfl hg) (gv_ok rfl hg))) rfl (hl_v (v_and rfl rfl) rfl (hl_v (v_assign rfl) rfl (hl_nil (thenQ_n (hw_sub _ (a_c 4 rfl a_n) (hw_ret (ret_i _ (ra_t rfl ra_nil) ?_)))))))))
 exact ⟨(decide ((front.length : Int) ≤ (s.length : Int)) && decide ((s.take (front.length : Int).toNat) = front)), h, rfl, rfl⟩
theorem rBegins_spec {a0 : List UInt8} {a1 : List UInt8}  {L : List As} (hp : a0.length ≤ 9223372036854775807 ∧ a1.length ≤ 9223372036854775807) {H : Heap} {Z : Nat → Prop} (hO : Own H Z (L))  : HC Tryz.prog 74 [str a0, str a1] H (fun v H' => v = .bool (List.isPrefixOf a0 a1) ∧ H' = H) := by
  refine (rBegins_ok (front := a0) (s := a1) (@rBegins_wp a0 a1 hp) hO).mono ?_
  rintro v H' ⟨r0, hq, hv, hH⟩
  obtain rfl := hq
  exact ⟨hv, hH⟩
theorem rLcp_ok {l : List (List UInt8)} {v_1 : Value} {Q : (List UInt8) → Prop} {H : Heap} {Z : Nat → Prop} {L : List As} (h : wp_rLcp l Q) (hO : Own H Z (L)) (hr_2 : Rd fStr.rep L v_1 l) : HC Tryz.prog 56 [v_1] H (fun v H' => ∃ (r0 : List UInt8) , Q r0 ∧ v = str r0 ∧ H' = H) := by
 unfold wp_rLcp at h
 refine hc_of_hw (N := 42) (rs := [(.tmp 2)]) Tryz.func56 rfl rfl rfl rfl (hw_seq (hw_region (hl_v (v_assign rfl) rfl (hl_nil (thenQ_n (hw_seq (hw_seq (hw_region (hl_v (v_move rfl) rfl ?_)))))))))
 have hln_3 := Sl.cap (Rd.sl hr_2 hO)
 refine hl_v (v_lenL rfl underlying61 rfl (Rd.sl hr_2 hO)) rfl (hl_v (v_eql rfl rfl) rfl (hl_nil (thenQ_n (hw_cond rfl (fun hc_4 => ?_) (fun hc_4 => ?_)))))
 ·replace h := ite_t h hc_4
  refine hw_seq (hw_region (hl_v (v_assign rfl) rfl (hl_nil (thenQ_n (hw_ret (thenQ_r (ret_i _ (ra_t rfl ra_nil) ?_)))))))
  exact ⟨[], h, rfl, rfl⟩
 ·replace h := ite_f h hc_4
  refine hw_skip (thenQ_n (hw_seq (hw_seq (hw_region (hl_v (v_move rfl) rfl ?_)))))
  obtain ⟨hs_5, h⟩ := h
  refine hl_v (v_ixL underlying61 sizeOf9 rfl rfl (Rd.sl hr_2 hO) hs_5) rfl (hl_v (v_loadSc isAgg9 rfl (Rd.sl hr_2 hO) rfl hs_5 rfl) rfl (hl_v (v_lenS rfl underlying9 rfl) rfl (hl_v (v_assign rfl) rfl (hl_nil (thenQ_n (hw_block ?_))))))
  obtain ⟨I_6, μ_7, h, hI_8⟩ := h
  refine hw_lp (fun n' g' H' => ∃ (n : Int) (Z' : Nat → Prop), n' = μ_7 n ∧ g' = [(0, v_1), (3, .int .i64 n)] ∧ I_6 n ∧ Own H' Z' (L) ∧ H = H') _ _ (a_c 0 rfl (a_c 3 rfl a_n)) ⟨((l.getD 0 default).length : Int), _, rfl, rfl, h, hO, rfl⟩ ?_
  rintro _ _ H_9 ⟨n, Z_10, rfl, rfl, h, hO, rfl⟩
  replace h := hI_8 n h
  refine hw_seq (hw_seq (hw_region (hl_v (v_move rfl) rfl (hl_v (v_gtr rfl rfl) rfl (hl_nil (thenQ_n (hw_cond rfl (fun hc_12 => ?_) (fun hc_12 => ?_))))))))
  ·replace h := ite_t h hc_12
   refine hw_skip (thenQ_n (hw_seq (hw_block (hw_seq (hw_region (hl_v (v_assign rfl) rfl (hl_nil (thenQ_n (hw_seq (hw_seq (hw_region (hl_v (v_assign rfl) rfl (hl_nil (thenQ_n (hw_block ?_)))))))))))))))
   obtain ⟨I_13, h, hI_15⟩ := h
   refine hw_lp (fun n' g' H' => ∃ (ok : Bool) (i : Nat) (Z' : Nat → Prop), n' = l.length - i ∧ g' = [(0, v_1), (3, .int .i64 n), (4, .bool ok), (5, .int .i64 (i : Int))] ∧ I_13 ok i ∧ i ≤ l.length ∧ Own H' Z' (L) ∧ H = H') _ _ (a_c 0 rfl (a_c 3 rfl (a_c 4 rfl (a_c 5 rfl a_n)))) ⟨true, 0, _, rfl, rfl, h, by omega, hO, rfl⟩ ?_
   rintro _ _ H_16 ⟨ok, i, Z_17, rfl, rfl, h, hb_18, hO, rfl⟩
   replace h := hI_15 ok i h hb_18
   refine hw_seq (hw_seq (hw_region (hl_v (v_move rfl) rfl (hl_v (v_move rfl) rfl (hl_v (v_lenL rfl underlying61 rfl (Rd.sl hr_2 hO)) rfl (hl_v (v_lss rfl rfl) rfl (hl_nil (thenQ_n (hw_cond rfl (fun hc_19 => ?_) (fun hc_19 => ?_))))))))))
   ·replace h := ite_t h hc_19
    refine hw_skip (thenQ_n (hw_seq (hw_block (hw_quiet Tryz.mixed (by kernel_rfl) (hq_v (v_move rfl) rfl (hq_v (v_move rfl) rfl (hq_g rfl rfl (fun hg => (v_move rfl)) rfl ?_)))))))
    obtain ⟨hs_20, h⟩ := h
    refine hq_g rfl rfl (fun hg => (v_ixL underlying61 sizeOf9 (gv_ok rfl hg) rfl (Rd.sl hr_2 hO) (hs_20 (gb_bool hg)))) rfl ?_
    obtain ⟨hs_21, h⟩ := h
    refine hq_g rfl rfl (fun hg => (v_loadSc isAgg9 (gv_ok rfl hg) (Rd.sl hr_2 hO) rfl (hs_21 (gb_bool hg)) rfl)) rfl (hq_g rfl rfl (fun hg => (v_move rfl)) rfl ?_)
    obtain ⟨hs_22, h⟩ := h
    refine hq_g rfl rfl (fun hg => (v_sliceSh underlying9 (gv_ok rfl hg) (gv_ok rfl hg) (hs_22 (gb_bool hg)))) rfl (hq_g rfl rfl (fun hg => (v_move rfl)) rfl (hq_g rfl rfl (fun hg => (v_move rfl)) rfl (hq_g rfl rfl (fun hg => (v_ixL underlying61 sizeOf9 (gv_ok rfl hg) (gv_ok rfl hg) (Rd.sl hr_2 hO) (by exact ⟨Int.natCast_nonneg _, of_decide_eq_true hc_19⟩))) rfl (hq_g rfl rfl (fun hg => (v_loadSc isAgg9 (gv_ok rfl hg) (Rd.sl hr_2 hO) rfl (by exact ⟨Int.natCast_nonneg _, of_decide_eq_true hc_19⟩) rfl)) rfl ?_))))
    obtain ⟨hs_23, h⟩ := h
    refine hq_g rfl rfl (fun hg => (v_call call74 (evs_cons (gv_ok rfl hg) (evs_cons (gv_ok rfl hg) evs_nil)) (rBegins_spec (a0 := ((l.getD 0 default).take n.toNat)) (a1 := (l.getD i default)) (hs_23 (gb_bool hg)) hO))) rfl (hq_v (v_and rfl rfl) rfl (hq_v (v_assign rfl) rfl (hq_nil (blockQ_n (thenQ_n (hw_region (hl_v (v_move rfl) rfl (hl_v (v_add rfl rfl (by have hq := of_decide_eq_true hc_19; have hm := hln_3; constructor <;> omega)) rfl (hl_v (v_assign rfl) rfl (hl_nil (thenQ_n ?_)))))))))))
    exact ⟨_, _, (a_c 0 rfl (a_c 3 rfl (a_c 4 rfl (a_c 5 rfl a_n)))), ⟨(ok && List.isPrefixOf ((l.getD 0 default).take n.toNat) (l.getD i default)), i + 1, _, rfl, rfl, h, (by have hq := of_decide_eq_true hc_19; omega), hO, rfl⟩, (by have hq := of_decide_eq_true hc_19; omega)⟩
   ·replace h := ite_f h hc_19
    refine hw_exit (thenQ_e (thenQ_e (blockQ_hit (thenQ_n (hw_seq (hw_region (hl_v (v_move rfl) rfl (hl_nil (thenQ_n (hw_cond rfl (fun hc_24 => ?_) (fun hc_24 => ?_)))))))))))
    ·replace h := ite_t h hc_24
     refine hw_seq (hw_region (hl_v (v_move rfl) rfl (hl_v (v_ixL underlying61 sizeOf9 rfl rfl (Rd.sl hr_2 hO) hs_5) rfl (hl_v (v_loadSc isAgg9 rfl (Rd.sl hr_2 hO) rfl hs_5 rfl) rfl (hl_v (v_move rfl) rfl ?_)))))
     obtain ⟨hs_25, h⟩ := h
     refine hl_v (v_sliceSh underlying9 rfl rfl hs_25) rfl (hl_v (v_assign rfl) rfl (hl_nil (thenQ_n (hw_sub _ (a_c 2 rfl a_n) (hw_ret (blockQ_r (thenQ_r (thenQ_r (blockQ_r (thenQ_r (ret_i _ (ra_t rfl ra_nil) ?_)))))))))))
     exact ⟨((l.getD 0 default).take n.toNat), h, rfl, rfl⟩
    ·replace h := ite_f h hc_24
     refine hw_skip (blockQ_n (thenQ_n (hw_region (hl_v (v_move rfl) rfl ?_))))
     obtain ⟨hs_26, h⟩ := h
     refine hl_v (v_sub rfl rfl hs_26) rfl (hl_v (v_assign rfl) rfl (hl_nil (thenQ_n ?_)))
     exact ⟨_, _, (a_c 0 rfl (a_c 3 rfl a_n)), ⟨(n - 1), _, rfl, rfl, h.1, hO, rfl⟩, h.2⟩
  ·replace h := ite_f h hc_12
   refine hw_exit (thenQ_e (thenQ_e (blockQ_hit (thenQ_n (hw_seq (hw_region (hl_v (v_assign rfl) rfl (hl_nil (thenQ_n (hw_ret (ret_i _ (ra_t rfl ra_nil) ?_)))))))))))
   exact ⟨[], h, rfl, rfl⟩
theorem rLcp_spec {a0 : List (List UInt8)} {v_1 : Value} {L : List As} (hp : a0.length ≤ 1000000 ∧ ∀ x ∈ a0, x.length ≤ 1000000000000) {H : Heap} {Z : Nat → Prop} (hO : Own H Z (L)) (hr_2 : Rd fStr.rep L v_1 a0) : HC Tryz.prog 56 [v_1] H (fun v H' => v = str ((lcpAll a0)) ∧ H' = H) := by
  refine (rLcp_ok (l := a0) (@rLcp_wp a0 hp) hO hr_2).mono ?_
  rintro v H' ⟨r0, hq, hv, hH⟩
  obtain rfl := hq
  exact ⟨hv, hH⟩
theorem rLag03_ok {a : List UInt8} {b : List UInt8}  {Q : (List UInt8) → (List UInt8) → Prop} {H : Heap} {Z : Nat → Prop} {L : List As} (h : wp_rLag03 a b Q) (hO : Own H Z (L))  : HC Tryz.prog 37 [str a, str b] H (fun v H' => ∃ (Z' : Nat → Prop) (r0 : List UInt8) (r1 : List UInt8) , (∀ b, Z b → Z' b) ∧ Q r0 r1 ∧ v = .tuple #[str r0, str r1] ∧ Own H' Z' (L)) := by
 replace hO := hO.inZ
 unfold wp_rLag03 at h
 refine hc_of_hw (N := 18) (rs := [(.tmp 4), (.tmp 5)]) Tryz.func37 rfl rfl rfl rfl (hw_seq (hw_region (hl_v (v_assign rfl) rfl (hl_v (v_assign rfl) rfl (hl_nil (thenQ_n (hw_seq (hw_region (hl_v (v_move rfl) rfl (hl_v (v_move rfl) rfl (hl_h (o_lit (g := fStr) (l := [a, b]) (xs := [.tmp 7, .tmp 8]) hO underlying61 sizeOf9 zeroValue9 rfl (evs_cons rfl (evs_cons rfl evs_nil)) rfl rfl rfl rfl rfl) rfl ?_)))))))))))
 rintro v_2 H_1 hO
 obtain ⟨hs_3, h⟩ := h
 refine hl_v (v_call call56 (evs_cons rfl evs_nil) (rLcp_spec (a0 := [a, b]) hs_3 hO (Rd.of_own (i := 0) rfl))) rfl (hl_v (v_lenS rfl underlying9 rfl) rfl (hl_v (v_assign rfl) rfl (hl_nil (thenQ_n (hw_seq (hw_quiet Tryz.mixed (by kernel_rfl) (hq_v (v_move rfl) rfl (hq_v (v_move rfl) rfl ?_))))))))
 obtain ⟨hs_4, h⟩ := h
 refine hq_v (v_sliceSl underlying9 rfl rfl hs_4) rfl (hq_v (v_move rfl) rfl (hq_v (v_move rfl) rfl ?_))
 obtain ⟨hs_5, h⟩ := h
 refine hq_v (v_sliceSl underlying9 rfl rfl hs_5) rfl (hq_v (v_assign rfl) rfl (hq_v (v_assign rfl) rfl (hq_nil (thenQ_n (hw_sub _ (a_c 4 rfl (a_c 5 rfl a_n)) (hw_ret (ret_i _ (ra_t rfl (ra_t rfl ra_nil)) ?_)))))))
 exact ⟨_, (a.drop ((lcpAll [a, b]).length : Int).toNat), (b.drop ((lcpAll [a, b]).length : Int).toNat), (hO.inz 1 rfl), h, rfl, (Own.sel (Ls := [_, _]) (L := L) [] rfl hO)⟩
theorem rLag03_spec {a0 : List UInt8} {a1 : List UInt8}  {L : List As} (hp : a0.length ≤ 1000000000000 ∧ a1.length ≤ 1000000000000) {H : Heap} {Z : Nat → Prop} (hO : Own H Z (L))  : HC Tryz.prog 37 [str a0, str a1] H (fun v H' => ∃ (Z' : Nat → Prop) , (∀ a1, Z a1 → Z' a1) ∧ v = .tuple #[str ((a0.drop (lcp a0 a1))), str ((a1.drop (lcp a0 a1)))] ∧ Own H' Z' (L)) := by
  refine (rLag03_ok (a := a0) (b := a1) (@rLag03_wp a0 a1 hp) hO).mono ?_
  rintro v H' ⟨Z', r0, r1, hz, hq, hv, hO'⟩
  obtain ⟨rfl, rfl⟩ := hq
  exact ⟨Z', hz, hv, hO'⟩
end
end Go.Proofs.YtaopgjfioabfpaaGreat
